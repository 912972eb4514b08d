/- Own texts, part 3. -/
import Derived.Test.YtpijifiekgbjnaaDoorProg
import Derived.Test.YtpijifiekgbjnaaDoorChecked
import Derived.WalkKit
import Derived.Defers
import Derived.Recover
import Derived.KernelRfl
import Derived.Laws.Pointers
import Derived.WalkLawsBesides
import Derived.BigQuiet
import Derived.Laws.BitsAllLaws
import Derived.Below
import Derived.WalkSmall
import Derived.Tactics2
import Derived.Laws.BytesString
import Derived.Test.YtpijifiekgbjnaaDoorPart2

namespace Go.Proofs.Z05
open Go.RowKit

theorem caught_idle (p q : Addr) (w : World) :
    CallsD Tryd.prog 54 #[.pointer (some p), .pointer (some q)] .returning w fun e u' w' => e = .returned (.tuple #[]) ∧ u' = .returning ∧ w' = w := by
  refine callsD_of_wpS Tryd.func54 rfl fun c₀ cs hu => ?_
  apply wpS_seq
  apply wpS_region
  simp [wpOpsS, go_sem, recoverD, hu, Tryd.ntmps54, Exit.thenS]
  have hnil : ∀ w : World, (binOp BinOp.neq 20 .nilIface .nilIface).run Tryd.prog w = .ok (.bool false) w := fun _ => by kernel_rfl
  apply wpS_seq
  apply wpS_region
  simp [wpOpsS, go_sem, Exit.thenS]
  refine wpS_cond (t := false) (by simp [Act.eval, Array.replicate]) ?_
  simp only [Bool.false_eq_true, if_false]
  refine wpS_of_wp (wp_skip ?_)
  cases c₀
  simp_all [bodyPostS, results, Tryd.results54]
theorem caught_code (p q : Addr) (x y c : Int) (older : List PanicEntry) (w : World) (hp : w.cell? p = some (.int .i64 x)) (hq : (w.setCell p (.int .i64 0)).cell? q = some (.int .i64 y)) (fp : w.frozen? p = false) (fq : w.frozen? q = false) :
    CallsD Tryd.prog 54 #[.pointer (some p), .pointer (some q)] (.panicking ({ v := .iface 28 (.int .i64 c), recovered := false } :: older)) w fun e u' w' =>
      e = .returned (.tuple #[]) ∧ u' = .panicking ({ v := .iface 28 (.int .i64 c), recovered := true } :: older) ∧ w' = (w.setCell p (.int .i64 0)).setCell q (.int .i64 c) := by
  refine callsD_of_wpS Tryd.func54 rfl fun c₀ cs hu => ?_
  apply wpS_seq
  apply wpS_region
  simp [wpOpsS, go_sem, recoverD, hu, Tryd.ntmps54, Exit.thenS]
  have hne : ∀ w : World, (binOp BinOp.neq 20 (.iface 28 (.int .i64 c)) .nilIface).run Tryd.prog w = .ok (.bool true) w := fun _ => by kernel_rfl
  have hta : ∀ w : World, (Instr.typeAssert (.iface 28 (.int .i64 c)) 20 28 true).run Tryd.prog w = .ok (.tuple #[.int .i64 c, .bool true]) w := fun _ => by kernel_rfl
  apply wpS_seq
  apply wpS_region
  simp [wpOpsS, go_sem, Exit.thenS, hne]
  refine wpS_cond (t := true) (by simp [Act.eval, Array.replicate]) ?_
  simp only [if_true]
  apply wpS_seq
  apply wpS_region
  simp [wpOpsS, go_sem, Exit.thenS, hta]
  apply wpS_seq
  apply wpS_seq
  apply wpS_region
  simp [wpOpsS, go_sem, Exit.thenS]
  refine wpS_cond (t := false) (by simp [Act.eval, Array.replicate]) ?_
  simp only [Bool.false_eq_true, if_false]
  refine wpS_of_wp (wp_skip ?_)
  simp only [Exit.thenS]
  apply wpS_region
  simp [wpOpsS, go_sem, hp, hq, fp, fq, bodyPostS, results, Tryd.results54]
end Go.Proofs.Z05

namespace Go.Proofs.Z05
open Go.RowKit
theorem open_bad (oa : Option Addr) (n c : Nat) (at_ : Int) (h : at_ < 0 ∨ (n : Int) < at_) (w : World) :
    Calls Tryd.prog 55 #[.slice oa n c, .int .i64 at_] w fun e w' => e = .panicked [{ v := .iface 28 (.int .i64 1), recovered := false }] ∧ w' = w := by
  go_enter Tryd.func55, Tryd.ntmps55
  go_wp2
  all_goals first | exact ⟨rfl, rfl⟩ | (simp [bodyPost]; done) | (exfalso; omega) | trace_state
theorem open_ok (oa : Option Addr) (n c : Nat) (at_ : Int) (h0 : 0 ≤ at_) (h : at_ ≤ (n : Int)) (w : World) :
    Calls Tryd.prog 55 #[.slice oa n c, .int .i64 at_] w fun e w' => e = .returned (.pointer (some ⟨w.heap.size, 0, none⟩)) ∧ w' = w.alloc (.cells #[.slice oa n c, .int .i64 at_] 90) := by
  go_enter Tryd.func55, Tryd.ntmps55
  go_wp2
  all_goals first | (exfalso; omega) | (go_ret; exact ⟨rfl, rfl⟩) | trace_state
end Go.Proofs.Z05

namespace Go.Proofs.Z05
open Go.RowKit
theorem take_short (b : Nat) (oa : Option Addr) (n c : Nat) (a k : Int) (w : World) (ha : 0 ≤ a) (han : a ≤ n) (hn : (n : Int) ≤ 1000000000000) (_hk0 : 0 ≤ k) (_hk1 : k < 18446744073709551616) (h : (n : Int) - a < k)
    (hb : w.cell? ⟨b, 0, none⟩ = some (.slice oa n c)) (hc : w.cell? ⟨b, 1, none⟩ = some (.int .i64 a)) :
    Calls Tryd.prog 56 #[.pointer (some ⟨b, 0, none⟩), .int .u64 k] w fun e w' => e = .panicked [{ v := .iface 28 (.int .i64 41), recovered := false }] ∧ ∃ q, w' = w.drewN q := by
  go_enter Tryd.func56, Tryd.ntmps56
  go_wp2_with fail
  go_quiet (fail)
  go_wp2
  all_goals first | exact ⟨rfl, rfl, _, rfl⟩ | (simp [bodyPost]; done) | (exfalso; omega) | trace_state
def Stands (k a : Int) (off o : Nat) : Prop := k = 0 ∨ o = off + a.toNat
theorem take_some (b bb off n c : Nat) (a k : Int) (w : World) (ha : 0 ≤ a) (han : a ≤ n) (hn : (n : Int) ≤ 1000000000000) (hnc : n ≤ c) (hk0 : 0 ≤ k) (h : k ≤ (n : Int) - a) (hfz : w.frozen? ⟨b, 1, none⟩ = false)
    (hb : w.cell? ⟨b, 0, none⟩ = some (.slice (some ⟨bb, off, none⟩) n c)) (hc : w.cell? ⟨b, 1, none⟩ = some (.int .i64 a)) :
    Calls Tryd.prog 56 #[.pointer (some ⟨b, 0, none⟩), .int .u64 k] w fun e w' => ∃ q o, Stands k a off o ∧ e = .returned (.slice (some ⟨bb, o, none⟩) k.toNat k.toNat) ∧ w' = (w.drewN q).setCell ⟨b, 1, none⟩ (.int .i64 (a + k)) := by
  go_enter Tryd.func56, Tryd.ntmps56
  go_wp2_with fail
  go_quiet (fail)
  go_wp2_with fail
  go_quiet (fail)
  go_wp2
  · have hk : k = 0 := by omega
    subst hk
    go_ret
    exact ⟨_, _, .inl rfl, rfl, rfl⟩
  · have e : (a + k).toNat - a.toNat = k.toNat := by omega
    go_ret
    rw [e]
    exact ⟨_, _, .inr rfl, rfl, rfl⟩
end Go.Proofs.Z05

namespace Go.Wire
/-- what one more byte makes of the number, as the machine reckons it -/
def accZ (acc : Int) (j : Nat) (c : UInt8) : Int := bits BinOp.or .u64 acc (IntKind.u64.wrap (IntKind.u64.wrap (bits BinOp.and .u8 c.toNat 127) * 2 ^ (7 * j)))
/-- the number's bytes: the value and how many, or an error -/
def numR : Nat → Nat → List UInt8 → Int → Except Int (Int × Nat)
  | 0, _, _, _ => .error 3
  | _ + 1, _, [], _ => .error 41
  | f + 1, i, c :: t, acc =>
    if c.toNat < 128 then (if (i = 9 ∧ 1 < c.toNat) ∨ (0 < i ∧ c.toNat = 0) then .error 3 else .ok (accZ acc i c, i + 1))
    else numR f (i + 1) t (accZ acc i c)
/-- the same without an accumulator -/
def uintP : Nat → List UInt8 → Except Int (Nat × Nat)
  | 0, _ => .error 3
  | _ + 1, [] => .error 41
  | f + 1, c :: t =>
    if c.toNat < 128 then (if (f = 0 ∧ 1 < c.toNat) ∨ (f < 9 ∧ c.toNat = 0) then .error 3 else .ok (c.toNat, 1))
    else match uintP f t with
      | .error x => .error x
      | .ok (v, m) => .ok (v * 128 + (c.toNat - 128), m + 1)
theorem uintP_bound : ∀ (f : Nat) (l : List UInt8) (v m : Nat), uintP f l = .ok (v, m) → v < 2 ^ (7 * (f - 1) + 1) ∧ 1 ≤ m ∧ m ≤ f ∧ m ≤ l.length
  | 0, l, v, m, h => by simp [uintP] at h
  | f + 1, [], v, m, h => by simp [uintP] at h
  | f + 1, c :: t, v, m, h => by
    have hc := c.toNat_lt
    rw [uintP] at h
    split at h
    · rename_i h1
      split at h
      · cases h
      · rename_i h2
        simp only [Except.ok.injEq, Prod.mk.injEq] at h
        obtain ⟨rfl, rfl⟩ := h
        refine ⟨?_, Nat.le_refl _, by omega, by simp⟩
        rcases Nat.eq_zero_or_pos f with h0 | h0
        · subst h0
          have : ¬ 1 < c.toNat := fun h => h2 (.inl ⟨rfl, h⟩)
          simp; omega
        · have : 2 ^ 8 ≤ 2 ^ (7 * (f + 1 - 1) + 1) := Nat.pow_le_pow_right (by omega) (by omega)
          omega
    · rename_i h1
      cases hr : uintP f t with
      | error x => rw [hr] at h; cases h
      | ok vm =>
        obtain ⟨v', m'⟩ := vm
        rw [hr] at h
        simp only [Except.ok.injEq, Prod.mk.injEq] at h
        obtain ⟨rfl, rfl⟩ := h
        obtain ⟨h2, h3, h4, h5⟩ := uintP_bound f t v' m' hr
        refine ⟨?_, by omega, by omega, by simp; omega⟩
        have e : 2 ^ (7 * (f + 1 - 1) + 1) = 128 * 2 ^ (7 * (f - 1) + 1) := by
          have : 7 * (f + 1 - 1) + 1 = 7 * (f - 1) + 1 + 7 := by omega
          rw [this, Nat.pow_add]
          omega
        omega
theorem or_add {a b i : Nat} (h : a < 2 ^ i) : a ||| b * 2 ^ i = a + b * 2 ^ i := by
  have := Nat.two_pow_add_eq_or_of_lt h b
  rw [Nat.or_comm, Nat.mul_comm, ← this, Nat.add_comm]
theorem accZ_eq {acc j : Nat} {c : UInt8} (hj : j ≤ 9) (ha : acc < 2 ^ (7 * j)) (hb : j = 9 → c.toNat ≤ 1) : accZ acc j c = ((acc + c.toNat % 128 * 2 ^ (7 * j) : Nat) : Int) := by
  have hc := c.toNat_lt
  have h1 : bits BinOp.and .u8 (c.toNat : Int) 127 = ((c.toNat % 128 : Nat) : Int) := by
    have := u8_and_nat c.toNat 127 (by omega) (by omega)
    rw [show ((127 : Nat) : Int) = 127 by rfl] at this
    rw [this]
    congr 1
    exact Nat.and_two_pow_sub_one_eq_mod c.toNat 7
  have hp : c.toNat % 128 * 2 ^ (7 * j) < 2 ^ 64 := by
    rcases Nat.lt_or_ge j 9 with h | h
    · have : 2 ^ (7 * j) ≤ 2 ^ 56 := Nat.pow_le_pow_right (by omega) (by omega)
      have h2 : c.toNat % 128 * 2 ^ (7 * j) ≤ 127 * 2 ^ 56 := Nat.mul_le_mul (by omega) this
      omega
    · obtain rfl : j = 9 := by omega
      have := hb rfl
      have h2 : c.toNat % 128 * 2 ^ (7 * 9) ≤ 1 * 2 ^ 63 := Nat.mul_le_mul (by omega) (by omega)
      omega
  have ha64 : acc < 2 ^ 64 := Nat.lt_of_lt_of_le ha (Nat.pow_le_pow_right (by omega) (by omega))
  unfold accZ
  rw [h1]
  have w1 : IntKind.u64.wrap ((c.toNat % 128 : Nat) : Int) = ((c.toNat % 128 : Nat) : Int) := by
    simp only [IntKind.wrap, IntKind.bits, IntKind.signed]; simp; omega
  rw [w1]
  have w2 : IntKind.u64.wrap (((c.toNat % 128 : Nat) : Int) * 2 ^ (7 * j)) = ((c.toNat % 128 * 2 ^ (7 * j) : Nat) : Int) := by
    have e : ((c.toNat % 128 : Nat) : Int) * 2 ^ (7 * j) = ((c.toNat % 128 * 2 ^ (7 * j) : Nat) : Int) := by push_cast; rfl
    rw [e]
    generalize c.toNat % 128 * 2 ^ (7 * j) = X at *
    simp only [IntKind.wrap, IntKind.bits, IntKind.signed]; simp; omega
  rw [w2, u64_or_nat _ _ (by omega) (by omega), or_add ha]
/-- both are one -/
theorem numR_eq : ∀ (f i : Nat) (l : List UInt8) (acc : Nat), f + i = 10 → acc < 2 ^ (7 * i) → numR f i l acc = match uintP f l with
    | .error x => .error x
    | .ok (v, m) => .ok (((acc + v * 2 ^ (7 * i) : Nat) : Int), i + m)
  | 0, i, l, acc, hf, ha => rfl
  | f + 1, i, [], acc, hf, ha => rfl
  | f + 1, i, c :: t, acc, hf, ha => by
    have hc := c.toNat_lt
    rw [numR, uintP]
    by_cases h1 : c.toNat < 128
    · rw [if_pos h1, if_pos h1]
      by_cases h2 : (i = 9 ∧ 1 < c.toNat) ∨ (0 < i ∧ c.toNat = 0)
      · rw [if_pos h2, if_pos (by omega)]
      · rw [if_neg h2, if_neg (by omega), accZ_eq (by omega) ha (by omega), Nat.mod_eq_of_lt h1]
    · rw [if_neg h1, if_neg h1]
      rcases Nat.eq_zero_or_pos f with h0 | h0
      · subst h0; rfl
      · have hlt : acc + c.toNat % 128 * 2 ^ (7 * i) < 2 ^ (7 * (i + 1)) := by
          have e : 2 ^ (7 * (i + 1)) = 128 * 2 ^ (7 * i) := by rw [Nat.mul_add, Nat.pow_add]; omega
          have h2 : c.toNat % 128 * 2 ^ (7 * i) ≤ 127 * 2 ^ (7 * i) := Nat.mul_le_mul (by omega) (by omega)
          omega
        rw [accZ_eq (by omega) ha (by omega), numR_eq f (i + 1) t _ (by omega) hlt]
        cases hr : uintP f t with
        | error x => rfl
        | ok vm =>
          obtain ⟨v, m⟩ := vm
          simp only [Except.ok.injEq, Prod.mk.injEq]
          refine ⟨?_, by omega⟩
          have e : 2 ^ (7 * (i + 1)) = 128 * 2 ^ (7 * i) := by rw [Nat.mul_add, Nat.pow_add]; omega
          have e2 : c.toNat % 128 = c.toNat - 128 := by omega
          rw [e, e2, Nat.add_mul, ← Nat.mul_assoc]
          generalize 2 ^ (7 * i) = X
          congr 1
          omega
/-- the encoding -/
def uintL (n : Nat) : List UInt8 := if n < 128 then [UInt8.ofNat n] else UInt8.ofNat (n % 128 + 128) :: uintL (n / 128)
theorem uintL_small {n : Nat} (h : n < 128) : uintL n = [UInt8.ofNat n] := by rw [uintL, if_pos h]
theorem uintL_big {n : Nat} (h : ¬ n < 128) : uintL n = UInt8.ofNat (n % 128 + 128) :: uintL (n / 128) := by rw [uintL, if_neg h]
theorem uintP_uintL : ∀ (f n : Nat) (rest : List UInt8), n < 2 ^ (7 * f + 1) → (f < 9 → n ≠ 0) → uintP (f + 1) (uintL n ++ rest) = .ok (n, (uintL n).length)
  | f, n, rest, hn, h0 => by
    by_cases h : n < 128
    · have e : (UInt8.ofNat n).toNat = n := by rw [UInt8.toNat_ofNat']; exact Nat.mod_eq_of_lt (by omega)
      rw [uintL_small h, List.singleton_append, uintP, e, if_pos h, if_neg]
      · rfl
      · rintro (⟨rfl, h2⟩ | ⟨h1, h2⟩)
        · simp at hn; omega
        · exact h0 h1 h2
    · have e : (UInt8.ofNat (n % 128 + 128)).toNat = n % 128 + 128 := by rw [UInt8.toNat_ofNat']; exact Nat.mod_eq_of_lt (by omega)
      match f, hn with
      | 0, hn => simp at hn; omega
      | f + 1, hn =>
        rw [uintL_big h, List.cons_append, uintP, e, if_neg (by omega)]
        have e2 : 2 ^ (7 * (f + 1) + 1) = 128 * 2 ^ (7 * f + 1) := by
          rw [show 7 * (f + 1) + 1 = 7 * f + 1 + 7 by omega, Nat.pow_add]; omega
        rw [uintP_uintL f (n / 128) rest (by omega) (by omega)]
        simp
        omega
theorem uintP_back : ∀ (f : Nat) (l : List UInt8) (v m : Nat), f ≤ 10 → uintP f l = .ok (v, m) → l.take m = uintL v ∧ (f < 10 → v ≠ 0)
  | 0, l, v, m, _, h => by simp [uintP] at h
  | f + 1, [], v, m, _, h => by simp [uintP] at h
  | f + 1, c :: t, v, m, h10, h => by
    have hc := c.toNat_lt
    rw [uintP] at h
    split at h
    · rename_i h1
      split at h
      · cases h
      · rename_i h2
        simp only [Except.ok.injEq, Prod.mk.injEq] at h
        obtain ⟨rfl, rfl⟩ := h
        refine ⟨by rw [uintL_small h1]; simp, fun hf h0 => h2 (.inr ⟨by omega, h0⟩)⟩
    · rename_i h1
      cases hr : uintP f t with
      | error x => rw [hr] at h; cases h
      | ok vm =>
        obtain ⟨v', m'⟩ := vm
        rw [hr] at h
        simp only [Except.ok.injEq, Prod.mk.injEq] at h
        obtain ⟨rfl, rfl⟩ := h
        obtain ⟨h3, hf⟩ := uintP_back f t v' m' (by omega) hr
        have hz := hf (by omega)
        refine ⟨?_, fun _ => by omega⟩
        rw [uintL_big (n := v' * 128 + (c.toNat - 128)) (by omega), List.take_succ_cons, h3]
        have e : (v' * 128 + (c.toNat - 128)) % 128 + 128 = c.toNat := by omega
        have e2 : (v' * 128 + (c.toNat - 128)) / 128 = v' := by omega
        rw [e, e2, UInt8.ofNat_toNat]
theorem uintL_length_pos (n : Nat) : 0 < (uintL n).length := by
  rw [uintL]; split <;> simp
/-- a proper beginning of an encoding ends too early -/
theorem uintP_short : ∀ (f n k : Nat), n < 2 ^ (7 * f + 1) → k < (uintL n).length → uintP (f + 1) ((uintL n).take k) = .error 41
  | f, n, 0, _, _ => rfl
  | f, n, k + 1, hn, hk => by
    by_cases h : n < 128
    · rw [uintL_small h] at hk; simp at hk
    · have e : (UInt8.ofNat (n % 128 + 128)).toNat = n % 128 + 128 := by rw [UInt8.toNat_ofNat']; exact Nat.mod_eq_of_lt (by omega)
      rw [uintL_big h, List.length_cons] at hk
      match f, hn with
      | 0, hn => simp at hn; omega
      | f + 1, hn =>
        rw [uintL_big h, List.take_succ_cons, uintP, e, if_neg (by omega)]
        have e2 : 2 ^ (7 * (f + 1) + 1) = 128 * 2 ^ (7 * f + 1) := by
          rw [show 7 * (f + 1) + 1 = 7 * f + 1 + 7 by omega, Nat.pow_add]; omega
        rw [uintP_short f (n / 128) k (by omega) (by omega)]
end Go.Wire

namespace Go.Proofs.Z05
open Go.RowKit
/-- the reader in block b stands: the slice, the place -/
structure Rdr (b bb off n c : Nat) (a : Int) (w : World) : Prop where
  sl : w.cell? ⟨b, 0, none⟩ = some (.slice (some ⟨bb, off, none⟩) n c)
  at_ : w.cell? ⟨b, 1, none⟩ = some (.int .i64 a)
  fz : w.frozen? ⟨b, 1, none⟩ = false
theorem Rdr.drewN {b bb off n c : Nat} {a : Int} {w : World} (h : Rdr b bb off n c a w) (q : Nat) : Rdr b bb off n c a (w.drewN q) := by
  obtain ⟨h1, h2, h3⟩ := h
  exact ⟨by simpa [go_sem] using h1, by simpa [go_sem] using h2, by simpa [go_sem] using h3⟩
theorem Rdr.set {b bb off n c : Nat} {a : Int} {w : World} (h : Rdr b bb off n c a w) (x : Int) : Rdr b bb off n c x (w.setCell ⟨b, 1, none⟩ (.int .i64 x)) := by
  obtain ⟨h1, h2, h3⟩ := h
  refine ⟨?_, ?_, ?_⟩
  · simp [go_sem, h1]
  · simp [go_sem, h2]
  · simp [go_sem, h3]
/-- take, told by what stands behind it -/
theorem take_rd (b bb off n c : Nat) (a k : Int) (w : World) (ha : 0 ≤ a) (han : a ≤ n) (hn : (n : Int) ≤ 1000000000000) (hnc : n ≤ c) (hk0 : 0 ≤ k) (h : k ≤ (n : Int) - a) (hr : Rdr b bb off n c a w) :
    Calls Tryd.prog 56 #[.pointer (some ⟨b, 0, none⟩), .int .u64 k] w fun e w' => ∃ o, Stands k a off o ∧ e = .returned (.slice (some ⟨bb, o, none⟩) k.toNat k.toNat) ∧ Rdr b bb off n c (a + k) w' ∧ Below b w w' := by
  refine (take_some b bb off n c a k w ha han hn hnc hk0 h hr.fz hr.sl hr.at_).mono ?_
  rintro e w' ⟨q, o, hs, he, rfl⟩
  exact ⟨o, hs, he, (hr.drewN q).set _, (below_drewN (Below.refl b w) q).setCell (p := ⟨b, 1, none⟩) (Nat.le_refl b) _⟩
end Go.Proofs.Z05

namespace Go.Proofs.Z05
open Go.RowKit Go.Wire
def NumEnd (b bb off n c a : Nat) (r : Except Int (Int × Nat)) (e : Ending) (w' : World) : Prop := match r with
  | .error x => e = .panicked [{ v := .iface 28 (.int .i64 x), recovered := false }]
  | .ok (v, m) => e = .returned (.int .u64 v) ∧ Rdr b bb off n c (a + m : Nat) w'
set_option maxRecDepth 100000 in
theorem number_rd (b bb off n c a : Nat) (bs : List UInt8) (w : World) (han : a ≤ n) (hn : (n : Int) ≤ 1000000000000) (hnc : n ≤ c) (hl : bs.length = n) (hbb : bb < b)
    (hc : ∀ j, j < n → w.cell? ⟨bb, off + j, none⟩ = some (.int .u8 (bs.getD j 0).toNat)) (hr : Rdr b bb off n c a w) :
    Calls Tryd.prog 57 #[.pointer (some ⟨b, 0, none⟩)] w fun e w' => Below b w w' ∧ NumEnd b bb off n c a (numR 10 0 (bs.drop a) 0) e w' := by
  go_enter Tryd.func57, Tryd.ntmps57
  go_wp2_with fail
  go_loopw [2, 3] (fun u i wr => ∃ (j : Nat) (acc : Int), j ≤ 10 ∧ i = .int .i64 j ∧ u = .int .u64 acc ∧ a + j ≤ n ∧ numR (10 - j) j (bs.drop (a + j)) acc = numR 10 0 (bs.drop a) 0 ∧ Rdr b bb off n c (a + j : Nat) wr ∧ Below b w wr)
    (fun _ i _ => 10 - (intOf i).toNat)
  case atStart => exact ⟨0, 0, by omega, rfl, rfl, by omega, rfl, by simpa using hr, Below.refl _ _⟩
  case round =>
    obtain ⟨j, acc, hj, rfl, rfl, hjn, heq, hrd, hbl⟩ := hrel
    go_wp2_with fail
    · by_cases hlt : a + j < n
      · refine (take_rd b bb off n c ((a + j : Nat) : Int) 1 wr (by omega) (by omega) hn hnc (by omega) (by omega) hrd).mono ?_
        rintro e w1 ⟨o, hs, rfl, hr1, hb1⟩
        have ho : o = off + (a + j) := by
          rcases hs with h | h
          · cases h
          · rw [h]; omega
        subst ho
        have hcell : w1.cell? ⟨bb, off + (a + j), none⟩ = some (.int .u8 (bs.getD (a + j) 0).toNat) := by
          rw [(hbl.trans hb1).cell (by exact hbb)]
          exact hc _ hlt
        have hd : bs.drop (a + j) = bs.getD (a + j) 0 :: bs.drop (a + (j + 1)) := by
          rw [List.drop_eq_getElem_cons (by omega), List.getD_eq_getElem?_getD, List.getElem?_eq_getElem (by omega)]
          rfl
        have hj9 : j < 10 := by omega
        generalize bs.getD (a + j) 0 = ch at *
        have hst : numR 10 0 (bs.drop a) 0 = (if ch.toNat < 128 then (if (j = 9 ∧ 1 < ch.toNat) ∨ (0 < j ∧ ch.toNat = 0) then .error 3 else .ok (accZ acc j ch, j + 1)) else numR (9 - j) (j + 1) (bs.drop (a + (j + 1))) (accZ acc j ch)) := by
          rw [← heq, hd, show 10 - j = (9 - j) + 1 by omega, numR]
        have hb2 := hbl.trans hb1
        clear heq hd hbl hb1 hrd hr
        have hr2 : Rdr b bb off n c ((a + (j + 1) : Nat) : Int) w1 := by
          rw [show ((a + (j + 1) : Nat) : Int) = ((a + j : Nat) : Int) + 1 by omega]; exact hr1
        clear hr1
        have hst' : Hid (numR 10 0 (bs.drop a) 0 = (if ch.toNat < 128 then (if (j = 9 ∧ 1 < ch.toNat) ∨ (0 < j ∧ ch.toNat = 0) then .error 3 else .ok (accZ acc j ch, j + 1)) else numR (9 - j) (j + 1) (bs.drop (a + (j + 1))) (accZ acc j ch))) := hst
        clear hst
        go_wp2_with fail
        all_goals first
          | (refine ⟨rfl, hb2, ?_⟩; have h' : numR 10 0 (bs.drop a) 0 = _ := hst'; rw [h', if_pos (by omega), if_pos (by first | omega | (simp only [beq_iff_eq] at *; omega))]; rfl)
          | (go_ret; refine ⟨hb2, ?_⟩; have h' : numR 10 0 (bs.drop a) 0 = _ := hst'; rw [h', if_pos (by omega), if_neg (by first | omega | (simp only [beq_eq_false_iff_ne, ne_eq] at *; omega))]; exact ⟨rfl, hr2⟩)
          | (exfalso; omega)
          | (refine ⟨⟨j + 1, accZ acc j ch, by omega, by go_num, rfl, by omega, ?_, hr2, hb2⟩, ?_⟩
             · have h' : numR 10 0 (bs.drop a) 0 = _ := hst'
               rw [h', if_neg (by omega), show 10 - (j + 1) = 9 - j by omega]
             · simp [intOf]; omega)
          | trace_state
      · have : a + j = n := by omega
        refine (take_short b (some ⟨bb, off, none⟩) n c n 1 wr (by omega) (by omega) hn (by omega) (by omega) (by omega) hrd.sl (by rw [hrd.at_, this])).mono ?_
        rintro e w1 ⟨rfl, q, rfl⟩
        have hR : numR 10 0 (bs.drop a) 0 = .error 41 := by
          rw [← heq, List.drop_of_length_le (by omega), show 10 - j = (9 - j) + 1 by omega, numR]
        refine ⟨rfl, below_drewN hbl q, ?_⟩
        rw [hR]
        rfl
    · have hR : numR 10 0 (bs.drop a) 0 = .error 3 := by
        rw [← heq, show 10 - j = 0 by omega, numR]
      refine ⟨rfl, hbl, ?_⟩
      rw [hR]
      rfl
end Go.Proofs.Z05

namespace Go.Proofs.Z05
open Go.RowKit Go.Wire
theorem uint_bad (oa : Option Addr) (n c : Nat) (at_ : Int) (h : at_ < 0 ∨ (n : Int) < at_) (w : World) :
    Calls Tryd.prog 53 #[.slice oa n c, .int .i64 at_] w fun e w' => e = .returned (.tuple #[.int .u64 0, .int .i64 0, .int .i64 1]) ∧ Below w.heap.size w w' := by
  have hmf : ∀ (fn : Fn) (first cap : Array Value) (w : World), (Instr.makeFunc fn first cap).run Tryd.prog w = .ok (.func fn first cap) w := fun _ _ _ _ => rfl
  go_enter_defers Tryd.func53, Tryd.ntmps53
  go_wp2_with fail
  refine (open_bad oa n c at_ h _).mono ?_
  rintro e w1 ⟨rfl, rfl⟩
  refine leaves_cons (f := 54) (args := #[.pointer (some ⟨w.heap.size, 0, none⟩), .pointer (some ⟨w.heap.size + 1, 0, none⟩)]) (by simp) (by simp [go_sem]) ?_
  refine (caught_code ⟨w.heap.size, 0, none⟩ ⟨w.heap.size + 1, 0, none⟩ 0 0 1 [] _ (by simp [go_sem]) (by simp [go_sem]) (by simp [go_sem]) (by simp [go_sem])).mono ?_
  rintro e u' w'' ⟨rfl, rfl, rfl⟩
  simp [Leaves, settle, results, Tryd.results53, go_sem]
  exact ((Below.refl w.heap.size w).alloc (Nat.le_refl _) _).alloc (by simp [go_sem]) _
/-- ReadUint's answer -/
def UintEnd (_n a : Nat) (r : Except Int (Int × Nat)) (e : Ending) : Prop := match r with
  | .error x => e = .returned (.tuple #[.int .u64 0, .int .i64 0, .int .i64 x])
  | .ok (v, m) => e = .returned (.tuple #[.int .u64 v, .int .i64 (a + m : Nat), .int .i64 0])
theorem uint_in (bb off n c a : Nat) (bs : List UInt8) (w : World) (han : a ≤ n) (hn : (n : Int) ≤ 1000000000000) (hnc : n ≤ c) (hl : bs.length = n) (hbb : bb < w.heap.size)
    (hc : ∀ j, j < n → w.cell? ⟨bb, off + j, none⟩ = some (.int .u8 (bs.getD j 0).toNat)) :
    Calls Tryd.prog 53 #[.slice (some ⟨bb, off, none⟩) n c, .int .i64 (a : Int)] w fun e w' => UintEnd n a (numR 10 0 (bs.drop a) 0) e ∧ Below w.heap.size w w' := by
  have hmf : ∀ (fn : Fn) (first cap : Array Value) (w : World), (Instr.makeFunc fn first cap).run Tryd.prog w = .ok (.func fn first cap) w := fun _ _ _ _ => rfl
  go_enter_defers Tryd.func53, Tryd.ntmps53
  go_wp2_with fail
  refine (open_ok (some ⟨bb, off, none⟩) n c a (by omega) (by omega) _).mono ?_
  rintro e w1 ⟨rfl, rfl⟩
  go_wp2_with fail
  have hbl : Below w.heap.size w (((w.alloc (Obj.cells #[Value.int IntKind.i64 0] 3)).alloc (Obj.cells #[Value.int IntKind.i64 0] 28)).alloc (Obj.cells #[Value.slice (some { block := bb, off := off }) n c, Value.int IntKind.i64 (a : Int)] 90)) :=
    (((Below.refl w.heap.size w).alloc (Nat.le_refl _) _).alloc (by simp [go_sem]) _).alloc (by simp [go_sem]; omega) _
  have hp : (((w.alloc (Obj.cells #[Value.int IntKind.i64 0] 3)).alloc (Obj.cells #[Value.int IntKind.i64 0] 28)).alloc (Obj.cells #[Value.slice (some { block := bb, off := off }) n c, Value.int IntKind.i64 (a : Int)] 90)).cell? ⟨w.heap.size, 0, none⟩ = some (.int .i64 0) := by simp [go_sem]
  have hq : (((w.alloc (Obj.cells #[Value.int IntKind.i64 0] 3)).alloc (Obj.cells #[Value.int IntKind.i64 0] 28)).alloc (Obj.cells #[Value.slice (some { block := bb, off := off }) n c, Value.int IntKind.i64 (a : Int)] 90)).cell? ⟨w.heap.size + 1, 0, none⟩ = some (.int .i64 0) := by simp [go_sem]
  have fp : (((w.alloc (Obj.cells #[Value.int IntKind.i64 0] 3)).alloc (Obj.cells #[Value.int IntKind.i64 0] 28)).alloc (Obj.cells #[Value.slice (some { block := bb, off := off }) n c, Value.int IntKind.i64 (a : Int)] 90)).frozen? ⟨w.heap.size, 0, none⟩ = false := by simp [go_sem]
  have fq : (((w.alloc (Obj.cells #[Value.int IntKind.i64 0] 3)).alloc (Obj.cells #[Value.int IntKind.i64 0] 28)).alloc (Obj.cells #[Value.slice (some { block := bb, off := off }) n c, Value.int IntKind.i64 (a : Int)] 90)).frozen? ⟨w.heap.size + 1, 0, none⟩ = false := by simp [go_sem]
  have hrd : Rdr (w.heap.size + 1 + 1) bb off n c a (((w.alloc (Obj.cells #[Value.int IntKind.i64 0] 3)).alloc (Obj.cells #[Value.int IntKind.i64 0] 28)).alloc (Obj.cells #[Value.slice (some { block := bb, off := off }) n c, Value.int IntKind.i64 (a : Int)] 90)) := ⟨by simp [go_sem], by simp [go_sem], by simp [go_sem]⟩
  have hcc : ∀ j, j < n → (((w.alloc (Obj.cells #[Value.int IntKind.i64 0] 3)).alloc (Obj.cells #[Value.int IntKind.i64 0] 28)).alloc (Obj.cells #[Value.slice (some { block := bb, off := off }) n c, Value.int IntKind.i64 (a : Int)] 90)).cell? ⟨bb, off + j, none⟩ = some (.int .u8 (bs.getD j 0).toNat) := fun j hj => (hbl.cell (by exact hbb)).trans (hc j hj)
  generalize (((w.alloc (Obj.cells #[Value.int IntKind.i64 0] 3)).alloc (Obj.cells #[Value.int IntKind.i64 0] 28)).alloc (Obj.cells #[Value.slice (some { block := bb, off := off }) n c, Value.int IntKind.i64 (a : Int)] 90)) = w3 at *
  refine (number_rd (w.heap.size + 1 + 1) bb off n c a bs w3 han hn hnc hl (by omega) hcc hrd).mono ?_
  rintro e w4 ⟨hb4, he⟩
  have hp4 := (hb4.cell (p := ⟨w.heap.size, 0, none⟩) (by show w.heap.size < _; omega)).trans hp
  have hq4 := (hb4.cell (p := ⟨w.heap.size + 1, 0, none⟩) (by show w.heap.size + 1 < _; omega)).trans hq
  have fp4 := (hb4.frozen (p := ⟨w.heap.size, 0, none⟩) (by show w.heap.size < _; omega)).trans fp
  have fq4 := (hb4.frozen (p := ⟨w.heap.size + 1, 0, none⟩) (by show w.heap.size + 1 < _; omega)).trans fq
  have hb5 := hbl.trans (hb4.mono (by omega))
  clear hbl hp hq fp fq hrd hcc hb4
  generalize hR : numR 10 0 (bs.drop a) 0 = R at he
  cases R with
  | error x =>
    obtain rfl := he
    refine leaves_cons (f := 54) (args := #[.pointer (some ⟨w.heap.size, 0, none⟩), .pointer (some ⟨w.heap.size + 1, 0, none⟩)]) (by simp) (by simp [go_sem]) ?_
    refine (caught_code ⟨w.heap.size, 0, none⟩ ⟨w.heap.size + 1, 0, none⟩ 0 0 x [] _ hp4 (by simp [go_sem, hq4]) fp4 fq4).mono ?_
    rintro e u' w'' ⟨rfl, rfl, rfl⟩
    simp [Leaves, settle, results, Tryd.results53, go_sem, hp4, hq4, UintEnd, hR]
    exact (hb5.setCell (Nat.le_refl _) _).setCell (by simp) _
  | ok vm =>
    obtain ⟨v, m⟩ := vm
    obtain ⟨rfl, hr4⟩ := he
    obtain ⟨hs4, ha4, hz4⟩ := hr4
    have hv := hR
    clear hR
    go_wp2_with fail
    go_region
    go_wp2_with fail
    refine leaves_cons (f := 54) (args := #[.pointer (some ⟨w.heap.size, 0, none⟩), .pointer (some ⟨w.heap.size + 1, 0, none⟩)]) (by simp) (by simp [go_sem]) ?_
    refine (caught_idle ⟨w.heap.size, 0, none⟩ ⟨w.heap.size + 1, 0, none⟩ _).mono ?_
    rintro e u' w'' ⟨rfl, rfl, rfl⟩
    simp [Leaves, settle, results, Tryd.results53, go_sem, UintEnd, hv, hp4, hq4]
    exact (((hb5.setCell (Nat.le_refl _) _).setCell (by simp) _).drew)
end Go.Proofs.Z05

namespace Go.Proofs.Z05
open Go.RowKit Go.Wire
theorem fold_push : ∀ (l : List UInt8) (r : ByteArray), (l.map fun c => (c.toNat : Int)).foldl (fun r n => r.push (UInt8.ofNat n.toNat)) r = ⟨r.data ++ l.toArray⟩
  | [], r => by simp
  | c :: l, r => by
    simp only [List.map_cons, List.foldl_cons]
    rw [fold_push l]
    simp [ByteArray.push]
theorem conv_bytes (b off k c : Nat) (l : List UInt8) (w : World) (hl : l.length = k) (hc : ∀ j, j < k → w.cell? ⟨b, off + j, none⟩ = some (.int .u8 (l.getD j 0).toNat)) :
    (convert 31 9 (.slice (some ⟨b, off, none⟩) k c)).run Tryd.prog w = .ok (.string ⟨l.toArray⟩) w := by
  rw [run_convert_bytes_string w 31 9 5 _ _ _ (by kernel_rfl) (by kernel_rfl) (by kernel_rfl)]
  have hns : (loadCells ⟨b, off, none⟩ k).run Tryd.prog w = .ok ((l.map fun c => (c.toNat : Int)).map (Value.int .u8)).toArray w := by
    have := run_loadCells_list (P := Tryd.prog) w ⟨b, off, none⟩ ((l.map fun c => (c.toNat : Int)).map (Value.int .u8)) (fun j v hj => by
      have hjl : j < l.length := by have := (List.getElem?_eq_some_iff.1 hj).1; simpa using this
      have : (⟨b, off, none⟩ : Addr).add j = ⟨b, off + j, none⟩ := by unfold Addr.add; split <;> simp_all
      rw [this, hc j (by omega)]
      rw [List.getElem?_map, List.getElem?_map, List.getElem?_eq_getElem hjl] at hj
      simp only [Option.map_some] at hj
      rw [← hj, List.getD_eq_getElem?_getD, List.getElem?_eq_getElem hjl]
      rfl)
    simpa [hl] using this
  rw [run_bytesToString w _ _ _ _ hns, fold_push]
  have he0 : ByteArray.empty.data = #[] := rfl
  rw [he0]
  simp
/-- what a text's bytes say -/
def textR (bs : List UInt8) (a : Nat) : Except Int (List UInt8 × Nat) := match uintP 10 (bs.drop a) with
  | .error x => .error x
  | .ok (v, m) => if bs.length < a + m + v then .error 41 else .ok ((bs.drop (a + m)).take v, a + m + v)
def TextEnd (r : Except Int (List UInt8 × Nat)) (e : Ending) : Prop := match r with
  | .error x => e = .returned (.tuple #[.string ⟨#[]⟩, .int .i64 0, .int .i64 x])
  | .ok (l, m) => e = .returned (.tuple #[.string ⟨l.toArray⟩, .int .i64 m, .int .i64 0])
theorem num_in (l : List UInt8) : numR 10 0 l 0 = match uintP 10 l with
    | .error x => .error x
    | .ok (v, m) => .ok ((v : Int), m) := by
  have := numR_eq 10 0 l 0 (by omega) (by simp)
  simp only [Nat.mul_zero, Nat.pow_zero, Nat.mul_one, Nat.zero_add] at this
  rw [show ((0 : Nat) : Int) = 0 by rfl] at this
  refine this.trans ?_
  cases uintP 10 l <;> rfl
theorem text_bad (oa : Option Addr) (n c : Nat) (at_ : Int) (h : at_ < 0 ∨ (n : Int) < at_) (w : World) :
    Calls Tryd.prog 37 #[.slice oa n c, .int .i64 at_] w fun e w' => e = .returned (.tuple #[.string ⟨#[]⟩, .int .i64 0, .int .i64 1]) ∧ Below w.heap.size w w' := by
  have hmf : ∀ (fn : Fn) (first cap : Array Value) (w : World), (Instr.makeFunc fn first cap).run Tryd.prog w = .ok (.func fn first cap) w := fun _ _ _ _ => rfl
  go_enter_defers Tryd.func37, Tryd.ntmps37
  go_wp2_with fail
  refine (open_bad oa n c at_ h _).mono ?_
  rintro e w1 ⟨rfl, rfl⟩
  refine leaves_cons (f := 54) (args := #[.pointer (some ⟨w.heap.size, 0, none⟩), .pointer (some ⟨w.heap.size + 1, 0, none⟩)]) (by simp) (by simp [go_sem]) ?_
  refine (caught_code ⟨w.heap.size, 0, none⟩ ⟨w.heap.size + 1, 0, none⟩ 0 0 1 [] _ (by simp [go_sem]) (by simp [go_sem]) (by simp [go_sem]) (by simp [go_sem])).mono ?_
  rintro e u' w'' ⟨rfl, rfl, rfl⟩
  simp [Leaves, settle, results, Tryd.results37, go_sem]
  exact ((Below.refl w.heap.size w).alloc (Nat.le_refl _) _).alloc (by simp [go_sem]) _
set_option maxHeartbeats 1000000 in
theorem text_in (bb off n c a : Nat) (bs : List UInt8) (w : World) (han : a ≤ n) (hn : (n : Int) ≤ 1000000000000) (hnc : n ≤ c) (hl : bs.length = n) (hbb : bb < w.heap.size)
    (hc : ∀ j, j < n → w.cell? ⟨bb, off + j, none⟩ = some (.int .u8 (bs.getD j 0).toNat)) :
    Calls Tryd.prog 37 #[.slice (some ⟨bb, off, none⟩) n c, .int .i64 (a : Int)] w fun e w' => TextEnd (textR bs a) e ∧ Below w.heap.size w w' := by
  have hmf : ∀ (fn : Fn) (first cap : Array Value) (w : World), (Instr.makeFunc fn first cap).run Tryd.prog w = .ok (.func fn first cap) w := fun _ _ _ _ => rfl
  go_enter_defers Tryd.func37, Tryd.ntmps37
  go_wp2_with fail
  refine (open_ok (some ⟨bb, off, none⟩) n c a (by omega) (by omega) _).mono ?_
  rintro e w1 ⟨rfl, rfl⟩
  go_wp2_with fail
  have hbl : Below w.heap.size w (((w.alloc (Obj.cells #[Value.int IntKind.i64 0] 3)).alloc (Obj.cells #[Value.int IntKind.i64 0] 28)).alloc (Obj.cells #[Value.slice (some { block := bb, off := off }) n c, Value.int IntKind.i64 (a : Int)] 90)) :=
    (((Below.refl w.heap.size w).alloc (Nat.le_refl _) _).alloc (by simp [go_sem]) _).alloc (by simp [go_sem]; omega) _
  have hp : (((w.alloc (Obj.cells #[Value.int IntKind.i64 0] 3)).alloc (Obj.cells #[Value.int IntKind.i64 0] 28)).alloc (Obj.cells #[Value.slice (some { block := bb, off := off }) n c, Value.int IntKind.i64 (a : Int)] 90)).cell? ⟨w.heap.size, 0, none⟩ = some (.int .i64 0) := by simp [go_sem]
  have hq : (((w.alloc (Obj.cells #[Value.int IntKind.i64 0] 3)).alloc (Obj.cells #[Value.int IntKind.i64 0] 28)).alloc (Obj.cells #[Value.slice (some { block := bb, off := off }) n c, Value.int IntKind.i64 (a : Int)] 90)).cell? ⟨w.heap.size + 1, 0, none⟩ = some (.int .i64 0) := by simp [go_sem]
  have fp : (((w.alloc (Obj.cells #[Value.int IntKind.i64 0] 3)).alloc (Obj.cells #[Value.int IntKind.i64 0] 28)).alloc (Obj.cells #[Value.slice (some { block := bb, off := off }) n c, Value.int IntKind.i64 (a : Int)] 90)).frozen? ⟨w.heap.size, 0, none⟩ = false := by simp [go_sem]
  have fq : (((w.alloc (Obj.cells #[Value.int IntKind.i64 0] 3)).alloc (Obj.cells #[Value.int IntKind.i64 0] 28)).alloc (Obj.cells #[Value.slice (some { block := bb, off := off }) n c, Value.int IntKind.i64 (a : Int)] 90)).frozen? ⟨w.heap.size + 1, 0, none⟩ = false := by simp [go_sem]
  have hrd : Rdr (w.heap.size + 1 + 1) bb off n c a (((w.alloc (Obj.cells #[Value.int IntKind.i64 0] 3)).alloc (Obj.cells #[Value.int IntKind.i64 0] 28)).alloc (Obj.cells #[Value.slice (some { block := bb, off := off }) n c, Value.int IntKind.i64 (a : Int)] 90)) := ⟨by simp [go_sem], by simp [go_sem], by simp [go_sem]⟩
  have hcc : ∀ j, j < n → (((w.alloc (Obj.cells #[Value.int IntKind.i64 0] 3)).alloc (Obj.cells #[Value.int IntKind.i64 0] 28)).alloc (Obj.cells #[Value.slice (some { block := bb, off := off }) n c, Value.int IntKind.i64 (a : Int)] 90)).cell? ⟨bb, off + j, none⟩ = some (.int .u8 (bs.getD j 0).toNat) := fun j hj => (hbl.cell (by exact hbb)).trans (hc j hj)
  generalize (((w.alloc (Obj.cells #[Value.int IntKind.i64 0] 3)).alloc (Obj.cells #[Value.int IntKind.i64 0] 28)).alloc (Obj.cells #[Value.slice (some { block := bb, off := off }) n c, Value.int IntKind.i64 (a : Int)] 90)) = w3 at *
  refine (number_rd (w.heap.size + 1 + 1) bb off n c a bs w3 han hn hnc hl (by omega) hcc hrd).mono ?_
  rintro e w4 ⟨hb4, he⟩
  have hp4 := (hb4.cell (p := ⟨w.heap.size, 0, none⟩) (by show w.heap.size < _; omega)).trans hp
  have hq4 := (hb4.cell (p := ⟨w.heap.size + 1, 0, none⟩) (by show w.heap.size + 1 < _; omega)).trans hq
  have fp4 := (hb4.frozen (p := ⟨w.heap.size, 0, none⟩) (by show w.heap.size < _; omega)).trans fp
  have fq4 := (hb4.frozen (p := ⟨w.heap.size + 1, 0, none⟩) (by show w.heap.size + 1 < _; omega)).trans fq
  have hc4 : ∀ j, j < n → w4.cell? ⟨bb, off + j, none⟩ = some (.int .u8 (bs.getD j 0).toNat) := fun j hj => (hb4.cell (p := ⟨bb, off + j, none⟩) (by show bb < _; omega)).trans (hcc j hj)
  have hb5 := hbl.trans (hb4.mono (by omega))
  clear hbl hp hq fp fq hrd hcc hb4
  rw [num_in] at he
  cases hR : uintP 10 (bs.drop a) with
  | error x =>
    rw [hR] at he
    obtain rfl := he
    have hT : textR bs a = .error x := by unfold textR; rw [hR]
    refine leaves_cons (f := 54) (args := #[.pointer (some ⟨w.heap.size, 0, none⟩), .pointer (some ⟨w.heap.size + 1, 0, none⟩)]) (by simp) (by simp [go_sem]) ?_
    refine (caught_code ⟨w.heap.size, 0, none⟩ ⟨w.heap.size + 1, 0, none⟩ 0 0 x [] _ hp4 (by simp [go_sem, hq4]) fp4 fq4).mono ?_
    rintro e u' w'' ⟨rfl, rfl, rfl⟩
    simp [Leaves, settle, results, Tryd.results37, go_sem, hp4, hq4, TextEnd, hT]
    exact (hb5.setCell (Nat.le_refl _) _).setCell (by simp) _
  | ok vm =>
    obtain ⟨v, m⟩ := vm
    rw [hR] at he
    obtain ⟨rfl, hr4⟩ := he
    obtain ⟨hv, hm1, hm2, hm3⟩ := uintP_bound _ _ _ _ hR
    have hv' : (v : Int) < 18446744073709551616 := by
      have : 2 ^ (7 * (10 - 1) + 1) = 18446744073709551616 := by decide
      omega
    have hm4 : a + m ≤ n := by rw [List.length_drop] at hm3; omega
    by_cases hlong : n < a + m + v
    · have hT : textR bs a = .error 41 := by unfold textR; rw [hR]; simp only []; rw [if_pos (by omega)]
      go_wp2_with fail
      refine (take_short (w.heap.size + 1 + 1) (some ⟨bb, off, none⟩) n c ((a + m : Nat) : Int) v w4 (by omega) (by omega) hn (by omega) hv' (by omega) hr4.sl hr4.at_).mono ?_
      rintro e w5 ⟨rfl, q, rfl⟩
      refine leaves_cons (f := 54) (args := #[.pointer (some ⟨w.heap.size, 0, none⟩), .pointer (some ⟨w.heap.size + 1, 0, none⟩)]) (by simp) (by simp [go_sem]) ?_
      refine (caught_code ⟨w.heap.size, 0, none⟩ ⟨w.heap.size + 1, 0, none⟩ 0 0 41 [] _ (by simp [go_sem, hp4]) (by simp [go_sem, hq4]) (by simp [go_sem, fp4]) (by simp [go_sem, fq4])).mono ?_
      rintro e u' w'' ⟨rfl, rfl, rfl⟩
      simp [Leaves, settle, results, Tryd.results37, go_sem, hp4, hq4, TextEnd, hT]
      exact below_drewN ((hb5.setCell (Nat.le_refl _) _).setCell (by simp) _) q
    · have hT : textR bs a = .ok ((bs.drop (a + m)).take v, a + m + v) := by unfold textR; rw [hR]; simp only []; rw [if_neg (by omega)]
      go_wp2_with fail
      refine (take_rd (w.heap.size + 1 + 1) bb off n c ((a + m : Nat) : Int) v w4 (by omega) (by omega) hn hnc (by omega) (by omega) hr4).mono ?_
      rintro e w5 ⟨o, hs, rfl, hr5, hb45⟩
      have hp5 := (hb45.cell (p := ⟨w.heap.size, 0, none⟩) (by show w.heap.size < _; omega)).trans hp4
      have hq5 := (hb45.cell (p := ⟨w.heap.size + 1, 0, none⟩) (by show w.heap.size + 1 < _; omega)).trans hq4
      have fp5 := (hb45.frozen (p := ⟨w.heap.size, 0, none⟩) (by show w.heap.size < _; omega)).trans fp4
      have fq5 := (hb45.frozen (p := ⟨w.heap.size + 1, 0, none⟩) (by show w.heap.size + 1 < _; omega)).trans fq4
      have hb6 := hb5.trans (hb45.mono (by omega))
      have hcv := conv_bytes bb o v v ((bs.drop (a + m)).take v) w5.drew (by simp; omega) fun j hj => by
        rw [show w5.drew.cell? ⟨bb, o + j, none⟩ = w5.cell? ⟨bb, o + j, none⟩ by simp [go_sem]]
        rcases hs with hs | hs
        · omega
        · rw [hs, show off + ((a + m : Nat) : Int).toNat + j = off + (a + m + j) by omega, (hb45.cell (p := ⟨bb, off + (a + m + j), none⟩) (by show bb < _; omega)), hc4 _ (by omega)]
          congr 3
          rw [List.getD_eq_getElem?_getD, List.getD_eq_getElem?_getD, List.getElem?_take_of_lt hj, List.getElem?_drop]
      obtain ⟨hs5, ha5, hz5⟩ := hr5
      clear hc4 hp4 hq4 fp4 fq4 hb5 hb45 hR hs hr4 hv hv' hm1 hm2 hm3 hlong
      go_wp2_with fail
      go_region
      go_wp2_with fail
      refine leaves_cons (f := 54) (args := #[.pointer (some ⟨w.heap.size, 0, none⟩), .pointer (some ⟨w.heap.size + 1, 0, none⟩)]) (by simp) (by simp [go_sem]) ?_
      refine (caught_idle ⟨w.heap.size, 0, none⟩ ⟨w.heap.size + 1, 0, none⟩ _).mono ?_
      rintro e u' w'' ⟨rfl, rfl, rfl⟩
      simp [Leaves, settle, results, Tryd.results37, go_sem, TextEnd, hT, hp5, hq5]
      exact (((hb6.setCell (Nat.le_refl _) _).setCell (by simp) _).drew)
end Go.Proofs.Z05

namespace Go.Proofs.Z05
open Go.RowKit Go.Wire
theorem number_end (b n c : Nat) (oa : Option Addr) (w : World) (hn : (n : Int) ≤ 1000000000000) (hs : w.cell? ⟨b, 0, none⟩ = some (.slice oa n c)) (ha : w.cell? ⟨b, 1, none⟩ = some (.int .i64 n)) :
    Calls Tryd.prog 57 #[.pointer (some ⟨b, 0, none⟩)] w fun e w' => e = .panicked [{ v := .iface 28 (.int .i64 41), recovered := false }] ∧ ∃ q, w' = w.drewN q := by
  go_enter Tryd.func57, Tryd.ntmps57
  go_wp2_with fail
  go_loopw [2, 3] (fun u i wr => i = .int .i64 0 ∧ wr = w ∧ u = .int .u64 0)
    (fun _ i _ => 0)
  case atStart => exact ⟨rfl, rfl, rfl⟩
  case round =>
    obtain ⟨rfl, rfl, rfl⟩ := hrel
    go_wp2_with fail
    refine (take_short b oa n c n 1 _ (by omega) (by omega) hn (by omega) (by omega) (by omega) hs ha).mono ?_
    rintro e w1 ⟨rfl, q, rfl⟩
    exact ⟨rfl, rfl, q, rfl⟩
theorem uint_end (oa : Option Addr) (n c : Nat) (w : World) (hn : (n : Int) ≤ 1000000000000) :
    Calls Tryd.prog 53 #[.slice oa n c, .int .i64 n] w fun e w' => e = .returned (.tuple #[.int .u64 0, .int .i64 0, .int .i64 41]) ∧ Below w.heap.size w w' := by
  have hmf : ∀ (fn : Fn) (first cap : Array Value) (w : World), (Instr.makeFunc fn first cap).run Tryd.prog w = .ok (.func fn first cap) w := fun _ _ _ _ => rfl
  go_enter_defers Tryd.func53, Tryd.ntmps53
  go_wp2_with fail
  refine (open_ok oa n c n (by omega) (by omega) _).mono ?_
  rintro e w1 ⟨rfl, rfl⟩
  go_wp2_with fail
  refine (number_end (w.heap.size + 1 + 1) n c oa _ hn (by simp [go_sem]) (by simp [go_sem])).mono ?_
  rintro e w1 ⟨rfl, q, rfl⟩
  have hb5 : Below w.heap.size w ((((w.alloc (Obj.cells #[Value.int IntKind.i64 0] 3)).alloc (Obj.cells #[Value.int IntKind.i64 0] 28)).alloc (Obj.cells #[Value.slice oa n c, Value.int IntKind.i64 n] 90)).drewN q) :=
    below_drewN (((Below.refl w.heap.size w).alloc (Nat.le_refl _) _).alloc (by simp [go_sem]) _ |>.alloc (by simp [go_sem]; omega) _) q
  have hp4 : ((((w.alloc (Obj.cells #[Value.int IntKind.i64 0] 3)).alloc (Obj.cells #[Value.int IntKind.i64 0] 28)).alloc (Obj.cells #[Value.slice oa n c, Value.int IntKind.i64 n] 90)).drewN q).cell? ⟨w.heap.size, 0, none⟩ = some (.int .i64 0) := by simp [go_sem]
  have hq4 : ((((w.alloc (Obj.cells #[Value.int IntKind.i64 0] 3)).alloc (Obj.cells #[Value.int IntKind.i64 0] 28)).alloc (Obj.cells #[Value.slice oa n c, Value.int IntKind.i64 n] 90)).drewN q).cell? ⟨w.heap.size + 1, 0, none⟩ = some (.int .i64 0) := by simp [go_sem]
  have fp4 : ((((w.alloc (Obj.cells #[Value.int IntKind.i64 0] 3)).alloc (Obj.cells #[Value.int IntKind.i64 0] 28)).alloc (Obj.cells #[Value.slice oa n c, Value.int IntKind.i64 n] 90)).drewN q).frozen? ⟨w.heap.size, 0, none⟩ = false := by simp [go_sem]
  have fq4 : ((((w.alloc (Obj.cells #[Value.int IntKind.i64 0] 3)).alloc (Obj.cells #[Value.int IntKind.i64 0] 28)).alloc (Obj.cells #[Value.slice oa n c, Value.int IntKind.i64 n] 90)).drewN q).frozen? ⟨w.heap.size + 1, 0, none⟩ = false := by simp [go_sem]
  generalize ((((w.alloc (Obj.cells #[Value.int IntKind.i64 0] 3)).alloc (Obj.cells #[Value.int IntKind.i64 0] 28)).alloc (Obj.cells #[Value.slice oa n c, Value.int IntKind.i64 n] 90)).drewN q) = w4 at *
  refine leaves_cons (f := 54) (args := #[.pointer (some ⟨w.heap.size, 0, none⟩), .pointer (some ⟨w.heap.size + 1, 0, none⟩)]) (by simp) (by simp [go_sem]) ?_
  refine (caught_code ⟨w.heap.size, 0, none⟩ ⟨w.heap.size + 1, 0, none⟩ 0 0 41 [] _ hp4 (by simp [go_sem, hq4]) fp4 fq4).mono ?_
  rintro e u' w'' ⟨rfl, rfl, rfl⟩
  simp [Leaves, settle, results, Tryd.results53, go_sem, hp4, hq4]
  exact (hb5.setCell (Nat.le_refl _) _).setCell (by simp) _
theorem text_end (oa : Option Addr) (n c : Nat) (w : World) (hn : (n : Int) ≤ 1000000000000) :
    Calls Tryd.prog 37 #[.slice oa n c, .int .i64 n] w fun e w' => e = .returned (.tuple #[.string ⟨#[]⟩, .int .i64 0, .int .i64 41]) ∧ Below w.heap.size w w' := by
  have hmf : ∀ (fn : Fn) (first cap : Array Value) (w : World), (Instr.makeFunc fn first cap).run Tryd.prog w = .ok (.func fn first cap) w := fun _ _ _ _ => rfl
  go_enter_defers Tryd.func37, Tryd.ntmps37
  go_wp2_with fail
  refine (open_ok oa n c n (by omega) (by omega) _).mono ?_
  rintro e w1 ⟨rfl, rfl⟩
  go_wp2_with fail
  refine (number_end (w.heap.size + 1 + 1) n c oa _ hn (by simp [go_sem]) (by simp [go_sem])).mono ?_
  rintro e w1 ⟨rfl, q, rfl⟩
  have hb5 : Below w.heap.size w ((((w.alloc (Obj.cells #[Value.int IntKind.i64 0] 3)).alloc (Obj.cells #[Value.int IntKind.i64 0] 28)).alloc (Obj.cells #[Value.slice oa n c, Value.int IntKind.i64 n] 90)).drewN q) :=
    below_drewN (((Below.refl w.heap.size w).alloc (Nat.le_refl _) _).alloc (by simp [go_sem]) _ |>.alloc (by simp [go_sem]; omega) _) q
  have hp4 : ((((w.alloc (Obj.cells #[Value.int IntKind.i64 0] 3)).alloc (Obj.cells #[Value.int IntKind.i64 0] 28)).alloc (Obj.cells #[Value.slice oa n c, Value.int IntKind.i64 n] 90)).drewN q).cell? ⟨w.heap.size, 0, none⟩ = some (.int .i64 0) := by simp [go_sem]
  have hq4 : ((((w.alloc (Obj.cells #[Value.int IntKind.i64 0] 3)).alloc (Obj.cells #[Value.int IntKind.i64 0] 28)).alloc (Obj.cells #[Value.slice oa n c, Value.int IntKind.i64 n] 90)).drewN q).cell? ⟨w.heap.size + 1, 0, none⟩ = some (.int .i64 0) := by simp [go_sem]
  have fp4 : ((((w.alloc (Obj.cells #[Value.int IntKind.i64 0] 3)).alloc (Obj.cells #[Value.int IntKind.i64 0] 28)).alloc (Obj.cells #[Value.slice oa n c, Value.int IntKind.i64 n] 90)).drewN q).frozen? ⟨w.heap.size, 0, none⟩ = false := by simp [go_sem]
  have fq4 : ((((w.alloc (Obj.cells #[Value.int IntKind.i64 0] 3)).alloc (Obj.cells #[Value.int IntKind.i64 0] 28)).alloc (Obj.cells #[Value.slice oa n c, Value.int IntKind.i64 n] 90)).drewN q).frozen? ⟨w.heap.size + 1, 0, none⟩ = false := by simp [go_sem]
  generalize ((((w.alloc (Obj.cells #[Value.int IntKind.i64 0] 3)).alloc (Obj.cells #[Value.int IntKind.i64 0] 28)).alloc (Obj.cells #[Value.slice oa n c, Value.int IntKind.i64 n] 90)).drewN q) = w4 at *
  refine leaves_cons (f := 54) (args := #[.pointer (some ⟨w.heap.size, 0, none⟩), .pointer (some ⟨w.heap.size + 1, 0, none⟩)]) (by simp) (by simp [go_sem]) ?_
  refine (caught_code ⟨w.heap.size, 0, none⟩ ⟨w.heap.size + 1, 0, none⟩ 0 0 41 [] _ hp4 (by simp [go_sem, hq4]) fp4 fq4).mono ?_
  rintro e u' w'' ⟨rfl, rfl, rfl⟩
  simp [Leaves, settle, results, Tryd.results37, go_sem, hp4, hq4]
  exact (hb5.setCell (Nat.le_refl _) _).setCell (by simp) _
end Go.Proofs.Z05

namespace Go.Abs
open Go.Proofs Go.RowKit Go.Wire
noncomputable abbrev PZ := Tryd.prog
theorem mixedZ : PZ.follows .mixedOrders = true := Tryd.checked.mixed
theorem goodZ {f : FuncId} (h : (match PZ.funcs[f]? with | some fn => fn.body.isSome && !(fn.name == "runtime.NumGoroutine") | none => false) = true) : goodFn PZ f := by
  split at h
  · rename_i fn hf
    simp only [Bool.and_eq_true, Bool.not_eq_true'] at h
    exact ⟨fn, hf, h.1, h.2⟩
  · cases h
/-- what ReadUint answers -/
def uintA (bs : List UInt8) (at_ : Int) : Int × Int × Int := if at_ < 0 ∨ (bs.length : Int) < at_ then (0, 0, 1) else match uintP 10 (bs.drop at_.toNat) with
  | .error x => (0, 0, x)
  | .ok (v, m) => (v, at_ + m, 0)
def textA (bs : List UInt8) (at_ : Int) : List UInt8 × Int × Int := if at_ < 0 ∨ (bs.length : Int) < at_ then ([], 0, 1) else match Z05.textR bs at_.toNat with
  | .error x => ([], 0, x)
  | .ok (l, m) => (l, m, 0)
def lenOk (bs : List UInt8) : Prop := (bs.length : Int) ≤ 1000000000000
instance (bs : List UInt8) : Decidable (lenOk bs) := by unfold lenOk; infer_instance
def sReadUint : Spec := fun args => match args with
  | [.sl sz es _, .int .i64 at_] => if sz = 1 ∨ es = [] then (unBytes es).bind fun bs => if lenOk bs then some (.tup [.int .u64 (uintA bs at_).1, .int .i64 (uintA bs at_).2.1, .int .i64 (uintA bs at_).2.2], []) else none else none
  | _ => none
def sReadText : Spec := fun args => match args with
  | [.sl sz es _, .int .i64 at_] => if sz = 1 ∨ es = [] then (unBytes es).bind fun bs => if lenOk bs then some (.tup [.str (textA bs at_).1, .int .i64 (textA bs at_).2.1, .int .i64 (textA bs at_).2.2], []) else none else none
  | _ => none
variable {E : Env} {w w' : World} {G : Glob}
theorem rep_tup3 {a b c : AV} {x y z : Value} (ha : Rep E w a x) (hb : Rep E w b y) (hc : Rep E w c z) : Rep E w (.tup [a, b, c]) (.tuple #[x, y, z]) := by
  refine .tup _ _ rfl fun i c' v hi hv => ?_
  match i, hi, hv with
  | 0, hi, hv => simp at hi hv; subst hi; subst hv; exact ha
  | 1, hi, hv => simp at hi hv; subst hi; subst hv; exact hb
  | 2, hi, hv => simp at hi hv; subst hi; subst hv; exact hc
theorem size_toList (l : List UInt8) : (⟨l.toArray⟩ : ByteArray).data.toList = l := by simp
/-- a slice of bytes: in a block, or empty -/
theorem bytes_arg {sz : Nat} {es : List AV} {o : Own} {v : Value} {bs : List UInt8} (h : Rep E w (.sl sz es o) v) (hsz : sz = 1 ∨ es = []) (hu : unBytes es = some bs) :
    ∃ A cap, v = .slice A bs.length cap ∧ bs.length ≤ cap ∧ (bs = [] ∨ ∃ b off, A = some ⟨b, off, none⟩ ∧ (b < w.heap.size) ∧ (∀ j, j < bs.length → E.I b (off + j)) ∧ ∀ j, j < bs.length → w.cell? ⟨b, off + j, none⟩ = some (.int .u8 (bs.getD j 0).toNat)) := by
  obtain rfl := unBytes_some hu
  obtain ⟨A, cap, rfl, hcap, hc⟩ := rep_bytes h (hsz.imp id fun h => by simpa [bytesL] using h)
  refine ⟨A, cap, rfl, hcap, ?_⟩
  rcases hc with hc | ⟨b, off, rfl, hc⟩
  · exact .inl hc
  · rcases Nat.eq_zero_or_pos bs.length with h0 | h0
    · exact .inl (List.eq_nil_of_length_eq_zero h0)
    · refine .inr ⟨b, off, rfl, cell_lt (hc 0 h0).1, fun j hj => (hc j hj).2, fun j hj => ?_⟩
      rw [(hc j hj).1]
      simp [hj]
theorem o53 : SpecOk PZ G 53 sReadUint := by
  intro g args r lv h E w vs hI hG hn' hv hcl
  simp only at h
  split at h
  · rename_i e
    subst e
    unfold sReadUint at h
    split at h
    · rename_i sz es o at_
      split at h
      · rename_i hsz
        cases hu : unBytes es with
        | none => rw [hu] at h; cases h
        | some bs =>
          rw [hu] at h
          simp only [Option.bind_some] at h
          split at h
          · rename_i hlen
            simp only [Option.some.injEq, Prod.mk.injEq] at h
            obtain ⟨rfl, rfl⟩ := h
            obtain ⟨a, b, rfl⟩ := vs_two hn'
            obtain ⟨A, cap, rfl, hcap, hc⟩ := bytes_arg (hv 0 _ _ rfl rfl) hsz hu
            obtain rfl := rep_int (hv 1 _ _ rfl rfl)
            refine .inl ⟨goodZ (by kernel_rfl), ?_⟩
            unfold uintA
            by_cases hbad : at_ < 0 ∨ (bs.length : Int) < at_
            · simp only [if_pos hbad]
              refine (Z05.uint_bad A bs.length cap at_ hbad w).mono fun e w' ⟨he, hb⟩ => ⟨_, he, res_below hb fun B K => rep_tup3 (.int _ _) (.int _ _) (.int _ _)⟩
            · simp only [if_neg hbad]
              obtain ⟨n, rfl⟩ : ∃ n : Nat, at_ = n := ⟨at_.toNat, by omega⟩
              simp only [Int.toNat_natCast]
              by_cases hend : n = bs.length
              · subst hend
                have : uintP 10 (bs.drop bs.length) = .error 41 := by rw [List.drop_length]; rfl
                rw [this]
                refine (Z05.uint_end A bs.length cap w hlen).mono fun e w' ⟨he, hb⟩ => ⟨_, he, res_below hb fun B K => rep_tup3 (.int _ _) (.int _ _) (.int _ _)⟩
              · rcases hc with rfl | ⟨b, off, rfl, hb, _, hcells⟩
                · simp at hend hbad; omega
                · refine (Z05.uint_in b off bs.length cap n bs w (by omega) hlen hcap rfl hb hcells).mono fun e w' ⟨he, hb⟩ => ?_
                  rw [Z05.num_in] at he
                  cases hR : uintP 10 (bs.drop n) with
                  | error x =>
                    rw [hR] at he
                    exact ⟨_, he, res_below hb fun B K => rep_tup3 (.int _ _) (.int _ _) (.int _ _)⟩
                  | ok vm =>
                    obtain ⟨v, m⟩ := vm
                    rw [hR] at he
                    exact ⟨_, he, res_below hb fun B K => rep_tup3 (.int _ _) (.int _ _) (.int _ _)⟩
          · cases h
      · cases h
    · cases h
  · cases h
theorem o37 : SpecOk PZ G 37 sReadText := by
  intro g args r lv h E w vs hI hG hn' hv hcl
  simp only at h
  split at h
  · rename_i e
    subst e
    unfold sReadText at h
    split at h
    · rename_i sz es o at_
      split at h
      · rename_i hsz
        cases hu : unBytes es with
        | none => rw [hu] at h; cases h
        | some bs =>
          rw [hu] at h
          simp only [Option.bind_some] at h
          split at h
          · rename_i hlen
            simp only [Option.some.injEq, Prod.mk.injEq] at h
            obtain ⟨rfl, rfl⟩ := h
            obtain ⟨a, b, rfl⟩ := vs_two hn'
            obtain ⟨A, cap, rfl, hcap, hc⟩ := bytes_arg (hv 0 _ _ rfl rfl) hsz hu
            obtain rfl := rep_int (hv 1 _ _ rfl rfl)
            refine .inl ⟨goodZ (by kernel_rfl), ?_⟩
            unfold textA
            by_cases hbad : at_ < 0 ∨ (bs.length : Int) < at_
            · simp only [if_pos hbad]
              refine (Z05.text_bad A bs.length cap at_ hbad w).mono fun e w' ⟨he, hb⟩ => ⟨_, he, res_below hb fun B K => rep_tup3 (.str _ _ rfl) (.int _ _) (.int _ _)⟩
            · simp only [if_neg hbad]
              obtain ⟨n, rfl⟩ : ∃ n : Nat, at_ = n := ⟨at_.toNat, by omega⟩
              simp only [Int.toNat_natCast]
              by_cases hend : n = bs.length
              · subst hend
                have : Z05.textR bs bs.length = .error 41 := by unfold Z05.textR; rw [List.drop_length]; rfl
                rw [this]
                refine (Z05.text_end A bs.length cap w hlen).mono fun e w' ⟨he, hb⟩ => ⟨_, he, res_below hb fun B K => rep_tup3 (.str _ _ rfl) (.int _ _) (.int _ _)⟩
              · rcases hc with rfl | ⟨b, off, rfl, hb, _, hcells⟩
                · simp at hend hbad; omega
                · refine (Z05.text_in b off bs.length cap n bs w (by omega) hlen hcap rfl hb hcells).mono fun e w' ⟨he, hb⟩ => ?_
                  cases hR : Z05.textR bs n with
                  | error x =>
                    rw [hR] at he
                    exact ⟨_, he, res_below hb fun B K => rep_tup3 (.str _ _ rfl) (.int _ _) (.int _ _)⟩
                  | ok vm =>
                    obtain ⟨v, m⟩ := vm
                    rw [hR] at he
                    exact ⟨_, he, res_below hb fun B K => rep_tup3 (.str _ _ (size_toList v)) (.int _ _) (.int _ _)⟩
          · cases h
      · cases h
    · cases h
  · cases h
end Go.Abs

namespace Go.Abs
open Go.Proofs Go.Wire
def nA : Nat → Option Ann := fun _ => none
def nAn : Anns := ⟨nA, nA⟩
def shB : Sh × Option TypeId := (.val (.one .bool), none)
def shI : Sh × Option TypeId := (.val (.one (.int .i64)), none)
def shS : Sh × Option TypeId := (.val (.one .str), none)
abbrev vA (k n : Int) (s : List UInt8) : AV := .agg [.int .i64 k, .int .i64 n, .str s]
def printB (low : Nat) (c : UInt8) : Bool := decide (low ≤ c.toNat) && decide (c.toNat ≤ 126) && decide (c.toNat ≠ 34) && decide (c.toNat ≠ 92)
def inR (n : Int) : Bool := decide (-1152921504606846976 ≤ n ∧ n ≤ 1152921504606846976)
def fieldsB (k n : Int) (s : List UInt8) : Bool :=
  if k = 0 then decide (n = 0 ∧ s = []) else if k = 1 then decide ((n = 0 ∨ n = 1) ∧ s = []) else if k = 2 ∨ k = 3 then decide (s = []) else if k = 4 ∨ k = 5 then decide (n = 0) else false
def textB (s : List UInt8) : Bool := decide (s.length ≤ 64) && s.all (printB 32)
def keyB (s : List UInt8) : Bool := decide (s ≠ []) && decide (s.length ≤ 32) && s.all (printB 33)
def checkI (k n : Int) (s : List UInt8) : Int :=
  if fieldsB k n s = false then 1
  else if inR n = false ∨ (k = 4 ∧ 64 < s.length) ∨ (k = 5 ∧ 32 < s.length) then 2
  else if (k = 4 ∧ textB s = false) ∨ (k = 5 ∧ keyB s = false) then 3 else 0
def validB (k n : Int) (s : List UInt8) : Bool := decide (checkI k n s = 0)
def shortB (s : List UInt8) : Bool := decide (s.length ≤ 300)
/-- a bound on texts: none that a machine can hold comes near it -/
def strOk (s : List UInt8) : Prop := s.length ≤ 1000000
instance (s : List UInt8) : Decidable (strOk s) := inferInstanceAs (Decidable (_ ≤ _))
def sVal (f : Int → Int → List UInt8 → AV) : Spec := fun args => match args with
  | [.agg [.int .i64 k, .int .i64 n, .str s]] => if strOk s then some (f k n s, []) else none
  | _ => none
def s9 : Spec := sVal fun k n s => .int .i64 (checkI k n s)
def s18 : Spec := fun args => match args with
  | [.agg [.int .i64 k, .int .i64 n, .str s], .agg [.int .i64 t, _, _]] => if strOk s then some (.bool (validB k n s && (decide (k = 0) || decide (k = t))), []) else none
  | _ => none
def XZ : Shapes := fun f => match f with
  | 9 => some shI
  | 6 | 18 => some shB
  | _ => none
def tensA : AV := .agg [.int .i64 1, .int .i64 10, .int .i64 100, .int .i64 1000, .int .i64 10000, .int .i64 100000, .int .i64 1000000]
def keptPows : List AV := (List.range 20).map fun i => .int .u64 ((10 ^ i : Nat) : Int)
def keptPowsA : AV := .agg keptPows
def GZ (m : Int) : Glob := fun g => match g with
  | 0 => some tensA
  | 1 => some (.int .i64 m)
  | 2 => some .ifc
  | 3 => some .ifc
  | 6 => some keptPowsA
  | _ => none
def lowOf (k : Int) : Int := if k = 5 then 33 else 32
def mostOf (k : Int) : Int := if k = 5 then 32 else 64
def st12 (k n : Int) (s : List UInt8) : St := ⟨[some [.int .i64 k, .int .i64 n, .str s]], []⟩
def numK (k : Int) : Bool := decide (k = 2 ∨ k = 3)
def letK (k : Int) : Bool := decide (k = 4 ∨ k = 5)
structure Q9 (k n : Int) (s : List UInt8) : Prop where
  f : fieldsB k n s = true
  r : inR n = true
structure L12 (k n : Int) (s : List UInt8) : Prop where
  f : fieldsB k n s = true
  r : inR n = true
  k : k = 4 ∨ k = 5
structure M9 (k n : Int) (s : List UInt8) : Prop where
  q : L12 k n s
  l : (s.length : Int) ≤ mostOf k
  e : k = 5 → s ≠ []
structure I9 (k n : Int) (s : List UInt8) (i : Nat) : Prop where
  q : M9 k n s
  le : i ≤ s.length
  a : (s.take i).all (printB (lowOf k).toNat) = true
def a9 (k n : Int) (s : List UInt8) : Anns := ⟨fun q => match q with
  | 20 => some { α := Nat, slots := [1, 6, 88, 89], nb := 1, vals := fun i => [.ptr 0 0, .int .u8 (lowOf k), .int .i64 s.length, .int .i64 i], sS := fun _ => st12 k n s, I := fun i => I9 k n s i, μ := fun i => s.length - i }
  | 1000002 => some { α := Unit, slots := [1, 3], nb := 1, vals := fun _ => [.ptr 0 0, .bool (numK k)], sS := fun _ => st12 k n s, I := fun _ => True, μ := fun _ => 0, bools := [] }
  | 1000003 => some { α := Unit, slots := [1, 3, 4], nb := 1, vals := fun _ => [.ptr 0 0, .bool (numK k), .bool (letK k)], sS := fun _ => st12 k n s, I := fun _ => True, μ := fun _ => 0, bools := [3, 4] }
  | 1000010 => some { α := Unit, slots := [1, 4], nb := 1, vals := fun _ => [.ptr 0 0, .bool (letK k)], sS := fun _ => st12 k n s, I := fun _ => Q9 k n s, μ := fun _ => 0, bools := [4] }
  | 1000015 => some { α := Unit, slots := [1, 5, 6], nb := 1, vals := fun _ => [.ptr 0 0, .int .i64 (mostOf k), .int .u8 (lowOf k)], sS := fun _ => st12 k n s, I := fun _ => L12 k n s, μ := fun _ => 0 }
  | 1000019 => some { α := Unit, slots := [1, 6], nb := 1, vals := fun _ => [.ptr 0 0, .int .u8 (lowOf k)], sS := fun _ => st12 k n s, I := fun _ => M9 k n s, μ := fun _ => 0 }
  | _ => none, nA⟩
end Go.Abs

namespace Go.Abs
open Go.Proofs
theorem w6 (m k n : Int) (s : List UInt8) : (pureW PZ (GZ m) XZ (tbl []) (itbl []) nAn [] 6 [vA k n s] (.bool (shortB s), [])) =
((decide ((↑s.length : Int) ≤ (300 : Int)) = true → RetIs (AV.bool true) [] (AV.bool (shortB s), [])) ∧
  (decide ((↑s.length : Int) ≤ (300 : Int)) = false → RetIs (AV.bool false) [] (AV.bool (shortB s), []))) := by kernel_rfl
end Go.Abs

namespace Go.Abs
open Go.Proofs
theorem w9 (m k n c : Int) (s : List UInt8) : (pureW PZ (GZ m) XZ (tbl []) (itbl []) (a9 k n s) [] 9 [vA k n s] (.int .i64 c, [])) =
((((k == (2 : Int)) = true →
      ∃ (_y : Unit),
        ValsAre [AV.ptr (nat_lit 0) (nat_lit 0), AV.bool true] [AV.ptr (nat_lit 0) (nat_lit 0), AV.bool (numK k)] ∧
 StIs { boxes := [some [AV.int IntKind.i64 k, AV.int IntKind.i64 n, AV.str s]], live := [] }
 { boxes := [some [AV.int IntKind.i64 k, AV.int IntKind.i64 n, AV.str s]], live := [] } ∧
 True ∧ True) ∧
    ((k == (2 : Int)) = false →
      ((k == (3 : Int)) = true →
 ∃ (_y : Unit),
 ValsAre [AV.ptr (nat_lit 0) (nat_lit 0), AV.bool true] [AV.ptr (nat_lit 0) (nat_lit 0), AV.bool (numK k)] ∧
 StIs { boxes := [some [AV.int IntKind.i64 k, AV.int IntKind.i64 n, AV.str s]], live := [] }
 { boxes := [some [AV.int IntKind.i64 k, AV.int IntKind.i64 n, AV.str s]], live := [] } ∧
 True ∧ True) ∧
        ((k == (3 : Int)) = false →
 ∃ (_y : Unit),
 ValsAre [AV.ptr (nat_lit 0) (nat_lit 0), AV.bool false] [AV.ptr (nat_lit 0) (nat_lit 0), AV.bool (numK k)] ∧
 StIs { boxes := [some [AV.int IntKind.i64 k, AV.int IntKind.i64 n, AV.str s]], live := [] }
 { boxes := [some [AV.int IntKind.i64 k, AV.int IntKind.i64 n, AV.str s]], live := [] } ∧
 True ∧ True))) ∧
  ∀ (_x : Unit),
    True →
      True →
        (((k == (4 : Int)) = true →
 ∃ (_y : Unit),
 ValsAre [AV.ptr (nat_lit 0) (nat_lit 0), AV.bool (numK k), AV.bool true] [AV.ptr (nat_lit 0) (nat_lit 0), AV.bool (numK k), AV.bool (letK k)] ∧
 StIs { boxes := [some [AV.int IntKind.i64 k, AV.int IntKind.i64 n, AV.str s]], live := [] }
 { boxes := [some [AV.int IntKind.i64 k, AV.int IntKind.i64 n, AV.str s]], live := [] } ∧
 True ∧ True) ∧
 ((k == (4 : Int)) = false →
 ((k == (5 : Int)) = true →
 ∃ (_y : Unit),
 ValsAre [AV.ptr (nat_lit 0) (nat_lit 0), AV.bool (numK k), AV.bool true]
 [AV.ptr (nat_lit 0) (nat_lit 0), AV.bool (numK k), AV.bool (letK k)] ∧
 StIs { boxes := [some [AV.int IntKind.i64 k, AV.int IntKind.i64 n, AV.str s]], live := [] }
 { boxes := [some [AV.int IntKind.i64 k, AV.int IntKind.i64 n, AV.str s]], live := [] } ∧
 True ∧ True) ∧
 ((k == (5 : Int)) = false →
 ∃ (_y : Unit),
 ValsAre [AV.ptr (nat_lit 0) (nat_lit 0), AV.bool (numK k), AV.bool false]
 [AV.ptr (nat_lit 0) (nat_lit 0), AV.bool (numK k), AV.bool (letK k)] ∧
 StIs { boxes := [some [AV.int IntKind.i64 k, AV.int IntKind.i64 n, AV.str s]], live := [] }
 { boxes := [some [AV.int IntKind.i64 k, AV.int IntKind.i64 n, AV.str s]], live := [] } ∧
 True ∧ True))) ∧
 ∀ (_x : Unit),
 True →
 True →
 (numK k = true →
 (letK k = true →
 ((decide (k < (0 : Int)) = true → RetIs (AV.int IntKind.i64 (1 : Int)) [] (AV.int IntKind.i64 c, [])) ∧
 (decide (k < (0 : Int)) = false →
 (decide (k > (5 : Int)) = true → RetIs (AV.int IntKind.i64 (1 : Int)) [] (AV.int IntKind.i64 c, [])) ∧
 (decide (k > (5 : Int)) = false →
 (decide (n < (-1152921504606846976 : Int)) = true → RetIs (AV.int IntKind.i64 (2 : Int)) [] (AV.int IntKind.i64 c, [])) ∧
 (decide (n < (-1152921504606846976 : Int)) = false →
 (decide (n > (1152921504606846976 : Int)) = true → RetIs (AV.int IntKind.i64 (2 : Int)) [] (AV.int IntKind.i64 c, [])) ∧
 (decide (n > (1152921504606846976 : Int)) = false →
 ∃ (_y : Unit),
 ValsAre [AV.ptr (nat_lit 0) (nat_lit 0), AV.bool true] [AV.ptr (nat_lit 0) (nat_lit 0), AV.bool (letK k)] ∧
 StIs { boxes := [some [AV.int IntKind.i64 k, AV.int IntKind.i64 n, AV.str s]], live := [] }
 { boxes := [some [AV.int IntKind.i64 k, AV.int IntKind.i64 n, AV.str s]], live := [] } ∧
 Q9 k n s ∧ True))))) ∧
 ∀ (_x : Unit),
 Q9 k n s →
 True →
 (letK k = true →
 (((k == (5 : Int)) = true →
 ∃ (_y : Unit),
 ValsAre [AV.ptr (nat_lit 0) (nat_lit 0), AV.int IntKind.i64 (32 : Int), AV.int IntKind.u8 (33 : Int)]
 [AV.ptr (nat_lit 0) (nat_lit 0), AV.int IntKind.i64 (mostOf k), AV.int IntKind.u8 (lowOf k)] ∧
 StIs { boxes := [some [AV.int IntKind.i64 k, AV.int IntKind.i64 n, AV.str s]], live := [] }
 { boxes := [some [AV.int IntKind.i64 k, AV.int IntKind.i64 n, AV.str s]], live := [] } ∧
 L12 k n s ∧ True) ∧
 ((k == (5 : Int)) = false →
 ∃ (_y : Unit),
 ValsAre [AV.ptr (nat_lit 0) (nat_lit 0), AV.int IntKind.i64 (64 : Int), AV.int IntKind.u8 (32 : Int)]
 [AV.ptr (nat_lit 0) (nat_lit 0), AV.int IntKind.i64 (mostOf k), AV.int IntKind.u8 (lowOf k)] ∧
 StIs { boxes := [some [AV.int IntKind.i64 k, AV.int IntKind.i64 n, AV.str s]], live := [] }
 { boxes := [some [AV.int IntKind.i64 k, AV.int IntKind.i64 n, AV.str s]], live := [] } ∧
 L12 k n s ∧ True)) ∧
 ∀ (_x : Unit),
 L12 k n s →
 True →
 (decide ((↑s.length : Int) > mostOf k) = true →
 RetIs (AV.int IntKind.i64 (2 : Int)) [] (AV.int IntKind.i64 c, [])) ∧
 (decide ((↑s.length : Int) > mostOf k) = false →
 (((k == (5 : Int)) = true →
 ((s == []) = true → RetIs (AV.int IntKind.i64 (3 : Int)) [] (AV.int IntKind.i64 c, [])) ∧
 ((s == []) = false →
 ∃ (_y : Unit),
 ValsAre [AV.ptr (nat_lit 0) (nat_lit 0), AV.int IntKind.u8 (lowOf k)]
 [AV.ptr (nat_lit 0) (nat_lit 0), AV.int IntKind.u8 (lowOf k)] ∧
 StIs { boxes := [some [AV.int IntKind.i64 k, AV.int IntKind.i64 n, AV.str s]], live := [] }
 { boxes := [some [AV.int IntKind.i64 k, AV.int IntKind.i64 n, AV.str s]], live := [] } ∧
 M9 k n s ∧ True)) ∧
 ((k == (5 : Int)) = false →
 ∃ (_y : Unit),
 ValsAre [AV.ptr (nat_lit 0) (nat_lit 0), AV.int IntKind.u8 (lowOf k)]
 [AV.ptr (nat_lit 0) (nat_lit 0), AV.int IntKind.u8 (lowOf k)] ∧
 StIs { boxes := [some [AV.int IntKind.i64 k, AV.int IntKind.i64 n, AV.str s]], live := [] }
 { boxes := [some [AV.int IntKind.i64 k, AV.int IntKind.i64 n, AV.str s]], live := [] } ∧
 M9 k n s ∧ True)) ∧
 ∀ (_x : Unit),
 M9 k n s →
 True →
 (∃ (y : Nat),
 ValsAre
 [AV.ptr (nat_lit 0) (nat_lit 0), AV.int IntKind.u8 (lowOf k),
 AV.int IntKind.i64 (↑s.length : Int), AV.int IntKind.i64 (0 : Int)]
 [AV.ptr (nat_lit 0) (nat_lit 0), AV.int IntKind.u8 (lowOf k),
 AV.int IntKind.i64 (↑s.length : Int), AV.int IntKind.i64 (↑y : Int)] ∧
 StIs { boxes := [some [AV.int IntKind.i64 k, AV.int IntKind.i64 n, AV.str s]], live := [] }
 { boxes := [some [AV.int IntKind.i64 k, AV.int IntKind.i64 n, AV.str s]], live := [] } ∧
 I9 k n s y ∧ True) ∧
 ∀ (x : Nat),
 I9 k n s x →
 (decide ((↑x : Int) < (↑s.length : Int)) = true →
 (0 : Int) ≤ (↑x : Int) ∧
 ∃ (c_1 : UInt8),
 s[(↑x : Int).toNat]? = some c_1 ∧
 (decide ((↑c_1.toNat : Int) < lowOf k) = true →
 RetIs (AV.int IntKind.i64 (3 : Int)) [] (AV.int IntKind.i64 c, [])) ∧
 (decide ((↑c_1.toNat : Int) < lowOf k) = false →
 (decide ((↑c_1.toNat : Int) > (126 : Int)) = true →
 RetIs (AV.int IntKind.i64 (3 : Int)) [] (AV.int IntKind.i64 c, [])) ∧
 (decide ((↑c_1.toNat : Int) > (126 : Int)) = false →
 (((↑c_1.toNat : Int) == (34 : Int)) = true →
 RetIs (AV.int IntKind.i64 (3 : Int)) [] (AV.int IntKind.i64 c, [])) ∧
 (((↑c_1.toNat : Int) == (34 : Int)) = false →
 (((↑c_1.toNat : Int) == (92 : Int)) = true →
 RetIs (AV.int IntKind.i64 (3 : Int)) [] (AV.int IntKind.i64 c, [])) ∧
 (((↑c_1.toNat : Int) == (92 : Int)) = false →
 ∃ (y : Nat),
 ValsAre
 [AV.ptr (nat_lit 0) (nat_lit 0), AV.int IntKind.u8 (lowOf k),
 AV.int IntKind.i64 (↑s.length : Int),
 AV.int IntKind.i64 (IntKind.i64.wrap ((↑x : Int) + (1 : Int)))]
 [AV.ptr (nat_lit 0) (nat_lit 0), AV.int IntKind.u8 (lowOf k),
 AV.int IntKind.i64 (↑s.length : Int),
 AV.int IntKind.i64 (↑y : Int)] ∧
 StIs
 { boxes := [some [AV.int IntKind.i64 k, AV.int IntKind.i64 n, AV.str s]], live := [] }
 { boxes := [some [AV.int IntKind.i64 k, AV.int IntKind.i64 n, AV.str s]], live := [] } ∧
 I9 k n s y ∧ s.length - y < s.length - x))))) ∧
 (decide ((↑x : Int) < (↑s.length : Int)) = false →
 RetIs (AV.int IntKind.i64 (0 : Int)) [] (AV.int IntKind.i64 c, [])))) ∧
 (letK k = false → RetIs (AV.int IntKind.i64 (0 : Int)) [] (AV.int IntKind.i64 c, []))) ∧
 (letK k = false →
 ((decide (k < (0 : Int)) = true → RetIs (AV.int IntKind.i64 (1 : Int)) [] (AV.int IntKind.i64 c, [])) ∧
 (decide (k < (0 : Int)) = false →
 (decide (k > (5 : Int)) = true → RetIs (AV.int IntKind.i64 (1 : Int)) [] (AV.int IntKind.i64 c, [])) ∧
 (decide (k > (5 : Int)) = false →
 ((!s == []) = true → RetIs (AV.int IntKind.i64 (1 : Int)) [] (AV.int IntKind.i64 c, [])) ∧
 ((!s == []) = false →
 (decide (n < (-1152921504606846976 : Int)) = true → RetIs (AV.int IntKind.i64 (2 : Int)) [] (AV.int IntKind.i64 c, [])) ∧
 (decide (n < (-1152921504606846976 : Int)) = false →
 (decide (n > (1152921504606846976 : Int)) = true →
 RetIs (AV.int IntKind.i64 (2 : Int)) [] (AV.int IntKind.i64 c, [])) ∧
 (decide (n > (1152921504606846976 : Int)) = false →
 ∃ (_y : Unit),
 ValsAre [AV.ptr (nat_lit 0) (nat_lit 0), AV.bool false] [AV.ptr (nat_lit 0) (nat_lit 0), AV.bool (letK k)] ∧
 StIs { boxes := [some [AV.int IntKind.i64 k, AV.int IntKind.i64 n, AV.str s]], live := [] }
 { boxes := [some [AV.int IntKind.i64 k, AV.int IntKind.i64 n, AV.str s]], live := [] } ∧
 Q9 k n s ∧ True)))))) ∧
 ∀ (_x : Unit),
 Q9 k n s →
 True →
 (letK k = true →
 (((k == (5 : Int)) = true →
 ∃ (_y : Unit),
 ValsAre [AV.ptr (nat_lit 0) (nat_lit 0), AV.int IntKind.i64 (32 : Int), AV.int IntKind.u8 (33 : Int)]
 [AV.ptr (nat_lit 0) (nat_lit 0), AV.int IntKind.i64 (mostOf k), AV.int IntKind.u8 (lowOf k)] ∧
 StIs { boxes := [some [AV.int IntKind.i64 k, AV.int IntKind.i64 n, AV.str s]], live := [] }
 { boxes := [some [AV.int IntKind.i64 k, AV.int IntKind.i64 n, AV.str s]], live := [] } ∧
 L12 k n s ∧ True) ∧
 ((k == (5 : Int)) = false →
 ∃ (_y : Unit),
 ValsAre [AV.ptr (nat_lit 0) (nat_lit 0), AV.int IntKind.i64 (64 : Int), AV.int IntKind.u8 (32 : Int)]
 [AV.ptr (nat_lit 0) (nat_lit 0), AV.int IntKind.i64 (mostOf k), AV.int IntKind.u8 (lowOf k)] ∧
 StIs { boxes := [some [AV.int IntKind.i64 k, AV.int IntKind.i64 n, AV.str s]], live := [] }
 { boxes := [some [AV.int IntKind.i64 k, AV.int IntKind.i64 n, AV.str s]], live := [] } ∧
 L12 k n s ∧ True)) ∧
 ∀ (_x : Unit),
 L12 k n s →
 True →
 (decide ((↑s.length : Int) > mostOf k) = true →
 RetIs (AV.int IntKind.i64 (2 : Int)) [] (AV.int IntKind.i64 c, [])) ∧
 (decide ((↑s.length : Int) > mostOf k) = false →
 (((k == (5 : Int)) = true →
 ((s == []) = true → RetIs (AV.int IntKind.i64 (3 : Int)) [] (AV.int IntKind.i64 c, [])) ∧
 ((s == []) = false →
 ∃ (_y : Unit),
 ValsAre [AV.ptr (nat_lit 0) (nat_lit 0), AV.int IntKind.u8 (lowOf k)]
 [AV.ptr (nat_lit 0) (nat_lit 0), AV.int IntKind.u8 (lowOf k)] ∧
 StIs { boxes := [some [AV.int IntKind.i64 k, AV.int IntKind.i64 n, AV.str s]], live := [] }
 { boxes := [some [AV.int IntKind.i64 k, AV.int IntKind.i64 n, AV.str s]], live := [] } ∧
 M9 k n s ∧ True)) ∧
 ((k == (5 : Int)) = false →
 ∃ (_y : Unit),
 ValsAre [AV.ptr (nat_lit 0) (nat_lit 0), AV.int IntKind.u8 (lowOf k)]
 [AV.ptr (nat_lit 0) (nat_lit 0), AV.int IntKind.u8 (lowOf k)] ∧
 StIs { boxes := [some [AV.int IntKind.i64 k, AV.int IntKind.i64 n, AV.str s]], live := [] }
 { boxes := [some [AV.int IntKind.i64 k, AV.int IntKind.i64 n, AV.str s]], live := [] } ∧
 M9 k n s ∧ True)) ∧
 ∀ (_x : Unit),
 M9 k n s →
 True →
 (∃ (y : Nat),
 ValsAre
 [AV.ptr (nat_lit 0) (nat_lit 0), AV.int IntKind.u8 (lowOf k),
 AV.int IntKind.i64 (↑s.length : Int), AV.int IntKind.i64 (0 : Int)]
 [AV.ptr (nat_lit 0) (nat_lit 0), AV.int IntKind.u8 (lowOf k),
 AV.int IntKind.i64 (↑s.length : Int), AV.int IntKind.i64 (↑y : Int)] ∧
 StIs { boxes := [some [AV.int IntKind.i64 k, AV.int IntKind.i64 n, AV.str s]], live := [] }
 { boxes := [some [AV.int IntKind.i64 k, AV.int IntKind.i64 n, AV.str s]], live := [] } ∧
 I9 k n s y ∧ True) ∧
 ∀ (x : Nat),
 I9 k n s x →
 (decide ((↑x : Int) < (↑s.length : Int)) = true →
 (0 : Int) ≤ (↑x : Int) ∧
 ∃ (c_1 : UInt8),
 s[(↑x : Int).toNat]? = some c_1 ∧
 (decide ((↑c_1.toNat : Int) < lowOf k) = true →
 RetIs (AV.int IntKind.i64 (3 : Int)) [] (AV.int IntKind.i64 c, [])) ∧
 (decide ((↑c_1.toNat : Int) < lowOf k) = false →
 (decide ((↑c_1.toNat : Int) > (126 : Int)) = true →
 RetIs (AV.int IntKind.i64 (3 : Int)) [] (AV.int IntKind.i64 c, [])) ∧
 (decide ((↑c_1.toNat : Int) > (126 : Int)) = false →
 (((↑c_1.toNat : Int) == (34 : Int)) = true →
 RetIs (AV.int IntKind.i64 (3 : Int)) [] (AV.int IntKind.i64 c, [])) ∧
 (((↑c_1.toNat : Int) == (34 : Int)) = false →
 (((↑c_1.toNat : Int) == (92 : Int)) = true →
 RetIs (AV.int IntKind.i64 (3 : Int)) [] (AV.int IntKind.i64 c, [])) ∧
 (((↑c_1.toNat : Int) == (92 : Int)) = false →
 ∃ (y : Nat),
 ValsAre
 [AV.ptr (nat_lit 0) (nat_lit 0), AV.int IntKind.u8 (lowOf k),
 AV.int IntKind.i64 (↑s.length : Int),
 AV.int IntKind.i64 (IntKind.i64.wrap ((↑x : Int) + (1 : Int)))]
 [AV.ptr (nat_lit 0) (nat_lit 0), AV.int IntKind.u8 (lowOf k),
 AV.int IntKind.i64 (↑s.length : Int),
 AV.int IntKind.i64 (↑y : Int)] ∧
 StIs
 { boxes := [some [AV.int IntKind.i64 k, AV.int IntKind.i64 n, AV.str s]], live := [] }
 { boxes := [some [AV.int IntKind.i64 k, AV.int IntKind.i64 n, AV.str s]], live := [] } ∧
 I9 k n s y ∧ s.length - y < s.length - x))))) ∧
 (decide ((↑x : Int) < (↑s.length : Int)) = false →
 RetIs (AV.int IntKind.i64 (0 : Int)) [] (AV.int IntKind.i64 c, [])))) ∧
 (letK k = false → RetIs (AV.int IntKind.i64 (0 : Int)) [] (AV.int IntKind.i64 c, [])))) ∧
 (numK k = false →
 (letK k = true →
 ((decide (k < (0 : Int)) = true → RetIs (AV.int IntKind.i64 (1 : Int)) [] (AV.int IntKind.i64 c, [])) ∧
 (decide (k < (0 : Int)) = false →
 (decide (k > (5 : Int)) = true → RetIs (AV.int IntKind.i64 (1 : Int)) [] (AV.int IntKind.i64 c, [])) ∧
 (decide (k > (5 : Int)) = false →
 ((n != (0 : Int)) = true →
 ((k != (1 : Int)) = true → RetIs (AV.int IntKind.i64 (1 : Int)) [] (AV.int IntKind.i64 c, [])) ∧
 ((k != (1 : Int)) = false →
 ((n != (1 : Int)) = true → RetIs (AV.int IntKind.i64 (1 : Int)) [] (AV.int IntKind.i64 c, [])) ∧
 ((n != (1 : Int)) = false →
 (decide (n < (-1152921504606846976 : Int)) = true →
 RetIs (AV.int IntKind.i64 (2 : Int)) [] (AV.int IntKind.i64 c, [])) ∧
 (decide (n < (-1152921504606846976 : Int)) = false →
 (decide (n > (1152921504606846976 : Int)) = true →
 RetIs (AV.int IntKind.i64 (2 : Int)) [] (AV.int IntKind.i64 c, [])) ∧
 (decide (n > (1152921504606846976 : Int)) = false →
 ∃ (_y : Unit),
 ValsAre [AV.ptr (nat_lit 0) (nat_lit 0), AV.bool true]
 [AV.ptr (nat_lit 0) (nat_lit 0), AV.bool (letK k)] ∧
 StIs { boxes := [some [AV.int IntKind.i64 k, AV.int IntKind.i64 n, AV.str s]], live := [] }
 { boxes := [some [AV.int IntKind.i64 k, AV.int IntKind.i64 n, AV.str s]], live := [] } ∧
 Q9 k n s ∧ True))))) ∧
 ((n != (0 : Int)) = false →
 (decide (n < (-1152921504606846976 : Int)) = true → RetIs (AV.int IntKind.i64 (2 : Int)) [] (AV.int IntKind.i64 c, [])) ∧
 (decide (n < (-1152921504606846976 : Int)) = false →
 (decide (n > (1152921504606846976 : Int)) = true →
 RetIs (AV.int IntKind.i64 (2 : Int)) [] (AV.int IntKind.i64 c, [])) ∧
 (decide (n > (1152921504606846976 : Int)) = false →
 ∃ (_y : Unit),
 ValsAre [AV.ptr (nat_lit 0) (nat_lit 0), AV.bool true] [AV.ptr (nat_lit 0) (nat_lit 0), AV.bool (letK k)] ∧
 StIs { boxes := [some [AV.int IntKind.i64 k, AV.int IntKind.i64 n, AV.str s]], live := [] }
 { boxes := [some [AV.int IntKind.i64 k, AV.int IntKind.i64 n, AV.str s]], live := [] } ∧
 Q9 k n s ∧ True)))))) ∧
 ∀ (_x : Unit),
 Q9 k n s →
 True →
 (letK k = true →
 (((k == (5 : Int)) = true →
 ∃ (_y : Unit),
 ValsAre [AV.ptr (nat_lit 0) (nat_lit 0), AV.int IntKind.i64 (32 : Int), AV.int IntKind.u8 (33 : Int)]
 [AV.ptr (nat_lit 0) (nat_lit 0), AV.int IntKind.i64 (mostOf k), AV.int IntKind.u8 (lowOf k)] ∧
 StIs { boxes := [some [AV.int IntKind.i64 k, AV.int IntKind.i64 n, AV.str s]], live := [] }
 { boxes := [some [AV.int IntKind.i64 k, AV.int IntKind.i64 n, AV.str s]], live := [] } ∧
 L12 k n s ∧ True) ∧
 ((k == (5 : Int)) = false →
 ∃ (_y : Unit),
 ValsAre [AV.ptr (nat_lit 0) (nat_lit 0), AV.int IntKind.i64 (64 : Int), AV.int IntKind.u8 (32 : Int)]
 [AV.ptr (nat_lit 0) (nat_lit 0), AV.int IntKind.i64 (mostOf k), AV.int IntKind.u8 (lowOf k)] ∧
 StIs { boxes := [some [AV.int IntKind.i64 k, AV.int IntKind.i64 n, AV.str s]], live := [] }
 { boxes := [some [AV.int IntKind.i64 k, AV.int IntKind.i64 n, AV.str s]], live := [] } ∧
 L12 k n s ∧ True)) ∧
 ∀ (_x : Unit),
 L12 k n s →
 True →
 (decide ((↑s.length : Int) > mostOf k) = true →
 RetIs (AV.int IntKind.i64 (2 : Int)) [] (AV.int IntKind.i64 c, [])) ∧
 (decide ((↑s.length : Int) > mostOf k) = false →
 (((k == (5 : Int)) = true →
 ((s == []) = true → RetIs (AV.int IntKind.i64 (3 : Int)) [] (AV.int IntKind.i64 c, [])) ∧
 ((s == []) = false →
 ∃ (_y : Unit),
 ValsAre [AV.ptr (nat_lit 0) (nat_lit 0), AV.int IntKind.u8 (lowOf k)]
 [AV.ptr (nat_lit 0) (nat_lit 0), AV.int IntKind.u8 (lowOf k)] ∧
 StIs { boxes := [some [AV.int IntKind.i64 k, AV.int IntKind.i64 n, AV.str s]], live := [] }
 { boxes := [some [AV.int IntKind.i64 k, AV.int IntKind.i64 n, AV.str s]], live := [] } ∧
 M9 k n s ∧ True)) ∧
 ((k == (5 : Int)) = false →
 ∃ (_y : Unit),
 ValsAre [AV.ptr (nat_lit 0) (nat_lit 0), AV.int IntKind.u8 (lowOf k)]
 [AV.ptr (nat_lit 0) (nat_lit 0), AV.int IntKind.u8 (lowOf k)] ∧
 StIs { boxes := [some [AV.int IntKind.i64 k, AV.int IntKind.i64 n, AV.str s]], live := [] }
 { boxes := [some [AV.int IntKind.i64 k, AV.int IntKind.i64 n, AV.str s]], live := [] } ∧
 M9 k n s ∧ True)) ∧
 ∀ (_x : Unit),
 M9 k n s →
 True →
 (∃ (y : Nat),
 ValsAre
 [AV.ptr (nat_lit 0) (nat_lit 0), AV.int IntKind.u8 (lowOf k),
 AV.int IntKind.i64 (↑s.length : Int), AV.int IntKind.i64 (0 : Int)]
 [AV.ptr (nat_lit 0) (nat_lit 0), AV.int IntKind.u8 (lowOf k),
 AV.int IntKind.i64 (↑s.length : Int), AV.int IntKind.i64 (↑y : Int)] ∧
 StIs { boxes := [some [AV.int IntKind.i64 k, AV.int IntKind.i64 n, AV.str s]], live := [] }
 { boxes := [some [AV.int IntKind.i64 k, AV.int IntKind.i64 n, AV.str s]], live := [] } ∧
 I9 k n s y ∧ True) ∧
 ∀ (x : Nat),
 I9 k n s x →
 (decide ((↑x : Int) < (↑s.length : Int)) = true →
 (0 : Int) ≤ (↑x : Int) ∧
 ∃ (c_1 : UInt8),
 s[(↑x : Int).toNat]? = some c_1 ∧
 (decide ((↑c_1.toNat : Int) < lowOf k) = true →
 RetIs (AV.int IntKind.i64 (3 : Int)) [] (AV.int IntKind.i64 c, [])) ∧
 (decide ((↑c_1.toNat : Int) < lowOf k) = false →
 (decide ((↑c_1.toNat : Int) > (126 : Int)) = true →
 RetIs (AV.int IntKind.i64 (3 : Int)) [] (AV.int IntKind.i64 c, [])) ∧
 (decide ((↑c_1.toNat : Int) > (126 : Int)) = false →
 (((↑c_1.toNat : Int) == (34 : Int)) = true →
 RetIs (AV.int IntKind.i64 (3 : Int)) [] (AV.int IntKind.i64 c, [])) ∧
 (((↑c_1.toNat : Int) == (34 : Int)) = false →
 (((↑c_1.toNat : Int) == (92 : Int)) = true →
 RetIs (AV.int IntKind.i64 (3 : Int)) [] (AV.int IntKind.i64 c, [])) ∧
 (((↑c_1.toNat : Int) == (92 : Int)) = false →
 ∃ (y : Nat),
 ValsAre
 [AV.ptr (nat_lit 0) (nat_lit 0), AV.int IntKind.u8 (lowOf k),
 AV.int IntKind.i64 (↑s.length : Int),
 AV.int IntKind.i64 (IntKind.i64.wrap ((↑x : Int) + (1 : Int)))]
 [AV.ptr (nat_lit 0) (nat_lit 0), AV.int IntKind.u8 (lowOf k),
 AV.int IntKind.i64 (↑s.length : Int),
 AV.int IntKind.i64 (↑y : Int)] ∧
 StIs
 { boxes := [some [AV.int IntKind.i64 k, AV.int IntKind.i64 n, AV.str s]], live := [] }
 { boxes := [some [AV.int IntKind.i64 k, AV.int IntKind.i64 n, AV.str s]], live := [] } ∧
 I9 k n s y ∧ s.length - y < s.length - x))))) ∧
 (decide ((↑x : Int) < (↑s.length : Int)) = false →
 RetIs (AV.int IntKind.i64 (0 : Int)) [] (AV.int IntKind.i64 c, [])))) ∧
 (letK k = false → RetIs (AV.int IntKind.i64 (0 : Int)) [] (AV.int IntKind.i64 c, []))) ∧
 (letK k = false →
 ((decide (k < (0 : Int)) = true → RetIs (AV.int IntKind.i64 (1 : Int)) [] (AV.int IntKind.i64 c, [])) ∧
 (decide (k < (0 : Int)) = false →
 (decide (k > (5 : Int)) = true → RetIs (AV.int IntKind.i64 (1 : Int)) [] (AV.int IntKind.i64 c, [])) ∧
 (decide (k > (5 : Int)) = false →
 ((!s == []) = true → RetIs (AV.int IntKind.i64 (1 : Int)) [] (AV.int IntKind.i64 c, [])) ∧
 ((!s == []) = false →
 ((n != (0 : Int)) = true →
 ((k != (1 : Int)) = true → RetIs (AV.int IntKind.i64 (1 : Int)) [] (AV.int IntKind.i64 c, [])) ∧
 ((k != (1 : Int)) = false →
 ((n != (1 : Int)) = true → RetIs (AV.int IntKind.i64 (1 : Int)) [] (AV.int IntKind.i64 c, [])) ∧
 ((n != (1 : Int)) = false →
 (decide (n < (-1152921504606846976 : Int)) = true →
 RetIs (AV.int IntKind.i64 (2 : Int)) [] (AV.int IntKind.i64 c, [])) ∧
 (decide (n < (-1152921504606846976 : Int)) = false →
 (decide (n > (1152921504606846976 : Int)) = true →
 RetIs (AV.int IntKind.i64 (2 : Int)) [] (AV.int IntKind.i64 c, [])) ∧
 (decide (n > (1152921504606846976 : Int)) = false →
 ∃ (_y : Unit),
 ValsAre [AV.ptr (nat_lit 0) (nat_lit 0), AV.bool false]
 [AV.ptr (nat_lit 0) (nat_lit 0), AV.bool (letK k)] ∧
 StIs { boxes := [some [AV.int IntKind.i64 k, AV.int IntKind.i64 n, AV.str s]], live := [] }
 { boxes := [some [AV.int IntKind.i64 k, AV.int IntKind.i64 n, AV.str s]], live := [] } ∧
 Q9 k n s ∧ True))))) ∧
 ((n != (0 : Int)) = false →
 (decide (n < (-1152921504606846976 : Int)) = true →
 RetIs (AV.int IntKind.i64 (2 : Int)) [] (AV.int IntKind.i64 c, [])) ∧
 (decide (n < (-1152921504606846976 : Int)) = false →
 (decide (n > (1152921504606846976 : Int)) = true →
 RetIs (AV.int IntKind.i64 (2 : Int)) [] (AV.int IntKind.i64 c, [])) ∧
 (decide (n > (1152921504606846976 : Int)) = false →
 ∃ (_y : Unit),
 ValsAre [AV.ptr (nat_lit 0) (nat_lit 0), AV.bool false] [AV.ptr (nat_lit 0) (nat_lit 0), AV.bool (letK k)] ∧
 StIs { boxes := [some [AV.int IntKind.i64 k, AV.int IntKind.i64 n, AV.str s]], live := [] }
 { boxes := [some [AV.int IntKind.i64 k, AV.int IntKind.i64 n, AV.str s]], live := [] } ∧
 Q9 k n s ∧ True))))))) ∧
 ∀ (_x : Unit),
 Q9 k n s →
 True →
 (letK k = true →
 (((k == (5 : Int)) = true →
 ∃ (_y : Unit),
 ValsAre [AV.ptr (nat_lit 0) (nat_lit 0), AV.int IntKind.i64 (32 : Int), AV.int IntKind.u8 (33 : Int)]
 [AV.ptr (nat_lit 0) (nat_lit 0), AV.int IntKind.i64 (mostOf k), AV.int IntKind.u8 (lowOf k)] ∧
 StIs { boxes := [some [AV.int IntKind.i64 k, AV.int IntKind.i64 n, AV.str s]], live := [] }
 { boxes := [some [AV.int IntKind.i64 k, AV.int IntKind.i64 n, AV.str s]], live := [] } ∧
 L12 k n s ∧ True) ∧
 ((k == (5 : Int)) = false →
 ∃ (_y : Unit),
 ValsAre [AV.ptr (nat_lit 0) (nat_lit 0), AV.int IntKind.i64 (64 : Int), AV.int IntKind.u8 (32 : Int)]
 [AV.ptr (nat_lit 0) (nat_lit 0), AV.int IntKind.i64 (mostOf k), AV.int IntKind.u8 (lowOf k)] ∧
 StIs { boxes := [some [AV.int IntKind.i64 k, AV.int IntKind.i64 n, AV.str s]], live := [] }
 { boxes := [some [AV.int IntKind.i64 k, AV.int IntKind.i64 n, AV.str s]], live := [] } ∧
 L12 k n s ∧ True)) ∧
 ∀ (_x : Unit),
 L12 k n s →
 True →
 (decide ((↑s.length : Int) > mostOf k) = true →
 RetIs (AV.int IntKind.i64 (2 : Int)) [] (AV.int IntKind.i64 c, [])) ∧
 (decide ((↑s.length : Int) > mostOf k) = false →
 (((k == (5 : Int)) = true →
 ((s == []) = true → RetIs (AV.int IntKind.i64 (3 : Int)) [] (AV.int IntKind.i64 c, [])) ∧
 ((s == []) = false →
 ∃ (_y : Unit),
 ValsAre [AV.ptr (nat_lit 0) (nat_lit 0), AV.int IntKind.u8 (lowOf k)]
 [AV.ptr (nat_lit 0) (nat_lit 0), AV.int IntKind.u8 (lowOf k)] ∧
 StIs { boxes := [some [AV.int IntKind.i64 k, AV.int IntKind.i64 n, AV.str s]], live := [] }
 { boxes := [some [AV.int IntKind.i64 k, AV.int IntKind.i64 n, AV.str s]], live := [] } ∧
 M9 k n s ∧ True)) ∧
 ((k == (5 : Int)) = false →
 ∃ (_y : Unit),
 ValsAre [AV.ptr (nat_lit 0) (nat_lit 0), AV.int IntKind.u8 (lowOf k)]
 [AV.ptr (nat_lit 0) (nat_lit 0), AV.int IntKind.u8 (lowOf k)] ∧
 StIs { boxes := [some [AV.int IntKind.i64 k, AV.int IntKind.i64 n, AV.str s]], live := [] }
 { boxes := [some [AV.int IntKind.i64 k, AV.int IntKind.i64 n, AV.str s]], live := [] } ∧
 M9 k n s ∧ True)) ∧
 ∀ (_x : Unit),
 M9 k n s →
 True →
 (∃ (y : Nat),
 ValsAre
 [AV.ptr (nat_lit 0) (nat_lit 0), AV.int IntKind.u8 (lowOf k),
 AV.int IntKind.i64 (↑s.length : Int), AV.int IntKind.i64 (0 : Int)]
 [AV.ptr (nat_lit 0) (nat_lit 0), AV.int IntKind.u8 (lowOf k),
 AV.int IntKind.i64 (↑s.length : Int), AV.int IntKind.i64 (↑y : Int)] ∧
 StIs { boxes := [some [AV.int IntKind.i64 k, AV.int IntKind.i64 n, AV.str s]], live := [] }
 { boxes := [some [AV.int IntKind.i64 k, AV.int IntKind.i64 n, AV.str s]], live := [] } ∧
 I9 k n s y ∧ True) ∧
 ∀ (x : Nat),
 I9 k n s x →
 (decide ((↑x : Int) < (↑s.length : Int)) = true →
 (0 : Int) ≤ (↑x : Int) ∧
 ∃ (c_1 : UInt8),
 s[(↑x : Int).toNat]? = some c_1 ∧
 (decide ((↑c_1.toNat : Int) < lowOf k) = true →
 RetIs (AV.int IntKind.i64 (3 : Int)) [] (AV.int IntKind.i64 c, [])) ∧
 (decide ((↑c_1.toNat : Int) < lowOf k) = false →
 (decide ((↑c_1.toNat : Int) > (126 : Int)) = true →
 RetIs (AV.int IntKind.i64 (3 : Int)) [] (AV.int IntKind.i64 c, [])) ∧
 (decide ((↑c_1.toNat : Int) > (126 : Int)) = false →
 (((↑c_1.toNat : Int) == (34 : Int)) = true →
 RetIs (AV.int IntKind.i64 (3 : Int)) [] (AV.int IntKind.i64 c, [])) ∧
 (((↑c_1.toNat : Int) == (34 : Int)) = false →
 (((↑c_1.toNat : Int) == (92 : Int)) = true →
 RetIs (AV.int IntKind.i64 (3 : Int)) [] (AV.int IntKind.i64 c, [])) ∧
 (((↑c_1.toNat : Int) == (92 : Int)) = false →
 ∃ (y : Nat),
 ValsAre
 [AV.ptr (nat_lit 0) (nat_lit 0), AV.int IntKind.u8 (lowOf k),
 AV.int IntKind.i64 (↑s.length : Int),
 AV.int IntKind.i64 (IntKind.i64.wrap ((↑x : Int) + (1 : Int)))]
 [AV.ptr (nat_lit 0) (nat_lit 0), AV.int IntKind.u8 (lowOf k),
 AV.int IntKind.i64 (↑s.length : Int),
 AV.int IntKind.i64 (↑y : Int)] ∧
 StIs
 { boxes := [some [AV.int IntKind.i64 k, AV.int IntKind.i64 n, AV.str s]], live := [] }
 { boxes := [some [AV.int IntKind.i64 k, AV.int IntKind.i64 n, AV.str s]], live := [] } ∧
 I9 k n s y ∧ s.length - y < s.length - x))))) ∧
 (decide ((↑x : Int) < (↑s.length : Int)) = false →
 RetIs (AV.int IntKind.i64 (0 : Int)) [] (AV.int IntKind.i64 c, [])))) ∧
 (letK k = false → RetIs (AV.int IntKind.i64 (0 : Int)) [] (AV.int IntKind.i64 c, []))))) := by kernel_rfl
end Go.Abs

namespace Go.Abs
open Go.Proofs
theorem tbl_hit {g : FuncId} {s : Spec} {l : List (FuncId × Spec)} {args : List AV} : tbl ((g, s) :: l) g args = s args := by simp only [tbl, if_true]
theorem tbl_miss {g f : FuncId} {s : Spec} {l : List (FuncId × Spec)} {args : List AV} (h : f ≠ g) : tbl ((g, s) :: l) f args = tbl l f args := by
  simp only [tbl]; rw [if_neg (by exact fun e => h e)]
theorem p6 (m k n : Int) (s : List UInt8) : PureOk PZ (GZ m) XZ (tbl []) (itbl []) nAn [] 6 [vA k n s] (.bool (shortB s), []) := by
  constructor
  rw [w6]
  simp only [retIs_iff, Prod.mk.injEq, AV.bool.injEq, and_true, shortB, decide_eq_true_eq, decide_eq_false_iff_not]
  exact ⟨fun h => (decide_eq_true (by omega)).symm, fun h => (decide_eq_false (by omega)).symm⟩
theorem all_take_succ {p : UInt8 → Bool} {s : List UInt8} {i : Nat} (h : i < s.length) : (s.take (i + 1)).all p = ((s.take i).all p && p s[i]) := by
  rw [List.take_succ_eq_append_getElem h, List.all_append]; simp
theorem all_false_at {p : UInt8 → Bool} {s : List UInt8} {i : Nat} (h : i < s.length) (hp : p s[i] = false) : s.all p = false := by
  rw [List.all_eq_false]; exact ⟨_, List.getElem_mem h, by simpa using hp⟩
theorem checkI_num {k n : Int} {s : List UInt8} (h : ¬ (k = 4 ∨ k = 5)) (hf : fieldsB k n s = true) (hr : inR n = true) : checkI k n s = 0 := by
  unfold checkI
  rw [if_neg (by simp [hf]), if_neg (by simp [hr]; omega), if_neg (by omega)]
theorem p9 (m k n : Int) (s : List UInt8) (hs : strOk s) : PureOk PZ (GZ m) XZ (tbl []) (itbl []) (a9 k n s) [] 9 [vA k n s] (.int .i64 (checkI k n s), []) := by
  have hs' : s.length ≤ 1000000 := hs
  constructor
  generalize hc : checkI k n s = c
  rw [w9]
  have e0 : s = [] ↔ s.length = 0 := ⟨fun h => by rw [h]; rfl, List.eq_nil_of_length_eq_zero⟩
  have h1 : k < 0 ∨ 5 < k → 1 = c := fun h => by rw [← hc]; unfold checkI fieldsB; rw [if_pos]; rw [if_neg (by omega), if_neg (by omega), if_neg (by omega), if_neg (by omega)]
  have h2 : letK k = false → s ≠ [] → 1 = c := fun h h' => by
    have : ¬ (k = 4 ∨ k = 5) := by simpa [letK] using h
    rw [← hc]; unfold checkI fieldsB; rw [if_pos]; simp [h']; omega
  have h3 : numK k = false → n ≠ 0 → k ≠ 1 ∨ n ≠ 1 → 1 = c := fun h h' h3 => by
    have : ¬ (k = 2 ∨ k = 3) := by simpa [numK] using h
    rw [← hc]; unfold checkI fieldsB; rw [if_pos]; simp [h', this]; omega
  have hfld : ¬ (k < 0) → ¬ (5 < k) → (letK k = false → s = []) → (numK k = false → n = 0 ∨ (k = 1 ∧ n = 1)) → fieldsB k n s = true := fun a b d e => by
    unfold fieldsB letK numK at *
    simp only [decide_eq_false_iff_not] at d e
    by_cases k0 : k = 0
    · rw [if_pos k0]; simp; exact ⟨by omega, d (by omega)⟩
    by_cases k1 : k = 1
    · rw [if_neg k0, if_pos k1]; simp; exact ⟨by omega, d (by omega)⟩
    by_cases k2 : k = 2 ∨ k = 3
    · rw [if_neg k0, if_neg k1, if_pos k2]; simp; exact d (by omega)
    rw [if_neg k0, if_neg k1, if_neg k2, if_pos (by omega)]; simp; omega
  have h4 : fieldsB k n s = true → (n < -1152921504606846976 ∨ 1152921504606846976 < n) → 2 = c := fun a b => by
    rw [← hc]; unfold checkI inR; rw [if_neg (by simp [a]), if_pos]; left; simp; omega
  have h5 : fieldsB k n s = true → inR n = true → letK k = false → 0 = c := fun a b d => by
    rw [← hc, checkI_num (by simpa [letK] using d) a b]
  have h6 : L12 k n s → mostOf k < s.length → 2 = c := fun q l => by
    obtain ⟨a, b, d⟩ := q
    rw [← hc]; unfold checkI; rw [if_neg (by simp [a]), if_pos]
    unfold mostOf at l
    rcases d with d | d
    · rw [if_neg (by omega)] at l; omega
    · rw [if_pos d] at l; omega
  have h7 : L12 k n s → (s.length : Int) ≤ mostOf k → k = 5 → s = [] → 3 = c := fun q l hk he => by
    obtain ⟨a, b, d⟩ := q
    rw [← hc]; unfold checkI; rw [if_neg (by simp [a]), if_neg, if_pos]
    · right; refine ⟨hk, ?_⟩; unfold keyB; rw [he]; rfl
    · simp [b, he]
  have bad : ∀ i (h : i < s.length), M9 k n s → printB (lowOf k).toNat s[i] = false → 3 = c := fun i h q hp => by
    obtain ⟨⟨a, b, d⟩, l, e⟩ := q
    have hall := all_false_at h hp
    unfold mostOf at l
    rw [← hc]; unfold checkI; rw [if_neg (by simp [a]), if_neg, if_pos]
    · unfold lowOf at hall
      rcases d with d | d
      · left; refine ⟨d, ?_⟩; rw [if_neg (by omega)] at hall; unfold textB; simp only [Int.reduceToNat] at hall; rw [hall, Bool.and_false]
      · right; refine ⟨d, ?_⟩; rw [if_pos d] at hall; unfold keyB; simp only [Int.reduceToNat] at hall; rw [hall, Bool.and_false]
    · simp only [b, Bool.true_eq_false, false_or]
      split at l <;> omega
  have good : M9 k n s → s.all (printB (lowOf k).toNat) = true → 0 = c := fun q hall => by
    obtain ⟨⟨a, b, d⟩, l, e⟩ := q
    unfold mostOf at l
    rw [← hc]; unfold checkI; rw [if_neg (by simp [a]), if_neg, if_neg]
    · unfold lowOf at hall
      rcases d with d | d
      · rw [if_neg (by omega)] at hall; rw [if_neg (by omega)] at l; simp only [Int.reduceToNat] at hall; unfold textB; rw [hall, decide_eq_true (by omega)]; simp; omega
      · rw [if_pos d] at hall; rw [if_pos d] at l; simp only [Int.reduceToNat] at hall; unfold keyB; rw [hall, decide_eq_true (p := s.length ≤ 32) (by omega), decide_eq_true (p := s ≠ []) (e d)]; simp; omega
    · simp only [b, Bool.true_eq_false, false_or]
      split at l <;> omega
  simp only [valsAre_iff, stIs_iff, retIs_iff, Prod.mk.injEq, AV.bool.injEq, AV.int.injEq, List.cons.injEq, and_true, true_and, decide_eq_true_eq, decide_eq_false_iff_not, beq_iff_eq, beq_eq_false_iff_ne, ne_eq, Int.toNat_natCast, gt_iff_lt, Bool.not_eq_true', Bool.not_eq_false', forall_const, exists_const, bne_iff_ne, bne_eq_false_iff_eq]
  have fld : ¬ (k < 0) → ¬ (5 < k) → (letK k = true ∨ s = []) → (numK k = true ∨ n = 0 ∨ (k = 1 ∧ n = 1)) → fieldsB k n s = true := fun a b d e => hfld a b (fun h => by rcases d with d | d; (rw [d] at h; cases h); exact d) (fun h => by rcases e with e | e; (rw [e] at h; cases h); exact e)
  have tail : Q9 k n s → letK k = true → L12 k n s := fun q h => ⟨q.f, q.r, by simpa [letK] using h⟩
  have l5 : k = 5 → 32 = mostOf k ∧ 33 = lowOf k := fun h => by unfold mostOf lowOf; rw [if_pos h, if_pos h]; exact ⟨rfl, rfl⟩
  have l4 : ¬ k = 5 → 64 = mostOf k ∧ 32 = lowOf k := fun h => by unfold mostOf lowOf; rw [if_neg h, if_neg h]; exact ⟨rfl, rfl⟩
  have hlow : 0 ≤ lowOf k := by unfold lowOf; split <;> omega
  have loop : ∀ x, I9 k n s x → (↑x < (s.length : Int) → 0 ≤ (x : Int) ∧ ∃ c_1, s[x]? = some c_1 ∧ ((c_1.toNat : Int) < lowOf k → 3 = c) ∧ (¬(c_1.toNat : Int) < lowOf k → (126 < (c_1.toNat : Int) → 3 = c) ∧ (¬126 < (c_1.toNat : Int) → ((c_1.toNat : Int) = 34 → 3 = c) ∧ (¬(c_1.toNat : Int) = 34 → ((c_1.toNat : Int) = 92 → 3 = c) ∧ (¬(c_1.toNat : Int) = 92 → ∃ y : Nat, IntKind.i64.wrap (↑x + 1) = ↑y ∧ I9 k n s y ∧ s.length - y < s.length - x))))) ∧ (¬(x : Int) < s.length → 0 = c) := fun x hx => by
    refine ⟨fun hlt => ?_, fun hge => good hx.q ?_⟩
    · have hlt' : x < s.length := by omega
      have hp : printB (lowOf k).toNat s[x] = decide (lowOf k ≤ (s[x].toNat : Int) ∧ (s[x].toNat : Int) ≤ 126 ∧ (s[x].toNat : Int) ≠ 34 ∧ (s[x].toNat : Int) ≠ 92) := by
        unfold printB
        rw [Bool.eq_iff_iff]
        simp only [Bool.and_eq_true, decide_eq_true_eq]
        omega
      have key : ¬ (lowOf k ≤ (s[x].toNat : Int) ∧ (s[x].toNat : Int) ≤ 126 ∧ (s[x].toNat : Int) ≠ 34 ∧ (s[x].toNat : Int) ≠ 92) → 3 = c := fun hn => bad x hlt' hx.q (by rw [hp]; exact decide_eq_false hn)
      refine ⟨by omega, s[x], List.getElem?_eq_getElem hlt', fun h => key (by omega), fun h => ⟨fun h => key (by omega), fun h => ⟨fun h => key (by omega), fun h => ⟨fun h => key (by omega), fun h => ⟨x + 1, ?_, ⟨hx.q, hlt', ?_⟩, by omega⟩⟩⟩⟩⟩
      · rw [wrap64_in (by omega) (by omega)]; omega
      · rw [all_take_succ hlt', hx.a, hp]; simp; omega
    · have : s.take x = s := List.take_of_length_le (by have := hx.le; omega)
      rw [← this]; exact hx.a
  repeat' (first | exact loop _ ‹_› | refine And.intro ?_ ?_ | intro _)
  all_goals first
    | (simp only [numK, letK]; simp; omega)
    | exact (Eq.symm ‹_›)
    | exact h1 (by omega)
    | exact h2 ‹_› ‹_›
    | exact h3 ‹_› ‹_› (by omega)
    | exact h4 (fld (by omega) (by omega) (by first | exact .inl ‹_› | exact .inr ‹_›) (by first | exact .inl ‹_› | omega)) (by omega)
    | exact h5 (Q9.f ‹_›) (Q9.r ‹_›) ‹_›
    | exact h6 ‹_› ‹_›
    | exact h7 ‹_› (by omega) ‹_› ‹_›
    | exact (⟨fld (by omega) (by omega) (by first | exact .inl ‹_› | exact .inr ‹_›) (by first | exact .inl ‹_› | omega), by unfold inR; exact decide_eq_true (by omega)⟩ : Q9 k n s)
    | exact tail ‹_› ‹_›
    | exact (l5 ‹_›).1 | exact (l5 ‹_›).2 | exact (l4 ‹_›).1 | exact (l4 ‹_›).2
    | exact (⟨‹_›, by omega, fun _ => ‹_›⟩ : M9 k n s)
    | exact (⟨‹_›, by omega, fun h => absurd h ‹_›⟩ : M9 k n s)
    | exact ⟨0, rfl, ⟨‹_›, Nat.zero_le _, by simp⟩⟩
    | trace_state
variable {G : Glob}
theorem sVal_of {X : Shapes} {R : Callee} {C : CCallee} {m : Int} {g : FuncId} {f : Int → Int → List UInt8 → AV} (hR : CalleeOk PZ (GZ m) R) (hC : ICalleeOk PZ (GZ m) (lowC C))
    (h : ∀ k n s, strOk s → ∃ A, PureOk PZ (GZ m) X R C A [] g [vA k n s] (f k n s, [])) : SpecOk PZ (GZ m) g (sVal f) := spec_of (X := X) (m := []) mixedZ hR hC fun args r h' => by
  unfold sVal at h'
  split at h'
  · split at h'
    · rename_i hs
      injection h' with h'; subst h'; exact h _ _ _ hs
    · cases h'
  · cases h'
theorem o9 (m : Int) : SpecOk PZ (GZ m) 9 s9 := sVal_of (X := XZ) tbl_nil itbl_nil fun k n s hs => ⟨a9 k n s, p9 m k n s hs⟩
end Go.Abs

namespace Go.Abs
open Go.Proofs Go.Wire
def onBytes (es : List AV) (f : List UInt8 → Option (AV × List (Nat × TypeId))) : Option (AV × List (Nat × TypeId)) :=
  match unBytes es with
  | some bs => f bs
  | none => none
/-- bytes of one's own -/
def ownR (l : List UInt8) : AV × List (Nat × TypeId) := (.sl 1 (bytesL l) (.tok 0), [(l.length, 5)])
def zig (n : Int) : Nat := if 0 ≤ n then (2 * n).toNat else (-2 * n - 1).toNat
def unzig (v : Nat) : Int := if v % 2 = 1 then -((v / 2 : Nat) : Int) - 1 else ((v / 2 : Nat) : Int)
def textL (s : List UInt8) : List UInt8 := uintL s.length ++ s
def encL (k n : Int) (s : List UInt8) : List UInt8 :=
  UInt8.ofNat (IntKind.u8.wrap k).toNat :: (if k = 1 then [UInt8.ofNat (IntKind.u8.wrap n).toNat] else if k = 2 ∨ k = 3 then uintL (zig n) else if k = 4 ∨ k = 5 then textL s else [])
def u64Ok (n : Int) : Prop := 0 ≤ n ∧ n < 18446744073709551616
instance (n : Int) : Decidable (u64Ok n) := inferInstanceAs (Decidable (_ ∧ _))
def i64Ok (n : Int) : Prop := -9223372036854775808 ≤ n ∧ n < 9223372036854775808
instance (n : Int) : Decidable (i64Ok n) := inferInstanceAs (Decidable (_ ∧ _))
def sBytesNum (k : IntKind) (p : Int → Prop) [∀ n, Decidable (p n)] (f : List UInt8 → Int → AV × List (Nat × TypeId)) : Spec := fun args => match args with
  | [.sl sz es _, .int k' n] => if (sz = 1 ∨ es = []) ∧ k' = k then onBytes es fun bs => if strOk bs ∧ p n then some (f bs n) else none else none
  | _ => none
def s34 : Spec := sBytesNum .u64 u64Ok fun bs n => ownR (bs ++ uintL n.toNat)
def s14 : Spec := sBytesNum .i64 i64Ok fun bs n => ownR (bs ++ uintL (zig n))
def s29 : Spec := fun args => match args with
  | [.sl sz es _, .str s] => if sz = 1 ∨ es = [] then onBytes es fun bs => if strOk bs ∧ strOk s then some (ownR (bs ++ textL s)) else none else none
  | _ => none
def smallOk (s : List UInt8) : Prop := s.length ≤ 900000
instance (s : List UInt8) : Decidable (smallOk s) := inferInstanceAs (Decidable (_ ≤ _))
def appL (bs : List UInt8) (k n : Int) (s : List UInt8) : List UInt8 := bs ++ (if validB k n s = true then encL k n s else [])
def sApp (f : List UInt8 → AV × List (Nat × TypeId)) : Spec := fun args => match args with
  | [.sl sz es _, .agg [.int .i64 k, .int .i64 n, .str s]] => if sz = 1 ∨ es = [] then onBytes es fun bs => if smallOk bs ∧ strOk s ∧ i64Ok n then some (f (appL bs k n s)) else none else none
  | _ => none
def s11 : Spec := sApp ownR
def shOwn : Sh × Option TypeId := (.val (.one (.sl 1 (.tok 0))), some 5)
def shLax : Sh × Option TypeId := (.val (.one (.sl 1 .no)), none)
def XN : Shapes := fun f => match f with
  | 9 => some shI
  | 6 | 18 => some shB
  | 11 | 14 | 29 | 34 => some shOwn
  | _ => none
structure X34 where
  pre : List UInt8
  n : Nat
structure I34 (b : List UInt8) (N : Nat) (x : X34) : Prop where
  e : x.pre ++ uintL x.n = b ++ uintL N
  n : x.n ≤ N
  c : x.pre.length + (uintL x.n).length ≤ b.length + (uintL N).length
def a34 (bs : List UInt8) (N : Nat) : Anns := ⟨fun q => if q = 2 then some { α := X34, slots := [1, 4], nb := 0, vals := fun x => [.int .u64 x.n, .sl 1 (bytesL x.pre) (.tok 0)], sS := fun x => ⟨[], [(x.pre.length, 5)]⟩, I := I34 bs N, μ := fun x => x.n, peel := 1 } else none, nA⟩
end Go.Abs

namespace Go.Abs
open Go.Proofs
theorem w34 (m : Int) (N : Nat) (bs r : List UInt8) : (pureW PZ (GZ m) XN (tbl []) (itbl []) (a34 bs N) [] 34 [bytesA bs, .int .u64 (N : Nat)] (ownR r)) =
((0 : Int) ≤ (↑(bytesL bs).length : Int) ∧
  (nat_lit 0 ≤ (↑(bytesL bs).length : Int).toNat ∧ (↑(bytesL bs).length : Int).toNat ≤ (bytesL bs).length) ∧
    (nat_lit 1 = nat_lit 1 ∨ bytesL bs = []) ∧
      ((some (AV.int IntKind.i64 (↑(bytesL bs).length : Int))).isSome = true ∧
 (↑(↑(bytesL bs).length : Int).toNat : Int) ≤ (↑(bytesL bs).length : Int) ∧ (↑(bytesL bs).length : Int) ≤ (↑(bytesL bs).length : Int)) ∧
        ((↑(bytesL bs).length : Int).toNat = (↑(bytesL bs).length : Int).toNat →
 (decide ((↑N : Int) ≥ (128 : Int)) = true →
 (nat_lit 1 = nat_lit 1 ∨ List.drop (nat_lit 0) (List.take (↑(bytesL bs).length : Int).toNat (bytesL bs)) = []) ∧
 ((List.drop (nat_lit 0) (List.take (↑(bytesL bs).length : Int).toNat (bytesL bs))).length + (1 : Nat)) * nat_lit 2 ≤ nat_lit 70368744177664 ∧
 (0 : Int) ≤ (7 : Int) ∧
 (∃ (y : X34),
 ValsAre
 [AV.int IntKind.u64 ((↑N : Int).fdiv (128 : Int)),
 AV.sl (nat_lit 1)
 (List.drop (nat_lit 0) (List.take (↑(bytesL bs).length : Int).toNat (bytesL bs)) ++
 [AV.int IntKind.u8
 (IntKind.u8.wrap
 (↑(BitVec.ofInt IntKind.u8.bits (IntKind.u8.wrap (↑N : Int)) ||| BitVec.ofInt IntKind.u8.bits (128 : Int)).toNat :
 Int))])
 (Own.tok (nat_lit 0))]
 [AV.int IntKind.u64 (↑y.n : Int), AV.sl (nat_lit 1) (bytesL y.pre) (Own.tok (nat_lit 0))] ∧
 StIs
 { boxes := [], live := [((List.drop (nat_lit 0) (List.take (↑(bytesL bs).length : Int).toNat (bytesL bs))).length + nat_lit 1, nat_lit 5)] }
 { boxes := [], live := [(y.pre.length, nat_lit 5)] } ∧
 I34 bs N y ∧ True) ∧
 ∀ (x : X34),
 I34 bs N x →
 (decide ((↑x.n : Int) ≥ (128 : Int)) = true →
 (nat_lit 1 = nat_lit 1 ∨ bytesL x.pre = []) ∧
 ((bytesL x.pre).length + (1 : Nat)) * nat_lit 2 ≤ nat_lit 70368744177664 ∧
 x.pre.length = (bytesL x.pre).length ∧
 (0 : Int) ≤ (7 : Int) ∧
 ∃ (y : X34),
 ValsAre
 [AV.int IntKind.u64 ((↑x.n : Int).fdiv (128 : Int)),
 AV.sl (nat_lit 1)
 (bytesL x.pre ++
 [AV.int IntKind.u8
 (IntKind.u8.wrap
 (↑(BitVec.ofInt IntKind.u8.bits (IntKind.u8.wrap (↑x.n : Int)) |||
 BitVec.ofInt IntKind.u8.bits (128 : Int)).toNat :
 Int))])
 (Own.tok (nat_lit 0))]
 [AV.int IntKind.u64 (↑y.n : Int), AV.sl (nat_lit 1) (bytesL y.pre) (Own.tok (nat_lit 0))] ∧
 StIs { boxes := [], live := [((bytesL x.pre).length + nat_lit 1, nat_lit 5)] }
 { boxes := [], live := [(y.pre.length, nat_lit 5)] } ∧
 I34 bs N y ∧ y.n < x.n) ∧
 (decide ((↑x.n : Int) ≥ (128 : Int)) = false →
 (nat_lit 1 = nat_lit 1 ∨ bytesL x.pre = []) ∧
 ((bytesL x.pre).length + (1 : Nat)) * nat_lit 2 ≤ nat_lit 70368744177664 ∧
 x.pre.length = (bytesL x.pre).length ∧
 ((bytesL x.pre).length + nat_lit 1, nat_lit 5).fst =
 (bytesL x.pre ++ [AV.int IntKind.u8 (IntKind.u8.wrap (↑x.n : Int))]).length ∧
 RetIs (AV.sl (nat_lit 1) (bytesL x.pre ++ [AV.int IntKind.u8 (IntKind.u8.wrap (↑x.n : Int))]) (Own.tok (nat_lit 0)))
 [((bytesL x.pre).length + nat_lit 1, nat_lit 5)]
 (AV.sl (nat_lit 1) (bytesL r) (Own.tok (nat_lit 0)), [(r.length, nat_lit 5)]))) ∧
 (decide ((↑N : Int) ≥ (128 : Int)) = false →
 (nat_lit 1 = nat_lit 1 ∨ List.drop (nat_lit 0) (List.take (↑(bytesL bs).length : Int).toNat (bytesL bs)) = []) ∧
 ((List.drop (nat_lit 0) (List.take (↑(bytesL bs).length : Int).toNat (bytesL bs))).length + (1 : Nat)) * nat_lit 2 ≤ nat_lit 70368744177664 ∧
 ((List.drop (nat_lit 0) (List.take (↑(bytesL bs).length : Int).toNat (bytesL bs))).length + nat_lit 1, nat_lit 5).fst =
 (List.drop (nat_lit 0) (List.take (↑(bytesL bs).length : Int).toNat (bytesL bs)) ++
 [AV.int IntKind.u8 (IntKind.u8.wrap (↑N : Int))]).length ∧
 RetIs
 (AV.sl (nat_lit 1)
 (List.drop (nat_lit 0) (List.take (↑(bytesL bs).length : Int).toNat (bytesL bs)) ++ [AV.int IntKind.u8 (IntKind.u8.wrap (↑N : Int))])
 (Own.tok (nat_lit 0)))
 [((List.drop (nat_lit 0) (List.take (↑(bytesL bs).length : Int).toNat (bytesL bs))).length + nat_lit 1, nat_lit 5)]
 (AV.sl (nat_lit 1) (bytesL r) (Own.tok (nat_lit 0)), [(r.length, nat_lit 5)]))) ∧
 ((↑(bytesL bs).length : Int).toNat ≠ (↑(bytesL bs).length : Int).toNat →
 (decide ((↑N : Int) ≥ (128 : Int)) = true →
 (nat_lit 1 = nat_lit 1 ∨ List.drop (nat_lit 0) (List.take (↑(bytesL bs).length : Int).toNat (bytesL bs)) = []) ∧
 ((List.drop (nat_lit 0) (List.take (↑(bytesL bs).length : Int).toNat (bytesL bs))).length + (1 : Nat)) * nat_lit 2 ≤ nat_lit 70368744177664 ∧
 False) ∧
 (decide ((↑N : Int) ≥ (128 : Int)) = false →
 (nat_lit 1 = nat_lit 1 ∨ List.drop (nat_lit 0) (List.take (↑(bytesL bs).length : Int).toNat (bytesL bs)) = []) ∧
 ((List.drop (nat_lit 0) (List.take (↑(bytesL bs).length : Int).toNat (bytesL bs))).length + (1 : Nat)) * nat_lit 2 ≤ nat_lit 70368744177664 ∧
 False))) := by kernel_rfl
theorem w14 (m n : Int) (bs r : List UInt8) : (pureW PZ (GZ m) XN (tbl [(34, s34)]) (itbl []) nAn [] 14 [bytesA bs, .int .i64 n] (ownR r)) =
((0 : Int) ≤ (1 : Int) ∧
  (0 : Int) ≤ (63 : Int) ∧
    ∃ (es : List AV),
      CallIs
 (tbl [(nat_lit 34, s34)] (nat_lit 34)
 [AV.sl (nat_lit 1) (bytesL bs) Own.no,
 AV.int IntKind.u64
 (IntKind.u64.wrap
 (↑(BitVec.ofInt IntKind.u64.bits (IntKind.u64.wrap (IntKind.u64.wrap n * (2 : Int) ^ min (Int.toNat (1 : Int)) IntKind.u64.bits)) ^^^
 BitVec.ofInt IntKind.u64.bits (IntKind.u64.wrap (n.fdiv ((2 : Int) ^ min (Int.toNat (63 : Int)) IntKind.i64.bits)))).toNat :
 Int))])
 (AV.sl (nat_lit 1) es (Own.tok (nat_lit 0))) [(es.length, nat_lit 5)] ∧
        (es.length, nat_lit 5).fst = es.length ∧
 RetIs (AV.sl (nat_lit 1) es (Own.tok (nat_lit 0))) [(es.length, nat_lit 5)]
 (AV.sl (nat_lit 1) (bytesL r) (Own.tok (nat_lit 0)), [(r.length, nat_lit 5)])) := by kernel_rfl
theorem w29 (m : Int) (bs r s : List UInt8) : (pureW PZ (GZ m) XN (tbl [(34, s34)]) (itbl []) nAn [] 29 [bytesA bs, .str s] (ownR r)) =
(∃ (es : List AV),
  CallIs (tbl [(nat_lit 34, s34)] (nat_lit 34) [AV.sl (nat_lit 1) (bytesL bs) Own.no, AV.int IntKind.u64 (IntKind.u64.wrap (↑s.length : Int))])
      (AV.sl (nat_lit 1) es (Own.tok (nat_lit 0))) [(es.length, nat_lit 5)] ∧
    (nat_lit 1 = nat_lit 1 ∨ es = []) ∧
      (es.length + (List.map (fun (c : UInt8) => AV.int IntKind.u8 (↑c.toNat : Int)) s).length) * nat_lit 2 ≤ nat_lit 70368744177664 ∧
        es.length = es.length ∧
 (es.length + (List.map (fun (c : UInt8) => AV.int IntKind.u8 (↑c.toNat : Int)) s).length, nat_lit 5).fst =
 (es ++ List.map (fun (c : UInt8) => AV.int IntKind.u8 (↑c.toNat : Int)) s).length ∧
 RetIs (AV.sl (nat_lit 1) (es ++ List.map (fun (c : UInt8) => AV.int IntKind.u8 (↑c.toNat : Int)) s) (Own.tok (nat_lit 0)))
 [(es.length + (List.map (fun (c : UInt8) => AV.int IntKind.u8 (↑c.toNat : Int)) s).length, nat_lit 5)]
 (AV.sl (nat_lit 1) (bytesL r) (Own.tok (nat_lit 0)), [(r.length, nat_lit 5)])) := by kernel_rfl
end Go.Abs

namespace Go.Abs
open Go.Proofs Go.Wire
theorem wrapu64 (n : Int) : IntKind.u64.wrap n = n % 18446744073709551616 := by simp [IntKind.wrap, IntKind.bits, IntKind.signed]
theorem wrapu8 (n : Int) : IntKind.u8.wrap n = n % 256 := by simp [IntKind.wrap, IntKind.bits, IntKind.signed]
theorem or128 : ∀ x, x < 256 → x ||| 128 = x % 128 + 128 := by decide +kernel
theorem byteOr (N : Nat) : IntKind.u8.wrap (↑(BitVec.ofInt IntKind.u8.bits (IntKind.u8.wrap (↑N : Int)) ||| BitVec.ofInt IntKind.u8.bits (128 : Int)).toNat : Int) = ((UInt8.ofNat (N % 128 + 128)).toNat : Int) := by
  have h : bits .or .u8 ((N % 256 : Nat) : Int) ((128 : Nat) : Int) = _ := u8_or_nat (N % 256) 128 (by omega) (by omega)
  have e : IntKind.u8.wrap (N : Int) = ((N % 256 : Nat) : Int) := by rw [wrapu8]; omega
  rw [e]
  refine Eq.trans h ?_
  rw [or128 _ (by omega), UInt8.toNat_ofNat']
  omega
theorem byteLast {N : Nat} (_h : N < 128) : IntKind.u8.wrap (N : Int) = ((UInt8.ofNat N).toNat : Int) := by
  rw [wrapu8, UInt8.toNat_ofNat']; omega
theorem byteOf_int (n : Int) : IntKind.u8.wrap n = ((UInt8.ofNat (IntKind.u8.wrap n).toNat).toNat : Int) := by
  rw [wrapu8, UInt8.toNat_ofNat']; omega
theorem fdiv128 (N : Nat) : (N : Int).fdiv 128 = ((N / 128 : Nat) : Int) := by
  rw [Int.fdiv_eq_ediv_of_nonneg _ (by omega)]; omega
theorem bytesL_append (a b : List UInt8) : bytesL (a ++ b) = bytesL a ++ bytesL b := by simp [bytesL]
theorem bytesL_one (c : UInt8) : bytesL [c] = [.int .u8 c.toNat] := rfl
theorem bytesL_eq_nil {l : List UInt8} : bytesL l = [] ↔ l = [] := by simp [bytesL]
theorem uintL_len : ∀ (f n : Nat), n < 2 ^ (7 * f + 1) → (uintL n).length ≤ f + 1
  | f, n, hn => by
    by_cases h : n < 128
    · rw [uintL_small h]; simp
    · match f, hn with
      | 0, hn => simp at hn; omega
      | f + 1, hn =>
        have e2 : 2 ^ (7 * (f + 1) + 1) = 128 * 2 ^ (7 * f + 1) := by rw [show 7 * (f + 1) + 1 = 7 * f + 1 + 7 by omega, Nat.pow_add]; omega
        have := uintL_len f (n / 128) (by omega)
        rw [uintL_big h]; simp; omega
theorem uintL_len10 {n : Nat} (h : n < 18446744073709551616) : (uintL n).length ≤ 10 := uintL_len 9 n (by simpa using h)
theorem p34 (m : Int) (N : Nat) (bs : List UInt8) (hs : strOk bs) (hN : N < 18446744073709551616) : PureOk PZ (GZ m) XN (tbl []) (itbl []) (a34 bs N) [] 34 [bytesA bs, .int .u64 (N : Nat)] (ownR (bs ++ uintL N)) := by
  have hs' : bs.length ≤ 1000000 := hs
  have h10 := uintL_len10 hN
  constructor
  generalize hr : bs ++ uintL N = r
  rw [w34]
  have htk : List.drop 0 (List.take bs.length (bytesL bs)) = bytesL bs := by rw [List.drop_zero]; exact List.take_of_length_le (by simp [bytesL])
  simp only [htk, Int.toNat_natCast, valsAre_iff, stIs_iff, retIs_iff, Prod.mk.injEq, AV.int.injEq, AV.sl.injEq, List.cons.injEq, St.mk.injEq, and_true, true_and, true_or, decide_eq_true_eq, decide_eq_false_iff_not, ge_iff_le, fdiv128, byteOr, Option.isSome_some, Nat.zero_le, Nat.le_refl, Int.le_refl, ne_eq, not_true_eq_false, false_imp_iff, Int.reduceLE, List.length_append, List.length_map, List.length_cons, List.length_nil, forall_const, Nat.zero_add, Int.natCast_inj]
  refine ⟨by omega, fun h => ⟨by omega, ⟨⟨bs ++ [UInt8.ofNat (N % 128 + 128)], N / 128⟩, ⟨rfl, by rw [bytesL_append, bytesL_one]⟩, by simp, ?_⟩, fun x hx => ⟨fun h2 => ⟨by have := hx.c; omega, ⟨x.pre ++ [UInt8.ofNat (x.n % 128 + 128)], x.n / 128⟩, ⟨rfl, by rw [bytesL_append, bytesL_one]⟩, by simp, ?_, by simp only []; omega⟩, fun h2 => ⟨by have := hx.c; omega, ?_, ?_⟩⟩⟩, fun h => ⟨by omega, ?_, ?_⟩⟩
  · refine ⟨?_, by simp only []; omega, ?_⟩
    · rw [uintL_big (n := N) (by omega)]; simp
    · rw [uintL_big (n := N) (by omega)]; simp; omega
  · have hb := uintL_big (n := x.n) (by omega)
    refine ⟨?_, by simp only []; have := hx.n; omega, ?_⟩
    · rw [← hx.e, hb]; simp
    · have := hx.c; rw [hb] at this; simp at this ⊢; omega
  · rw [byteLast (by omega), ← hr, ← hx.e, uintL_small (by omega), bytesL_append, bytesL_one]
  · rw [← hr, ← hx.e, uintL_small (by omega)]; simp
  · rw [byteLast (by omega), ← hr, uintL_small (by omega), bytesL_append, bytesL_one]
  · rw [← hr, uintL_small (by omega)]; simp
end Go.Abs

namespace Go.Abs
open Go.RowKit
section
variable {P : Program} {G : Glob} {E : Env} {w : World}
def wkA (z : Nat) : AV → AV
  | .sl _ [] _ => .sl z [] .no
  | .sl sz (e :: es) _ => .sl sz (e :: es) .no
  | a => a
def wkL : List Nat → List AV → List AV
  | z :: zs, a :: xs => wkA z a :: wkL zs xs
  | _, xs => xs
theorem rep_wk {z : Nat} {a : AV} {v : Value} (h : Rep E w a v) : Rep E w (wkA z a) v := by
  unfold wkA
  split
  · cases h with
    | sl _ _ _ A cap u hcap hmax hA hsz hcl ho hr h1 =>
      exact .sl z [] .no A cap u hcap hmax (.inl rfl) (by simp) (by simp) trivial (fun i e j c hi => by simp at hi) h1
  · cases h with
    | sl _ _ _ A cap u hcap hmax hA hsz hcl ho hr h1 =>
      exact .sl _ _ .no A cap u hcap hmax hA hsz hcl trivial hr h1
  · exact h
theorem closed_wk {z : Nat} {a : AV} (h : a.closed1 = true) : (wkA z a).closed1 = true := by
  unfold wkA
  split
  · rfl
  · rfl
  · exact h
theorem wkL_length : ∀ (zs : List Nat) (xs : List AV), (wkL zs xs).length = xs.length
  | [], xs => by simp [wkL]
  | z :: zs, [] => by simp [wkL]
  | z :: zs, a :: xs => by simp [wkL, wkL_length zs xs]
theorem wkL_at : ∀ (zs : List Nat) (xs : List AV) (i : Nat) (c : AV), (wkL zs xs)[i]? = some c → ∃ a, xs[i]? = some a ∧ (c = a ∨ ∃ z, c = wkA z a)
  | [], xs, i, c, h => ⟨c, by simpa [wkL] using h, .inl rfl⟩
  | z :: zs, [], i, c, h => by simp [wkL] at h
  | z :: zs, a :: xs, 0, c, h => by
    simp [wkL] at h
    exact ⟨a, by simp, .inr ⟨z, h.symm⟩⟩
  | z :: zs, a :: xs, i + 1, c, h => by
    simp only [wkL, List.getElem?_cons_succ] at h
    simpa using wkL_at zs xs i c h
theorem spec_wk {f : FuncId} {s : Spec} (zs : List Nat) (h : ∀ args r, s args = some r → SpecOk P G f (fun a => open Classical in if a = wkL zs args then some r else none)) : SpecOk P G f s := by
  intro g args r lv hr
  simp only at hr
  split at hr
  · rename_i e
    subst e
    have := h args (r, lv) hr g (wkL zs args) r lv (by simp)
    intro E w vs hI hG hn hv hcl
    refine this E w vs hI hG (by rw [wkL_length]; exact hn) (fun i c v hi hv' => ?_) fun c hc => ?_
    · obtain ⟨a, ha, hx⟩ := wkL_at zs args i c hi
      rcases hx with rfl | ⟨z, rfl⟩
      · exact hv i _ v ha hv'
      · exact rep_wk (hv i _ v ha hv')
    · obtain ⟨i, hi, rfl⟩ := List.mem_iff_getElem.1 hc
      obtain ⟨a, ha, hx⟩ := wkL_at zs args i _ (List.getElem?_eq_getElem hi)
      rcases hx with hx | ⟨z, hx⟩
      · rw [hx]; exact hcl a (List.mem_of_getElem? ha)
      · rw [hx]; exact closed_wk (hcl a (List.mem_of_getElem? ha))
  · cases hr
theorem spec_ofW {X : Shapes} {R : Callee} {C : CCallee} (zs : List Nat) (hm : P.follows .mixedOrders = true) (hR : CalleeOk P G R) (hC : ICalleeOk P G (lowC C)) {m : List Bool} {f : FuncId} {s : Spec}
    (h : ∀ args r, s args = some r → ∃ A, PureOk P G X R C A m f (wkL zs args) r) : SpecOk P G f s :=
  spec_wk zs fun args r hr => spec_of hm hR hC fun a r' hr' => by
    split at hr'
    · rename_i e; subst e; injection hr' with hr'; subst hr'; exact h args r hr
    · cases hr'
theorem lax_ofW {X : Shapes} {R : Callee} {C : CCallee} (zs : List Nat) (hm : P.follows .mixedOrders = true) (hR : CalleeOk P G R) (hC : ICalleeOk P G (lowC C)) {m : List Bool} {f : FuncId} {s : Spec}
    (h : ∀ args r, s args = some r → ∃ A, LaxOk P G X R C A m f (wkL zs args) r) : SpecOk P G f s :=
  spec_wk zs fun args r hr => lax_of hm hR hC fun a r' hr' => by
    split at hr'
    · rename_i e; subst e; injection hr' with hr'; subst hr'; exact h args r hr
    · cases hr'
end
end Go.Abs
