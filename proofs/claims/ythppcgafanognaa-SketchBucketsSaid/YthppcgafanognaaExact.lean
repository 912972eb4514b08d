/-
  The walks over exact: numbers of two words, at the values that the law SketchBuckets meets.
-/
import Derived.Test.YthppcgafanognaaLawB
import Derived.Shelf.Spec.BitsCarry
namespace Go.Proofs.Ythppcgafanognaa
open Go.RowKit

theorem sub64 (x y b : Nat) (hb : b ≤ 1) (w : World) :
    (callFunc 42 #[.int .u64 x, .int .u64 y, .int .u64 b]).run Try.prog w =
      .ok (.value (.tuple #[.int .u64 (((x + 18446744073709551616 - y - b) % 18446744073709551616 : Nat) : Int), .int .u64 ((if x < y + b then 1 else 0 : Nat) : Int)])) w := by
  rw [run_callFunc_extern Try.func42 (by kernel_rfl) (by kernel_rfl) (by kernel_rfl) (e := sub64Entry) (by kernel_rfl), run_sub64 x y b hb]
  rfl
/-- at given words -/
theorem sub64_at (x y b d o : Int) (hx : 0 ≤ x) (hy : 0 ≤ y) (hb0 : 0 ≤ b) (hb : b ≤ 1) (hd : d = (x + 18446744073709551616 - y - b) % 18446744073709551616) (hy' : y < 18446744073709551616) (ho : o = if x < y + b then 1 else 0) (w : World) :
    (callFunc 42 #[.int .u64 x, .int .u64 y, .int .u64 b]).run Try.prog w = .ok (.value (.tuple #[.int .u64 d, .int .u64 o])) w := by
  obtain ⟨x, rfl⟩ := Int.eq_ofNat_of_zero_le hx
  obtain ⟨y, rfl⟩ := Int.eq_ofNat_of_zero_le hy
  obtain ⟨b, rfl⟩ := Int.eq_ofNat_of_zero_le hb0
  have e1 : (((x + 18446744073709551616 - y - b) % 18446744073709551616 : Nat) : Int) = d := by rw [hd]; omega
  have e2 : ((if x < y + b then 1 else 0 : Nat) : Int) = o := by rw [ho]; split <;> split <;> omega
  rw [← e1, ← e2]
  exact sub64 x y b (by omega) w

abbrev Wd (h l : Int) : Value := .agg #[.int .i64 h, .int .u64 l]
set_option maxHeartbeats 1000000 in
theorem sub_any (a b : Int) (w : World) (h0 : 0 ≤ b) (h1 : b ≤ a) (h2 : a < 18446744073709551616) :
    Calls Try.prog 32 #[Wd 0 a, Wd 0 b] w fun e w' => e = .returned (Wd 0 (a - b)) ∧ Below w.heap.size w w' := by
  have hs := fun w => sub64_at a b 0 (a - b) 0 (by omega) h0 (by omega) (by omega) (by omega) (by omega) (by rw [if_neg (by omega)]) w
  have ht := fun w => sub64_at 0 0 0 0 0 (by omega) (by omega) (by omega) (by omega) (by omega) (by omega) (by rw [if_neg (by omega)]) w
  go_enter Try.func32, Try.ntmps32
  go_wp2_with (first | simp only [hs] | simp only [ht])
  refine bodyPost_ret (v := Wd 0 (a - b)) (by simp [results, Try.results32, go_sem]) rfl ⟨rfl, ?_⟩
  exact (((Below.refl _ _).alloc (Nat.le_refl _) _).alloc (by simp) _).alloc (by simp; omega) _
set_option maxHeartbeats 1000000 in
theorem neg_sub (n : Int) (w : World) (h0 : 0 < n) (h1 : n ≤ 9223372036854775808) :
    Calls Try.prog 32 #[Wd 0 0, Wd (-1) (18446744073709551616 - n)] w fun e w' => e = .returned (Wd 0 n) ∧ Below w.heap.size w w' := by
  have hs := fun w => sub64_at 0 (18446744073709551616 - n) 0 n 1 (by omega) (by omega) (by omega) (by omega) (by omega) (by omega) (by rw [if_pos (by omega)]) w
  have ht := fun w => sub64_at 0 18446744073709551615 1 0 1 (by omega) (by omega) (by omega) (by omega) (by omega) (by omega) (by rw [if_pos (by omega)]) w
  have hr : IntKind.u64.wrap (-1) = 18446744073709551615 := by rw [IntKind.wrap_u64]; rfl
  go_enter Try.func32, Try.ntmps32
  go_wp2_with (first | simp only [hs] | simp only [ht])
  refine bodyPost_ret (v := Wd 0 n) (by simp [results, Try.results32, go_sem]) rfl ⟨rfl, ?_⟩
  exact (((Below.refl _ _).alloc (Nat.le_refl _) _).alloc (by simp) _).alloc (by simp; omega) _

set_option maxHeartbeats 400000 in
theorem of_pos (n : Int) (w : World) (h0 : 0 ≤ n) (h1 : n ≤ 9223372036854775807) :
    Calls Try.prog 30 #[.int .i64 n] w fun e w' => e = .returned (Wd 0 n) ∧ Below w.heap.size w w' := by
  have hd : n / 9223372036854775808 = 0 := by omega
  go_enter Try.func30, Try.ntmps30
  go_wp2
  refine bodyPost_ret (v := Wd 0 n) (by simp [results, Try.results30, go_sem]) rfl ⟨rfl, (Below.refl _ _).alloc (Nat.le_refl _) _⟩
set_option maxHeartbeats 400000 in
theorem of_neg (n : Int) (w : World) (h0 : n < 0) (h1 : -9223372036854775808 ≤ n) :
    Calls Try.prog 30 #[.int .i64 n] w fun e w' => e = .returned (Wd (-1) (18446744073709551616 - -n)) ∧ Below w.heap.size w w' := by
  have hd : n / 9223372036854775808 = -1 := by omega
  have hu : IntKind.u64.wrap n = 18446744073709551616 - -n := by rw [IntKind.wrap_u64]; omega
  go_enter Try.func30, Try.ntmps30
  go_wp2
  refine bodyPost_ret (v := Wd (-1) (18446744073709551616 - -n)) (by simp [results, Try.results30, go_sem]) rfl ⟨rfl, (Below.refl _ _).alloc (Nat.le_refl _) _⟩
set_option maxHeartbeats 1000000 in
theorem neg_any (n : Int) (w : World) (h0 : 0 < n) (h1 : n ≤ 9223372036854775808) :
    Calls Try.prog 31 #[Wd (-1) (18446744073709551616 - n)] w fun e w' => e = .returned (Wd 0 n) ∧ Below w.heap.size w w' := by
  have HN := Lib.hid (fun w => neg_sub n w h0 h1)
  go_enter Try.func31, Try.ntmps31
  go_wp2_with fail
  refine (HN.out _).mono ?_
  rintro e w1 ⟨rfl, hb⟩
  obtain ⟨hz, hc⟩ : w.heap.size + 1 < w1.heap.size ∧ ∀ o, w1.cell? ⟨w.heap.size + 1, o, none⟩ = ((w.alloc (Obj.cells #[Value.int IntKind.i64 (-1), Value.int IntKind.u64 (18446744073709551616 - n)] 44)).alloc (Obj.cells #[Value.int IntKind.i64 0, Value.int IntKind.u64 0] 44)).cell? ⟨w.heap.size + 1, o, none⟩ := by
    have := hb.size
    simp at this
    exact ⟨by omega, fun o => hb.cell (by simp)⟩
  have hf : ∀ o, w1.frozen? ⟨w.heap.size + 1, o, none⟩ = false := fun o => by
    rw [hb.frozen (by simp)]; simp
  have HB := Lib.hid (((Below.refl w.heap.size w).alloc (Nat.le_refl _) (Obj.cells #[Value.int IntKind.i64 (-1), Value.int IntKind.u64 (18446744073709551616 - n)] 44)).alloc (by simp) (Obj.cells #[Value.int IntKind.i64 0, Value.int IntKind.u64 0] 44) |>.trans (hb.mono (by simp; omega)))
  have hc0 := hc 0
  have hc1 := hc 1
  simp at hc0 hc1
  clear hc hb
  go_wp2
  refine bodyPost_ret (v := Wd 0 n) (by simp [results, Try.results31, go_sem, hc0, hc1]) rfl ⟨rfl, ?_⟩
  exact (HB.out.setCell (by simp) _).setCell (by simp) _
set_option maxHeartbeats 1000000 in
theorem scale_any (n : Int) (w : World) (h0 : 0 ≤ n) (h1 : n < 576460752303423488) :
    Calls Try.prog 34 #[Wd 0 n, .int .i64 32] w fun e w' => e = .returned (Wd 0 (32 * n)) ∧ Below w.heap.size w w' := by
  obtain ⟨m, rfl⟩ := Int.eq_ofNat_of_zero_le h0
  have e1 : ((m * 32 / 18446744073709551616 : Nat) : Int) = 0 := by omega
  have e2 : ((m * 32 % 18446744073709551616 : Nat) : Int) = 32 * (m : Int) := by omega
  have hM := Lib.hid (fun w => Try.bits_Mul64 m 32 (by omega) (by omega) w)
  rw [e1, e2] at hM
  clear e1 e2
  go_enter Try.func34, Try.ntmps34
  go_wp2_with fail
  refine (hM.out _).mono ?_
  rintro e w1 ⟨rfl, rfl⟩
  go_wp2
  refine bodyPost_ret (v := Wd 0 (32 * m)) (by simp [results, Try.results34, go_sem]) rfl ⟨rfl, ?_⟩
  exact ((Below.refl _ _).alloc (Nat.le_refl _) _).alloc (by simp) _
set_option maxHeartbeats 400000 in
theorem compare_any (a b : Int) (w : World) (h : a < b) :
    Calls Try.prog 33 #[Wd 0 a, Wd 0 b] w fun e w' => e = .returned (.int .i64 (-1)) ∧ Below w.heap.size w w' := by
  have he : (a == b) = false := by rw [beq_eq_false_iff_ne]; omega
  go_enter Try.func33, Try.ntmps33
  go_wp2
  go_ret
  exact ⟨rfl, ((Below.refl _ _).alloc (Nat.le_refl _) _).alloc (by simp) _⟩
end Go.Proofs.Ythppcgafanognaa
