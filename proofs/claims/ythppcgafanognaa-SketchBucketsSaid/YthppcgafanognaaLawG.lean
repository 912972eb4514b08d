/-
  The walk over the law SketchBuckets: numbers from 0.
-/
import Derived.Test.YthppcgafanognaaLawE
namespace Go.Proofs.Ythppcgafanognaa
open Go.RowKit

set_option maxHeartbeats 4000000 in
set_option maxRecDepth 100000 in
theorem sketchBuckets_pos (w : World) (n : Int) (h0 : 0 < n) (h1 : n ≤ 9223372036854775807) (m : Int) (hm : I64 m) (hnm : n ≤ m) :
    Calls Try.prog 11 #[.int .i64 n, .int .i64 m] w fun e w' => e = .returned (.bool true) ∧ Below w.heap.size w w' := by
  obtain ⟨hm0, hm1⟩ := hm
  obtain ⟨l0, l1, l2⟩ := near_pos n (by omega) (by omega)
  have hir := idx_range n (by omega) (by omega)
  have hli := low_idx (idx n) hir.1 hir.2
  have hneg := idx_neg n (by omega)
  have hmono := idx_mono (n := n) (m := m) ⟨by omega, by omega⟩ ⟨hm0, hm1⟩ hnm
  have HI := Lib.hid (fun w => Index_any len64 n w (by omega) (by omega))
  have HIm := Lib.hid (fun w => Index_any len64 m w (by omega) (by omega))
  have HIn := Lib.hid (fun w => index_at (-n) (-idx n) hneg (by omega) (by omega) w)
  have HL := Lib.hid (fun w => Low_any (idx n) w)
  have HIl := Lib.hid (fun w => index_at (low (idx n)) (idx n) hli (by omega) (by omega) w)
  obtain ⟨j, hj⟩ : ∃ j, idx m = j := ⟨_, rfl⟩
  obtain ⟨i, hi⟩ : ∃ i, idx n = i := ⟨_, rfl⟩
  rw [hj] at HIm hmono
  rw [hi] at HI HIn HL HIl l0 l1 l2 hir hmono
  obtain ⟨L, hL⟩ : ∃ L, low i = L := ⟨_, rfl⟩
  rw [hL] at HL HIl l0 l1 l2
  clear hj hi hL hli hneg
  have hii : (i != i) = false := by simp
  have hnn : (-i != -i) = false := by simp
  have hz1 : (L == 0) = false := by rw [beq_eq_false_iff_ne]; omega
  have hz2 : (n == 0) = false := by rw [beq_eq_false_iff_ne]; omega
  obtain ⟨l3, l4⟩ := l2 h0
  clear l2
  have hn0 : ¬ n < 0 := by omega
  have hL0 : ¬ L < 0 := by omega
  have hji : ¬ j < i := by omega
  have HO := Lib.hid (fun w => of_pos n w (by omega) (by omega))
  have HO2 := Lib.hid (fun w => of_pos L w (by omega) (by omega))
  have HSb := Lib.hid (fun w => sub_any n L w (by omega) (by omega) (by omega))
  obtain ⟨f, hf⟩ : ∃ f, n - L = f := ⟨_, rfl⟩
  rw [hf] at HSb
  have HSc := Lib.hid (fun w => scale_any f w (by omega) (by omega))
  obtain ⟨g, hg⟩ : ∃ g, 32 * f = g := ⟨_, rfl⟩
  rw [hg] at HSc
  have HCm := Lib.hid (fun w => compare_any g n w (by omega))
  clear hf hg
  go_enter Try.func11, Try.ntmps11
  go_wp2_with (first
    | (go_at_call 12; refine (example_any _).mono ?_; rintro e w1 ⟨rfl, hb1⟩; have X1 := Lib.hid (show Ext w w1 from hb1); clear hb1)
    | (go_at_call 13; ((with_reducible refine (HI.out _).mono ?_); rintro e w2 ⟨rfl, rfl⟩))
    | (go_at_call 13; ((with_reducible refine (HIm.out _).mono ?_); rintro e w2 ⟨rfl, rfl⟩))
    | (go_at_call 13; ((with_reducible refine (HIn.out _).mono ?_); rintro e w2 ⟨rfl, rfl⟩))
    | (go_at_call 13; ((with_reducible refine (HIl.out _).mono ?_); rintro e w2 ⟨rfl, rfl⟩))
    | (go_at_call 15; ((with_reducible refine (HL.out _).mono ?_); rintro e w2 ⟨rfl, rfl⟩)))
  refine (HO.out _).mono ?_
  rintro e w2 ⟨rfl, b2⟩
  have X2 := Lib.hid (X1.out.trans b2)
  clear b2 X1
  go_wp2_with fail
  refine (HO2.out _).mono ?_
  rintro e w3 ⟨rfl, b3⟩
  have X3 := Lib.hid (X2.out.trans b3)
  clear b3 X2
  have HS3 := Lib.hid X3.out.size
  clear hir hji hm0 hm1 hnm l1 h1
  go_wp2_with fail
  refine (HSb.out _).mono ?_
  rintro e w6 ⟨rfl, b6⟩
  have t0 : w6.cell? ⟨w3.heap.size, 0, none⟩ = some (.int .i64 0) := by rw [b6.cell (by simp; try omega)]; simp
  have t1 : w6.cell? ⟨w3.heap.size, 1, none⟩ = some (.int .u64 n) := by rw [b6.cell (by simp; try omega)]; simp
  have s7 : w3.heap.size < w6.heap.size := by have := b6.size; simp at this; omega
  have s8 : ¬ w3.heap.size = w6.heap.size := by omega
  have s9 : ¬ w6.heap.size = w3.heap.size := by omega
  have X7 : Hid (Ext w w6) := Lib.hid (X3.out.trans (((((Below.refl w3.heap.size w3).alloc (Nat.le_refl _) _).alloc (by simp) _)).trans (b6.mono (by simp; omega))))
  clear b6 X3 HS3 HO HSb HI HIm HIn HL HIl hii hnn hz1
  go_wp2_with fail
  go_region_with (first
    | (go_at_call 34; (with_reducible refine (HSc.out _).mono ?_); rintro e w7 ⟨rfl, b7⟩
       have r0 : w7.cell? ⟨w3.heap.size, 0, none⟩ = some (.int .i64 0) := (b7.cell (by simp; omega)).trans ((World.cell?_alloc_lt w6 _ _ (by simp; omega)).trans t0)
       have r1 : w7.cell? ⟨w3.heap.size, 1, none⟩ = some (.int .u64 n) := (b7.cell (by simp; omega)).trans ((World.cell?_alloc_lt w6 _ _ (by simp; omega)).trans t1))
    | (go_at_call 33; (with_reducible refine (HCm.out _).mono ?_); rintro e w8 ⟨rfl, b8⟩))
  all_goals go_wp2_with fail
  all_goals go_ret
  all_goals refine ⟨rfl, X7.out.trans ?_⟩
  all_goals exact (((Below.refl w6.heap.size w6).alloc (Nat.le_refl _) _).drew.trans (b7.mono (by simp))).trans (b8.mono (by have := b7.size; simp at this; omega))

set_option maxHeartbeats 4000000 in
set_option maxRecDepth 100000 in
theorem sketchBuckets_posB (w : World) (n : Int) (h0 : 0 < n) (h1 : n ≤ 9223372036854775807) (m : Int) (hm : I64 m) (hnm : m < n) :
    Calls Try.prog 11 #[.int .i64 n, .int .i64 m] w fun e w' => e = .returned (.bool true) ∧ Below w.heap.size w w' := by
  obtain ⟨hm0, hm1⟩ := hm
  obtain ⟨l0, l1, l2⟩ := near_pos n (by omega) (by omega)
  have hir := idx_range n (by omega) (by omega)
  have hli := low_idx (idx n) hir.1 hir.2
  have hneg := idx_neg n (by omega)
  have HI := Lib.hid (fun w => Index_any len64 n w (by omega) (by omega))
  have HIm := Lib.hid (fun w => Index_any len64 m w (by omega) (by omega))
  have HIn := Lib.hid (fun w => index_at (-n) (-idx n) hneg (by omega) (by omega) w)
  have HL := Lib.hid (fun w => Low_any (idx n) w)
  have HIl := Lib.hid (fun w => index_at (low (idx n)) (idx n) hli (by omega) (by omega) w)
  obtain ⟨j, hj⟩ : ∃ j, idx m = j := ⟨_, rfl⟩
  obtain ⟨i, hi⟩ : ∃ i, idx n = i := ⟨_, rfl⟩
  rw [hj] at HIm
  rw [hi] at HI HIn HL HIl l0 l1 l2 hir
  obtain ⟨L, hL⟩ : ∃ L, low i = L := ⟨_, rfl⟩
  rw [hL] at HL HIl l0 l1 l2
  clear hj hi hL hli hneg
  have hii : (i != i) = false := by simp
  have hnn : (-i != -i) = false := by simp
  have hz1 : (L == 0) = false := by rw [beq_eq_false_iff_ne]; omega
  have hz2 : (n == 0) = false := by rw [beq_eq_false_iff_ne]; omega
  obtain ⟨l3, l4⟩ := l2 h0
  clear l2
  have hn0 : ¬ n < 0 := by omega
  have hL0 : ¬ L < 0 := by omega
  have hji : ¬ n ≤ m := by omega
  have HO := Lib.hid (fun w => of_pos n w (by omega) (by omega))
  have HO2 := Lib.hid (fun w => of_pos L w (by omega) (by omega))
  have HSb := Lib.hid (fun w => sub_any n L w (by omega) (by omega) (by omega))
  obtain ⟨f, hf⟩ : ∃ f, n - L = f := ⟨_, rfl⟩
  rw [hf] at HSb
  have HSc := Lib.hid (fun w => scale_any f w (by omega) (by omega))
  obtain ⟨g, hg⟩ : ∃ g, 32 * f = g := ⟨_, rfl⟩
  rw [hg] at HSc
  have HCm := Lib.hid (fun w => compare_any g n w (by omega))
  clear hf hg
  go_enter Try.func11, Try.ntmps11
  go_wp2_with (first
    | (go_at_call 12; refine (example_any _).mono ?_; rintro e w1 ⟨rfl, hb1⟩; have X1 := Lib.hid (show Ext w w1 from hb1); clear hb1)
    | (go_at_call 13; ((with_reducible refine (HI.out _).mono ?_); rintro e w2 ⟨rfl, rfl⟩))
    | (go_at_call 13; ((with_reducible refine (HIm.out _).mono ?_); rintro e w2 ⟨rfl, rfl⟩))
    | (go_at_call 13; ((with_reducible refine (HIn.out _).mono ?_); rintro e w2 ⟨rfl, rfl⟩))
    | (go_at_call 13; ((with_reducible refine (HIl.out _).mono ?_); rintro e w2 ⟨rfl, rfl⟩))
    | (go_at_call 15; ((with_reducible refine (HL.out _).mono ?_); rintro e w2 ⟨rfl, rfl⟩)))
  refine (HO.out _).mono ?_
  rintro e w2 ⟨rfl, b2⟩
  have X2 := Lib.hid (X1.out.trans b2)
  clear b2 X1
  go_wp2_with fail
  refine (HO2.out _).mono ?_
  rintro e w3 ⟨rfl, b3⟩
  have X3 := Lib.hid (X2.out.trans b3)
  clear b3 X2
  have HS3 := Lib.hid X3.out.size
  clear hir hji hm0 hm1 hnm l1 h1
  go_wp2_with fail
  refine (HSb.out _).mono ?_
  rintro e w6 ⟨rfl, b6⟩
  have t0 : w6.cell? ⟨w3.heap.size, 0, none⟩ = some (.int .i64 0) := by rw [b6.cell (by simp; try omega)]; simp
  have t1 : w6.cell? ⟨w3.heap.size, 1, none⟩ = some (.int .u64 n) := by rw [b6.cell (by simp; try omega)]; simp
  have s7 : w3.heap.size < w6.heap.size := by have := b6.size; simp at this; omega
  have s8 : ¬ w3.heap.size = w6.heap.size := by omega
  have s9 : ¬ w6.heap.size = w3.heap.size := by omega
  have X7 : Hid (Ext w w6) := Lib.hid (X3.out.trans (((((Below.refl w3.heap.size w3).alloc (Nat.le_refl _) _).alloc (by simp) _)).trans (b6.mono (by simp; omega))))
  clear b6 X3 HS3 HO HSb HI HIm HIn HL HIl hii hnn hz1
  go_wp2_with fail
  go_region_with (first
    | (go_at_call 34; (with_reducible refine (HSc.out _).mono ?_); rintro e w7 ⟨rfl, b7⟩
       have r0 : w7.cell? ⟨w3.heap.size, 0, none⟩ = some (.int .i64 0) := (b7.cell (by simp; omega)).trans ((World.cell?_alloc_lt w6 _ _ (by simp; omega)).trans t0)
       have r1 : w7.cell? ⟨w3.heap.size, 1, none⟩ = some (.int .u64 n) := (b7.cell (by simp; omega)).trans ((World.cell?_alloc_lt w6 _ _ (by simp; omega)).trans t1))
    | (go_at_call 33; (with_reducible refine (HCm.out _).mono ?_); rintro e w8 ⟨rfl, b8⟩))
  all_goals go_wp2_with fail
  all_goals go_ret
  all_goals refine ⟨rfl, X7.out.trans ?_⟩
  all_goals exact (((Below.refl w6.heap.size w6).alloc (Nat.le_refl _) _).drew.trans (b7.mono (by simp))).trans (b8.mono (by have := b7.size; simp at this; omega))
end Go.Proofs.Ythppcgafanognaa
