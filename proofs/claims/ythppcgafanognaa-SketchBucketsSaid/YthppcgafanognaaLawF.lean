/-
  The walk over the law SketchBuckets: negative numbers, the two other ways.
-/
import Derived.Test.YthppcgafanognaaLawE
namespace Go.Proofs.Ythppcgafanognaa
open Go.RowKit

set_option maxHeartbeats 4000000 in
set_option maxRecDepth 100000 in
theorem sketchBuckets_negB (w : World) (n : Int) (h0 : n < 0) (h1 : -9223372036854775807 ≤ n) (m : Int) (hm : I64 m) (hnm : m < n) :
    Calls Try.prog 11 #[.int .i64 n, .int .i64 m] w fun e w' => e = .returned (.bool true) ∧ Below w.heap.size w w' := by
  obtain ⟨hm0, hm1⟩ := hm
  obtain ⟨l0, l1, l2⟩ := near_neg n h0 (by omega)
  have hir := idx_range n (by omega) (by omega)
  have hli := low_idx (idx n) hir.1 hir.2
  have hneg := idx_neg n (by omega)
  have HI := Lib.hid (fun w => Index_any len64 n w (by omega) (by omega))
  have HIm := Lib.hid (fun w => Index_any len64 m w (by omega) (by omega))
  have HIn := Lib.hid (fun w => index_at (-n) (-idx n) hneg (by omega) (by omega) w)
  have HL := Lib.hid (fun w => Low_any (idx n) w)
  have HIl := Lib.hid (fun w => index_at (low (idx n)) (idx n) hli (by omega) (by omega) w)
  obtain ⟨j, hj⟩ : ∃ j, idx m = j := ⟨_, rfl⟩
  obtain ⟨i, hi⟩ : ∃ i, idx n = i := ⟨_, rfl⟩
  rw [hj] at HIm
  rw [hi] at HI HIn HL HIl l0 l1 l2 hir
  obtain ⟨L, hL⟩ : ∃ L, low i = L := ⟨_, rfl⟩
  rw [hL] at HL HIl l0 l1 l2
  clear hj hi hL hli hneg
  have hii : (i != i) = false := by simp
  have hnn : (-i != -i) = false := by simp
  have hz1 : (L == 0) = false := by rw [beq_eq_false_iff_ne]; omega
  have hz2 : (n == 0) = false := by rw [beq_eq_false_iff_ne]; omega
  have hnm2 : ¬ n ≤ m := by omega
  have HO := Lib.hid (fun w => of_neg n w h0 (by omega))
  have HO2 := Lib.hid (fun w => of_neg L w l0 (by omega))
  have HN := Lib.hid (fun w => neg_val n w h0 (by omega))
  have HN2 := Lib.hid (fun w => neg_val L w l0 (by omega))
  have HSb := Lib.hid (fun w => sub_any (-n) (-L) w (by omega) (by omega) (by omega))
  obtain ⟨P, hP⟩ : ∃ P, -n = P := ⟨_, rfl⟩
  obtain ⟨Q, hQ⟩ : ∃ Q, -L = Q := ⟨_, rfl⟩
  obtain ⟨f, hf⟩ : ∃ f, -n - -L = f := ⟨_, rfl⟩
  rw [hf] at HSb
  rw [hP] at HN HSb
  rw [hQ] at HN2 HSb
  have HSc := Lib.hid (fun w => scale_any f w (by omega) (by omega))
  obtain ⟨g, hg⟩ : ∃ g, 32 * f = g := ⟨_, rfl⟩
  rw [hg] at HSc
  have HCm := Lib.hid (fun w => compare_any g P w (by omega))
  clear hP hQ hf hg
  go_enter Try.func11, Try.ntmps11
  go_wp2_with (first
    | (go_at_call 12; refine (example_any _).mono ?_; rintro e w1 ⟨rfl, hb1⟩; have X1 := Lib.hid (show Ext w w1 from hb1); clear hb1)
    | (go_at_call 13; ((with_reducible refine (HI.out _).mono ?_); rintro e w2 ⟨rfl, rfl⟩))
    | (go_at_call 13; ((with_reducible refine (HIm.out _).mono ?_); rintro e w2 ⟨rfl, rfl⟩))
    | (go_at_call 13; ((with_reducible refine (HIn.out _).mono ?_); rintro e w2 ⟨rfl, rfl⟩))
    | (go_at_call 13; ((with_reducible refine (HIl.out _).mono ?_); rintro e w2 ⟨rfl, rfl⟩))
    | (go_at_call 15; ((with_reducible refine (HL.out _).mono ?_); rintro e w2 ⟨rfl, rfl⟩)))
  refine (HO.out _).mono ?_
  rintro e w2 ⟨rfl, b2⟩
  have X2 := Lib.hid (X1.out.trans b2)
  clear b2 X1
  go_wp2_with fail
  refine (HO2.out _).mono ?_
  rintro e w3 ⟨rfl, b3⟩
  have X3 := Lib.hid (X2.out.trans b3)
  clear b3 X2
  have HS3 := Lib.hid X3.out.size
  clear hir hm0 hm1 hnm hnm2 l1 l2 h1
  go_upto_region 8 with fail
  go_cut [63] (fun _ wx => wx.cell? ⟨w3.heap.size, 0, none⟩ = some (.int .i64 0) ∧ wx.cell? ⟨w3.heap.size, 1, none⟩ = some (.int .u64 P) ∧ wx.cell? ⟨w3.heap.size + 1, 0, none⟩ = some (.int .i64 0) ∧ wx.cell? ⟨w3.heap.size + 1, 1, none⟩ = some (.int .u64 Q) ∧ w3.heap.size + 1 < wx.heap.size ∧ Hid (Ext w wx))
  case first =>
    clear HI HIm HIn HL HIl hii hnn hz1 hz2 HO HO2 HSb HSc HCm
    go_region_with (first
      | (go_at_call 31; (with_reducible refine (HN.out _).mono ?_); rintro e w4 ⟨rfl, b4⟩
         have k0 : w4.cell? ⟨w3.heap.size, 0, none⟩ = some (.int .i64 (-1)) := by rw [b4.cell (by simp; try omega)]; simp
         have k1 : w4.cell? ⟨w3.heap.size, 1, none⟩ = some (.int .u64 (18446744073709551616 + n)) := by rw [b4.cell (by simp; try omega)]; simp
         have k2 : w4.cell? ⟨w3.heap.size + 1, 0, none⟩ = some (.int .i64 (-1)) := by rw [b4.cell (by simp; try omega)]; simp
         have k3 : w4.cell? ⟨w3.heap.size + 1, 1, none⟩ = some (.int .u64 (18446744073709551616 + L)) := by rw [b4.cell (by simp; try omega)]; simp
         have g0 : ∀ o, w4.frozen? ⟨w3.heap.size, o, none⟩ = false := fun o => by rw [b4.frozen (by simp; try omega)]; simp
         have g1 : ∀ o, w4.frozen? ⟨w3.heap.size + 1, o, none⟩ = false := fun o => by rw [b4.frozen (by simp; try omega)]; simp
         have hz4 : w3.heap.size + 1 < w4.heap.size := by have := b4.size; simp at this; omega)
      | (go_at_call 31; (with_reducible refine (HN2.out _).mono ?_); rintro e w5 ⟨rfl, b5⟩
         have m0 : w5.cell? ⟨w3.heap.size, 0, none⟩ = some (.int .i64 (-1)) := by rw [b5.cell (by simp; omega)]; exact k0
         have m1 : w5.cell? ⟨w3.heap.size, 1, none⟩ = some (.int .u64 (18446744073709551616 + n)) := by rw [b5.cell (by simp; omega)]; exact k1
         have m2 : w5.cell? ⟨w3.heap.size + 1, 0, none⟩ = some (.int .i64 (-1)) := by rw [b5.cell (by simp; omega)]; exact k2
         have m3 : w5.cell? ⟨w3.heap.size + 1, 1, none⟩ = some (.int .u64 (18446744073709551616 + L)) := by rw [b5.cell (by simp; omega)]; exact k3
         have p0 : ∀ o, w5.frozen? ⟨w3.heap.size, o, none⟩ = false := fun o => by rw [b5.frozen (by simp; omega)]; exact g0 o
         have p1 : ∀ o, w5.frozen? ⟨w3.heap.size + 1, o, none⟩ = false := fun o => by rw [b5.frozen (by simp; omega)]; exact g1 o))
    all_goals
      go_wp2_with fail
      go_meet
      have s5 : w3.heap.size + 1 < w5.heap.size := Nat.lt_of_lt_of_le hz4 b5.size
      have X5 : Ext w w5 := X3.out.trans (((((Below.refl w3.heap.size w3).alloc (Nat.le_refl _) (.cells #[.int .i64 (-1), .int .u64 (18446744073709551616 + n)] 44)).alloc (by simp) (.cells #[.int .i64 (-1), .int .u64 (18446744073709551616 + L)] 44)).drew.trans (b4.mono (B' := w3.heap.size) (by simp; omega))).trans (b5.mono (B' := w3.heap.size) (by omega)))
      refine ⟨by first | exact (set4a m0 m1).1 | exact (set4b m0 m1).1, by first | exact (set4a m0 m1).2 | exact (set4b m0 m1).2, by first | exact (set4c m2 m3).1 | exact (set4d m2 m3).1, by first | exact (set4c m2 m3).2 | exact (set4d m2 m3).2, by simp; omega, ?_⟩
      exact (((((X5 : Below w.heap.size w w5).setCell (by have := HS3.out; simp; omega) _).setCell (by have := HS3.out; simp; omega) _).setCell (by have := HS3.out; simp; omega) _).setCell (by have := HS3.out; simp; omega) _)
  case rest =>
    obtain ⟨q0, q1, q2, q3, s6, X6⟩ := hcut
    go_wp2_with fail
    refine (HSb.out _).mono ?_
    rintro e w6 ⟨rfl, b6⟩
    have t0 : w6.cell? ⟨w3.heap.size, 0, none⟩ = some (.int .i64 0) := (b6.cell (by simp; omega)).trans q0
    have t1 : w6.cell? ⟨w3.heap.size, 1, none⟩ = some (.int .u64 P) := (b6.cell (by simp; omega)).trans q1
    have s7 : w3.heap.size < w6.heap.size := by have := b6.size; omega
    have s8 : ¬ w3.heap.size = w6.heap.size := by omega
    have s9 : ¬ w6.heap.size = w3.heap.size := by omega
    have X7 := Lib.hid (X6.out.trans b6)
    clear q0 q1 q2 q3 b6 X6 s6 HN HN2 HSb HO HO2 HI HIm HIn HL HIl hii hnn hz1 X3 HS3
    go_wp2_with fail
    go_region_with (first
      | (go_at_call 34; (with_reducible refine (HSc.out _).mono ?_); rintro e w7 ⟨rfl, b7⟩
         have r0 : w7.cell? ⟨w3.heap.size, 0, none⟩ = some (.int .i64 0) := (b7.cell (by simp; omega)).trans ((World.cell?_alloc_lt w6 _ _ (by simp; omega)).trans t0)
         have r1 : w7.cell? ⟨w3.heap.size, 1, none⟩ = some (.int .u64 P) := (b7.cell (by simp; omega)).trans ((World.cell?_alloc_lt w6 _ _ (by simp; omega)).trans t1))
      | (go_at_call 33; (with_reducible refine (HCm.out _).mono ?_); rintro e w8 ⟨rfl, b8⟩))
    all_goals go_wp2_with fail
    all_goals go_ret
    all_goals refine ⟨rfl, X7.out.trans ?_⟩
    all_goals exact (((Below.refl w6.heap.size w6).alloc (Nat.le_refl _) _).drew.trans (b7.mono (by simp))).trans (b8.mono (by have := b7.size; simp at this; omega))
set_option maxHeartbeats 4000000 in
set_option maxRecDepth 100000 in
theorem sketchBuckets_negC (w : World) (n : Int) (h0 : n < 0) (h1 : -9223372036854775808 ≤ n) (h1b : n ≤ -9223372036854775808) (m : Int) (hm : I64 m) (hnm : n ≤ m) :
    Calls Try.prog 11 #[.int .i64 n, .int .i64 m] w fun e w' => e = .returned (.bool true) ∧ Below w.heap.size w w' := by
  obtain ⟨hm0, hm1⟩ := hm
  obtain ⟨l0, l1, l2⟩ := near_neg n h0 (by omega)
  have hir := idx_range n (by omega) (by omega)
  have hli := low_idx (idx n) hir.1 hir.2
  have hmono := idx_mono (n := n) (m := m) ⟨by omega, by omega⟩ ⟨hm0, hm1⟩ hnm
  have HI := Lib.hid (fun w => Index_any len64 n w (by omega) (by omega))
  have HIm := Lib.hid (fun w => Index_any len64 m w (by omega) (by omega))
  have HL := Lib.hid (fun w => Low_any (idx n) w)
  have HIl := Lib.hid (fun w => index_at (low (idx n)) (idx n) hli (by omega) (by omega) w)
  obtain ⟨j, hj⟩ : ∃ j, idx m = j := ⟨_, rfl⟩
  obtain ⟨i, hi⟩ : ∃ i, idx n = i := ⟨_, rfl⟩
  rw [hj] at HIm hmono
  rw [hi] at HI HL HIl l0 l1 l2 hir hmono
  obtain ⟨L, hL⟩ : ∃ L, low i = L := ⟨_, rfl⟩
  rw [hL] at HL HIl l0 l1 l2
  clear hj hi hL hli
  have hii : (i != i) = false := by simp
  have hnn : ¬ -9223372036854775808 < n := by omega
  have hz1 : (L == 0) = false := by rw [beq_eq_false_iff_ne]; omega
  have hz2 : (n == 0) = false := by rw [beq_eq_false_iff_ne]; omega
  have hji : ¬ j < i := by omega
  have HO := Lib.hid (fun w => of_neg n w h0 (by omega))
  have HO2 := Lib.hid (fun w => of_neg L w l0 (by omega))
  have HN := Lib.hid (fun w => neg_val n w h0 (by omega))
  have HN2 := Lib.hid (fun w => neg_val L w l0 (by omega))
  have HSb := Lib.hid (fun w => sub_any (-n) (-L) w (by omega) (by omega) (by omega))
  obtain ⟨P, hP⟩ : ∃ P, -n = P := ⟨_, rfl⟩
  obtain ⟨Q, hQ⟩ : ∃ Q, -L = Q := ⟨_, rfl⟩
  obtain ⟨f, hf⟩ : ∃ f, -n - -L = f := ⟨_, rfl⟩
  rw [hf] at HSb
  rw [hP] at HN HSb
  rw [hQ] at HN2 HSb
  have HSc := Lib.hid (fun w => scale_any f w (by omega) (by omega))
  obtain ⟨g, hg⟩ : ∃ g, 32 * f = g := ⟨_, rfl⟩
  rw [hg] at HSc
  have HCm := Lib.hid (fun w => compare_any g P w (by omega))
  clear hP hQ hf hg
  go_enter Try.func11, Try.ntmps11
  go_wp2_with (first
    | (go_at_call 12; refine (example_any _).mono ?_; rintro e w1 ⟨rfl, hb1⟩; have X1 := Lib.hid (show Ext w w1 from hb1); clear hb1)
    | (go_at_call 13; ((with_reducible refine (HI.out _).mono ?_); rintro e w2 ⟨rfl, rfl⟩))
    | (go_at_call 13; ((with_reducible refine (HIm.out _).mono ?_); rintro e w2 ⟨rfl, rfl⟩))
    | (go_at_call 13; ((with_reducible refine (HIl.out _).mono ?_); rintro e w2 ⟨rfl, rfl⟩))
    | (go_at_call 15; ((with_reducible refine (HL.out _).mono ?_); rintro e w2 ⟨rfl, rfl⟩)))
  refine (HO.out _).mono ?_
  rintro e w2 ⟨rfl, b2⟩
  have X2 := Lib.hid (X1.out.trans b2)
  clear b2 X1
  go_wp2_with fail
  refine (HO2.out _).mono ?_
  rintro e w3 ⟨rfl, b3⟩
  have X3 := Lib.hid (X2.out.trans b3)
  clear b3 X2
  have HS3 := Lib.hid X3.out.size
  clear hir hji hmono hm0 hm1 hnm l1 l2 h1 h1b
  go_upto_region 8 with fail
  go_cut [63] (fun _ wx => wx.cell? ⟨w3.heap.size, 0, none⟩ = some (.int .i64 0) ∧ wx.cell? ⟨w3.heap.size, 1, none⟩ = some (.int .u64 P) ∧ wx.cell? ⟨w3.heap.size + 1, 0, none⟩ = some (.int .i64 0) ∧ wx.cell? ⟨w3.heap.size + 1, 1, none⟩ = some (.int .u64 Q) ∧ w3.heap.size + 1 < wx.heap.size ∧ Hid (Ext w wx))
  case first =>
    clear HI HIm HL HIl hii hnn hz1 hz2 HO HO2 HSb HSc HCm
    go_region_with (first
      | (go_at_call 31; (with_reducible refine (HN.out _).mono ?_); rintro e w4 ⟨rfl, b4⟩
         have k0 : w4.cell? ⟨w3.heap.size, 0, none⟩ = some (.int .i64 (-1)) := by rw [b4.cell (by simp; try omega)]; simp
         have k1 : w4.cell? ⟨w3.heap.size, 1, none⟩ = some (.int .u64 (18446744073709551616 + n)) := by rw [b4.cell (by simp; try omega)]; simp
         have k2 : w4.cell? ⟨w3.heap.size + 1, 0, none⟩ = some (.int .i64 (-1)) := by rw [b4.cell (by simp; try omega)]; simp
         have k3 : w4.cell? ⟨w3.heap.size + 1, 1, none⟩ = some (.int .u64 (18446744073709551616 + L)) := by rw [b4.cell (by simp; try omega)]; simp
         have g0 : ∀ o, w4.frozen? ⟨w3.heap.size, o, none⟩ = false := fun o => by rw [b4.frozen (by simp; try omega)]; simp
         have g1 : ∀ o, w4.frozen? ⟨w3.heap.size + 1, o, none⟩ = false := fun o => by rw [b4.frozen (by simp; try omega)]; simp
         have hz4 : w3.heap.size + 1 < w4.heap.size := by have := b4.size; simp at this; omega)
      | (go_at_call 31; (with_reducible refine (HN2.out _).mono ?_); rintro e w5 ⟨rfl, b5⟩
         have m0 : w5.cell? ⟨w3.heap.size, 0, none⟩ = some (.int .i64 (-1)) := by rw [b5.cell (by simp; omega)]; exact k0
         have m1 : w5.cell? ⟨w3.heap.size, 1, none⟩ = some (.int .u64 (18446744073709551616 + n)) := by rw [b5.cell (by simp; omega)]; exact k1
         have m2 : w5.cell? ⟨w3.heap.size + 1, 0, none⟩ = some (.int .i64 (-1)) := by rw [b5.cell (by simp; omega)]; exact k2
         have m3 : w5.cell? ⟨w3.heap.size + 1, 1, none⟩ = some (.int .u64 (18446744073709551616 + L)) := by rw [b5.cell (by simp; omega)]; exact k3
         have p0 : ∀ o, w5.frozen? ⟨w3.heap.size, o, none⟩ = false := fun o => by rw [b5.frozen (by simp; omega)]; exact g0 o
         have p1 : ∀ o, w5.frozen? ⟨w3.heap.size + 1, o, none⟩ = false := fun o => by rw [b5.frozen (by simp; omega)]; exact g1 o))
    all_goals
      go_wp2_with fail
      go_meet
      have s5 : w3.heap.size + 1 < w5.heap.size := Nat.lt_of_lt_of_le hz4 b5.size
      have X5 : Ext w w5 := X3.out.trans (((((Below.refl w3.heap.size w3).alloc (Nat.le_refl _) (.cells #[.int .i64 (-1), .int .u64 (18446744073709551616 + n)] 44)).alloc (by simp) (.cells #[.int .i64 (-1), .int .u64 (18446744073709551616 + L)] 44)).drew.trans (b4.mono (B' := w3.heap.size) (by simp; omega))).trans (b5.mono (B' := w3.heap.size) (by omega)))
      refine ⟨by first | exact (set4a m0 m1).1 | exact (set4b m0 m1).1, by first | exact (set4a m0 m1).2 | exact (set4b m0 m1).2, by first | exact (set4c m2 m3).1 | exact (set4d m2 m3).1, by first | exact (set4c m2 m3).2 | exact (set4d m2 m3).2, by simp; omega, ?_⟩
      exact (((((X5 : Below w.heap.size w w5).setCell (by have := HS3.out; simp; omega) _).setCell (by have := HS3.out; simp; omega) _).setCell (by have := HS3.out; simp; omega) _).setCell (by have := HS3.out; simp; omega) _)
  case rest =>
    obtain ⟨q0, q1, q2, q3, s6, X6⟩ := hcut
    go_wp2_with fail
    refine (HSb.out _).mono ?_
    rintro e w6 ⟨rfl, b6⟩
    have t0 : w6.cell? ⟨w3.heap.size, 0, none⟩ = some (.int .i64 0) := (b6.cell (by simp; omega)).trans q0
    have t1 : w6.cell? ⟨w3.heap.size, 1, none⟩ = some (.int .u64 P) := (b6.cell (by simp; omega)).trans q1
    have s7 : w3.heap.size < w6.heap.size := by have := b6.size; omega
    have s8 : ¬ w3.heap.size = w6.heap.size := by omega
    have s9 : ¬ w6.heap.size = w3.heap.size := by omega
    have X7 := Lib.hid (X6.out.trans b6)
    clear q0 q1 q2 q3 b6 X6 s6 HN HN2 HSb HO HO2 HI HIm HL HIl hii hnn hz1 X3 HS3
    go_wp2_with fail
    go_region_with (first
      | (go_at_call 34; (with_reducible refine (HSc.out _).mono ?_); rintro e w7 ⟨rfl, b7⟩
         have r0 : w7.cell? ⟨w3.heap.size, 0, none⟩ = some (.int .i64 0) := (b7.cell (by simp; omega)).trans ((World.cell?_alloc_lt w6 _ _ (by simp; omega)).trans t0)
         have r1 : w7.cell? ⟨w3.heap.size, 1, none⟩ = some (.int .u64 P) := (b7.cell (by simp; omega)).trans ((World.cell?_alloc_lt w6 _ _ (by simp; omega)).trans t1))
      | (go_at_call 33; (with_reducible refine (HCm.out _).mono ?_); rintro e w8 ⟨rfl, b8⟩))
    all_goals go_wp2_with fail
    all_goals go_ret
    all_goals refine ⟨rfl, X7.out.trans ?_⟩
    all_goals exact (((Below.refl w6.heap.size w6).alloc (Nat.le_refl _) _).drew.trans (b7.mono (by simp))).trans (b8.mono (by have := b7.size; simp at this; omega))
end Go.Proofs.Ythppcgafanognaa
