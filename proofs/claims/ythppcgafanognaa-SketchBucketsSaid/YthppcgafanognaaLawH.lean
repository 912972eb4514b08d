/-
  The walk over the law SketchBuckets: numbers from 0.
-/
import Derived.Test.YthppcgafanognaaLawE
import Derived.Test.YthppcgafanognaaLawF
import Derived.Test.YthppcgafanognaaLawG
namespace Go.Proofs.Ythppcgafanognaa
open Go.RowKit

set_option maxHeartbeats 4000000 in
set_option maxRecDepth 100000 in
theorem sketchBuckets_zero (w : World) (m : Int) (hm : I64 m) (hnm : 0 ≤ m) :
    Calls Try.prog 11 #[.int .i64 0, .int .i64 m] w fun e w' => e = .returned (.bool true) ∧ Below w.heap.size w w' := by
  obtain ⟨hm0, hm1⟩ := hm
  have hi0 : idx 0 = 0 := by decide
  have hl0 : low 0 = 0 := by decide
  have hmono := idx_mono (n := 0) (m := m) ⟨by omega, by omega⟩ ⟨hm0, hm1⟩ hnm
  rw [hi0] at hmono
  have HI := Lib.hid (fun w => index_at 0 0 hi0 (by omega) (by omega) w)
  have HIm := Lib.hid (fun w => Index_any len64 m w (by omega) (by omega))
  have HL := Lib.hid (fun w => Low_any 0 w)
  rw [hl0] at HL
  obtain ⟨j, hj⟩ : ∃ j, idx m = j := ⟨_, rfl⟩
  rw [hj] at HIm hmono
  clear hj hi0 hl0
  have hji : ¬ j < 0 := by omega
  have HO := Lib.hid (fun w => of_pos 0 w (by omega) (by omega))
  have HSb := Lib.hid (fun w => sub_any 0 0 w (by omega) (by omega) (by omega))
  simp only [Int.sub_self] at HSb
  go_enter Try.func11, Try.ntmps11
  go_wp2_with (first
    | (go_at_call 12; refine (example_any _).mono ?_; rintro e w1 ⟨rfl, hb1⟩; have X1 := Lib.hid (show Ext w w1 from hb1); clear hb1)
    | (go_at_call 13; ((with_reducible refine (HI.out _).mono ?_); rintro e w2 ⟨rfl, rfl⟩))
    | (go_at_call 13; ((with_reducible refine (HIm.out _).mono ?_); rintro e w2 ⟨rfl, rfl⟩))
    | (go_at_call 15; ((with_reducible refine (HL.out _).mono ?_); rintro e w2 ⟨rfl, rfl⟩)))
  refine (HO.out _).mono ?_
  rintro e w2 ⟨rfl, b2⟩
  have X2 := Lib.hid (X1.out.trans b2)
  clear b2 X1
  go_wp2_with fail
  refine (HO.out _).mono ?_
  rintro e w3 ⟨rfl, b3⟩
  have X3 := Lib.hid (X2.out.trans b3)
  clear b3 X2
  go_wp2_with fail
  refine (HSb.out _).mono ?_
  rintro e w6 ⟨rfl, b6⟩
  have X7 : Hid (Ext w w6) := Lib.hid (X3.out.trans (((((Below.refl w3.heap.size w3).alloc (Nat.le_refl _) _).alloc (by simp) _)).trans (b6.mono (by simp; omega))))
  clear b6 X3 HO HSb HI HIm HL
  go_wp2_with fail
  go_region_with fail
  all_goals go_wp2_with fail
  all_goals go_ret
  all_goals refine ⟨rfl, X7.out.trans ?_⟩
  all_goals exact (((Below.refl w6.heap.size w6).alloc (Nat.le_refl _) _).drew)

set_option maxHeartbeats 4000000 in
set_option maxRecDepth 100000 in
theorem sketchBuckets_zeroB (w : World) (m : Int) (hm : I64 m) (hnm : m < 0) :
    Calls Try.prog 11 #[.int .i64 0, .int .i64 m] w fun e w' => e = .returned (.bool true) ∧ Below w.heap.size w w' := by
  obtain ⟨hm0, hm1⟩ := hm
  have hi0 : idx 0 = 0 := by decide
  have hl0 : low 0 = 0 := by decide
  have HI := Lib.hid (fun w => index_at 0 0 hi0 (by omega) (by omega) w)
  have HIm := Lib.hid (fun w => Index_any len64 m w (by omega) (by omega))
  have HL := Lib.hid (fun w => Low_any 0 w)
  rw [hl0] at HL
  obtain ⟨j, hj⟩ : ∃ j, idx m = j := ⟨_, rfl⟩
  rw [hj] at HIm
  clear hj hi0 hl0
  have hji : ¬ 0 ≤ m := by omega
  have HO := Lib.hid (fun w => of_pos 0 w (by omega) (by omega))
  have HSb := Lib.hid (fun w => sub_any 0 0 w (by omega) (by omega) (by omega))
  simp only [Int.sub_self] at HSb
  go_enter Try.func11, Try.ntmps11
  go_wp2_with (first
    | (go_at_call 12; refine (example_any _).mono ?_; rintro e w1 ⟨rfl, hb1⟩; have X1 := Lib.hid (show Ext w w1 from hb1); clear hb1)
    | (go_at_call 13; ((with_reducible refine (HI.out _).mono ?_); rintro e w2 ⟨rfl, rfl⟩))
    | (go_at_call 13; ((with_reducible refine (HIm.out _).mono ?_); rintro e w2 ⟨rfl, rfl⟩))
    | (go_at_call 15; ((with_reducible refine (HL.out _).mono ?_); rintro e w2 ⟨rfl, rfl⟩)))
  refine (HO.out _).mono ?_
  rintro e w2 ⟨rfl, b2⟩
  have X2 := Lib.hid (X1.out.trans b2)
  clear b2 X1
  go_wp2_with fail
  refine (HO.out _).mono ?_
  rintro e w3 ⟨rfl, b3⟩
  have X3 := Lib.hid (X2.out.trans b3)
  clear b3 X2
  go_wp2_with fail
  refine (HSb.out _).mono ?_
  rintro e w6 ⟨rfl, b6⟩
  have X7 : Hid (Ext w w6) := Lib.hid (X3.out.trans (((((Below.refl w3.heap.size w3).alloc (Nat.le_refl _) _).alloc (by simp) _)).trans (b6.mono (by simp; omega))))
  clear b6 X3 HO HSb HI HIm HL
  go_wp2_with fail
  go_region_with fail
  all_goals go_wp2_with fail
  all_goals go_ret
  all_goals refine ⟨rfl, X7.out.trans ?_⟩
  all_goals exact (((Below.refl w6.heap.size w6).alloc (Nat.le_refl _) _).drew)

theorem sketchBuckets_walk (w : World) (n : Int) (hn : I64 n) (m : Int) (hm : I64 m) :
    Calls Try.prog 11 #[.int .i64 n, .int .i64 m] w fun e w' => e = .returned (.bool true) ∧ Below w.heap.size w w' := by
  obtain ⟨n0, n1⟩ := hn
  by_cases a : n < 0
  · by_cases b : n ≤ -9223372036854775808
    · exact sketchBuckets_negC w n a n0 b m hm (by have := hm.1; omega)
    · by_cases c : n ≤ m
      · exact sketchBuckets_neg w n a (by omega) m hm c
      · exact sketchBuckets_negB w n a (by omega) m hm (by omega)
  · by_cases b : n = 0
    · subst b
      by_cases c : 0 ≤ m
      · exact sketchBuckets_zero w m hm c
      · exact sketchBuckets_zeroB w m hm (by omega)
    · by_cases c : n ≤ m
      · exact sketchBuckets_pos w n (by omega) (by omega) m hm c
      · exact sketchBuckets_posB w n (by omega) (by omega) m hm (by omega)
end Go.Proofs.Ythppcgafanognaa
