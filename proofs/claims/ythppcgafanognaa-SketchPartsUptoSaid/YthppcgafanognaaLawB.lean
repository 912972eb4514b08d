/-
  The walks over the laws on sums: SketchMatchesSums, SketchSums.
-/
import Derived.Test.YthppcgafanognaaLawA
namespace Go.Proofs.Ythppcgafanognaa
open Go.RowKit

theorem tot_single (i n k : Int) (h : I64 n) : tot [(i, n)] k = if i = k then n else 0 := by
  unfold tot totFrom
  split
  · rw [totFrom, Int.zero_add, w64 h.1 h.2]
  · rfl
theorem single_asc {i n : Int} (h : n ≠ 0) : Asc [(i, n)] := ⟨by simp, by simp [h]⟩
theorem single_wf {i n : Int} (h1 : I64 i) (h2 : I64 n) : WfB [(i, n)] := fun x hx => by simp at hx; subst hx; exact ⟨h1, h2⟩
theorem idx_I64 {n : Int} (h : I64 n) : I64 (idx n) := by have := idx_range n h.1 h.2; exact ⟨by omega, by omega⟩
/-- the program's Add gives the reference's -/
theorem add_eq {l m : Bks} {n t : Int} (hl : Asc l) (fl : WfB l) (hn : I64 n) (ht : I64 t) (hm : Asc m) (fm : WfB m) (h : ∀ k, tot m k = tot (l ++ [(idx n, t)]) k) : m = addRef l n t := by
  unfold addRef
  by_cases h0 : t = 0
  · rw [if_pos h0]
    subst h0
    refine asc_ext hm fm hl fl fun k => ?_
    rw [h k, tot_snoc]
    split
    · have := tot_range l k; rw [Int.add_zero, w64 this.1 this.2]
    · rfl
  · rw [if_neg h0]
    have hs := single_asc (i := idx n) h0
    have hw := single_wf (idx_I64 hn) ht
    refine asc_ext hm fm (mergeRef_asc l _ hl hs) (mergeRef_wf l _ fl hw) fun k => ?_
    rw [h k, tot_append hs hw, mergeRef_tot l _ hl fl hs hw]
theorem merge_eq {a b m : Bks} (ha : Asc a) (fa : WfB a) (hb : Asc b) (fb : WfB b) (hm : Asc m) (fm : WfB m) (h : ∀ k, tot m k = tot (a ++ b) k) : m = mergeRef a b := by
  refine asc_ext hm fm (mergeRef_asc a b ha hb) (mergeRef_wf a b fa fb) fun k => ?_
  rw [h k, tot_append hb fb, mergeRef_tot a b ha fa hb fb]

set_option maxHeartbeats 2000000 in
theorem sketchMatchesSums_walk (w : World) (A : Option Addr) (c : Nat) (a : Bks) (ha : Arr w benc 2 A a) (fa : WfB a) (na : a.length ≤ 1048576) (B : Option Addr) (d : Nat) (b : Bks) (hb : Arr w benc 2 B b) (fb : WfB b) (nb : b.length ≤ 1048576)
    (n : Int) (hn : I64 n) (t : Int) (ht : I64 t) :
    Calls Try.prog 8 #[.slice A a.length c, .slice B b.length d, .int .i64 n, .int .i64 t] w fun e w' => e = .returned (.bool true) ∧ Below w.heap.size w w' := by
  have HA := Lib.hid ha
  have HB := Lib.hid hb
  clear ha hb
  go_enter Try.func8, Try.ntmps8
  go_wp2_with fail
  refine (example_any _).mono ?_
  rintro e w1 ⟨rfl, hb1⟩
  have HB1 := Lib.hid hb1
  clear hb1
  go_wp2_with fail
  refine (valid_any A c a w1 (by omega) (HA.out.below HB1.out)).mono ?_
  rintro e w2 ⟨v, k, rfl, hv, rfl⟩
  have HV := Lib.hid hv
  have HB2 := Lib.hid (below_drewN HB1.out k)
  clear HB1 hv
  cases v with
  | false =>
    clear HV
    go_wp2_with fail
    go_ret
    exact ⟨rfl, HB2.out⟩
  | true =>
    go_wp2_with fail
    refine (valid_any B d b _ (by omega) (HB.out.below HB2.out)).mono ?_
    rintro e w3 ⟨v', k', rfl, hv', rfl⟩
    have HV' := Lib.hid hv'
    have HB3 := Lib.hid (below_drewN HB2.out k')
    clear HB2 hv'
    obtain ⟨w3, hw3⟩ : ∃ w3, (w1.drewN k).drewN k' = w3 := ⟨_, rfl⟩
    rw [hw3] at HB3 ⊢
    clear hw3
    cases v' with
    | false =>
      clear HV HV'
      go_wp2_with fail
      go_ret
      exact ⟨rfl, HB3.out⟩
    | true =>
      have VA := Lib.hid (asc_of_valid a (HV.out.1 (by simp)))
      have VB := Lib.hid (asc_of_valid b (HV'.out.1 (by simp)))
      clear HV HV'
      go_wp2_with fail
      refine (add_any A c a n t w3 (HA.out.below HB3.out) fa (by omega) hn ht).mono ?_
      rintro e w4 ⟨A4, c4, m4, rfl, ha4, s4, f4, l4, t4, b4⟩
      have e4 := add_eq VA.out fa hn ht s4 f4 t4
      have HA4 := Lib.hid ha4
      have HB4 := Lib.hid (HB3.out.trans (b4.mono HB3.out.size))
      have E4 := Lib.hid e4
      clear ha4 s4 f4 t4 b4 e4
      go_wp2_with fail
      refine (refAdd_any A c a n t w4 (HA.out.below HB4.out) (by omega) hn).mono ?_
      rintro e w5 ⟨A5, c5, rfl, ha5, b5⟩
      have HA5 := Lib.hid ha5
      have HA4' := Lib.hid (HA4.out.below b5)
      have HB5 := Lib.hid (HB4.out.trans (b5.mono HB4.out.size))
      clear ha5 b5 HA4
      go_wp2_with fail
      refine (same_any A4 A5 c4 c5 m4 (addRef a n t) w5 (by omega) HA4'.out HA5.out).mono ?_
      rintro e w6 ⟨v6, k6, rfl, hv6, rfl⟩
      obtain rfl : v6 = true := hv6.2 E4.out
      clear hv6
      have HB6 := Lib.hid (below_drewN HB5.out k6)
      obtain ⟨w6, hw6⟩ : ∃ w6, w5.drewN k6 = w6 := ⟨_, rfl⟩
      rw [hw6] at HB6 ⊢
      clear hw6 HA4' HA5 HB5 HB4 HB3 E4
      go_wp2_with fail
      refine (merge_any A B c d a b w6 (HA.out.below HB6.out) (HB.out.below HB6.out) fa fb (by omega)).mono ?_
      rintro e w7 ⟨A7, c7, m7, rfl, ha7, s7, f7, l7, t7, b7⟩
      have E7 := Lib.hid (merge_eq VA.out fa VB.out fb s7 f7 t7)
      have HA7 := Lib.hid ha7
      have HB7 := Lib.hid (HB6.out.trans (b7.mono HB6.out.size))
      clear ha7 s7 f7 t7 b7
      go_wp2_with fail
      refine (refMerge_any A B c d a b w7 (HA.out.below HB7.out) (HB.out.below HB7.out) (by omega)).mono ?_
      rintro e w8 ⟨A8, c8, rfl, ha8, b8⟩
      have HA8 := Lib.hid ha8
      have HA7' := Lib.hid (HA7.out.below b8)
      have HB8 := Lib.hid (HB7.out.trans (b8.mono HB7.out.size))
      clear ha8 b8 HA7
      go_wp2_with fail
      refine (same_any A7 A8 c7 c8 m7 (mergeRef a b) w8 (by omega) HA7'.out HA8.out).mono ?_
      rintro e w9 ⟨v9, k9, rfl, hv9, rfl⟩
      obtain rfl : v9 = true := hv9.2 E7.out
      clear hv9
      have HB9 := Lib.hid (below_drewN HB8.out k9)
      obtain ⟨w9, hw9⟩ : ∃ w9, w8.drewN k9 = w9 := ⟨_, rfl⟩
      rw [hw9] at HB9 ⊢
      clear hw9 HA7' HA8 HB8 HB7 HB6 E7
      go_wp2_with fail
      refine (count_any A c a w9 (by omega) (HA.out.below HB9.out)).mono ?_
      rintro e w10 ⟨rfl, b10⟩
      have HB10 := Lib.hid (HB9.out.trans (b10.mono HB9.out.size))
      clear b10 HB9
      go_wp2_with fail
      refine (refCount_any A c a w10 (by omega) (HA.out.below HB10.out)).mono ?_
      rintro e w11 ⟨rfl, rfl⟩
      go_wp2_with fail
      go_ret
      exact ⟨by simp, HB10.out⟩

/-- the sum of the numbers, without wraparound -/
def sumZ : Bks → Int
  | [] => 0
  | x :: t => x.2 + sumZ t
theorem w64_w64 (a b : Int) : wrap64 (wrap64 a + b) = wrap64 (a + b) := by unfold wrap64; omega
theorem w64_w64' (a b : Int) : wrap64 (a + wrap64 b) = wrap64 (a + b) := by unfold wrap64; omega
theorem countFrom_sum (l : Bks) : ∀ s, I64 s → countFrom s l = wrap64 (s + sumZ l) := by
  induction l with
  | nil => intro s h; rw [countFrom, sumZ, Int.add_zero, w64 h.1 h.2]
  | cons x t ih => intro s _; rw [countFrom, ih _ (w64_range _), sumZ, w64_w64, Int.add_assoc]
theorem count_sum (l : Bks) : count l = wrap64 (sumZ l) := by
  rw [count, countFrom_sum l 0 ⟨by omega, by omega⟩, Int.zero_add]
theorem mergeRef_sum (a b : Bks) : wrap64 (sumZ (mergeRef a b)) = wrap64 (sumZ a + sumZ b) := by
  fun_induction mergeRef a b with
  | case1 b => simp [sumZ]
  | case2 x a => simp [sumZ]
  | case3 x a y b hlt ih => simp only [sumZ] at *; rw [← w64_w64', ih, w64_w64']; congr 1; omega
  | case4 x a y b h1 hlt ih => simp only [sumZ] at *; rw [← w64_w64', ih, w64_w64']; congr 1; omega
  | case5 x a y b h1 h2 h0 ih =>
    simp only [sumZ] at *
    rw [ih, show x.2 + sumZ a + (y.2 + sumZ b) = (x.2 + y.2) + (sumZ a + sumZ b) by omega, ← w64_w64 (x.2 + y.2) _, h0, Int.zero_add]
  | case6 x a y b h1 h2 h0 ih =>
    simp only [sumZ] at *
    rw [w64_w64, show x.2 + sumZ a + (y.2 + sumZ b) = (x.2 + y.2) + (sumZ a + sumZ b) by omega, ← w64_w64', ih, w64_w64']
theorem mergeRef_count (a b : Bks) : count (mergeRef a b) = wrap64 (count a + count b) := by
  rw [count_sum, count_sum a, count_sum b, mergeRef_sum, w64_w64, w64_w64']

/-- the new world keeps what was there -/
def Ext (w w' : World) : Prop := Below w.heap.size w w'
theorem Ext.trans {a b c : World} (h : Ext a b) (k : Ext b c) : Ext a c := Below.trans h (Below.mono k h.size)
theorem Ext.drewN (w : World) (n : Nat) : Ext w (w.drewN n) := below_drewN (Below.refl _ _) n
theorem Arr.ext {α : Type} {w w' : World} {enc : α → List Value} {size : Nat} {A : Option Addr} {l : List α} (h : Arr w enc size A l) (e : Ext w w') : Arr w' enc size A l := h.below e

set_option maxHeartbeats 2000000 in
theorem sketchSums_walk (w : World) (A : Option Addr) (cA : Nat) (a : Bks) (ha : Arr w benc 2 A a) (fa : WfB a) (na : a.length ≤ 1048576) (B : Option Addr) (cB : Nat) (b : Bks) (hb : Arr w benc 2 B b) (fb : WfB b) (nb : b.length ≤ 1048576)
    (C : Option Addr) (cC : Nat) (c : Bks) (hc : Arr w benc 2 C c) (fc : WfB c) (nc : c.length ≤ 1048576) :
    Calls Try.prog 9 #[.slice A a.length cA, .slice B b.length cB, .slice C c.length cC] w fun e w' => e = .returned (.bool true) ∧ Below w.heap.size w w' := by
  have HA := Lib.hid ha
  have HB := Lib.hid hb
  have HC := Lib.hid hc
  clear ha hb hc
  go_enter Try.func9, Try.ntmps9
  go_wp2_with fail
  refine (example_any _).mono ?_
  rintro e w1 ⟨rfl, hb1⟩
  have X1 := Lib.hid (show Ext w w1 from hb1)
  clear hb1
  go_wp2_with fail
  refine (valid_any A cA a w1 (by omega) (HA.out.ext X1.out)).mono ?_
  rintro e w2 ⟨v, k, rfl, hv, rfl⟩
  have HV := Lib.hid hv
  have X2 := Lib.hid (X1.out.trans (Ext.drewN w1 k))
  clear hv X1
  cases v with
  | false =>
    clear HV
    go_wp2_with fail
    go_ret
    exact ⟨rfl, X2.out⟩
  | true =>
    have VA := Lib.hid (asc_of_valid a (HV.out.1 (by simp)))
    clear HV
    obtain ⟨w2, hw2⟩ : ∃ w2, w1.drewN k = w2 := ⟨_, rfl⟩
    rw [hw2] at X2 ⊢
    clear hw2
    go_wp2_with fail
    refine (valid_any B cB b w2 (by omega) (HB.out.ext X2.out)).mono ?_
    rintro e w3 ⟨v, k, rfl, hv, rfl⟩
    have HV := Lib.hid hv
    have X3 := Lib.hid (X2.out.trans (Ext.drewN w2 k))
    clear hv X2
    obtain ⟨w3, hw3⟩ : ∃ w3, w2.drewN k = w3 := ⟨_, rfl⟩
    rw [hw3] at X3 ⊢
    clear hw3
    cases v with
    | false =>
      clear HV
      go_wp2_with fail
      go_ret
      exact ⟨rfl, X3.out⟩
    | true =>
      have VB := Lib.hid (asc_of_valid b (HV.out.1 (by simp)))
      clear HV
      go_wp2_with fail
      refine (valid_any C cC c w3 (by omega) (HC.out.ext X3.out)).mono ?_
      rintro e w4 ⟨v, k, rfl, hv, rfl⟩
      have HV := Lib.hid hv
      have X4 := Lib.hid (X3.out.trans (Ext.drewN w3 k))
      clear hv X3
      obtain ⟨w4, hw4⟩ : ∃ w4, w3.drewN k = w4 := ⟨_, rfl⟩
      rw [hw4] at X4 ⊢
      clear hw4
      cases v with
      | false =>
        clear HV
        go_wp2_with fail
        go_ret
        exact ⟨rfl, X4.out⟩
      | true =>
        have VC := Lib.hid (asc_of_valid c (HV.out.1 (by simp)))
        clear HV
        go_wp2_with fail
        -- ab := Merge(a, b)
        refine (merge_any A B cA cB a b w4 (HA.out.ext X4.out) (HB.out.ext X4.out) fa fb (by omega)).mono ?_
        rintro e w5 ⟨P, cP, ab, rfl, hab, sab, fab, lab, tab, b5⟩
        have HP := Lib.hid hab
        have E5 := Lib.hid (merge_eq VA.out fa VB.out fb sab fab tab)
        have SP := Lib.hid sab
        have FP := Lib.hid fab
        have X5 := Lib.hid (X4.out.trans b5)
        clear hab sab fab tab b5 X4
        go_wp2_with fail
        refine (valid_any P cP ab w5 (by omega) HP.out).mono ?_
        rintro e w6 ⟨v, k, rfl, hv, rfl⟩
        obtain rfl : v = true := hv.2 (valid_of_asc SP.out)
        clear hv
        have HP6 := Lib.hid (HP.out.ext (Ext.drewN w5 k))
        have X6 := Lib.hid (X5.out.trans (Ext.drewN w5 k))
        obtain ⟨w6, hw6⟩ : ∃ w6, w5.drewN k = w6 := ⟨_, rfl⟩
        rw [hw6] at HP6 X6 ⊢
        clear hw6 X5 HP
        go_wp2_with fail
        -- Merge(b, a)
        refine (merge_any B A cB cA b a w6 (HB.out.ext X6.out) (HA.out.ext X6.out) fb fa (by omega)).mono ?_
        rintro e w7 ⟨Q, cQ, ba, rfl, hba, sba, fba, lba, tba, b7⟩
        have E7 := Lib.hid (show ab = ba by
          refine asc_ext SP.out FP.out sba fba fun k => ?_
          rw [tba k, tot_append VA.out fa, E5.out, mergeRef_tot a b VA.out fa VB.out fb, Int.add_comm])
        have HQ := Lib.hid hba
        have HP7 := Lib.hid (HP6.out.ext b7)
        have X7 := Lib.hid (X6.out.trans b7)
        clear hba sba fba tba b7 X6 HP6
        go_wp2_with fail
        refine (same_any P Q cP cQ ab ba w7 (by omega) HP7.out HQ.out).mono ?_
        rintro e w8 ⟨v, k, rfl, hv, rfl⟩
        obtain rfl : v = true := hv.2 E7.out
        clear hv HQ E7
        have HP8 := Lib.hid (HP7.out.ext (Ext.drewN w7 k))
        have X8 := Lib.hid (X7.out.trans (Ext.drewN w7 k))
        obtain ⟨w8, hw8⟩ : ∃ w8, w7.drewN k = w8 := ⟨_, rfl⟩
        rw [hw8] at HP8 X8 ⊢
        clear hw8 X7 HP7
        go_wp2_with fail
        -- Merge(a, nil)
        refine (merge_any A none cA 0 a [] w8 (HA.out.ext X8.out) (Arr.nil _ _ _ _) fa (fun x hx => by cases hx) (by simp; omega)).mono ?_
        rintro e w9 ⟨Q, cQ, an, rfl, han, san, fan, lan, tan, b9⟩
        have E9 := Lib.hid (show an = a by
          refine asc_ext san fan VA.out fa fun k => ?_
          rw [tan k, List.append_nil])
        have HQ := Lib.hid han
        have HP9 := Lib.hid (HP8.out.ext b9)
        have X9 := Lib.hid (X8.out.trans b9)
        clear han san fan tan b9 X8 HP8
        simp only [List.length_nil, Nat.add_zero] at lan
        go_wp2_with fail
        refine (same_any Q A cQ cA an a w9 (by omega) HQ.out (HA.out.ext X9.out)).mono ?_
        rintro e w10 ⟨v, k, rfl, hv, rfl⟩
        obtain rfl : v = true := hv.2 E9.out
        clear hv HQ E9
        have HP10 := Lib.hid (HP9.out.ext (Ext.drewN w9 k))
        have X10 := Lib.hid (X9.out.trans (Ext.drewN w9 k))
        obtain ⟨w10, hw10⟩ : ∃ w10, w9.drewN k = w10 := ⟨_, rfl⟩
        rw [hw10] at HP10 X10 ⊢
        clear hw10 X9 HP9
        have HCnt := Lib.hid (show wrap64 (count a + count b) = count ab by rw [E5.out, mergeRef_count])
        go_wp2_with fail
        refine (count_any P cP ab w10 (by omega) HP10.out).mono ?_
        rintro e w11 ⟨rfl, b11⟩
        have HP11 := Lib.hid (HP10.out.ext b11)
        have X11 := Lib.hid (X10.out.trans b11)
        clear b11 X10 HP10
        go_wp2_with fail
        refine (count_any A cA a w11 (by omega) (HA.out.ext X11.out)).mono ?_
        rintro e w12 ⟨rfl, b12⟩
        have HP12 := Lib.hid (HP11.out.ext b12)
        have X12 := Lib.hid (X11.out.trans b12)
        clear b12 X11 HP11
        go_wp2_with fail
        refine (count_any B cB b w12 (by omega) (HB.out.ext X12.out)).mono ?_
        rintro e w13 ⟨rfl, b13⟩
        have HP13 := Lib.hid (HP12.out.ext b13)
        have X13 := Lib.hid (X12.out.trans b13)
        clear b13 X12 HP12
        have hq : (count ab != wrap64 (count a + count b)) = false := by rw [HCnt.out]; simp
        go_wp2_with fail
        -- Merge(ab, c)
        refine (merge_any P C cP cC ab c w13 HP13.out (HC.out.ext X13.out) FP.out fc (by omega)).mono ?_
        rintro e w14 ⟨Q, cQ, abc, rfl, hq1, sq1, fq1, lq1, tq1, b14⟩
        have HQ := Lib.hid hq1
        have SQ := Lib.hid sq1
        have FQ := Lib.hid fq1
        have TQ := Lib.hid tq1
        have X14 := Lib.hid (X13.out.trans b14)
        clear hq1 sq1 fq1 tq1 b14 X13 HP13
        go_wp2_with fail
        refine (merge_any B C cB cC b c w14 (HB.out.ext X14.out) (HC.out.ext X14.out) fb fc (by omega)).mono ?_
        rintro e w15 ⟨R, cR, bc, rfl, hr1, sr1, fr1, lr1, tr1, b15⟩
        have HR := Lib.hid hr1
        have SR := Lib.hid sr1
        have FR := Lib.hid fr1
        have TR := Lib.hid tr1
        have HQ15 := Lib.hid (HQ.out.ext b15)
        have X15 := Lib.hid (X14.out.trans b15)
        clear hr1 sr1 fr1 tr1 b15 X14 HQ
        go_wp2_with fail
        refine (merge_any A R cA cR a bc w15 (HA.out.ext X15.out) HR.out fa FR.out (by omega)).mono ?_
        rintro e w16 ⟨S, cS, a_bc, rfl, hs1, ss1, fs1, ls1, ts1, b16⟩
        have E16 := Lib.hid (show abc = a_bc by
          refine asc_ext SQ.out FQ.out ss1 fs1 fun k => ?_
          rw [TQ.out k, ts1 k, tot_append VC.out fc, tot_append SR.out FR.out, E5.out, mergeRef_tot a b VA.out fa VB.out fb, TR.out k, tot_append VC.out fc, w64_w64, w64_w64', Int.add_assoc])
        have HS := Lib.hid hs1
        have HQ16 := Lib.hid (HQ15.out.ext b16)
        have X16 := Lib.hid (X15.out.trans b16)
        clear hs1 ss1 fs1 ts1 b16 X15 HQ15
        go_wp2_with fail
        refine (same_any Q S cQ cS abc a_bc w16 (by omega) HQ16.out HS.out).mono ?_
        rintro e w17 ⟨v, k, rfl, hv, rfl⟩
        obtain rfl : v = true := hv.2 E16.out
        clear hv
        go_wp2_with fail
        go_ret
        exact ⟨rfl, X16.out.trans (Ext.drewN w16 k)⟩
end Go.Proofs.Ythppcgafanognaa
