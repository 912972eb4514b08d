/-
  The walk over the law SketchParts, where the remainder is not negative.
-/
import Derived.Test.YthppcgafanognaaLawP
namespace Go.Proofs.Ythppcgafanognaa
open Go.RowKit

theorem all_drop (A : Option Addr) (c : Nat) (l : List Int) (k : Nat) (w : World) (h : Arr w ienc 1 A l) (hf : ∀ n ∈ l, I64 n) (hlc : l.length ≤ c) (hl : l.length ≤ 1048576) :
    Calls Try.prog 22 #[.slice (if c = k then A else A.map (fun x => x.add k)) (l.length - k) (c - k)] w (SomeAll (l.drop k) w) := by
  have := all_any (if c = k then A else A.map (fun x => x.add k)) (c - k) (l.drop k) w (arr_drop h hlc) (fun n hn => hf n (List.mem_of_mem_drop hn)) (by simp; omega)
  rw [List.length_drop] at this; exact this
theorem all_take (A : Option Addr) (c : Nat) (l : List Int) (k : Nat) (w : World) (h : Arr w ienc 1 A l) (hf : ∀ n ∈ l, I64 n) (hk : k ≤ l.length) (hl : l.length ≤ 1048576) :
    Calls Try.prog 22 #[.slice A k c] w (SomeAll (l.take k) w) := by
  have := all_any A c (l.take k) w (arr_take h k) (fun n hn => hf n (List.mem_of_mem_take hn)) (by simp; omega)
  rw [List.length_take, Nat.min_eq_left hk] at this; exact this
theorem all_back_at (A : Option Addr) (c : Nat) (l : List Int) (k n : Nat) (w : World) (h : Arr w ienc 1 A (l.drop k ++ l.take k)) (hf : ∀ n ∈ l.drop k ++ l.take k, I64 n) (hn : (l.drop k ++ l.take k).length = n) (hl : n ≤ 1048576) :
    Calls Try.prog 22 #[.slice A n c] w (SomeAll (l.drop k ++ l.take k) w) := by
  have := all_any A c (l.drop k ++ l.take k) w h hf (by omega)
  rw [hn] at this; exact this

set_option maxHeartbeats 2000000 in
theorem parts_pos (w : World) (A : Option Addr) (cA : Nat) (l : List Int) (ha : Arr w ienc 1 A l) (fa : ∀ n ∈ l, I64 n) (hlc : l.length ≤ cA) (na : l.length ≤ 1048576) (cut r : Int) (k : Nat) (hr : cut.tmod (l.length + 1) = r) (hk : r = k) (hkl : k ≤ l.length) (hkc : k ≤ cA) 
    (B : Option Addr) (cB : Nat) (s : Bks) (hb : Arr w benc 2 B s) (fb : WfB s) (nb : s.length ≤ 1048576) :
    Calls Try.prog 10 #[.slice A l.length cA, .int .i64 cut, .slice B s.length cB] w fun e w' => e = .returned (.bool true) ∧ Below w.heap.size w w' := by
  have HA := Lib.hid ha
  have FA := Lib.hid fa
  have HB := Lib.hid hb
  have HR := hr
  have hr2 : ¬ r < 0 := by omega
  clear ha fa hb
  subst hk
  go_enter Try.func10, Try.ntmps10
  go_wp2_with fail
  refine (example_any _).mono ?_
  rintro e w1 ⟨rfl, hb1⟩
  have X1 := Lib.hid (show Ext w w1 from hb1)
  clear hb1
  go_wp2_with fail
  refine (valid_any B cB s w1 (by omega) (HB.out.ext X1.out)).mono ?_
  rintro e w2 ⟨v, k2, rfl, hv, rfl⟩
  have HV := Lib.hid hv
  have X2 := Lib.hid (X1.out.trans (Ext.drewN w1 k2))
  clear hv X1
  obtain ⟨w2, hw2⟩ : ∃ w2, w1.drewN k2 = w2 := ⟨_, rfl⟩
  rw [hw2] at X2 ⊢
  clear hw2
  cases v with
  | false =>
    clear HV
    go_wp2_with fail
    go_ret
    exact ⟨rfl, X2.out⟩
  | true =>
    have VS := Lib.hid (asc_of_valid s (HV.out.1 (by simp)))
    clear HV
    go_wp2_with fail
    go_region_law (first
      | (refine step_append_list rfl (.tmp 31) (.tmp 34) rfl (base := w2.heap.size) (v := .slice (some ⟨w2.heap.size, 0, none⟩) 0 0) (n := 0) (xs := []) (own_drew (World.ownsRow_lit w2 #[] 0 (Nat.le_refl _) (by decide) rfl)) (l := l.drop k) (A := if cA = k then A else A.map (fun x => x.add k)) (m := l.length - k) (c := cA - k) (by simp [Act.eval]) (by simp [Act.eval]) (by simp) (((arr_drop (HA.out.ext X2.out) hlc).alloc _).drew) (by omega) (by simp) ?_
         intro v3 w3 own3 gr3
         have X3 : Hid (Below w2.heap.size w2 w3) := Lib.hid ((((Below.refl w2.heap.size w2).alloc (Nat.le_refl _) (.cells #[] 3)).drew).grown gr3 (by simp) (by intro k hk; cases hk; simp))
         have Own3 := Lib.hid own3
         clear own3 gr3)
      | (refine step_append_list rfl (.tmp 35) (.tmp 38) rfl Own3.out (l := l.take k) (A := A) (m := k) (c := cA) (by simp [Act.eval]) (by simp [Act.eval]) (by simp; omega) (arr_take (HA.out.ext (X2.out.trans X3.out)) k) (by simp; omega) X3.out.size ?_
         intro v4 w4 own4 gr4
         have X4 : Hid (Ext w w4) := Lib.hid (X2.out.trans (X3.out.grown gr4 X3.out.size (own_block Own3.out)))
         have Own4 := Lib.hid own4
         clear own4 gr4 X3 Own3))
    generalize (if cA = k then A else Option.map (fun x => x.add k) A) = AD
    rw [show 0 + (l.length - k) + k = l.length by omega] at Own4
    obtain ⟨P, cP, rfl⟩ := own_shape Own4.out
    have hbl := Lib.hid (show (l.drop k ++ l.take k).length = l.length by simp; omega)
    have HBk := Lib.hid (arr_of_own (A := P) (l := l.drop k ++ l.take k) ienc_len hbl.out (by rw [← ints_flat, List.map_append]; exact Own4.out))
    have FBk := Lib.hid (show ∀ n ∈ l.drop k ++ l.take k, I64 n from fun n hn => FA.out n (by
      rcases List.mem_append.1 hn with h | h
      · exact List.mem_of_mem_drop h
      · exact List.mem_of_mem_take h))
    clear Own4 X2 hr HR hr2
    go_wp2_with fail
    refine (all_any A cA l w4 (HA.out.ext X4.out) FA.out (by omega)).mono ?_
    rintro e w5 ⟨M, cM, m, rfl, am, sm, fm, km, tm, b5⟩
    have lm := keys_length sm km
    have AM := Lib.hid am
    have SM := Lib.hid sm
    have FM := Lib.hid fm
    have TM := Lib.hid tm
    have X5 := Lib.hid (X4.out.trans b5)
    have HBk5 := Lib.hid (HBk.out.ext b5)
    have HC := Lib.hid (count_of sm fm tm (by omega))
    clear am sm fm km tm b5 X4 HBk
    go_wp2_with fail
    have AM5 := Lib.hid (AM.out.drew)
    have HBk5 := Lib.hid (HBk5.out.drew)
    have X5 : Hid (Ext w w5.drew) := Lib.hid (X5.out.trans (Ext.drewN w5 1))
    clear AM
    refine wp_region_any (by kernel_rfl) ?_
    try (change wpAny _ _ _ _ _ _ _ (World.drew _))
    refine wpAny_take (i := 0) (v := ?_) rfl (by kernel_rfl) (by kernel_rfl) (by kernel_rfl) (fun _ _ _ h => h) (Or.inl ⟨by rfl, ?_⟩) ?_
    rotate_left
    · intro w; go_simp; try with_reducible rfl
    conv => arg 7; simp [Act.put]
    refine wpAny_take (i := 1) (v := ?_) rfl (by kernel_rfl) (by kernel_rfl) (by kernel_rfl) (fun _ _ _ h => h) (Or.inl ⟨by rfl, ?_⟩) ?_
    rotate_left
    · intro w; go_simp; try with_reducible rfl
    conv => arg 7; simp [Act.put]
    refine wpAny_ready (rs := [2]) (by kernel_rfl) (by simp) ?_
    refine AllReady.cons rfl (fun K hK => ?_) AllReady.nil
    go_simp
    go_at_call 22; (with_reducible refine (all_back_at P cP l k l.length _ HBk5.out FBk.out hbl.out na).mono ?_)
    rintro e w6 ⟨M', cM', m', rfl, am', sm', fm', km', tm', b6⟩
    have lm' := keys_length sm' km'
    have E6 := Lib.hid (all_back na SM.out FM.out TM.out sm' fm' tm')
    have AM' := Lib.hid am'
    have X6 := Lib.hid (X5.out.trans b6)
    have AM6 := Lib.hid (AM5.out.ext b6)
    have HBk6 := Lib.hid (HBk5.out.ext b6)
    clear am' sm' fm' km' tm' b6 X5 HBk5 AM5
    try go_simp
    refine hK _ _ ?_
    clear hK K
    try (conv => arg 7; simp [Act.put])
    refine wpAny_ready (rs := [3]) (by kernel_rfl) (by simp) ?_
    refine AllReady.cons rfl (fun K hK => ?_) AllReady.nil
    go_simp
    go_at_call 23; (with_reducible refine (same_any M M' cM cM' m m' w6 (by omega) AM6.out AM'.out).mono ?_)
    rintro e w7 ⟨v, k3, rfl, hv, rfl⟩
    obtain rfl : v = true := hv.2 E6.out
    have X7 : Hid (Ext w (w6.drewN k3)) := Lib.hid (X6.out.trans (Ext.drewN w6 k3))
    have AM7 := Lib.hid (AM6.out.ext (Ext.drewN w6 k3))
    have HBk7 := Lib.hid (HBk6.out.ext (Ext.drewN w6 k3))
    clear hv E6 AM' X6 AM6 HBk6
    generalize w6.drewN k3 = w7 at X7 AM7 HBk7 ⊢
    try go_simp
    refine hK _ _ ?_
    clear hK K
    try (conv => arg 7; simp [Act.put])
    refine wpAny_take (i := 4) (v := ?_) rfl (by kernel_rfl) (by kernel_rfl) (by kernel_rfl) (fun _ _ _ h => h) (Or.inl ⟨by rfl, ?_⟩) ?_
    rotate_left
    · intro w; go_simp; try with_reducible rfl
    conv => arg 7; simp [Act.put]
    refine wpAny_take (i := 5) (v := ?_) rfl (by kernel_rfl) (by kernel_rfl) (by kernel_rfl) (fun _ _ _ h => h) (Or.inl ⟨by rfl, ?_⟩) ?_
    rotate_left
    · intro w; go_simp; try with_reducible rfl
    conv => arg 7; simp [Act.put]
    refine wpAny_take (i := 6) (v := ?_) rfl (by kernel_rfl) (by kernel_rfl) (by kernel_rfl) (fun _ _ _ h => h) (Or.inl ⟨by rfl, ?_⟩) ?_
    rotate_left
    · intro w; go_simp; try with_reducible rfl
    conv => arg 7; simp [Act.put]
    refine wpAny_take (i := 7) (v := ?_) rfl (by kernel_rfl) (by kernel_rfl) (by kernel_rfl) (fun _ _ _ h => h) (Or.inl ⟨by rfl, ?_⟩) ?_
    rotate_left
    · intro w; go_simp; try with_reducible rfl
    conv => arg 7; simp [Act.put]
    refine wpAny_take (i := 8) (v := ?_) rfl (by kernel_rfl) (by kernel_rfl) (by kernel_rfl) (fun _ _ _ h => h) (Or.inl ⟨by rfl, ?_⟩) ?_
    rotate_left
    · intro w; go_simp; try with_reducible rfl
    conv => arg 7; simp [Act.put]
    refine wpAny_take (i := 9) (v := ?_) rfl (by kernel_rfl) (by kernel_rfl) (by kernel_rfl) (fun _ _ _ h => h) (Or.inl ⟨by rfl, ?_⟩) ?_
    rotate_left
    · intro w; go_simp; try with_reducible rfl
    conv => arg 7; simp [Act.put]
    refine wpAny_take (i := 11) (v := ?_) rfl (by kernel_rfl) (by kernel_rfl) (by kernel_rfl) (fun _ _ _ h => h) (Or.inl ⟨by rfl, ?_⟩) ?_
    rotate_left
    · intro w; go_simp; try with_reducible rfl
    conv => arg 7; simp [Act.put]
    refine wpAny_take (i := 12) (v := ?_) rfl (by kernel_rfl) (by kernel_rfl) (by kernel_rfl) (fun _ _ _ h => h) (Or.inl ⟨by rfl, ?_⟩) ?_
    rotate_left
    · intro w; go_simp; try with_reducible rfl
    conv => arg 7; simp [Act.put]
    refine wpAny_take (i := 13) (v := ?_) rfl (by kernel_rfl) (by kernel_rfl) (by kernel_rfl) (fun _ _ _ h => h) (Or.inl ⟨by rfl, ?_⟩) ?_
    rotate_left
    · intro w; go_simp; try with_reducible rfl
    conv => arg 7; simp [Act.put]
    refine wpAny_ready (rs := [10]) (by kernel_rfl) (by simp) ?_
    refine AllReady.cons rfl (fun K hK => ?_) AllReady.nil
    go_simp
    go_at_call 22; (with_reducible refine (all_take A cA l k w7 (HA.out.ext X7.out) FA.out hkl na).mono ?_)
    rintro e w8 ⟨N, cN, n, rfl, an, sn, fn, kn, tn, b8⟩
    have ln := keys_length sn kn
    have AN := Lib.hid an
    have FN := Lib.hid fn
    have TN := Lib.hid tn
    have X8 := Lib.hid (X7.out.trans b8)
    have AM8 := Lib.hid (AM7.out.ext b8)
    have HBk8 := Lib.hid (HBk7.out.ext b8)
    clear an sn fn kn tn b8 X7 AM7 HBk7
    try go_simp
    refine hK _ _ ?_
    clear hK K
    try (conv => arg 7; simp [Act.put])
    refine wpAny_ready (rs := [14]) (by kernel_rfl) (by simp) ?_
    refine AllReady.cons rfl (fun K hK => ?_) AllReady.nil
    go_simp
    go_at_call 22; (with_reducible refine (all_drop A cA l k w8 (HA.out.ext X8.out) FA.out hlc na).mono ?_)
    rintro e w9 ⟨R, cR, r, rfl, ar, sr, fr, kr, tr, b9⟩
    have lr := keys_length sr kr
    have AR := Lib.hid ar
    have SR := Lib.hid sr
    have FR := Lib.hid fr
    have TR := Lib.hid tr
    have X9 := Lib.hid (X8.out.trans b9)
    have AM9 := Lib.hid (AM8.out.ext b9)
    have AN9 := Lib.hid (AN.out.ext b9)
    have HBk9 := Lib.hid (HBk8.out.ext b9)
    clear ar sr fr kr tr b9 X8 AM8 HBk8 AN
    try go_simp
    refine hK _ _ ?_
    clear hK K
    try (conv => arg 7; simp [Act.put])
    generalize (if cA = k then A else Option.map (fun x => x.add k) A) = AE
    refine wpAny_ready (rs := [15]) (by kernel_rfl) (by simp) ?_
    refine AllReady.cons rfl (fun K hK => ?_) AllReady.nil
    go_simp
    go_at_call 26; (with_reducible refine (merge_any N R cN cR n r w9 AN9.out AR.out FN.out FR.out (by omega)).mono ?_)
    rintro e w10 ⟨Q, cQ, q, rfl, aq, sq, fq, lq, tq, b10⟩
    have E10 := Lib.hid (all_parts na SM.out FM.out TM.out TN.out SR.out FR.out TR.out sq fq tq)
    have AQ := Lib.hid aq
    have X10 := Lib.hid (X9.out.trans b10)
    have AM10 := Lib.hid (AM9.out.ext b10)
    have HBk10 := Lib.hid (HBk9.out.ext b10)
    clear aq sq fq tq b10 X9 AM9 HBk9 AN9 AR
    try go_simp
    refine hK _ _ ?_
    clear hK K
    try (conv => arg 7; simp [Act.put])
    refine wpAny_ready (rs := [16]) (by kernel_rfl) (by simp) ?_
    refine AllReady.cons rfl (fun K hK => ?_) AllReady.nil
    go_simp
    go_at_call 23; (with_reducible refine (same_any M Q cM cQ m q w10 (by omega) AM10.out AQ.out).mono ?_)
    rintro e w11 ⟨v, k4, rfl, hv, rfl⟩
    obtain rfl : v = true := hv.2 E10.out
    have X11 : Hid (Ext w (w10.drewN k4)) := Lib.hid (X10.out.trans (Ext.drewN w10 k4))
    have AM11 := Lib.hid (AM10.out.ext (Ext.drewN w10 k4))
    have HBk11 := Lib.hid (HBk10.out.ext (Ext.drewN w10 k4))
    clear hv E10 AQ X10 AM10 HBk10
    generalize w10.drewN k4 = w11 at X11 AM11 HBk11 ⊢
    try go_simp
    refine hK _ _ ?_
    clear hK K
    try (conv => arg 7; simp [Act.put])
    refine wpAny_take (i := 17) (v := ?_) rfl (by kernel_rfl) (by kernel_rfl) (by kernel_rfl) (fun _ _ _ h => h) (Or.inl ⟨by rfl, ?_⟩) ?_
    rotate_left
    · intro w; go_simp; try with_reducible rfl
    conv => arg 7; simp [Act.put]
    refine wpAny_take (i := 18) (v := ?_) rfl (by kernel_rfl) (by kernel_rfl) (by kernel_rfl) (fun _ _ _ h => h) (Or.inl ⟨by rfl, ?_⟩) ?_
    rotate_left
    · intro w; go_simp; try with_reducible rfl
    conv => arg 7; simp [Act.put]
    refine wpAny_take (i := 19) (v := ?_) rfl (by kernel_rfl) (by kernel_rfl) (by kernel_rfl) (fun _ _ _ h => h) (Or.inl ⟨by rfl, ?_⟩) ?_
    rotate_left
    · intro w; go_simp; try with_reducible rfl
    conv => arg 7; simp [Act.put]
    refine wpAny_take (i := 20) (v := ?_) rfl (by kernel_rfl) (by kernel_rfl) (by kernel_rfl) (fun _ _ _ h => h) (Or.inl ⟨by rfl, ?_⟩) ?_
    rotate_left
    · intro w; go_simp; try with_reducible rfl
    conv => arg 7; simp [Act.put]
    refine wpAny_take (i := 22) (v := ?_) rfl (by kernel_rfl) (by kernel_rfl) (by kernel_rfl) (fun _ _ _ h => h) (Or.inl ⟨by rfl, ?_⟩) ?_
    rotate_left
    · intro w; go_simp; try with_reducible rfl
    conv => arg 7; simp [Act.put]
    refine wpAny_take (i := 23) (v := ?_) rfl (by kernel_rfl) (by kernel_rfl) (by kernel_rfl) (fun _ _ _ h => h) (Or.inl ⟨by rfl, ?_⟩) ?_
    rotate_left
    · intro w; go_simp; try with_reducible rfl
    conv => arg 7; simp [Act.put]
    refine wpAny_ready (rs := [21]) (by kernel_rfl) (by simp) ?_
    refine AllReady.cons rfl (fun K hK => ?_) AllReady.nil
    go_simp
    go_at_call 28; (with_reducible refine (count_any M cM m w11 (by omega) AM11.out).mono ?_)
    rintro e w12 ⟨rfl, b12⟩
    rw [HC.out]
    have X12 := Lib.hid (X11.out.trans b12)
    have HBk12 := Lib.hid (HBk11.out.ext b12)
    clear b12 X11 HBk11
    try go_simp
    refine hK _ _ ?_
    clear hK K
    try (conv => arg 7; simp [Act.put])
    refine wpAny_take (i := 24) (v := ?_) rfl (by kernel_rfl) (by kernel_rfl) (by kernel_rfl) (fun _ _ _ h => h) (Or.inl ⟨by rfl, ?_⟩) ?_
    rotate_left
    · intro w; go_simp; try with_reducible rfl
    conv => arg 7; simp [Act.put]
    refine wpAny_take (i := 25) (v := ?_) rfl (by kernel_rfl) (by kernel_rfl) (by kernel_rfl) (fun _ _ _ h => h) (Or.inl ⟨by rfl, ?_⟩) ?_
    rotate_left
    · intro w; go_simp; try with_reducible rfl
    conv => arg 7; simp [Act.put]
    refine wpAny_done (by kernel_rfl) ?_ _
    go_wp2_with fail
    clear HC SM FM TM FN TN SR FR TR
    go_loopw [11, 12] (fun v i wr => ∃ (j : Nat) (D : Option Addr) (c : Nat) (d : Bks), j ≤ l.length ∧ i = .int .i64 j ∧ v = .slice D d.length c ∧ Arr wr benc 2 D d ∧ Hid (Asc d ∧ WfB d ∧ ∀ k', tot d k' = tot (s ++ times 3 (l.take j)) k') ∧ d.length ≤ s.length + j ∧ Hid (Ext w12 wr))
      (fun _ i _ => l.length - (intOf i).toNat)
    case atStart => exact ⟨0, B, cB, s, Nat.zero_le _, rfl, rfl, HB.out.ext X12.out, ⟨VS.out, fb, fun k' => by simp [times]⟩, by omega, Below.refl _ _⟩
    case round =>
      obtain ⟨j, D, c, d, hj, rfl, rfl, harr, HD, hd, hX⟩ := hrel
      by_cases hlt : j < l.length
      · obtain ⟨p, off, n, rfl, _, HX, c0⟩ := (HA.out.ext (X12.out.trans hX.out)).int_ hlt
        have hn := FA.out n (List.mem_of_getElem? HX.out)
        have HCa := Lib.hid (add_any D c d n 3 wr harr HD.out.2.1 (by omega) hn ⟨by omega, by omega⟩)
        clear hn harr
        go_wp2_with fail
        refine HCa.out.mono ?_
        rintro e w2' ⟨A', cap', m', rfl, ha', hs, hw, hl', ht, hb2⟩
        have HD2 := Lib.hid (show Asc m' ∧ WfB m' ∧ ∀ k', tot m' k' = tot (s ++ times 3 (l.take (j + 1))) k' from ⟨hs, hw, fun k' => by
          rw [ht k', times_snoc HX.out, ← List.append_assoc]; exact tot_append_congr (HD.out.2.2 k')⟩)
        have hX2 := Lib.hid (hX.out.trans hb2)
        clear ht hs hw HD HCa hb2 hX
        go_wp2_with fail
        go_roundw
        case rel => exact ⟨j + 1, A', cap', m', by omega, by go_num, rfl, ha', HD2, by omega, hX2⟩
        case measure => simp [intOf]; omega
      · obtain rfl : j = l.length := by omega
        rw [List.take_length] at HD
        have HBk13 := Lib.hid (HBk12.out.ext hX.out)
        have X13 := Lib.hid (X12.out.trans hX.out)
        have HW := Lib.hid harr
        clear HBk12 X12 hX harr
        go_wp2_with fail
        go_loopw [11, 13] (fun v i wr' => ∃ (j : Nat) (D' : Option Addr) (c' : Nat) (t : Bks), j ≤ l.length ∧ i = .int .i64 j ∧ v = .slice D' t.length c' ∧ Arr wr' benc 2 D' t ∧ Hid (Asc t ∧ WfB t ∧ ∀ k', tot t k' = tot (d ++ times (-3) ((l.drop k ++ l.take k).take j)) k') ∧ t.length ≤ s.length + l.length + j ∧ Hid (Ext wr wr'))
          (fun _ i _ => l.length - (intOf i).toNat)
        case atStart => exact ⟨0, D, c, d, Nat.zero_le _, rfl, rfl, HW.out, ⟨HD.out.1, HD.out.2.1, fun k' => by simp [times]⟩, by omega, Below.refl _ _⟩
        case round =>
          obtain ⟨j, D', c', t, hj, rfl, rfl, harr, HT, ht, hX⟩ := hrel
          by_cases hlt : j < l.length
          · obtain ⟨p, off, n, rfl, _, HX, c0⟩ := (HBk13.out.ext hX.out).int_ (k := j) (by rw [hbl.out]; exact hlt)
            have hn := FBk.out n (List.mem_of_getElem? HX.out)
            have HCa := Lib.hid (add_any D' c' t n (-3) _ harr HT.out.2.1 (by omega) hn ⟨by omega, by omega⟩)
            clear hn harr
            go_wp2_with fail
            refine HCa.out.mono ?_
            rintro e w2' ⟨A', cap', m', rfl, ha', hs, hw, hl', ht', hb2⟩
            have HT2 := Lib.hid (show Asc m' ∧ WfB m' ∧ ∀ k', tot m' k' = tot (d ++ times (-3) ((l.drop k ++ l.take k).take (j + 1))) k' from ⟨hs, hw, fun k' => by
              rw [ht' k', times_snoc HX.out, ← List.append_assoc]; exact tot_append_congr (HT.out.2.2 k')⟩)
            have hX2 := Lib.hid (hX.out.trans hb2)
            clear ht' hs hw HT HCa hb2 hX
            go_wp2_with fail
            go_roundw
            case rel => exact ⟨j + 1, A', cap', m', by omega, by go_num, rfl, ha', HT2, by omega, hX2⟩
            case measure => simp [intOf]; omega
          · obtain rfl : j = l.length := by omega
            rw [List.take_of_length_le (by rw [hbl.out]; exact Nat.le_refl _)] at HT
            have E := Lib.hid (there_back VS.out fb HT.out.1 HT.out.2.1 HD.out.2.2 HT.out.2.2)
            have HTA := Lib.hid harr
            have X14 := Lib.hid (X13.out.trans hX.out)
            clear harr hX
            go_wp2_with fail
            refine (same_any D' B c' cB t s _ (by omega) HTA.out (HB.out.ext X14.out)).mono ?_
            rintro e w15 ⟨v, k5, rfl, hv, rfl⟩
            obtain rfl : v = true := hv.2 E.out
            clear hv
            go_wp2_with fail
            go_ret
            exact ⟨rfl, X14.out.trans (Ext.drewN _ k5)⟩
end Go.Proofs.Ythppcgafanognaa
