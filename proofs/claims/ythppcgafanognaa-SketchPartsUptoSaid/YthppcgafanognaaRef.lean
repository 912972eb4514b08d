/-
  The walks over the reference's Merge and Add.
-/
import Derived.Test.YthppcgafanognaaAdd
namespace Go.Proofs.Ythppcgafanognaa
open Go.RowKit

def SomeList (m : Bks) (w : World) (e : Ending) (w' : World) : Prop :=
  ∃ (A : Option Addr) (cap : Nat), e = .returned (.slice A m.length cap) ∧ Arr w' benc 2 A m ∧ Below w.heap.size w w'

theorem drop_nil {l : Bks} {k : Nat} (h : ¬ k < l.length) : l.drop k = [] := List.drop_of_length_le (by omega)
theorem merge_left {a b : Bks} {i k : Nat} {x n : Int} (h : a[i]? = some (x, n)) (hb : b.drop k = [] ∨ ∃ y m, b[k]? = some (y, m) ∧ x < y) :
    mergeRef (a.drop i) (b.drop k) = (x, n) :: mergeRef (a.drop (i + 1)) (b.drop k) := by
  rw [drop_cons h]
  rcases hb with hb | ⟨y, m, hb, hlt⟩
  · rw [hb, mergeRef_nil, mergeRef_nil]
  · rw [drop_cons hb, mergeRef, if_pos hlt]
theorem merge_right {a b : Bks} {i k : Nat} {y m : Int} (h : b[k]? = some (y, m)) (ha : a.drop i = [] ∨ ∃ x n, a[i]? = some (x, n) ∧ y < x) :
    mergeRef (a.drop i) (b.drop k) = (y, m) :: mergeRef (a.drop i) (b.drop (k + 1)) := by
  rw [drop_cons h]
  rcases ha with ha | ⟨x, n, ha, hlt⟩
  · rw [ha, mergeRef, mergeRef]
  · rw [drop_cons ha, mergeRef, if_neg (by simp; omega), if_pos hlt]
theorem merge_both {a b : Bks} {i k : Nat} {x n y m : Int} (ha : a[i]? = some (x, n)) (hb : b[k]? = some (y, m)) (e : x = y) :
    mergeRef (a.drop i) (b.drop k) = if wrap64 (n + m) = 0 then mergeRef (a.drop (i + 1)) (b.drop (k + 1)) else (x, wrap64 (n + m)) :: mergeRef (a.drop (i + 1)) (b.drop (k + 1)) := by
  subst e
  rw [drop_cons ha, drop_cons hb, mergeRef, if_neg (by simp), if_neg (by simp)]

theorem own_drewN {w : World} {base : Nat} {e : TypeId} {size : Nat} {v : Value} {n : Nat} {xs : List Value} (h : w.ownsRow base e size v n xs) (k : Nat) : (w.drewN k).ownsRow base e size v n xs := h
theorem cell_two_d {w : World} {n k : Nat} (hn : n = w.heap.size) (a b : Value) (t : TypeId) : ∀ j u, [a, b][j]? = some u → ((w.alloc (.cells #[a, b] t)).drewN k).cell? ((⟨n, 0, none⟩ : Addr).add j) = some u := cell_two_at hn a b t

theorem bcells_snoc (m : Bks) (x n : Int) : bcells (m ++ [(x, n)]) = bcells m ++ [.int .i64 x, .int .i64 n] := by
  unfold bcells; rw [List.flatMap_append]; rfl

set_option maxHeartbeats 4000000 in
set_option maxRecDepth 100000 in
theorem refMerge_any (A B : Option Addr) (c d : Nat) (a b : Bks) (w : World) (ha : Arr w benc 2 A a) (hb : Arr w benc 2 B b) (hn : a.length + b.length ≤ 1000000000000) :
    Calls Try.prog 27 #[.slice A a.length c, .slice B b.length d] w (SomeList (mergeRef a b) w) := by
  obtain ⟨i1, hi1, hy0, hy1, hy2⟩ := info_parts bk_info
  go_enter Try.func27, Try.ntmps27
  go_wp2
  go_loopw [5, 6, 7] (fun v i k wr => ∃ (p q : Nat) (out : Bks), p ≤ a.length ∧ q ≤ b.length ∧ i = .int .i64 p ∧ k = .int .i64 q ∧ wr.ownsRow w.heap.size 51 2 v out.length (bcells out) ∧ out.length ≤ p + q ∧
      Hid (mergeRef a b = out ++ mergeRef (a.drop p) (b.drop q)) ∧ Below w.heap.size w wr) (fun _ i k _ => a.length - (intOf i).toNat + (b.length - (intOf k).toNat))
  case atStart => exact ⟨0, 0, [], Nat.zero_le _, Nat.zero_le _, rfl, rfl, World.ownsRow_nil _ _ _ _, by simp, rfl, Below.refl _ _⟩
  case round =>
    obtain ⟨p, q, out, hp, hq, rfl, rfl, hown, hlen, HM, hbl⟩ := hrel
    have hlow : ∀ k, u5.ownBlock = some k → w.heap.size ≤ k := fun k hk => (hown.lt k hk).1
    have HLow := Lib.hid hlow
    clear hlow
    by_cases h1 : p < a.length
    · obtain ⟨g, off, x, n, rfl, hg, HX, c0, c1⟩ := (ha.below hbl).bk_ h1
      have h1i : (p : Int) < (a.length : Int) := by omega
      have h1e : ((p : Int) == (a.length : Int)) = false := by rw [beq_eq_false_iff_ne]; omega
      by_cases h2 : q < b.length
      · obtain ⟨g', off', y, m, rfl, hg', HY, d0, d1⟩ := (hb.below hbl).bk_ h2
        have h2i : (q : Int) < (b.length : Int) := by omega
        have h2e : ((q : Int) == (b.length : Int)) = false := by rw [beq_eq_false_iff_ne]; omega
        by_cases hlt : x < y
        · have HM2 := Lib.hid (HM.out.trans (congrArg (out ++ ·) (merge_left HX.out (Or.inr ⟨y, m, HY.out, hlt⟩))))
          clear HM
          go_wp2_with fail
          go_quiet (fail)
          go_wp2_with (at_builtin; refine wpList_append_own _ rfl _ _ 25 rfl w.heap.size 51 i1 (.agg #[.int .i64 0, .int .i64 0]) 2 16 Try.underlying25 hi1 hy0 hy1 hy2 rfl (by decide) _ _ _ rfl ((own_drewN hown _).alloc (.cells #[.int .i64 x, .int .i64 n] 51)) ⟨wr.heap.size, 0, none⟩ 1 1 [.int .i64 x, .int .i64 n] rfl rfl (cell_two_at rfl _ _ _) (by simp [Value.oneCell']) (by unfold maxLen; omega) (by omega) (by have := hbl.size; simp; omega) ?_; intro v4 w4 hown4 hg4 _; go_frame)
          go_roundw
          case rel =>
            refine ⟨p + 1, q, out ++ [(x, n)], by omega, by omega, by go_num, by go_num, ?_, by simp; omega, ?_, ((below_drewN hbl _).alloc (by simpa using hbl.size) _).grown hg4 (by have := hbl.size; simp; omega) HLow.out⟩
            · rw [bcells_snoc, List.length_append]; exact hown4
            · show _ = _; rw [HM2.out]; simp
          case measure => simp [intOf]; omega
        · by_cases hgt : y < x
          · have HM2 := Lib.hid (HM.out.trans (congrArg (out ++ ·) (merge_right HY.out (Or.inr ⟨x, n, HX.out, hgt⟩))))
            clear HM
            go_wp2_with fail
            go_quiet (fail)
            go_wp2_with fail
            go_quiet (fail)
            go_wp2_with (at_builtin; refine wpList_append_own _ rfl _ _ 25 rfl w.heap.size 51 i1 (.agg #[.int .i64 0, .int .i64 0]) 2 16 Try.underlying25 hi1 hy0 hy1 hy2 rfl (by decide) _ _ _ rfl ((own_drewN hown _).alloc (.cells #[.int .i64 y, .int .i64 m] 51)) ⟨wr.heap.size, 0, none⟩ 1 1 [.int .i64 y, .int .i64 m] rfl rfl (cell_two_at rfl _ _ _) (by simp [Value.oneCell']) (by unfold maxLen; omega) (by omega) (by have := hbl.size; simp; omega) ?_; intro v4 w4 hown4 hg4 _; go_frame)
            go_roundw
            case rel =>
              refine ⟨p, q + 1, out ++ [(y, m)], by omega, by omega, by go_num, by go_num, ?_, by simp; omega, ?_, ((below_drewN hbl _).alloc (by simpa using hbl.size) _).grown hg4 (by have := hbl.size; simp; omega) HLow.out⟩
              · rw [bcells_snoc, List.length_append]; exact hown4
              · show _ = _; rw [HM2.out]; simp
            case measure => simp [intOf]; omega
          · have HM2 := Lib.hid (HM.out.trans (congrArg (out ++ ·) (merge_both HX.out HY.out (by omega))))
            clear HM
            obtain ⟨z, hz⟩ : ∃ z, wrap64 (n + m) = z := ⟨_, rfl⟩
            by_cases h0 : z = 0
            · subst h0
              have HM3 := Lib.hid (HM2.out.trans (congrArg (out ++ ·) (if_pos hz)))
              clear HM2
              go_wp2_with fail
              go_quiet (fail)
              go_wp2_with fail
              go_quiet (fail)
              go_wp2_with fail
              go_quiet (fail)
              go_wp2_with fail
              go_roundw
              case rel => exact ⟨p + 1, q + 1, out, by omega, by omega, by go_num, by go_num, own_drewN hown _, by omega, HM3, below_drewN hbl _⟩
              case measure => simp [intOf]; omega
            · subst hz
              have HM3 := Lib.hid (HM2.out.trans (congrArg (out ++ ·) (if_neg h0)))
              have hz0 : (wrap64 (n + m) != 0) = true := by simpa using h0
              clear HM2 h0
              go_wp2_with fail
              go_quiet (fail)
              go_wp2_with fail
              go_quiet (fail)
              go_wp2_with fail
              go_quiet (fail)
              go_wp2_with (at_builtin; refine wpList_append_own _ rfl _ _ 25 rfl w.heap.size 51 i1 (.agg #[.int .i64 0, .int .i64 0]) 2 16 Try.underlying25 hi1 hy0 hy1 hy2 rfl (by decide) _ _ _ rfl ((own_drewN hown _).alloc (.cells #[.int .i64 x, .int .i64 (wrap64 (n + m))] 51)) ⟨wr.heap.size, 0, none⟩ 1 1 [.int .i64 x, .int .i64 (wrap64 (n + m))] rfl rfl (cell_two_at rfl _ _ _) (by simp [Value.oneCell']) (by unfold maxLen; omega) (by omega) (by have := hbl.size; simp; omega) ?_; intro v4 w4 hown4 hg4 _; go_frame)
              go_roundw
              case rel =>
                refine ⟨p + 1, q + 1, out ++ [(x, wrap64 (n + m))], by omega, by omega, by go_num, by go_num, ?_, by simp; omega, ?_, ((below_drewN hbl _).alloc (by simpa using hbl.size) _).grown hg4 (by have := hbl.size; simp; omega) HLow.out⟩
                · rw [bcells_snoc, List.length_append]; exact hown4
                · show _ = _; rw [HM3.out]; simp
              case measure => simp [intOf]; omega
      · have h2i : ¬ (q : Int) < (b.length : Int) := by omega
        have h2e : ((q : Int) == (b.length : Int)) = true := by rw [beq_iff_eq]; omega
        have HM2 := Lib.hid (HM.out.trans (congrArg (out ++ ·) (merge_left HX.out (Or.inl (drop_nil h2)))))
        clear HM
        go_wp2_with fail
        go_quiet (fail)
        go_wp2_with (at_builtin; refine wpList_append_own _ rfl _ _ 25 rfl w.heap.size 51 i1 (.agg #[.int .i64 0, .int .i64 0]) 2 16 Try.underlying25 hi1 hy0 hy1 hy2 rfl (by decide) _ _ _ rfl ((own_drewN hown _).alloc (.cells #[.int .i64 x, .int .i64 n] 51)) ⟨wr.heap.size, 0, none⟩ 1 1 [.int .i64 x, .int .i64 n] rfl rfl (cell_two_at rfl _ _ _) (by simp [Value.oneCell']) (by unfold maxLen; omega) (by omega) (by have := hbl.size; simp; omega) ?_; intro v4 w4 hown4 hg4 _; go_frame)
        go_roundw
        case rel =>
          refine ⟨p + 1, q, out ++ [(x, n)], by omega, by omega, by go_num, by go_num, ?_, by simp; omega, ?_, ((below_drewN hbl _).alloc (by simpa using hbl.size) _).grown hg4 (by have := hbl.size; simp; omega) HLow.out⟩
          · rw [bcells_snoc, List.length_append]; exact hown4
          · show _ = _; rw [HM2.out]; simp
        case measure => simp [intOf]; omega
    · have h1i : ¬ (p : Int) < (a.length : Int) := by omega
      have h1d : decide ((p : Int) < (a.length : Int)) = false := by simpa using h1i
      have h1e : ((p : Int) == (a.length : Int)) = true := by rw [beq_iff_eq]; omega
      by_cases h2 : q < b.length
      · obtain ⟨g', off', y, m, rfl, hg', HY, d0, d1⟩ := (hb.below hbl).bk_ h2
        have h2i : (q : Int) < (b.length : Int) := by omega
        have h2e : ((q : Int) == (b.length : Int)) = false := by rw [beq_eq_false_iff_ne]; omega
        have HM2 := Lib.hid (HM.out.trans (congrArg (out ++ ·) (merge_right HY.out (Or.inl (drop_nil h1)))))
        clear HM
        go_wp2_with fail
        go_quiet (fail)
        go_wp2_with fail
        go_quiet (fail)
        go_wp2_with (at_builtin; refine wpList_append_own _ rfl _ _ 25 rfl w.heap.size 51 i1 (.agg #[.int .i64 0, .int .i64 0]) 2 16 Try.underlying25 hi1 hy0 hy1 hy2 rfl (by decide) _ _ _ rfl ((own_drewN hown _).alloc (.cells #[.int .i64 y, .int .i64 m] 51)) ⟨wr.heap.size, 0, none⟩ 1 1 [.int .i64 y, .int .i64 m] rfl rfl (cell_two_at rfl _ _ _) (by simp [Value.oneCell']) (by unfold maxLen; omega) (by omega) (by have := hbl.size; simp; omega) ?_; intro v4 w4 hown4 hg4 _; go_frame)
        go_roundw
        case rel =>
          refine ⟨p, q + 1, out ++ [(y, m)], by omega, by omega, by go_num, by go_num, ?_, by simp; omega, ?_, ((below_drewN hbl _).alloc (by simpa using hbl.size) _).grown hg4 (by have := hbl.size; simp; omega) HLow.out⟩
          · rw [bcells_snoc, List.length_append]; exact hown4
          · show _ = _; rw [HM2.out]; simp
        case measure => simp [intOf]; omega
      · have hfin : mergeRef a b = out := by rw [HM.out, drop_nil h1, drop_nil h2]; simp [mergeRef]
        have HFin := Lib.hid hfin
        obtain ⟨A', cap', rfl⟩ := own_shape hown
        clear hfin HM
        go_wp2
        go_ret
        exact ⟨A', cap', by rw [HFin.out]; rfl, by rw [HFin.out]; exact arr_of_own benc_len rfl hown, hbl⟩

theorem arr_bk (w : World) (t : TypeId) (i n : Int) (k : Nat) (hk : k = w.heap.size) : Arr (w.alloc (.cells #[.int .i64 i, .int .i64 n] t)) benc 2 (some ⟨k, 0, none⟩) [(i, n)] := by
  subst hk
  refine Or.inr ⟨w.heap.size, 0, rfl, by simp, fun k x hx j u hu => ?_⟩
  match k, hx with
  | 0, hx =>
    simp at hx; subst hx
    match j, hu with
    | 0, hu => simp [benc] at hu; subst hu; simp
    | 1, hu => simp [benc] at hu; subst hu; simp
    | j + 2, hu => simp [benc] at hu
  | k + 1, hx => simp at hx

/-- the reference's Add -/
def addRef (l : Bks) (n t : Int) : Bks := if t = 0 then l else mergeRef l [(idx n, t)]

set_option maxHeartbeats 1000000 in
theorem refAdd_any (A : Option Addr) (c : Nat) (l : Bks) (n t : Int) (w : World) (ha : Arr w benc 2 A l) (hn : l.length < 1000000000000) (h0 : I64 n) :
    Calls Try.prog 25 #[.slice A l.length c, .int .i64 n, .int .i64 t] w (SomeList (addRef l n t) w) := by
  by_cases ht : t = 0
  · have HA := Lib.hid (show addRef l n t = l by unfold addRef; rw [if_pos ht])
    have h1 : (t == 0) = true := by simpa using ht
    clear ht
    go_enter Try.func25, Try.ntmps25
    go_wp2
    go_ret
    exact ⟨A, c, by rw [HA.out]; rfl, by rw [HA.out]; exact ha, Below.refl _ _⟩
  · have HA := Lib.hid (show addRef l n t = mergeRef l [(idx n, t)] by unfold addRef; rw [if_neg ht])
    have h1 : (t == 0) = false := by simpa using ht
    have HI := Lib.hid (fun w => refIndex_any n w h0.1 h0.2)
    have hbl : Below w.heap.size w (w.alloc (.cells #[.int .i64 (idx n), .int .i64 t] 51)) := (Below.refl _ _).alloc (Nat.le_refl _) _
    have HM := Lib.hid (refMerge_any A (some ⟨w.heap.size, 0, none⟩) c 1 l [(idx n, t)] _ (ha.below hbl) (arr_bk w 51 (idx n) t _ rfl) (by simp; omega))
    have HB := Lib.hid hbl
    clear hbl ht
    go_enter Try.func25, Try.ntmps25
    go_wp2_with (go_at_call 14; refine (HI.out _).mono ?_; rintro e w2 ⟨rfl, rfl⟩)
    refine HM.out.mono ?_
    rintro e w2 ⟨A', c', rfl, h2, h3⟩
    have H2 := Lib.hid h2
    have H3 := Lib.hid (HB.out.trans (h3.mono HB.out.size))
    clear h2 h3
    go_wp2_with fail
    go_ret
    exact ⟨A', c', by rw [HA.out]; rfl, by rw [HA.out]; exact H2.out, H3.out⟩
end Go.Proofs.Ythppcgafanognaa
