/- proofs of the words -/
import Derived.Test.YtooobfhjklcnjaaDoorLx08X
import Derived.Test.YtooobfhjklcnjaaDoorLx08P
namespace Go.Abs
open Go.Proofs

theorem p17 (m : Int) (s : List UInt8) : PureOk PP (G8 m) XW (tbl []) (itbl []) nAn [] 17 [.str s] (.bool (kwR s), []) := by
  constructor
  rw [w17]
  simp only [retIs_iff, Prod.mk.injEq, AV.bool.injEq, and_true, kwR, kwList, List.contains_cons, List.contains_nil, beq_iff_eq, beq_eq_false_iff_ne, ne_eq]
  repeat' (refine And.intro (fun h => ?_) (fun h => ?_))
  all_goals simp [*]

theorem p19 (m : Int) (s : List UInt8) : PureOk PP (G8 m) XW (tbl [(17, s17), (33, s33')]) (itbl []) nAn [] 19 [.str s] (.bool (nameR s), []) := by
  constructor
  rw [w19]
  have hb := unBytes_mk s
  unfold bytesL at hb
  simp only [callIs_iff, retIs_iff, Prod.mk.injEq, AV.bool.injEq, Option.some.injEq, and_true, exists_eq_left', tbl, s33', hb, decide_eq_true_eq, decide_eq_false_iff_not]
  refine ⟨fun h1 => ⟨fun h2 => ⟨by omega, ?_⟩, fun h2 => ?_⟩, fun h1 => ?_⟩
  · have hne : s ≠ [] := by simpa using h1
    have hp : 0 < s.length := List.length_pos_iff.2 hne
    refine ⟨wl s, ?_, fun h3 => ⟨fun h4 => ?_, fun h4 => ?_⟩, fun h3 => ?_⟩
    · have hc : 0 ≤ (0 : Int) ∧ Int.toNat 0 < s.length ∧ s.length < 2 ^ 60 := ⟨by omega, by simpa using hp, by omega⟩
      simp [hc, hne]
    · simp [nameR, h4]
    · have h3' : wl s = s.length := by have := eq_of_beq h3; omega
      simp [nameR, h4, hne, h3']
      omega
    · have h3' : wl s ≠ s.length := fun e => by rw [e] at h3; simp at h3
      simp [nameR, h3']
  · simp [nameR]; intro _ h; omega
  · have : s = [] := by simpa using h1
    simp [nameR, this]

theorem p4 (m : Int) (s : List UInt8) (s11 : Spec) (h11 : s11 [] = some (.bool true, [])) : PureOk PP (G8 m) XW (tbl [(11, s11), (16, s16), (17, s17), (18, s18), (19, s18)]) (itbl []) nAn [] 4 [.str s] (.bool true, []) := by
  constructor
  rw [w4]
  have t11 : tbl [(11, s11), (16, s16), (17, s17), (18, s18), (19, s18)] 11 [] = some (.bool true, []) := h11
  have t16 : s.length ≤ 1000000 → tbl [(11, s11), (16, s16), (17, s17), (18, s18), (19, s18)] 16 [.str s] = some (.bool (kwR s), []) := fun h => by
    show s16 [.str s] = _
    simp [s16, h]
  have t18 : s.length ≤ 1000000 → tbl [(11, s11), (16, s16), (17, s17), (18, s18), (19, s18)] 18 [.str s] = some (.bool (nameR s), []) := fun h => by
    show s18 [.str s] = _
    simp [s18, h]
  have t19 : s.length ≤ 1000000 → tbl [(11, s11), (16, s16), (17, s17), (18, s18), (19, s18)] 19 [.str s] = some (.bool (nameR s), []) := fun h => by
    show s18 [.str s] = _
    simp [s18, h]
  refine ⟨true, ⟨t11⟩, fun _ => ⟨fun _ => ⟨rfl⟩, fun hl => ?_⟩, fun h => nomatch h⟩
  have hl' : s.length ≤ 1000000 := by
    have := of_decide_eq_false hl
    omega
  rw [t16 hl', t18 hl', t19 hl']
  simp only [callIs_iff, retIs_iff, Prod.mk.injEq, AV.bool.injEq, Option.some.injEq, and_true, exists_eq_left']
  cases kwR s <;> cases nameR s <;> simp

theorem p18 (m : Int) (s : List UInt8) (hs : s.length ≤ 1000000) : PureOk PP (G8 m) XW (tbl [(16, s16)]) (itbl []) (a18 s) [] 18 [.str s] (.bool (nameR s), []) := by
  constructor
  rw [w18]
  have t16 : tbl [(16, s16)] 16 [.str s] = some (.bool (kwR s), []) := by
    show s16 [.str s] = _
    simp [s16, hs]
  rw [t16]
  simp only [callIs_iff, valsAre_iff, stIs_iff, retIs_iff, Prod.mk.injEq, AV.bool.injEq, AV.int.injEq, Option.some.injEq, List.cons.injEq, and_true, true_and, exists_eq_left', decide_eq_true_eq, decide_eq_false_iff_not, beq_iff_eq, beq_eq_false_iff_ne, ne_eq]
  refine ⟨fun h => by simp [nameR, h], fun hne => ⟨fun h => ?_, fun hl => ⟨fun h => by simp [nameR, h], fun hk => ⟨⟨0, rfl, by omega, by omega⟩, ?_⟩⟩⟩⟩
  · simp [nameR]; intro _ h2; omega
  · rintro x ⟨k, rfl, hk1, hk2⟩
    rw [wrap64_in (n := (k : Int) + 1) (by omega) (by omega)]
    have hw := wl_le s
    refine ⟨fun hlt => ?_, fun hge => ?_⟩
    · have hlt' : k < s.length := by omega
      refine ⟨by omega, s.getD k 0, by simp [hlt'], ?_⟩
      have hlet : letterB (s.getD k 0) = decide (97 ≤ (s.getD k 0).toNat ∧ (s.getD k 0).toNat ≤ 122) := rfl
      have h95 : (s.getD k 0).toNat = 95 ↔ s.getD k 0 = 95 := by
        rw [← UInt8.toNat_inj]; rfl
      have hin : innerB (s.getD k 0) = true ↔ (97 ≤ (s.getD k 0).toNat ∧ (s.getD k 0).toNat ≤ 122) ∨ (48 ≤ (s.getD k 0).toNat ∧ (s.getD k 0).toNat ≤ 57) ∨ (s.getD k 0).toNat = 95 := by
        rw [h95]
        simp only [innerB, letterB, digitB, Bool.or_eq_true, decide_eq_true_eq, beq_iff_eq, or_assoc]
      have hw0 := wl_drop (bs := s) (i := 0) (by omega)
      rw [List.drop_zero] at hw0
      have step : ((97 ≤ (s.getD k 0).toNat ∧ (s.getD k 0).toNat ≤ 122) ∨ (1 ≤ k ∧ ((48 ≤ (s.getD k 0).toNat ∧ (s.getD k 0).toNat ≤ 57) ∨ (s.getD k 0).toNat = 95))) →
          (∃ j : Nat, (k : Int) + 1 = j ∧ j ≤ s.length ∧ (1 ≤ j → j ≤ wl s)) ∧ ((s.length : Int) - (k + 1)).toNat < ((s.length : Int) - k).toNat := fun hp => by
        refine ⟨⟨k + 1, by omega, by omega, fun _ => ?_⟩, by omega⟩
        by_cases h0 : k = 0
        · subst h0
          rw [hw0, if_pos (by rw [hlet]; exact decide_eq_true (by omega))]
          omega
        · have := wl_next (bs := s) (i := 0) (k := k) (by rw [List.drop_zero]; exact hk2 (by omega)) (by omega) (by omega) (by rw [Nat.zero_add, hin]; omega)
          rw [List.drop_zero] at this
          omega
      have stop : ¬((97 ≤ (s.getD k 0).toNat ∧ (s.getD k 0).toNat ≤ 122) ∨ (1 ≤ k ∧ ((48 ≤ (s.getD k 0).toNat ∧ (s.getD k 0).toNat ≤ 57) ∨ (s.getD k 0).toNat = 95))) → false = nameR s := fun hp => by
        have hne : wl s ≠ s.length := by
          by_cases h0 : k = 0
          · subst h0
            rw [hw0, if_neg (by rw [hlet]; simp only [decide_eq_true_eq]; omega)]
            omega
          · have := wl_stop (bs := s) (i := 0) (k := k) (by rw [List.drop_zero]; exact hk2 (by omega)) (by omega) (fun _ => by
              rw [Nat.zero_add]
              cases hb : innerB (s.getD k 0) with
              | false => rfl
              | true => rw [hin] at hb; omega)
            rw [List.drop_zero] at this
            omega
        simp [nameR, hne]
      generalize (s.getD k 0).toNat = c at *
      repeat' (first | exact step (by omega) | exact stop (by omega) | refine And.intro (fun _ => ?_) (fun _ => ?_))
    · have hk3 : k = s.length := by omega
      have hp : 0 < s.length := List.length_pos_iff.2 hne
      have : wl s = s.length := by have := hk2 (by omega); omega
      simp [nameR, hne, hk, this]
      omega
end Go.Abs
