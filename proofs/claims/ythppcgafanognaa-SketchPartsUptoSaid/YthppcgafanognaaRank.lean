/-
  The walks over Rank and Quantile and their references.
-/
import Derived.Test.YthppcgafanognaaScan
namespace Go.Proofs.Ythppcgafanognaa
open Go.RowKit

def rankFrom (s : Int) (r : Int) : Bks → Option Int
  | [] => none
  | x :: t => if r ≤ wrap64 (s + x.2) then some (low x.1) else rankFrom (wrap64 (s + x.2)) r t
def rank (l : Bks) (r : Int) : Option Int := if r < 1 then none else rankFrom 0 r l
/-- an answer with a number or none -/
def opt (o : Option Int) : Value := .tuple #[.int .i64 (o.getD 0), .bool o.isSome]

theorem rankFrom_yes {l : Bks} {k : Nat} {s i n r : Int} (h : l[k]? = some (i, n)) (hr : r ≤ wrap64 (s + n)) : rankFrom s r (l.drop k) = some (low i) := by
  rw [drop_cons h, rankFrom, if_pos hr]
theorem rankFrom_no {l : Bks} {k : Nat} {s i n r : Int} (h : l[k]? = some (i, n)) (hr : ¬ r ≤ wrap64 (s + n)) : rankFrom s r (l.drop k) = rankFrom (wrap64 (s + n)) r (l.drop (k + 1)) := by
  rw [drop_cons h, rankFrom, if_neg hr]

set_option maxHeartbeats 1000000 in
theorem refRank_any (A : Option Addr) (cap : Nat) (l : Bks) (r : Int) (w : World) (hl : l.length ≤ 100000000000000) (h : Arr w benc 2 A l) :
    Calls Try.prog 19 #[.slice A l.length cap, .int .i64 r] w fun e w' => e = .returned (opt (rank l r)) ∧ w = w' := by
  by_cases hr : r < 1
  · have HF := Lib.hid (show rank l r = none by unfold rank; rw [if_pos hr])
    go_enter Try.func19, Try.ntmps19
    go_wp2
    go_ret2
    exact ⟨by rw [HF.out]; rfl, rfl⟩
  · have HF := Lib.hid (show rank l r = rankFrom 0 r l by unfold rank; rw [if_neg hr])
    go_enter Try.func19, Try.ntmps19
    go_wp2
    go_loop [6, 7] (fun n i => ∃ (k : Nat) (s : Int), k ≤ l.length ∧ i = .int .i64 k ∧ n = .int .i64 s ∧ Hid (rank l r = rankFrom s r (l.drop k))) (fun _ i => l.length - (intOf i).toNat)
    case atStart => exact ⟨0, 0, Nat.zero_le _, rfl, rfl, HF⟩
    case round =>
      obtain ⟨k, s, hk, rfl, rfl, HS⟩ := hrel
      by_cases hlt : k < l.length
      · obtain ⟨b, off, i, n, rfl, hb, HX, c0, c1⟩ := h.bk_ hlt
        by_cases hn : r ≤ wrap64 (s + n)
        · have HS2 := Lib.hid (HS.out.trans (rankFrom_yes HX.out hn))
          go_wp2_with fail
          refine (refLow_any _ _).mono ?_
          rintro e w' ⟨rfl, rfl⟩
          go_wp2_with fail
          go_ret2
          exact ⟨by rw [HS2.out]; rfl, rfl⟩
        · have HS2 := Lib.hid (HS.out.trans (rankFrom_no HX.out hn))
          go_wp2
          go_round
          case rel => exact ⟨k + 1, _, by omega, by go_num, rfl, HS2⟩
          case measure => simp [intOf]; omega
      · have HV := Lib.hid (show rank l r = none by rw [HS.out, List.drop_of_length_le (by omega)]; rfl)
        go_wp2
        go_ret2
        exact ⟨by rw [HV.out]; rfl, rfl⟩

set_option maxHeartbeats 1000000 in
theorem rank_any (A : Option Addr) (cap : Nat) (l : Bks) (r : Int) (w : World) (hl : l.length ≤ 100000000000000) (h : Arr w benc 2 A l) :
    Calls Try.prog 18 #[.slice A l.length cap, .int .i64 r] w fun e w' => e = .returned (opt (rank l r)) ∧ Below w.heap.size w w' := by
  by_cases hr : r < 1
  · have HF := Lib.hid (show rank l r = none by unfold rank; rw [if_pos hr])
    go_enter Try.func18, Try.ntmps18
    go_wp2
    go_ret2
    exact ⟨by rw [HF.out]; rfl, Below.refl _ _⟩
  · have HF := Lib.hid (show rank l r = rankFrom 0 r l by unfold rank; rw [if_neg hr])
    go_enter Try.func18, Try.ntmps18
    go_wp2
    go_loopw [6, 13] (fun n i wr => ∃ (k : Nat) (s : Int), k ≤ l.length ∧ i = .int .i64 k ∧ n = .int .i64 s ∧ Hid (rank l r = rankFrom s r (l.drop k)) ∧ Below w.heap.size w wr) (fun _ i _ => l.length - (intOf i).toNat)
    case atStart => exact ⟨0, 0, Nat.zero_le _, rfl, rfl, HF, Below.refl _ _⟩
    case round =>
      obtain ⟨k, s, hk, rfl, rfl, HS, hb⟩ := hrel
      by_cases hlt : k < l.length
      · obtain ⟨b, off, i, n, rfl, hbb, HX, c0, c1⟩ := (h.below hb).bk_ hlt
        by_cases hn : r ≤ wrap64 (s + n)
        · have HS2 := Lib.hid (HS.out.trans (rankFrom_yes HX.out hn))
          go_wp2_with fail
          refine (Low_any _ _).mono ?_
          rintro e w' ⟨rfl, rfl⟩
          go_wp2_with fail
          go_ret2
          exact ⟨by rw [HS2.out]; rfl, hb.alloc hb.size _⟩
        · have HS2 := Lib.hid (HS.out.trans (rankFrom_no HX.out hn))
          go_wp2
          go_roundw
          case rel => exact ⟨k + 1, _, by omega, by go_num, rfl, HS2, hb.alloc hb.size _⟩
          case measure => simp [intOf]; omega
      · have HV := Lib.hid (show rank l r = none by rw [HS.out, List.drop_of_length_le (by omega)]; rfl)
        go_wp2
        go_ret2
        exact ⟨by rw [HV.out]; rfl, hb⟩

/-- the place of a quantile -/
def place (n p : Int) : Int := max 1 (n / 1000 * p + (n % 1000 * p + 999) / 1000)
def quantile (l : Bks) (p : Int) : Option Int := if p < 1 ∨ 1000 < p ∨ count l < 1 then none else rank l (place (count l) p)

theorem countFrom_range (l : Bks) : ∀ s : Int, -9223372036854775808 ≤ s → s ≤ 9223372036854775807 → -9223372036854775808 ≤ countFrom s l ∧ countFrom s l ≤ 9223372036854775807 := by
  induction l with
  | nil => intro s h0 h1; exact ⟨h0, h1⟩
  | cons x t ih => intro s _ _; exact ih _ (w64_range _).1 (w64_range _).2
theorem count_range (l : Bks) : -9223372036854775808 ≤ count l ∧ count l ≤ 9223372036854775807 := countFrom_range l 0 (by omega) (by omega)
theorem mul_le' {a b c d : Int} (h : a ≤ b) (h' : c ≤ d) (h0 : 0 ≤ a) (h1 : 0 ≤ d) : a * c ≤ b * d :=
  Int.le_trans (Int.mul_le_mul_of_nonneg_left h' h0) (Int.mul_le_mul_of_nonneg_right h h1)

theorem place_bounds (n p : Int) (h0 : 1 ≤ n) (p0 : 1 ≤ p) (p1 : p ≤ 1000) :
    0 ≤ n / 1000 * p ∧ n / 1000 * p ≤ n / 1000 * 1000 ∧ 0 ≤ n % 1000 * p ∧ n % 1000 * p ≤ n % 1000 * 1000 ∧ 0 ≤ p * (n % 1000) ∧ p * (n % 1000) ≤ n % 1000 * 1000 := by
  have a := mul_le' (a := n % 1000) (b := n % 1000) (c := p) (d := 1000) (by omega) p1 (by omega) (by omega)
  have a0 := Int.mul_nonneg (a := n % 1000) (b := p) (by omega) (by omega)
  refine ⟨Int.mul_nonneg (by omega) (by omega), mul_le' (by omega) p1 (by omega) (by omega), a0, a, ?_, ?_⟩ <;> rw [Int.mul_comm] <;> assumption

theorem place_close (n p q : Int) (hq : p * (n % 1000) = q) (h : 0 < q % 1000) : max 1 (n / 1000 * p + (q / 1000 + 1)) = place n p := by
  unfold place; rw [Int.mul_comm (n % 1000) p, hq]; omega
theorem place_close0 (n p q : Int) (hq : p * (n % 1000) = q) (h : ¬ 0 < q % 1000) : max 1 (n / 1000 * p + q / 1000) = place n p := by
  unfold place; rw [Int.mul_comm (n % 1000) p, hq]; omega

set_option maxHeartbeats 1000000 in
theorem Place_any (n p : Int) (w : World) (h0 : 1 ≤ n) (h1 : n ≤ 9223372036854775807) (p0 : 1 ≤ p) (p1 : p ≤ 1000) :
    Calls Try.prog 39 #[.int .i64 n, .int .i64 p] w fun e w' => e = .returned (.int .i64 (place n p)) ∧ w = w' := by
  obtain ⟨b0, b1, b2, b3, b4, b5⟩ := place_bounds n p h0 p0 p1
  by_cases hc : 0 < p * (n % 1000) % 1000
  · have HC := Lib.hid (place_close n p _ rfl hc)
    go_enter Try.func39, Try.ntmps39
    go_wp2
    go_ret
    exact ⟨ret_int HC.out, rfl⟩
  · have HC := Lib.hid (place_close0 n p _ rfl hc)
    go_enter Try.func39, Try.ntmps39
    go_wp2
    go_ret
    exact ⟨ret_int HC.out, rfl⟩

theorem opt_ret (o : Option Int) : ∃ v s, opt o = .tuple #[.int .i64 v, .bool s] := ⟨_, _, rfl⟩

set_option maxHeartbeats 1000000 in
theorem refQuantile_any (A : Option Addr) (cap : Nat) (l : Bks) (p : Int) (w : World) (hl : l.length ≤ 100000000000000) (h : Arr w benc 2 A l) :
    Calls Try.prog 21 #[.slice A l.length cap, .int .i64 p] w fun e w' => e = .returned (opt (quantile l p)) ∧ w = w' := by
  obtain ⟨c0, c1⟩ := count_range l
  have HC := Lib.hid (refCount_any A cap l w hl h)
  obtain ⟨c, hc⟩ : ∃ c, count l = c := ⟨_, rfl⟩
  rw [hc] at HC c0 c1
  by_cases hn : p < 1 ∨ 1000 < p ∨ c < 1
  · have HF := Lib.hid (show quantile l p = none by unfold quantile; rw [hc, if_pos hn])
    clear hc
    by_cases hp : p < 1
    · clear hn
      go_enter Try.func21, Try.ntmps21
      go_wp2_with (go_at_call 29; refine HC.out.mono ?_; rintro e w' ⟨rfl, rfl⟩)
      go_ret2
      exact ⟨by rw [HF.out]; rfl, rfl⟩
    · by_cases hp2 : 1000 < p
      · clear hn
        go_enter Try.func21, Try.ntmps21
        go_wp2_with (go_at_call 29; refine HC.out.mono ?_; rintro e w' ⟨rfl, rfl⟩)
        go_ret2
        exact ⟨by rw [HF.out]; rfl, rfl⟩
      · have hc1 : c < 1 := by omega
        clear hn
        go_enter Try.func21, Try.ntmps21
        go_wp2_with (go_at_call 29; refine HC.out.mono ?_; rintro e w' ⟨rfl, rfl⟩)
        go_ret2
        exact ⟨by rw [HF.out]; rfl, rfl⟩
  · have HF := Lib.hid (show quantile l p = rank l (place c p) by unfold quantile; rw [hc, if_neg hn])
    clear hc
    have hp : ¬ p < 1 := by omega
    have hp2 : ¬ 1000 < p := by omega
    have hc1 : ¬ c < 1 := by omega
    clear hn
    have HP := Lib.hid (Place_any c p w (by omega) (by omega) (by omega) (by omega))
    have hR := refRank_any A cap l (place c p) w hl h
    obtain ⟨v, s, hvs⟩ := opt_ret (rank l (place c p))
    rw [hvs] at hR
    have HR := Lib.hid hR
    have HV := Lib.hid hvs
    clear hvs hR
    go_enter Try.func21, Try.ntmps21
    go_wp2_with (first
      | (go_at_call 29; refine HC.out.mono ?_; rintro e w' ⟨rfl, rfl⟩)
      | (go_at_call 39; refine HP.out.mono ?_; rintro e w' ⟨rfl, rfl⟩)
      | (go_at_call 19; refine HR.out.mono ?_; rintro e w' ⟨rfl, rfl⟩))
    go_ret2
    exact ⟨by rw [HF.out, HV.out]; rfl, rfl⟩

set_option maxHeartbeats 1000000 in
theorem quantile_any (A : Option Addr) (cap : Nat) (l : Bks) (p : Int) (w : World) (hl : l.length ≤ 100000000000000) (h : Arr w benc 2 A l) :
    Calls Try.prog 20 #[.slice A l.length cap, .int .i64 p] w fun e w' => e = .returned (opt (quantile l p)) ∧ Below w.heap.size w w' := by
  obtain ⟨c0, c1⟩ := count_range l
  have HC := Lib.hid (count_any A cap l w hl h)
  obtain ⟨c, hc⟩ : ∃ c, count l = c := ⟨_, rfl⟩
  rw [hc] at HC c0 c1
  by_cases hn : p < 1 ∨ 1000 < p ∨ c < 1
  · have HF := Lib.hid (show quantile l p = none by unfold quantile; rw [hc, if_pos hn])
    clear hc
    by_cases hp : p < 1
    · clear hn
      go_enter Try.func20, Try.ntmps20
      go_wp2_with (go_at_call 28; refine HC.out.mono ?_; rintro e w' ⟨rfl, hbl⟩)
      go_ret2
      exact ⟨by rw [HF.out]; rfl, by assumption⟩
    · by_cases hp2 : 1000 < p
      · clear hn
        go_enter Try.func20, Try.ntmps20
        go_wp2_with (go_at_call 28; refine HC.out.mono ?_; rintro e w' ⟨rfl, hbl⟩)
        go_ret2
        exact ⟨by rw [HF.out]; rfl, by assumption⟩
      · have hc1 : c < 1 := by omega
        clear hn
        go_enter Try.func20, Try.ntmps20
        go_wp2_with (go_at_call 28; refine HC.out.mono ?_; rintro e w' ⟨rfl, hbl⟩)
        go_ret2
        exact ⟨by rw [HF.out]; rfl, by assumption⟩
  · have HF := Lib.hid (show quantile l p = rank l (place c p) by unfold quantile; rw [hc, if_neg hn])
    clear hc
    have hp : ¬ p < 1 := by omega
    have hp2 : ¬ 1000 < p := by omega
    have hc1 : ¬ c < 1 := by omega
    clear hn
    obtain ⟨b0, b1, b2, b3, _, _⟩ := place_bounds c p (by omega) (by omega) (by omega)
    have HM := Lib.hid (show max (c / 1000 * p + (c % 1000 * p + 999) / 1000) 1 = place c p by unfold place; omega)
    go_enter Try.func20, Try.ntmps20
    go_wp2_with (go_at_call 28; refine HC.out.mono ?_; rintro e w1 ⟨rfl, hbl⟩)
    rw [HM.out]
    have hR := rank_any A cap l (place c p) w1 hl (h.below hbl)
    obtain ⟨v, s, hvs⟩ := opt_ret (rank l (place c p))
    rw [hvs] at hR
    have HV := Lib.hid hvs
    clear hvs
    refine hR.mono ?_
    rintro e w2 ⟨rfl, hbl2⟩
    go_wp2
    go_ret2
    exact ⟨by rw [HF.out, HV.out]; rfl, hbl.trans (hbl2.mono hbl.size)⟩
end Go.Proofs.Ythppcgafanognaa
