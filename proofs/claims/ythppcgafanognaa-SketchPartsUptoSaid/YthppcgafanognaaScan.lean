/-
  The walks over the functions that read a list of buckets: Valid, Same, Count, Rank and their references.
-/
import Derived.Test.YthppcgafanognaaInts
namespace Go.Proofs.Ythppcgafanognaa
open Go.RowKit

def okAt (l : Bks) (j : Nat) : Prop := ∃ x, l[j]? = some x ∧ x.2 ≠ 0 ∧ (∀ i, j = i + 1 → ∃ y, l[i]? = some y ∧ y.1 < x.1)
def Valid (l : Bks) : Prop := ∀ j, j < l.length → okAt l j
def SomeValid (l : Bks) (w : World) (e : Ending) (w' : World) : Prop := ∃ v n, e = .returned (.bool v) ∧ (v = true ↔ Valid l) ∧ w' = w.drewN n

theorem someValid_no {l : Bks} {w : World} {j m n : Nat} (hj : j < l.length) (h : ¬ okAt l j) : SomeValid l w (.returned (.bool false)) ((w.drewN m).drewN n) :=
  ⟨false, m + n, rfl, by simp only [Bool.false_eq_true, false_iff]; exact fun hv => h (hv j hj), by simp⟩
theorem someValid_yes {l : Bks} {w : World} {n : Nat} (h : Valid l) : SomeValid l w (.returned (.bool true)) (w.drewN n) := ⟨true, n, rfl, by simp [h], rfl⟩

set_option maxHeartbeats 1000000 in
theorem valid_any (A : Option Addr) (cap : Nat) (l : Bks) (w : World) (hl : l.length ≤ 100000000000000) (h : Arr w benc 2 A l) :
    Calls Try.prog 17 #[.slice A l.length cap] w (SomeValid l w) := by
  go_enter Try.func17, Try.ntmps17
  go_wp2
  go_loopw [3] (fun i wr => ∃ k n: Nat, k ≤ l.length ∧ i = .int .i64 k ∧ Hid (∀ j, j < k → okAt l j) ∧ wr = w.drewN n) (fun i _ => l.length - (intOf i).toNat)
  case atStart => exact ⟨0, 0, Nat.zero_le _, rfl, fun j hj => absurd hj (by omega), rfl⟩
  case round =>
    obtain ⟨k, m, hk, rfl, HV, rfl⟩ := hrel
    by_cases hlt : k < l.length
    · obtain ⟨b, off, i, n, rfl, hb, HX, c0, c1⟩ := h.bk_ hlt
      have hi : (k : Int) < (l.length : Int) := by omega
      by_cases hn : n = 0
      · subst hn
        go_wp2_with fail
        go_quiet (fail)
        go_wp2
        go_ret
        exact someValid_no hlt fun ⟨x, hx, h0, _⟩ => by rw [HX.out] at hx; cases hx; exact h0 rfl
      · have hn1 : (n == 0) = false := by simpa using hn
        by_cases hk0 : 0 < k
        · obtain ⟨j, rfl⟩ : ∃ j, k = j + 1 := ⟨k - 1, by omega⟩
          obtain ⟨b', off', i', n', hA, _, HX', c0', _⟩ := h.bk_ (k := j) (by omega)
          obtain ⟨rfl, rfl⟩ : b = b' ∧ off = off' := by simpa using hA
          clear hA
          have hj : (j : Int) < (l.length : Int) := by omega
          by_cases hle : i ≤ i'
          · go_wp2_with fail
            go_quiet (fail)
            go_wp2
            go_ret
            exact someValid_no hlt fun ⟨x, hx, _, h1⟩ => by
              obtain ⟨y, hy, hlt⟩ := h1 j rfl
              rw [HX.out] at hx; cases hx
              rw [HX'.out] at hy; cases hy
              simp at hlt; omega
          · have HV2 : Hid (∀ j', j' < j + 1 + 1 → okAt l j') := fun j' hj' => by
              by_cases e : j' = j + 1
              · subst e; exact ⟨_, HX.out, hn, fun i2 hi2 => by obtain rfl : j = i2 := by omega
                                                                exact ⟨_, HX'.out, by simp; omega⟩⟩
              · exact HV.out j' (by omega)
            clear HV
            go_wp2_with fail
            go_quiet (fail)
            go_wp2
            go_roundw
            case rel => exact ⟨j + 1 + 1, m + nq, by omega, by go_num, HV2, by simp⟩
            case measure => simp [intOf]; omega
        · obtain rfl : k = 0 := by omega
          have HV2 : Hid (∀ j', j' < 0 + 1 → okAt l j') := fun j' hj' => by
            obtain rfl : j' = 0 := by omega
            exact ⟨_, HX.out, hn, fun i2 hi2 => by omega⟩
          clear HV
          go_wp2_with fail
          go_quiet (fail)
          go_wp2
          go_roundw
          case rel => exact ⟨0 + 1, m + nq, by omega, by go_num, HV2, by simp⟩
          case measure => simp [intOf]; omega
    · have hv : Valid l := fun j hj => HV.out j (by omega)
      go_wp2
      go_ret
      exact someValid_yes hv

def SomeSame (a b : Bks) (w : World) (e : Ending) (w' : World) : Prop := ∃ v n, e = .returned (.bool v) ∧ (v = true ↔ a = b) ∧ w' = w.drewN n
theorem someSame_no {a b : Bks} {w : World} {k m n : Nat} (h : a[k]? ≠ b[k]?) : SomeSame a b w (.returned (.bool false)) ((w.drewN m).drewN n) :=
  ⟨false, m + n, rfl, by simp only [Bool.false_eq_true, false_iff]; rintro rfl; exact h rfl, by simp⟩
theorem someSame_len {a b : Bks} {w : World} (h : a.length ≠ b.length) : SomeSame a b w (.returned (.bool false)) w :=
  ⟨false, 0, rfl, by simp only [Bool.false_eq_true, false_iff]; rintro rfl; exact h rfl, rfl⟩
theorem someSame_yes {a b : Bks} {w : World} {n : Nat} (h : a = b) : SomeSame a b w (.returned (.bool true)) (w.drewN n) := ⟨true, n, rfl, by simp [h], rfl⟩

set_option maxHeartbeats 1000000 in
theorem same_any (A B : Option Addr) (c d : Nat) (a b : Bks) (w : World) (hl : a.length ≤ 100000000000000) (ha : Arr w benc 2 A a) (hb : Arr w benc 2 B b) :
    Calls Try.prog 23 #[.slice A a.length c, .slice B b.length d] w (SomeSame a b w) := by
  by_cases hlen : a.length = b.length
  · have hle : b.length ≤ 100000000000000 := by omega
    have hq : ((a.length : Int) != (b.length : Int)) = false := by simp [hlen]
    go_enter Try.func23, Try.ntmps23
    go_wp2
    go_loopw [5] (fun i wr => ∃ k n: Nat, k ≤ a.length ∧ i = .int .i64 k ∧ Hid (∀ j, j < k → a[j]? = b[j]?) ∧ wr = w.drewN n) (fun i _ => a.length - (intOf i).toNat)
    case atStart => exact ⟨0, 0, Nat.zero_le _, rfl, fun j hj => absurd hj (by omega), rfl⟩
    case round =>
      obtain ⟨k, m, hk, rfl, HV, rfl⟩ := hrel
      by_cases hlt : k < a.length
      · obtain ⟨p, off, i, n, rfl, _, HX, c0, c1⟩ := ha.bk_ hlt
        obtain ⟨q, off', i', n', rfl, _, HY, d0, d1⟩ := hb.bk_ (k := k) (by omega)
        have hi : (k : Int) < (a.length : Int) := by omega
        have hi' : (k : Int) < (b.length : Int) := by omega
        by_cases he : i = i' ∧ n = n'
        · obtain ⟨rfl, rfl⟩ := he
          have HV2 : Hid (∀ j', j' < k + 1 → a[j']? = b[j']?) := fun j' hj' => by
            by_cases e : j' = k
            · subst e; rw [HX.out, HY.out]
            · exact HV.out j' (by omega)
          clear HV
          go_wp2_with fail
          go_quiet (fail)
          go_wp2
          go_roundw
          case rel => exact ⟨k + 1, m + nq, by omega, by go_num, HV2, by simp⟩
          case measure => simp [intOf]; omega
        · have hne : a[k]? ≠ b[k]? := by rw [HX.out, HY.out]; intro e; injection e with e; injection e with e1 e2; exact he ⟨e1, e2⟩
          have HN := Lib.hid hne
          clear hne
          by_cases h1 : i = i'
          · subst h1
            have h2 : (n == n') = false := by rw [beq_eq_false_iff_ne]; exact fun e => he ⟨rfl, e⟩
            clear he
            go_wp2_with fail
            go_quiet (fail)
            go_wp2
            go_ret
            exact someSame_no HN.out
          · have h2 : (i == i') = false := by rw [beq_eq_false_iff_ne]; exact h1
            clear he
            go_wp2_with fail
            go_quiet (fail)
            go_wp2
            go_ret
            exact someSame_no HN.out
      · have hv : a = b := List.ext_getElem? fun j => by
          by_cases h : j < k
          · exact HV.out j h
          · rw [List.getElem?_eq_none (by omega), List.getElem?_eq_none (by omega)]
        have HW := Lib.hid hv
        clear hv
        go_wp2
        go_ret
        exact someSame_yes HW.out
  · have hq : ((a.length : Int) != (b.length : Int)) = true := by simp; omega
    go_enter Try.func23, Try.ntmps23
    go_wp2
    go_ret
    exact someSame_len hlen

def countFrom (s : Int) : Bks → Int
  | [] => s
  | x :: t => countFrom (wrap64 (s + x.2)) t
def count (l : Bks) : Int := countFrom 0 l
theorem drop_cons {α : Type} {l : List α} {k : Nat} {x : α} (h : l[k]? = some x) : l.drop k = x :: l.drop (k + 1) := by
  obtain ⟨hk, rfl⟩ := List.getElem?_eq_some_iff.1 h
  exact List.drop_eq_getElem_cons hk
theorem countFrom_step {l : Bks} {k : Nat} {s i n : Int} (h : l[k]? = some (i, n)) : countFrom s (l.drop k) = countFrom (wrap64 (s + n)) (l.drop (k + 1)) := by
  rw [drop_cons h]; rfl

set_option maxHeartbeats 1000000 in
theorem refCount_any (A : Option Addr) (cap : Nat) (l : Bks) (w : World) (hl : l.length ≤ 100000000000000) (h : Arr w benc 2 A l) :
    Calls Try.prog 29 #[.slice A l.length cap] w fun e w' => e = .returned (.int .i64 (count l)) ∧ w = w' := by
  go_enter Try.func29, Try.ntmps29
  go_wp2
  go_loop [3, 4] (fun n i => ∃ (k : Nat) (s : Int), k ≤ l.length ∧ i = .int .i64 k ∧ n = .int .i64 s ∧ Hid (count l = countFrom s (l.drop k))) (fun _ i => l.length - (intOf i).toNat)
  case atStart => exact ⟨0, 0, Nat.zero_le _, rfl, rfl, rfl⟩
  case round =>
    obtain ⟨k, s, hk, rfl, rfl, HS⟩ := hrel
    by_cases hlt : k < l.length
    · obtain ⟨b, off, i, n, rfl, hb, HX, c0, c1⟩ := h.bk_ hlt
      have HS2 := Lib.hid (HS.out.trans (countFrom_step HX.out))
      go_wp2
      go_round
      case rel => exact ⟨k + 1, _, by omega, by go_num, rfl, HS2⟩
      case measure => simp [intOf]; omega
    · have hv : count l = s := by rw [HS.out, List.drop_of_length_le (by omega)]; rfl
      have HV := Lib.hid hv
      clear hv
      go_wp2
      go_ret
      exact ⟨ret_int HV.out.symm, rfl⟩

set_option maxHeartbeats 1000000 in
theorem count_any (A : Option Addr) (cap : Nat) (l : Bks) (w : World) (hl : l.length ≤ 100000000000000) (h : Arr w benc 2 A l) :
    Calls Try.prog 28 #[.slice A l.length cap] w fun e w' => e = .returned (.int .i64 (count l)) ∧ Below w.heap.size w w' := by
  go_enter Try.func28, Try.ntmps28
  go_wp2
  go_loopw [2, 7] (fun n i wr => ∃ (k : Nat) (s : Int), k ≤ l.length ∧ i = .int .i64 k ∧ n = .int .i64 s ∧ Hid (count l = countFrom s (l.drop k)) ∧ Below w.heap.size w wr) (fun _ i _ => l.length - (intOf i).toNat)
  case atStart => exact ⟨0, 0, Nat.zero_le _, rfl, rfl, rfl, Below.refl _ _⟩
  case round =>
    obtain ⟨k, s, hk, rfl, rfl, HS, hb⟩ := hrel
    by_cases hlt : k < l.length
    · obtain ⟨b, off, i, n, rfl, hbb, HX, c0, c1⟩ := (h.below hb).bk_ hlt
      have HS2 := Lib.hid (HS.out.trans (countFrom_step HX.out))
      go_wp2
      go_roundw
      case rel => exact ⟨k + 1, _, by omega, by go_num, rfl, HS2, hb.alloc hb.size _⟩
      case measure => simp [intOf]; omega
    · have hv : count l = s := by rw [HS.out, List.drop_of_length_le (by omega)]; rfl
      have HV := Lib.hid hv
      clear hv
      go_wp2
      go_ret
      exact ⟨ret_int HV.out.symm, hb⟩
end Go.Proofs.Ythppcgafanognaa
