/- proofs -/
import Derived.Test.YtooobfhjklcnjaaDoorLx08V
import Derived.Test.YtooobfhjklcnjaaDoorAbsU
namespace Go.Abs
open Go.Proofs

theorem agg5 : aggA PP 5 = some false := by kernel_rfl
theorem size5 : (sizeA PP 5).isSome = true := by kernel_rfl

theorem wl_le (bs : List UInt8) : wl bs ≤ bs.length := by
  cases bs with
  | nil => simp [wl]
  | cons c t =>
    simp only [wl]
    split
    · have := (List.takeWhile_prefix innerB (l := t)).length_le
      simp; omega
    · simp
theorem wl_drop {bs : List UInt8} {i : Nat} (h : i < bs.length) : wl (bs.drop i) = if letterB (bs.getD i 0) then 1 + ((bs.drop (i + 1)).takeWhile innerB).length else 0 := by
  rw [List.drop_eq_getElem_cons h]
  simp [wl, h]
theorem getD_drop' {bs : List UInt8} {i k : Nat} : (bs.drop i).getD k 0 = bs.getD (i + k) 0 := by
  simp [List.getElem?_drop]
theorem wl_next {bs : List UInt8} {i k : Nat} (hk : k ≤ wl (bs.drop i)) (h1 : 1 ≤ k) (h : i + k < bs.length) (hp : innerB (bs.getD (i + k) 0) = true) : k + 1 ≤ wl (bs.drop i) := by
  rw [wl_drop (by omega)] at hk ⊢
  split at hk
  · rename_i hc
    rw [if_pos hc]
    have := tw_next (p := innerB) (l := bs.drop (i + 1)) (k := k - 1) (by omega) (by rw [List.length_drop]; omega) (by rw [getD_drop', show i + 1 + (k - 1) = i + k by omega]; exact hp)
    omega
  · omega
theorem wl_stop {bs : List UInt8} {i k : Nat} (hk : k ≤ wl (bs.drop i)) (h1 : 1 ≤ k) (hp : i + k < bs.length → innerB (bs.getD (i + k) 0) = false) : k = wl (bs.drop i) := by
  have hl := wl_le (bs.drop i)
  rw [List.length_drop] at hl
  have hi : i < bs.length := by omega
  rw [wl_drop hi] at hk ⊢
  split at hk
  · rename_i hc
    rw [if_pos hc]
    have := tw_stop (p := innerB) (l := bs.drop (i + 1)) (k := k - 1) (by omega) (fun h => by rw [getD_drop', show i + 1 + (k - 1) = i + k by omega]; exact hp (by rw [List.length_drop] at h; omega))
    omega
  · omega

theorem p33 (m : Int) (bs : List UInt8) (i : Nat) (hi : i < bs.length) (hb : bs.length < 2 ^ 60) : PureOk PP (G8 m) X1 (tbl t33) (itbl []) (a33 bs i) [] 33 [bytesA bs, .int .i64 i] (.int .i64 (wl (bs.drop i)), []) := by
  constructor
  rw [w33]
  simp only [callIs_iff, valsAre_iff, stIs_iff, retIs_iff, take_u8_iff agg5 size5, Option.some.injEq, Prod.mk.injEq, AV.bool.injEq, AV.int.injEq, List.cons.injEq, and_true, true_and, exists_eq_left', and_assoc, exists_and_left, decide_eq_true_eq, decide_eq_false_iff_not, bytesL_length, Int.toNat_natCast]
  have hw := wl_drop hi
  have hl := wl_le (bs.drop i)
  rw [List.length_drop] at hl
  have hlet : letterB (bs.getD i 0) = decide (97 ≤ (bs.getD i 0).toNat ∧ (bs.getD i 0).toNat ≤ 122) := rfl
  refine ⟨by omega, by omega, hi, fun hA => ⟨⟨1, rfl, Nat.le_refl _, ?_⟩, ?_⟩, fun hA => ?_⟩
  · rw [hw, if_pos (by rw [hlet]; exact decide_eq_true (by omega))]; omega
  · rintro x ⟨k, rfl, h1, h2⟩
    rw [wrap64_in (n := (i : Int) + k) (by omega) (by omega), wrap64_in (n := (k : Int) + 1) (by omega) (by omega), show ((i : Int) + k).toNat = i + k by omega]
    have hin : innerB (bs.getD (i + k) 0) = (decide (97 ≤ (bs.getD (i + k) 0).toNat ∧ (bs.getD (i + k) 0).toNat ≤ 122) || decide (48 ≤ (bs.getD (i + k) 0).toNat ∧ (bs.getD (i + k) 0).toNat ≤ 57) || (bs.getD (i + k) 0) == 95) := rfl
    generalize hc : bs.getD (i + k) 0 = c at *
    have step : i + k < bs.length → innerB c = true → (∃ j : Nat, (k : Int) + 1 = j ∧ 1 ≤ j ∧ j ≤ wl (bs.drop i)) ∧ ((bs.length : Int) - (k + 1)).toNat < ((bs.length : Int) - k).toNat := fun hlt hp =>
      ⟨⟨k + 1, by omega, by omega, wl_next h2 h1 hlt (hc ▸ hp)⟩, by omega⟩
    refine ⟨fun hlt => ⟨by omega, by omega, by omega, fun hB => step (by omega) (by rw [hin]; simp; omega), fun hB => ⟨by omega, by omega, by omega, fun hC => step (by omega) (by rw [hin]; simp; omega), fun hC => ⟨by omega, by omega, by omega, fun hD => step (by omega) ?_, fun hD => ?_⟩⟩⟩, fun hge => ?_⟩
    · rw [hin]
      have : c = 95 := by
        rw [← UInt8.toNat_inj]
        have : (c.toNat : Int) = 95 := by simpa using hD
        have h95 : (95 : UInt8).toNat = 95 := rfl
        omega
      simp [this]
    · have := wl_stop (bs := bs) (i := i) (k := k) h2 h1 fun _ => by
        rw [hc, hin]
        have : c ≠ 95 := by
          intro e; subst e; simp at hD
        simp [this]
        omega
      omega
    · have := wl_stop (bs := bs) (i := i) (k := k) h2 h1 fun h => by omega
      omega
  · rw [hw, if_neg (by rw [hlet]; simp only [decide_eq_true_eq]; omega)]; rfl

def s33 : Spec := fun args => match args with
  | [.sl 1 es .no, .int .i64 n] => match es.mapM byteOf with
    | some bs => if 0 ≤ n ∧ n < bs.length ∧ bs.length < 2 ^ 60 then some (.int .i64 (wl (bs.drop n.toNat)), []) else none
    | none => none
  | _ => none
end Go.Abs
