/-
  Small laws with which conditions of code are made plain.
-/
import Derived.Test.YtooobfhjklcnjaaDoorAbsT
namespace Go.Abs

theorem callIs_iff {x : Option (AV × List (Nat × TypeId))} {r : AV} {lv : List (Nat × TypeId)} : CallIs x r lv ↔ x = some (r, lv) := ⟨fun h => h.eq, fun h => ⟨h⟩⟩
theorem valsAre_iff {a b : List AV} : ValsAre a b ↔ a = b := ⟨fun h => h.eq, fun h => ⟨h⟩⟩
theorem stIs_iff {a b : St} : StIs a b ↔ a = b := ⟨fun h => h.eq, fun h => ⟨h⟩⟩
theorem retIs_iff {r : AV} {lv : List (Nat × TypeId)} {s : AV × List (Nat × TypeId)} : RetIs r lv s ↔ (r, lv) = s := ⟨fun h => h.eq, fun h => ⟨h⟩⟩

/-- bytes -/
abbrev bytesL (l : List UInt8) : List AV := l.map fun c => .int .u8 c.toNat
abbrev bytesA (l : List UInt8) : AV := .sl 1 (bytesL l) .no
theorem take_one {P : Program} {t : TypeId} (ha : aggA P t = some false) (hs : (sizeA P t).isSome = true) {es : List AV} {i : Nat} {e : AV} (he : es[i]? = some e) (h1 : e.cells = [e]) : takeAt P t es i 0 = some e := by
  obtain ⟨s, hs⟩ := Option.isSome_iff_exists.1 hs
  unfold takeAt
  simp only [he, ha, hs, takeA, h1, List.getElem?_cons_zero]
theorem take_none {P : Program} {t : TypeId} {es : List AV} {i j : Nat} (he : es[i]? = none) : takeAt P t es i j = none := by
  unfold takeAt
  simp only [he]
theorem take_u8_iff {P : Program} {t : TypeId} (ha : aggA P t = some false) (hs : (sizeA P t).isSome = true) {l : List UInt8} {i : Nat} {n : Int} : takeAt P t (bytesL l) i 0 = some (.int .u8 n) ↔ i < l.length ∧ ((l.getD i 0).toNat : Int) = n := by
  by_cases h : i < l.length
  · have he : (bytesL l)[i]? = some (.int .u8 l[i].toNat) := by simp [bytesL, h]
    rw [take_one ha hs he rfl]
    simp [h]
  · rw [take_none (by simpa [bytesL] using h)]
    simp [h]
theorem wrap64_in {n : Int} (h0 : -9223372036854775808 ≤ n) (h1 : n < 9223372036854775808) : IntKind.i64.wrap n = n := by
  simp only [IntKind.wrap, IntKind.bits, IntKind.signed]
  simp
  omega
theorem bytesL_length {l : List UInt8} : (bytesL l).length = l.length := by simp [bytesL]

/-- what is typed `true = b →` -/
theorem tt_imp {p : Prop} : (true = true → p) ↔ p := ⟨fun h => h rfl, fun h _ => h⟩
theorem tf_imp {p : Prop} : (true = false → p) ↔ True := ⟨fun _ => trivial, fun _ h => nomatch h⟩

theorem tw_next {p : UInt8 → Bool} : ∀ {l : List UInt8} {k : Nat}, k ≤ (l.takeWhile p).length → k < l.length → p (l.getD k 0) = true → k + 1 ≤ (l.takeWhile p).length
  | [], k, _, h, _ => by simp at h
  | c :: l, 0, _, _, hp => by simp at hp; simp [hp]
  | c :: l, k + 1, hk, h, hp => by
    rw [List.takeWhile_cons] at hk ⊢
    split at hk
    · rename_i hc
      rw [if_pos hc]
      simp only [List.length_cons] at hk h ⊢
      have := tw_next (p := p) (l := l) (k := k) (by omega) (by omega) (by simpa using hp)
      omega
    · simp at hk
theorem tw_stop {p : UInt8 → Bool} : ∀ {l : List UInt8} {k : Nat}, k ≤ (l.takeWhile p).length → (k < l.length → p (l.getD k 0) = false) → k = (l.takeWhile p).length
  | [], k, h, _ => by simp at h; simp [h]
  | c :: l, 0, _, hp => by have := hp (by simp); simp at this; simp [this]
  | c :: l, k + 1, hk, hp => by
    rw [List.takeWhile_cons] at hk ⊢
    split at hk
    · rename_i hc
      rw [if_pos hc]
      simp only [List.length_cons] at hk hp ⊢
      have := tw_stop (p := p) (l := l) (k := k) (by omega) (fun h => by simpa using hp (by omega))
      omega
    · simp at hk
end Go.Abs
