/- a word among the words of a text -/
import Derived.Test.YtooobfhjklcnjaaDoorLx08X
import Derived.Test.YtooobfhjklcnjaaDoorLx08P
import Derived.Lib.IndexMore
import Derived.Lib.IndexBytes
namespace Go.Abs
open Go.Proofs

theorem contains_iff (t sub : List UInt8) : Lib.contains t sub = true ↔ ∃ i, i ≤ t.length ∧ Lib.occAt t sub i = true := by
  unfold Lib.contains
  rw [decide_eq_true_eq]
  constructor
  · intro h
    by_cases hex : ∃ i, i ≤ t.length ∧ Lib.occAt t sub i = true
    · exact hex
    · have := Lib.index_none (s := t) (sub := sub) fun j hj => by
        cases hb : Lib.occAt t sub j with
        | false => rfl
        | true => exact absurd ⟨j, hj, hb⟩ hex
      omega
  · intro h
    obtain ⟨n, ⟨hn, ho⟩, hmin⟩ := exists_least h
    have := Lib.index_first (s := t) (sub := sub) hn ho fun j hj => by
      cases hb : Lib.occAt t sub j with
      | false => rfl
      | true => have := hmin j ⟨by omega, hb⟩; omega
    omega

def txt (ws : List (List UInt8)) : List UInt8 := 32 :: ws.flatMap fun w => w ++ [32]
theorem txt_cons (w : List UInt8) (ws : List (List UInt8)) : txt (w :: ws) = 32 :: (w ++ txt ws) := by
  simp [txt]
theorem pre_word : ∀ {s w r q : List UInt8}, 32 ∉ s → 32 ∉ w → (s ++ 32 :: r = w ++ 32 :: q) → s = w
  | [], [], _, _, _, _, _ => rfl
  | [], c :: w, _, _, _, hw, h => by
    injection h with h1 _
    exact absurd (by rw [← h1]; exact List.mem_cons_self) hw
  | c :: s, [], _, _, hs, _, h => by
    injection h with h1 _
    exact absurd (by rw [h1]; exact List.mem_cons_self) hs
  | c :: s, d :: w, r, q, hs, hw, h => by
    simp only [List.cons_append, List.cons.injEq] at h
    rw [h.1, pre_word (fun hm => hs (List.mem_cons_of_mem _ hm)) (fun hm => hw (List.mem_cons_of_mem _ hm)) h.2]

theorem occ_txt {s : List UInt8} (hs : 32 ∉ s) (hne : s ≠ []) : ∀ (ws : List (List UInt8)), (∀ w ∈ ws, 32 ∉ w) → ((∃ i, ([32] ++ s ++ [32]) <+: (txt ws).drop i) ↔ s ∈ ws)
  | [], _ => by
    simp only [List.not_mem_nil, iff_false]
    rintro ⟨i, h⟩
    have := h.length_le
    have hp : 0 < s.length := List.length_pos_iff.2 hne
    simp [txt] at this
    omega
  | w :: ws, hw => by
    have ih := occ_txt hs hne ws fun x hx => hw x (List.mem_cons_of_mem _ hx)
    rw [txt_cons]
    constructor
    · rintro ⟨i, h⟩
      match i with
      | 0 =>
        obtain ⟨r, hr⟩ := h
        simp only [List.drop_zero, List.cons_append, List.nil_append, List.append_assoc, List.cons.injEq, true_and, txt] at hr
        rw [pre_word hs (hw w List.mem_cons_self) hr]
        exact List.mem_cons_self
      | i + 1 =>
        simp only [List.drop_succ_cons] at h
        by_cases hi : i < w.length
        · obtain ⟨r, hr⟩ := h
          rw [List.drop_append_of_le_length (by omega), List.drop_eq_getElem_cons hi] at hr
          simp only [List.cons_append, List.nil_append, List.cons.injEq] at hr
          exact absurd (hr.1 ▸ List.getElem_mem hi) (hw w List.mem_cons_self)
        · have e : (w ++ txt ws).drop i = (txt ws).drop (i - w.length) := by
            rw [List.drop_append, List.drop_eq_nil_of_le (by omega), List.nil_append]
          rw [e] at h
          exact List.mem_cons_of_mem _ (ih.1 ⟨_, h⟩)
    · intro h
      rcases List.mem_cons.1 h with rfl | h
      · exact ⟨0, ⟨txt ws |>.tail, by simp [txt]⟩⟩
      · obtain ⟨i, hi⟩ := ih.2 h
        refine ⟨i + w.length + 1, ?_⟩
        simp only [List.drop_succ_cons]
        rw [List.drop_append, List.drop_eq_nil_of_le (by omega), List.nil_append, show i + w.length - w.length = i by omega]
        exact hi

theorem contains_txt {s : List UInt8} (hs : 32 ∉ s) (hne : s ≠ []) (ws : List (List UInt8)) (hw : ∀ w ∈ ws, 32 ∉ w) : Lib.contains (txt ws) ([32] ++ s ++ [32]) = ws.contains s := by
  rw [Bool.eq_iff_iff, contains_iff, List.contains_iff_mem, ← occ_txt hs hne ws hw]
  constructor
  · rintro ⟨i, _, h⟩
    exact ⟨i, List.isPrefixOf_iff_prefix.1 h⟩
  · rintro ⟨i, h⟩
    refine ⟨i, ?_, List.isPrefixOf_iff_prefix.2 h⟩
    have := h.length_le
    simp only [List.length_append, List.length_drop, List.length_cons, List.length_nil] at this
    omega

theorem contains_one {s : List UInt8} : Lib.contains s [32] = true ↔ 32 ∈ s := by
  rw [contains_iff]
  constructor
  · rintro ⟨i, hi, h⟩
    have := List.isPrefixOf_iff_prefix.1 h
    obtain ⟨r, hr⟩ := this
    exact List.mem_of_mem_drop (i := i) (by rw [← hr]; simp)
  · intro h
    obtain ⟨i, hi, he⟩ := List.mem_iff_getElem.1 h
    refine ⟨i, by omega, List.isPrefixOf_iff_prefix.2 ⟨s.drop (i + 1), ?_⟩⟩
    rw [List.drop_eq_getElem_cons hi, he]
    rfl

theorem kw_no : ∀ w ∈ kwList, (32 : UInt8) ∉ w := by decide
theorem p16 (m : Int) (s : List UInt8) (hs : s.length ≤ 1000000) : PureOk PP (G8 m) XW (tbl lib8) (itbl []) nAn [] 16 [.str s] (.bool (kwR s), []) := by
  constructor
  rw [w16]
  have hc : ∀ t : List UInt8, tbl [(50, sIndexByte), (53, sIndexByteString), (32, sContains)] 32 [.str s, .str t] = some (.bool (Lib.contains s t), []) := fun t => by
    show sContains [.str s, .str t] = _
    simp only [sContains]
    rw [if_pos (by omega)]
  rw [hc]
  have ht : ∀ u, Lib.contains [32, 116, 97, 98, 108, 101, 32, 102, 101, 97, 116, 117, 114, 101, 32, 111, 102, 32, 107, 101, 101, 112, 32, 98, 111, 111, 108, 32, 116, 101, 120, 116, 32, 107, 101, 121, 32, 105, 110, 116, 32, 100, 101, 99, 32, 105, 102, 32, 116, 104, 101, 110, 32, 101, 108, 115, 101, 32, 100, 101, 102, 97, 117, 108, 116, 32, 111, 114, 32, 97, 110, 100, 32, 110, 111, 116, 32, 116, 114, 117, 101, 32, 102, 97, 108, 115, 101, 32, 110, 117, 108, 108, 32, 99, 111, 117, 110, 116, 32, 115, 117, 109, 32, 109, 101, 97, 110, 32, 109, 105, 110, 32, 109, 97, 120, 32, 102, 105, 114, 115, 116, 32, 108, 97, 115, 116, 32, 100, 105, 115, 116, 105, 110, 99, 116, 32, 113, 117, 97, 110, 116, 105, 108, 101, 32, 100, 101, 99, 97, 121, 32, 97, 108, 108, 32, 115, 108, 105, 100, 105, 110, 103, 32, 116, 117, 109, 98, 108, 105, 110, 103, 32, 115, 101, 115, 115, 105, 111, 110, 32, 119, 104, 101, 114, 101, 32] u = Lib.contains (txt kwList) u := fun u => rfl
  simp only [ht]
  simp only [callIs_iff, retIs_iff, Prod.mk.injEq, AV.bool.injEq, Option.some.injEq, and_true, exists_eq_left']
  refine ⟨fun h1 => ⟨fun h2 => ?_, fun h2 => ⟨by omega, by simp; omega, ?_⟩⟩, fun h1 => ?_⟩
  · have hm := contains_one.1 h2
    cases hk : kwR s with
    | false => rfl
    | true => exact absurd hm (kw_no s (List.contains_iff_mem.1 hk))
  · have hne : s ≠ [] := by simpa using h1
    have hm : 32 ∉ s := fun h => by rw [contains_one.2 h] at h2; cases h2
    rw [contains_txt hm hne kwList kw_no]
    exact ⟨fun h => h.symm, fun h => h.symm⟩
  · have : s = [] := by simpa using h1
    subst this
    rfl
end Go.Abs
