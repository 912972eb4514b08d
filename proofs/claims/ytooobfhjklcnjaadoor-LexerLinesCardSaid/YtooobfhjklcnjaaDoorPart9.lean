/- Own texts, part 9. -/
import Derived.Test.YtooobfhjklcnjaaDoorPart7

namespace Go.Abs
open Go.Proofs L8

theorem tkOf_isTk {l : List UInt8} {a : Nat} {t : Tk} (h : t ∈ tkOf l a) : isTk (piece l).1 ∧ (piece l).2.2 = 0 ∧ t = ⟨(piece l).1, txtOf l, a⟩ := by
  unfold tkOf at h
  split at h
  · rename_i hc
    simp at h
    exact ⟨⟨hc.2.2, hc.1⟩, hc.2.1, h⟩
  · simp at h
theorem numP_kind (l : List UInt8) : (numP l).1 = 2 ∨ (numP l).1 = 3 := by
  unfold numP
  split
  · split
    · exact .inl rfl
    · exact .inr rfl
  · exact .inl rfl
/-- which kinds there are; what a text looks like -/
theorem piece_kinds (l : List UInt8) : (piece l).1 = 0 ∨ (piece l).1 = -1 ∨ ((piece l).1 = 1 ∧ ∃ c t, l = c :: t ∧ letterB c = true ∧ piece l = (1, 1 + (t.takeWhile innerB).length, if 24 < 1 + (t.takeWhile innerB).length then 2 else 0)) ∨ (piece l).1 = 2 ∨ (piece l).1 = 3 ∨ (piece l).1 = 5 ∨
    (∃ t r, l = 34 :: t ∧ t.drop (t.takeWhile lineB).length = 34 :: r ∧ piece l = (4, (t.takeWhile lineB).length + 2, txtErr (t.takeWhile lineB))) := by
  cases l with
  | nil => exact .inl rfl
  | cons c t =>
    rw [piece_eq]
    by_cases h1 : blankB c = true
    · rw [if_pos h1]; exact .inl rfl
    rw [if_neg h1]
    by_cases h2 : (c == 35) = true
    · rw [if_pos h2]; exact .inl rfl
    rw [if_neg h2]
    by_cases h3 : letterB c = true
    · rw [if_pos h3]; exact .inr (.inr (.inl ⟨rfl, c, t, rfl, h3, rfl⟩))
    rw [if_neg h3]
    by_cases h4 : digitB c = true
    · rw [if_pos h4]
      rcases numP_kind (c :: t) with h | h
      · exact .inr (.inr (.inr (.inl h)))
      · exact .inr (.inr (.inr (.inr (.inl h))))
    rw [if_neg h4]
    by_cases h5 : (c == 34) = true
    · rw [if_pos h5]
      have hc : c = 34 := by simpa using h5
      subst hc
      rcases quoP_form t with hq | ⟨r, hd, hq⟩
      · rw [hq]; exact .inr (.inl rfl)
      · exact .inr (.inr (.inr (.inr (.inr (.inr ⟨t, r, rfl, hd, hq⟩)))))
    rw [if_neg h5]
    by_cases h6 : (eqB c && (t.head?.getD 0 == 61)) = true
    · rw [if_pos h6]; exact .inr (.inr (.inr (.inr (.inr (.inl rfl)))))
    rw [if_neg h6]
    by_cases h7 : signB c = true
    · rw [if_pos h7]; exact .inr (.inr (.inr (.inr (.inr (.inl rfl)))))
    · rw [if_neg h7]; exact .inr (.inl rfl)
theorem srcT_piece {l : List UInt8} {at_ : Int} (hk : isTk (piece l).1) : srcT ⟨(piece l).1, txtOf l, at_⟩ = l.take (piece l).2.1 := by
  by_cases h4 : (piece l).1 = 4
  · rcases piece_kinds l with h | h | ⟨h, _⟩ | h | h | h | ⟨t, r, hl, hd, hp⟩
    · rw [h] at h4; cases h4
    · rw [h] at h4; cases h4
    · rw [h] at h4; cases h4
    · rw [h] at h4; cases h4
    · rw [h] at h4; cases h4
    · rw [h] at h4; cases h4
    · have hlen := drop_cons_lt hd
      have e1 : t.take ((t.takeWhile lineB).length + 1) = t.takeWhile lineB ++ [34] := by
        have e0 : t.take (t.takeWhile lineB).length = t.takeWhile lineB := (List.prefix_iff_eq_take.1 (List.takeWhile_prefix lineB)).symm
        rw [List.take_add, hd, e0]
        rfl
      simp only [srcT, if_true, txtOf, hp]
      subst hl
      rw [show (t.takeWhile lineB).length + 2 = ((t.takeWhile lineB).length + 1) + 1 from rfl, List.take_succ_cons, e1]
      simp
  · show (if (piece l).1 = 4 then _ else txtOf l) = _
    rw [if_neg h4]
    unfold txtOf
    rw [if_neg h4]
theorem piece_n_pos {l : List UInt8} (h : l ≠ []) : 1 ≤ (piece l).2.1 := by
  cases l with
  | nil => exact absurd rfl h
  | cons c t => exact piece_pos c t
theorem srcT_len_piece {l : List UInt8} {at_ : Int} (hk : isTk (piece l).1) : (srcT ⟨(piece l).1, txtOf l, at_⟩).length = (piece l).2.1 := by
  rw [srcT_piece hk, List.length_take]
  have := piece_le l; omega
/-- a token stands at its place -/
theorem tok_at (l : List UInt8) (a : Nat) (adj : Bool) : ∀ t ∈ (scan l a adj).1, ∃ k, t.at_ = a + k ∧ k < l.length ∧ t ∈ tkOf (l.drop k) t.at_ := by
  refine scan_ind (P := fun l a adj => ∀ t ∈ (scan l a adj).1, ∃ k, t.at_ = a + k ∧ k < l.length ∧ t ∈ tkOf (l.drop k) t.at_) (fun a adj t ht => by simp [scan_nil] at ht) (fun l a adj hne ih t ht => ?_) l a adj
  rw [scan_step hne] at ht
  have hpos := List.length_pos_iff.2 hne
  rcases List.mem_append.1 ht with ht | ht
  · exact ⟨0, by rw [tkOf_at ht]; rfl, hpos, by rw [List.drop_zero, tkOf_at ht]; exact ht⟩
  · obtain ⟨k, h1, h2, h3⟩ := ih t ht
    rw [List.length_drop] at h2
    rw [List.drop_drop] at h3
    exact ⟨(piece l).2.1 + k, by omega, by omega, h3⟩
theorem scan_whole {l : List UInt8} (hne : l ≠ []) (hw : (piece l).2.1 = l.length) (a : Nat) (adj : Bool) : scan l a adj = (tkOf l a, pbOf l a adj) := by
  rw [scan_step hne, hw, List.drop_length, scan_nil, List.append_nil, List.append_nil]
theorem tk_ne {l : List UInt8} (hk : isTk (piece l).1) : l ≠ [] := by rintro rfl; exact hk.1 rfl
/-- the source of a token is this token -/
theorem tok_alone {l : List UInt8} (hk : isTk (piece l).1) (_h0 : (piece l).2.2 = 0) : piece (l.take (piece l).2.1) = piece l ∧ (piece l).2.1 = (l.take (piece l).2.1).length ∧ txtOf (l.take (piece l).2.1) = txtOf l := by
  have hle := piece_le l
  have ht := piece_take hk
  refine ⟨ht, by rw [List.length_take]; omega, ?_⟩
  simp only [txtOf, ht, List.take_take, Nat.min_self]
theorem proper_piece_of {l : List UInt8} {at_ : Int} (hk : isTk (piece l).1) (h0 : (piece l).2.2 = 0) (hl : (piece l).2.1 ≤ 16384) : properB ⟨(piece l).1, txtOf l, at_⟩ = true := by
  obtain ⟨e1, e2, e3⟩ := tok_alone hk h0
  have hs := srcT_piece (at_ := at_) hk
  have hw : l.take (piece l).2.1 ≠ [] := by
    intro h
    have := congrArg List.length h
    have hp := piece_n_pos (tk_ne hk)
    rw [← e2] at this
    simp at this; omega
  have hsc := scan_whole hw (by rw [e1]; exact e2) 0 false
  have htk : tkOf (l.take (piece l).2.1) 0 = [⟨(piece l).1, txtOf l, 0⟩] := by
    simp only [tkOf, e1, e3]
    rw [if_pos ⟨hk.2, h0, hk.1⟩]
  have hpb : pbOf (l.take (piece l).2.1) 0 false = [] := by
    simp only [pbOf, e1]
    rw [if_neg hk.2, if_pos h0]
  rw [htk, hpb] at hsc
  simp only [properB, hs, Bool.and_eq_true, decide_eq_true_eq]
  refine ⟨by rw [← e2]; exact hl, ?_, ?_⟩
  · simp [probsI, probsL, hsc]
  · simp [toksI, toksL, hsc, toTI]
theorem proper_scan {l : List UInt8} {a : Nat} {adj : Bool} (hl : l.length ≤ 16384) {t : Tk} (ht : t ∈ (scan l a adj).1) : properB (toTI t) = true := by
  obtain ⟨k, _, _, h3⟩ := tok_at l a adj t ht
  obtain ⟨hk, h0, he⟩ := tkOf_isTk h3
  have hle := piece_le (l.drop k)
  rw [List.length_drop] at hle
  have := proper_piece_of (at_ := (t.at_ : Int)) hk h0 (by omega)
  rw [he]
  exact this
structure PropP (t : TI) : Prop where
  tk : isTk (piece (srcT t)).1
  kind : (piece (srcT t)).1 = t.kind
  len : (piece (srcT t)).2.1 = (srcT t).length
  ok : (piece (srcT t)).2.2 = 0
  txt : txtOf (srcT t) = t.text
theorem properP {t : TI} (h : properB t = true) : PropP t := by
  simp only [properB, Bool.and_eq_true, decide_eq_true_eq] at h
  obtain ⟨_, _, h⟩ := h
  have hne : srcT t ≠ [] := by
    intro e
    rw [e] at h
    simp [toksI, toksL, scan_nil] at h
  have h' : (scan (srcT t) 0 false).1.map toTI = [⟨t.kind, t.text, 0⟩] := by
    have e := h
    simp only [toksI, toksL, List.map_append, List.map_cons, List.map_nil, toTI] at e
    exact (List.append_inj' (t₂ := [(⟨6, [], (srcT t).length⟩ : TI)]) e rfl).1
  rw [scan_step hne] at h'
  simp only [List.map_append] at h'
  have hp := piece_n_pos hne
  cases htk : tkOf (srcT t) 0 with
  | nil =>
    rw [htk, List.map_nil, List.nil_append] at h'
    have hb := (scanB ((srcT t).drop (piece (srcT t)).2.1) (0 + (piece (srcT t)).2.1) (adjOf (srcT t))).tk
    cases hs : (scan ((srcT t).drop (piece (srcT t)).2.1) (0 + (piece (srcT t)).2.1) (adjOf (srcT t))).1 with
    | nil => rw [hs] at h'; simp at h'
    | cons u r =>
      rw [hs] at h' hb
      have h1 := hb u List.mem_cons_self
      simp only [List.map_cons, List.cons.injEq, toTI, TI.mk.injEq] at h'
      have := h'.1.2.2
      omega
  | cons u r =>
    have hu : u ∈ tkOf (srcT t) 0 := by rw [htk]; exact List.mem_cons_self
    obtain ⟨hk, h0, he⟩ := tkOf_isTk hu
    rw [htk] at h'
    simp only [List.map_cons, List.cons_append, List.cons.injEq, toTI, TI.mk.injEq] at h'
    obtain ⟨⟨k1, k2, _⟩, _⟩ := h'
    rw [he] at k1 k2
    simp only at k1 k2
    have hs := srcT_piece (at_ := t.at_) hk
    rw [k1, k2] at hs
    have hst : srcT (⟨t.kind, t.text, t.at_⟩ : TI) = srcT t := rfl
    rw [hst] at hs
    have hlen := congrArg List.length hs
    rw [List.length_take] at hlen
    have hle := piece_le (srcT t)
    exact ⟨hk, k1, by omega, h0, k2⟩
theorem scan_blank {c : UInt8} (hc : blankB c = true) (r : List UInt8) (a : Nat) (adj : Bool) : scan (c :: r) a adj = scan r (a + 1) false := by
  have hp : piece (c :: r) = (0, 1, 0) := by rw [piece_eq, if_pos hc]
  rw [scan_step (by simp)]
  simp [tkOf, pbOf, adjOf, hp]
theorem scan_join {t : TI} (h : properB t = true) (r : List UInt8) (a : Nat) (adj : Bool) : scan (srcT t ++ 32 :: r) a adj = (⟨t.kind, t.text, a⟩ :: (scan (32 :: r) (a + (srcT t).length) false).1, (scan (32 :: r) (a + (srcT t).length) false).2) := by
  obtain ⟨hk, h1, h2, h3, h4⟩ := properP h
  have hp := piece_sep hk h2 r
  have htx : txtOf (srcT t ++ 32 :: r) = t.text := by
    rw [← h4]
    simp only [txtOf, hp, h2, take_app (Nat.le_refl _)]
  rw [scan_step (by simp)]
  have e1 : tkOf (srcT t ++ 32 :: r) a = [⟨t.kind, t.text, a⟩] := by
    simp only [tkOf, hp, htx]
    rw [if_pos ⟨hk.2, h3, hk.1⟩, h1]
  have e2 : pbOf (srcT t ++ 32 :: r) a adj = [] := by
    simp only [pbOf, hp]
    rw [if_neg hk.2, if_pos h3]
  have e3 : adjOf (srcT t ++ 32 :: r) = false := by
    simp only [adjOf, hp]
    exact decide_eq_false hk.2
  rw [e1, e2, e3, hp, h2, drop_app (Nat.le_refl _), List.drop_length]
  rfl
theorem scan_last {t : TI} (h : properB t = true) (a : Nat) (adj : Bool) : scan (srcT t) a adj = ([⟨t.kind, t.text, a⟩], []) := by
  obtain ⟨hk, h1, h2, h3, h4⟩ := properP h
  rw [scan_whole (tk_ne hk) h2]
  have e1 : tkOf (srcT t) a = [⟨t.kind, t.text, a⟩] := by
    simp only [tkOf, h4]
    rw [if_pos ⟨hk.2, h3, hk.1⟩, h1]
  have e2 : pbOf (srcT t) a adj = [] := by
    simp only [pbOf]
    rw [if_neg hk.2, if_pos h3]
  rw [e1, e2]
/-- what tokens are but for their places -/
abbrev kt (t : TI) : Int × List UInt8 := (t.kind, t.text)
abbrev ktT (t : Tk) : Int × List UInt8 := (t.kind, t.text)
theorem jb_scan : ∀ (L : List TI), L.all properB = true → ∀ a adj, (scan (jb0 L) a adj).1.map ktT = L.map kt ∧ (scan (jb0 L) a adj).2 = []
  | [], _, a, adj => ⟨rfl, rfl⟩
  | [t], h, a, adj => by
    simp only [List.all_cons, List.all_nil, Bool.and_true] at h
    have e : jb0 [t] = srcT t := by simp [jb0]
    rw [e, scan_last h]
    exact ⟨rfl, rfl⟩
  | t :: u :: L, h, a, adj => by
    simp only [List.all_cons, Bool.and_eq_true] at h
    have e : jb0 (t :: u :: L) = srcT t ++ 32 :: jb0 (u :: L) := by simp [jb0]
    have ih := jb_scan (u :: L) (by simp only [List.all_cons, Bool.and_eq_true]; exact h.2) (a + (srcT t).length + 1) false
    rw [e, scan_join h.1, scan_blank (by rfl)]
    exact ⟨by rw [List.map_cons, List.map_cons, ih.1], ih.2⟩
theorem same_kt : ∀ {l k : List TI}, l.map kt = k.map kt → all2B (sameT false 0) l k = true
  | [], [], _ => rfl
  | [], b :: k, h => by simp at h
  | a :: l, [], h => by simp at h
  | a :: l, b :: k, h => by
    simp only [List.map_cons, List.cons.injEq, kt, Prod.mk.injEq] at h
    simp only [all2B, Bool.and_eq_true]
    exact ⟨by simp [sameT, h.1.1, h.1.2], same_kt h.2⟩
theorem srcT_kt {t u : TI} (h : kt t = kt u) : srcT t = srcT u := by
  simp only [kt, Prod.mk.injEq] at h
  simp only [srcT, h.1, h.2]
theorem jb0_kt : ∀ {l k : List TI}, l.map kt = k.map kt → jb0 l = jb0 k
  | [], [], _ => rfl
  | [], b :: k, h => by simp at h
  | a :: l, [], h => by simp at h
  | a :: l, b :: k, h => by
    simp only [List.map_cons, List.cons.injEq] at h
    have hrest : ∀ {l k : List TI}, l.map kt = k.map kt → (l.flatMap fun u => 32 :: srcT u) = k.flatMap fun u => 32 :: srcT u := by
      intro l
      induction l with
      | nil => intro k h; cases k with
        | nil => rfl
        | cons b k => simp at h
      | cons a l ih => intro k h; cases k with
        | nil => simp at h
        | cons b k =>
          simp only [List.map_cons, List.cons.injEq] at h
          simp only [List.flatMap_cons, srcT_kt h.1, ih h.2]
    simp only [jb0, srcT_kt h.1, hrest h.2]
theorem trim_toks (bs : List UInt8) : trimEnd (toksI bs) = (scan bs 0 false).1.map toTI := by
  unfold trimEnd
  simp only [toksI, toksL, List.map_append, List.map_cons, List.map_nil, List.getLast?_append, List.getLast?_singleton, Option.some_or]
  have : isEnd (toTI ⟨6, [], bs.length⟩) = true := by simp [isEnd, toTI]
  rw [if_pos this, List.dropLast_concat]
theorem kt_to (l : List Tk) : (l.map toTI).map kt = l.map ktT := by simp [kt, toTI, Function.comp_def]
end Go.Abs

namespace Go.Abs
open Go.Proofs L8
theorem tok_src_le {l : List UInt8} {a : Nat} {adj : Bool} {t : Tk} (ht : t ∈ (scan l a adj).1) : (srcT (toTI t)).length ≤ l.length := by
  obtain ⟨k, _, hk, h3⟩ := tok_at l a adj t ht
  obtain ⟨hk', h0, he⟩ := tkOf_isTk h3
  have hle := piece_le (l.drop k)
  rw [List.length_drop] at hle
  have h := srcT_len_piece (at_ := (t.at_ : Int)) hk'
  rw [he]
  show (srcT ⟨(piece (l.drop k)).1, txtOf (l.drop k), t.at_⟩).length ≤ _
  omega
theorem text_le (t : TI) : t.text.length ≤ (srcT t).length := by
  unfold srcT; split
  · simp only [List.length_cons, List.length_append]; omega
  · exact Nat.le_refl _
theorem toks_small {bs : List UInt8} (h : bs.length ≤ 16384) : smallTks (toksI bs) := by
  refine ⟨by have := toksI_len bs; omega, fun t ht => ?_⟩
  simp only [toksI, toksL, List.map_append, List.mem_append, List.mem_map] at ht
  rcases ht with ⟨u, hu, rfl⟩ | ⟨u, hu, rfl⟩
  · have h1 := tok_src_le hu
    have h2 := text_le (toTI u)
    omega
  · simp at hu; subst hu; simp [toTI]
def sumS : List TI → Nat
  | [] => 0
  | t :: l => (srcT t).length + 1 + sumS l
theorem sumS_app : ∀ l k : List TI, sumS (l ++ k) = sumS l + sumS k
  | [], k => by simp [sumS]
  | t :: l, k => by simp only [List.cons_append, sumS, sumS_app l k]; omega
theorem jb0_sum : ∀ l : List TI, (jb0 l).length ≤ sumS l
  | [] => by simp [jb0]
  | t :: l => by
    have key : ∀ l : List TI, (l.flatMap fun u => 32 :: srcT u).length = sumS l := by
      intro l
      induction l with
      | nil => rfl
      | cons a l ih => simp only [List.flatMap_cons, List.length_append, List.length_cons, ih, sumS]
    simp only [jb0, List.length_append, key, sumS]; omega
theorem scan_sum (l : List UInt8) (a : Nat) (adj : Bool) : sumS ((scan l a adj).1.map toTI) ≤ 2 * l.length := by
  refine scan_ind (P := fun l a adj => sumS ((scan l a adj).1.map toTI) ≤ 2 * l.length) (fun a adj => by simp [scan_nil, sumS]) (fun l a adj hne ih => ?_) l a adj
  rw [scan_step hne, List.map_append, sumS_app]
  rw [List.length_drop] at ih
  have hp := piece_n_pos hne
  have hle := piece_le l
  have : sumS ((tkOf l a).map toTI) ≤ 2 * (piece l).2.1 := by
    cases h : tkOf l a with
    | nil => simp [sumS]
    | cons x r =>
      have hx : x ∈ tkOf l a := by rw [h]; exact List.mem_cons_self
      have hl := tkOf_len l a
      rw [h] at hl
      have hr : r = [] := List.length_eq_zero_iff.1 (by simp only [List.length_cons] at hl; omega)
      subst hr
      obtain ⟨hk, _, he⟩ := tkOf_isTk hx
      have := srcT_len_piece (at_ := (a : Int)) hk
      simp only [List.map_cons, List.map_nil, sumS, he, toTI]
      omega
  omega
/-- a join of what was read -/
structure BackOk (src b : List UInt8) : Prop where
  len : b.length ≤ 16384
  join : jbR (toksI src) = (.tup [bytesA b, .int .i64 0], [])
  probs : probsI b = []
  same : (toksI src).map kt = (toksI b).map kt
  back : jbR (toksI b) = (.tup [bytesA b, .int .i64 0], [])
theorem backOk {src : List UInt8} (h : src.length ≤ 3000) : BackOk src (jb0 (trimEnd (toksI src))) := by
  have hT := trim_toks src
  have hall : ((scan src 0 false).1.map toTI).all properB = true := by
    rw [List.all_eq_true]
    intro t ht
    obtain ⟨u, hu, rfl⟩ := List.mem_map.1 ht
    exact proper_scan (by omega) hu
  rw [hT]
  have hb : (jb0 ((scan src 0 false).1.map toTI)).length ≤ 6000 := by
    have h1 := jb0_sum ((scan src 0 false).1.map toTI)
    have h2 := scan_sum src 0 false
    omega
  obtain ⟨j1, j2⟩ := jb_scan _ hall 0 false
  generalize hB : jb0 ((scan src 0 false).1.map toTI) = b at *
  have hT' := trim_toks b
  have hsame : ((scan b 0 false).1.map toTI).map kt = ((scan src 0 false).1.map toTI).map kt := by rw [kt_to]; exact j1
  have hjb := jb0_kt hsame
  rw [hB] at hjb
  have hall' : ((scan b 0 false).1.map toTI).all properB = true := by
    rw [List.all_eq_true]
    intro t ht
    obtain ⟨u, hu, rfl⟩ := List.mem_map.1 ht
    exact proper_scan (by omega) hu
  refine ⟨by omega, ?_, ?_, ?_, ?_⟩
  · unfold jbR
    rw [hT, if_pos hall, hB, if_pos (by omega)]
  · simp [probsI, probsL, j2]
  · have e : ∀ x : List UInt8, (toksI x).map kt = ((scan x 0 false).1.map toTI).map kt ++ [(6, [])] := fun x => by simp [toksI, toksL, kt, toTI]
    rw [e, e, hsame]
  · unfold jbR
    rw [hT', if_pos hall', hjb, if_pos (by omega)]
theorem p7 (m : Int) (src : List UInt8) : PureOk PP (G8 m) XJ (tbl [(11, s11), (12, s12), (14, s14), (21, s21)]) (itbl []) nAn [] 7 [bytesA src] (.bool true, []) := by
  constructor
  rw [w7]
  have t11 : tbl [(11, s11), (12, s12), (14, s14), (21, s21)] 11 [] = some (.bool true, []) := rfl
  have t12 : ∀ x, tbl [(11, s11), (12, s12), (14, s14), (21, s21)] 12 x = s12 x := fun _ => rfl
  have t14 : ∀ x, tbl [(11, s11), (12, s12), (14, s14), (21, s21)] 14 x = s14 x := fun _ => rfl
  have t21 : ∀ x, tbl [(11, s11), (12, s12), (14, s14), (21, s21)] 21 x = s21 x := fun _ => rfl
  rw [t11]
  simp only [t12, t14, t21, callIs_iff, retIs_iff, bytesL_length, Option.some.injEq, Prod.mk.injEq, AV.bool.injEq, and_true, decide_eq_true_eq, decide_eq_false_iff_not, true_or, true_and]
  refine ⟨true, rfl, fun _ => ⟨fun _ => trivial, fun hl => ?_⟩, fun h => nomatch h⟩
  have hl' : src.length ≤ 3000 := by omega
  obtain ⟨b1, b2, b3, b4, b5⟩ := backOk hl'
  generalize jb0 (trimEnd (toksI src)) = b at *
  have hs1 := s21_ok (toks_small (bs := src) (by omega))
  have hs2 := s21_ok (toks_small (bs := b) b1)
  rw [b2] at hs1
  rw [b5] at hs2
  have n1 := toksI_len src
  have n2 := toksI_len b
  refine ⟨_, _, _, s12_ok (by omega), fun h => absurd h (by decide), fun _ => ⟨_, _, hs1, fun h => absurd h (by decide), fun _ => ⟨_, _, _, s12_ok b1, _, _, hs2, fun _ => ⟨fun _ => ⟨fun _ => ⟨_, s14_ok (by omega) (by omega), fun _ => ⟨_, mapM_bs b, _, mapM_bs b, fun _ => trivial, fun h => ?_⟩, fun h => ?_⟩, fun h => ?_⟩, fun h => absurd h (by decide)⟩, fun h => absurd h (by decide)⟩⟩⟩
  · simp at h
  · rw [same_kt b4] at h; cases h
  · rw [b3] at h; simp at h
def s7 : Spec := s3
theorem o7 (m : Int) : SpecOk PP (G8 m) 7 s7 := spec_of (X := XJ) (m := []) mixed8 (tbl_cons (o11 m) (tbl_cons (o12' m) (tbl_cons (o14 m) (tbl_cons (o21 m) tbl_nil)))) itbl_nil fun args r h => by
  unfold s7 s3 at h
  split at h
  · split at h
    · rename_i hsz
      subst hsz
      unfold onBytes at h
      split at h
      · rename_i bs hb
        obtain rfl := unBytes_some hb
        injection h with h; subst h; exact ⟨nAn, p7 m bs⟩
      · cases h
    · cases h
  · cases h
theorem s7_true (l : List UInt8) : s7 [bytesA l] = some (.bool true, []) := s3_true l
end Go.Abs

namespace Go.Abs
open Go.Proofs L8
theorem w6 (m : Int) (src : List UInt8) (s11 : Spec) : (pureW PP (G8 m) XJ (tbl [(11, s11), (12, s12), (23, s23)]) (itbl []) (a6 src) [] 6 [bytesA src] (.bool true, [])) =
(∃ (b : Bool),
  CallIs (tbl [(nat_lit 11, s11), (nat_lit 12, s12), (nat_lit 23, s23)] (nat_lit 11) []) (AV.bool b) [] ∧
    (b = true →
        (decide ((↑(bytesL src).length : Int) > (3000 : Int)) = true → RetIs (AV.bool true) [] (AV.bool true, [])) ∧
 (decide ((↑(bytesL src).length : Int) > (3000 : Int)) = false →
 ∃ (es : List AV),
 ∃ (es_1 : List AV),
 ∃ (n : Int),
 CallIs (tbl [(nat_lit 11, s11), (nat_lit 12, s12), (nat_lit 23, s23)] (nat_lit 12) [AV.sl (nat_lit 1) (bytesL src) Own.no])
 (AV.tup [AV.sl (nat_lit 3) es Own.no, AV.sl (nat_lit 2) es_1 Own.no, AV.int IntKind.i64 n]) [] ∧
 ((n != (0 : Int)) = true → RetIs (AV.bool false) [] (AV.bool true, [])) ∧
 ((n != (0 : Int)) = false →
 (((↑es.length : Int) == (0 : Int)) = true → RetIs (AV.bool false) [] (AV.bool true, [])) ∧
 (((↑es.length : Int) == (0 : Int)) = false →
 (decide ((↑es_1.length : Int) > (32 : Int)) = true → RetIs (AV.bool false) [] (AV.bool true, [])) ∧
 (decide ((↑es_1.length : Int) > (32 : Int)) = false →
 (∃ (y : Nat),
 ValsAre
 [AV.sl (nat_lit 1) (bytesL src) Own.no, AV.sl (nat_lit 3) es Own.no, AV.sl (nat_lit 2) es_1 Own.no,
 AV.int IntKind.i64 (0 : Int), AV.int IntKind.i64 (0 : Int)]
 [AV.sl (nat_lit 1) (bytesL src) Own.no, AV.sl (nat_lit 3) (tksL (toksI src)) Own.no,
 AV.sl (nat_lit 2) (pbsL (probsI src)) Own.no, AV.int IntKind.i64 (endAt (toksI src) y),
 AV.int IntKind.i64 (↑y : Int)] ∧
 StIs { boxes := [], live := [] } { boxes := [], live := [] } ∧ y ≤ (toksI src).length ∧ True) ∧
 ∀ (x : Nat),
 x ≤ (toksI src).length →
 (decide ((↑x : Int) < (↑(tksL (toksI src)).length : Int)) = true →
 ((0 : Int) ≤ (↑x : Int) ∧ (↑x : Int) < (↑(tksL (toksI src)).length : Int)) ∧
 ∃ (n : Int),
 ∃ (s : List UInt8),
 ∃ (n_1 : Int),
 takeAt PP (nat_lit 38) (tksL (toksI src)) (↑x : Int).toNat (nat_lit 0) =
 some (AV.agg [AV.int IntKind.i64 n, AV.str s, AV.int IntKind.i64 n_1]) ∧
 ∃ (s_1 : List UInt8),
 CallIs
 (tbl [(nat_lit 11, s11), (nat_lit 12, s12), (nat_lit 23, s23)] (nat_lit 23)
 [AV.agg [AV.int IntKind.i64 n, AV.str s, AV.int IntKind.i64 n_1]])
 (AV.str s_1) [] ∧
 ((0 : Int) ≤ (↑x : Int) ∧ (↑x : Int) < (↑(tksL (toksI src)).length : Int)) ∧
 ∃ (n : Int),
 takeAt PP (nat_lit 3) (tksL (toksI src)) (↑x : Int).toNat (nat_lit 2) =
 some (AV.int IntKind.i64 n) ∧
 (decide (n < endAt (toksI src) x) = true → RetIs (AV.bool false) [] (AV.bool true, [])) ∧
 (decide (n < endAt (toksI src) x) = false →
 ((0 : Int) ≤ (↑x : Int) ∧ (↑x : Int) < (↑(tksL (toksI src)).length : Int)) ∧
 ∃ (n : Int),
 takeAt PP (nat_lit 3) (tksL (toksI src)) (↑x : Int).toNat (nat_lit 2) =
 some (AV.int IntKind.i64 n) ∧
 (decide (n > IntKind.i64.wrap ((↑(bytesL src).length : Int) - (↑s_1.length : Int))) =
 true →
 RetIs (AV.bool false) [] (AV.bool true, [])) ∧
 (decide (n > IntKind.i64.wrap ((↑(bytesL src).length : Int) - (↑s_1.length : Int))) =
 false →
 ((0 : Int) ≤ (↑x : Int) ∧ (↑x : Int) < (↑(tksL (toksI src)).length : Int)) ∧
 ∃ (n : Int),
 takeAt PP (nat_lit 3) (tksL (toksI src)) (↑x : Int).toNat (nat_lit 2) =
 some (AV.int IntKind.i64 n) ∧
 ((0 : Int) ≤ (↑x : Int) ∧ (↑x : Int) < (↑(tksL (toksI src)).length : Int)) ∧
 ∃ (n_2 : Int),
 takeAt PP (nat_lit 3) (tksL (toksI src)) (↑x : Int).toNat (nat_lit 2) =
 some (AV.int IntKind.i64 n_2) ∧
 (0 : Int) ≤ n ∧
 (0 : Int) ≤ IntKind.i64.wrap (n_2 + (↑s_1.length : Int)) ∧
 (n.toNat ≤ (IntKind.i64.wrap (n_2 + (↑s_1.length : Int))).toNat ∧
 (IntKind.i64.wrap (n_2 + (↑s_1.length : Int))).toNat ≤
 (bytesL src).length) ∧
 (nat_lit 1 = nat_lit 1 ∨ bytesL src = []) ∧
 (nat_lit 1 = nat_lit 1 ∨
 List.drop n.toNat
 (List.take
 (IntKind.i64.wrap (n_2 + (↑s_1.length : Int))).toNat
 (bytesL src)) =
 []) ∧
 ∃ (l : List UInt8),
 List.mapM byteOf
 (List.drop n.toNat
 (List.take
 (IntKind.i64.wrap
 (n_2 + (↑s_1.length : Int))).toNat
 (bytesL src))) =
 some l ∧
 ((!l == s_1) = true →
 RetIs (AV.bool false) [] (AV.bool true, [])) ∧
 ((!l == s_1) = false →
 ((0 : Int) ≤ (↑x : Int) ∧
 (↑x : Int) < (↑(tksL (toksI src)).length : Int)) ∧
 ∃ (n : Int),
 takeAt PP (nat_lit 3) (tksL (toksI src))
 (↑x : Int).toNat (nat_lit 0) =
 some (AV.int IntKind.i64 n) ∧
 ((n == (6 : Int)) = true →
 (((↑x : Int) ==
 IntKind.i64.wrap
 ((↑(tksL (toksI src)).length :
 Int) -
 (1 : Int))) =
 true →
 (false = true →
 RetIs (AV.bool false) []
 (AV.bool true, [])) ∧
 (false = false →
 ((0 : Int) ≤ (↑x : Int) ∧
 (↑x : Int) <
 (↑(tksL (toksI src)).length :
 Int)) ∧
 ∃ (n : Int),
 takeAt PP (nat_lit 3)
 (tksL (toksI src))
 (↑x : Int).toNat
 (nat_lit 2) =
 some
 (AV.int IntKind.i64 n) ∧
 ∃ (y : Nat),
 ValsAre
 [AV.sl (nat_lit 1)
 (bytesL src) Own.no,
 AV.sl (nat_lit 3)
 (tksL (toksI src))
 Own.no,
 AV.sl (nat_lit 2)
 (pbsL (probsI src))
 Own.no,
 AV.int IntKind.i64
 (IntKind.i64.wrap
 (n +
 (↑s_1.length :
 Int))),
 AV.int IntKind.i64
 (IntKind.i64.wrap
 ((↑x : Int) +
 (1 : Int)))]
 [AV.sl (nat_lit 1)
 (bytesL src) Own.no,
 AV.sl (nat_lit 3)
 (tksL (toksI src))
 Own.no,
 AV.sl (nat_lit 2)
 (pbsL (probsI src))
 Own.no,
 AV.int IntKind.i64
 (endAt (toksI src)
 y),
 AV.int IntKind.i64
 (↑y : Int)] ∧
 StIs
 { boxes := [], live := [] }
 { boxes := [], live := [] } ∧
 y ≤ (toksI src).length ∧
 (toksI src).length -
 y <
 (toksI src).length -
 x)) ∧
 (((↑x : Int) ==
 IntKind.i64.wrap
 ((↑(tksL (toksI src)).length :
 Int) -
 (1 : Int))) =
 false →
 (true = true →
 RetIs (AV.bool false) []
 (AV.bool true, [])) ∧
 (true = false →
 ((0 : Int) ≤ (↑x : Int) ∧
 (↑x : Int) <
 (↑(tksL (toksI src)).length :
 Int)) ∧
 ∃ (n : Int),
 takeAt PP (nat_lit 3)
 (tksL (toksI src))
 (↑x : Int).toNat
 (nat_lit 2) =
 some
 (AV.int IntKind.i64 n) ∧
 ∃ (y : Nat),
 ValsAre
 [AV.sl (nat_lit 1)
 (bytesL src) Own.no,
 AV.sl (nat_lit 3)
 (tksL (toksI src))
 Own.no,
 AV.sl (nat_lit 2)
 (pbsL (probsI src))
 Own.no,
 AV.int IntKind.i64
 (IntKind.i64.wrap
 (n +
 (↑s_1.length :
 Int))),
 AV.int IntKind.i64
 (IntKind.i64.wrap
 ((↑x : Int) +
 (1 : Int)))]
 [AV.sl (nat_lit 1)
 (bytesL src) Own.no,
 AV.sl (nat_lit 3)
 (tksL (toksI src))
 Own.no,
 AV.sl (nat_lit 2)
 (pbsL (probsI src))
 Own.no,
 AV.int IntKind.i64
 (endAt (toksI src)
 y),
 AV.int IntKind.i64
 (↑y : Int)] ∧
 StIs
 { boxes := [], live := [] }
 { boxes := [], live := [] } ∧
 y ≤ (toksI src).length ∧
 (toksI src).length -
 y <
 (toksI src).length -
 x))) ∧
 ((n == (6 : Int)) = false →
 (((↑x : Int) ==
 IntKind.i64.wrap
 ((↑(tksL (toksI src)).length :
 Int) -
 (1 : Int))) =
 true →
 (true = true →
 RetIs (AV.bool false) []
 (AV.bool true, [])) ∧
 (true = false →
 ((0 : Int) ≤ (↑x : Int) ∧
 (↑x : Int) <
 (↑(tksL (toksI src)).length :
 Int)) ∧
 ∃ (n : Int),
 takeAt PP (nat_lit 3)
 (tksL (toksI src))
 (↑x : Int).toNat
 (nat_lit 2) =
 some
 (AV.int IntKind.i64 n) ∧
 ∃ (y : Nat),
 ValsAre
 [AV.sl (nat_lit 1)
 (bytesL src) Own.no,
 AV.sl (nat_lit 3)
 (tksL (toksI src))
 Own.no,
 AV.sl (nat_lit 2)
 (pbsL (probsI src))
 Own.no,
 AV.int IntKind.i64
 (IntKind.i64.wrap
 (n +
 (↑s_1.length :
 Int))),
 AV.int IntKind.i64
 (IntKind.i64.wrap
 ((↑x : Int) +
 (1 : Int)))]
 [AV.sl (nat_lit 1)
 (bytesL src) Own.no,
 AV.sl (nat_lit 3)
 (tksL (toksI src))
 Own.no,
 AV.sl (nat_lit 2)
 (pbsL (probsI src))
 Own.no,
 AV.int IntKind.i64
 (endAt (toksI src)
 y),
 AV.int IntKind.i64
 (↑y : Int)] ∧
 StIs
 { boxes := [], live := [] }
 { boxes := [], live := [] } ∧
 y ≤ (toksI src).length ∧
 (toksI src).length -
 y <
 (toksI src).length -
 x)) ∧
 (((↑x : Int) ==
 IntKind.i64.wrap
 ((↑(tksL (toksI src)).length :
 Int) -
 (1 : Int))) =
 false →
 (false = true →
 RetIs (AV.bool false) []
 (AV.bool true, [])) ∧
 (false = false →
 ((0 : Int) ≤ (↑x : Int) ∧
 (↑x : Int) <
 (↑(tksL (toksI src)).length :
 Int)) ∧
 ∃ (n : Int),
 takeAt PP (nat_lit 3)
 (tksL (toksI src))
 (↑x : Int).toNat
 (nat_lit 2) =
 some
 (AV.int IntKind.i64 n) ∧
 ∃ (y : Nat),
 ValsAre
 [AV.sl (nat_lit 1)
 (bytesL src) Own.no,
 AV.sl (nat_lit 3)
 (tksL (toksI src))
 Own.no,
 AV.sl (nat_lit 2)
 (pbsL (probsI src))
 Own.no,
 AV.int IntKind.i64
 (IntKind.i64.wrap
 (n +
 (↑s_1.length :
 Int))),
 AV.int IntKind.i64
 (IntKind.i64.wrap
 ((↑x : Int) +
 (1 : Int)))]
 [AV.sl (nat_lit 1)
 (bytesL src) Own.no,
 AV.sl (nat_lit 3)
 (tksL (toksI src))
 Own.no,
 AV.sl (nat_lit 2)
 (pbsL (probsI src))
 Own.no,
 AV.int IntKind.i64
 (endAt (toksI src)
 y),
 AV.int IntKind.i64
 (↑y : Int)] ∧
 StIs
 { boxes := [], live := [] }
 { boxes := [], live := [] } ∧
 y ≤ (toksI src).length ∧
 (toksI src).length -
 y <
 (toksI src).length -
 x))))))) ∧
 (decide ((↑x : Int) < (↑(tksL (toksI src)).length : Int)) = false →
 (∃ (y : Nat),
 ValsAre
 [AV.sl (nat_lit 1) (bytesL src) Own.no, AV.sl (nat_lit 3) (tksL (toksI src)) Own.no,
 AV.sl (nat_lit 2) (pbsL (probsI src)) Own.no, AV.int IntKind.i64 (0 : Int)]
 [AV.sl (nat_lit 1) (bytesL src) Own.no, AV.sl (nat_lit 3) (tksL (toksI src)) Own.no,
 AV.sl (nat_lit 2) (pbsL (probsI src)) Own.no, AV.int IntKind.i64 (↑y : Int)] ∧
 StIs { boxes := [], live := [] } { boxes := [], live := [] } ∧ y ≤ (probsI src).length ∧ True) ∧
 ∀ (x : Nat),
 x ≤ (probsI src).length →
 (decide ((↑x : Int) < (↑(pbsL (probsI src)).length : Int)) = true →
 ((0 : Int) ≤ (↑x : Int) ∧ (↑x : Int) < (↑(pbsL (probsI src)).length : Int)) ∧
 ∃ (n : Int),
 takeAt PP (nat_lit 3) (pbsL (probsI src)) (↑x : Int).toNat (nat_lit 0) = some (AV.int IntKind.i64 n) ∧
 (decide (n < (0 : Int)) = true → RetIs (AV.bool false) [] (AV.bool true, [])) ∧
 (decide (n < (0 : Int)) = false →
 ((0 : Int) ≤ (↑x : Int) ∧ (↑x : Int) < (↑(pbsL (probsI src)).length : Int)) ∧
 ∃ (n : Int),
 takeAt PP (nat_lit 3) (pbsL (probsI src)) (↑x : Int).toNat (nat_lit 0) =
 some (AV.int IntKind.i64 n) ∧
 (decide (n ≥ (↑(bytesL src).length : Int)) = true →
 RetIs (AV.bool false) [] (AV.bool true, [])) ∧
 (decide (n ≥ (↑(bytesL src).length : Int)) = false →
 (decide ((↑x : Int) > (0 : Int)) = true →
 ((0 : Int) ≤ (↑x : Int) ∧ (↑x : Int) < (↑(pbsL (probsI src)).length : Int)) ∧
 ∃ (n : Int),
 takeAt PP (nat_lit 3) (pbsL (probsI src)) (↑x : Int).toNat (nat_lit 0) =
 some (AV.int IntKind.i64 n) ∧
 ((0 : Int) ≤ IntKind.i64.wrap ((↑x : Int) - (1 : Int)) ∧
 IntKind.i64.wrap ((↑x : Int) - (1 : Int)) <
 (↑(pbsL (probsI src)).length : Int)) ∧
 ∃ (n_1 : Int),
 takeAt PP (nat_lit 3) (pbsL (probsI src))
 (IntKind.i64.wrap ((↑x : Int) - (1 : Int))).toNat (nat_lit 0) =
 some (AV.int IntKind.i64 n_1) ∧
 (decide (n ≤ n_1) = true →
 RetIs (AV.bool false) [] (AV.bool true, [])) ∧
 (decide (n ≤ n_1) = false →
 ((0 : Int) ≤ (↑x : Int) ∧
 (↑x : Int) < (↑(pbsL (probsI src)).length : Int)) ∧
 ∃ (n : Int),
 takeAt PP (nat_lit 26) (pbsL (probsI src)) (↑x : Int).toNat
 (nat_lit 1) =
 some (AV.int IntKind.i64 n) ∧
 ((n == (0 : Int)) = true →
 RetIs (AV.bool false) [] (AV.bool true, [])) ∧
 ((n == (0 : Int)) = false →
 ∃ (y : Nat),
 ValsAre
 [AV.sl (nat_lit 1) (bytesL src) Own.no,
 AV.sl (nat_lit 3) (tksL (toksI src)) Own.no,
 AV.sl (nat_lit 2) (pbsL (probsI src)) Own.no,
 AV.int IntKind.i64
 (IntKind.i64.wrap ((↑x : Int) + (1 : Int)))]
 [AV.sl (nat_lit 1) (bytesL src) Own.no,
 AV.sl (nat_lit 3) (tksL (toksI src)) Own.no,
 AV.sl (nat_lit 2) (pbsL (probsI src)) Own.no,
 AV.int IntKind.i64 (↑y : Int)] ∧
 StIs { boxes := [], live := [] }
 { boxes := [], live := [] } ∧
 y ≤ (probsI src).length ∧
 (probsI src).length - y <
 (probsI src).length - x))) ∧
 (decide ((↑x : Int) > (0 : Int)) = false →
 ((0 : Int) ≤ (↑x : Int) ∧ (↑x : Int) < (↑(pbsL (probsI src)).length : Int)) ∧
 ∃ (n : Int),
 takeAt PP (nat_lit 26) (pbsL (probsI src)) (↑x : Int).toNat (nat_lit 1) =
 some (AV.int IntKind.i64 n) ∧
 ((n == (0 : Int)) = true → RetIs (AV.bool false) [] (AV.bool true, [])) ∧
 ((n == (0 : Int)) = false →
 ∃ (y : Nat),
 ValsAre
 [AV.sl (nat_lit 1) (bytesL src) Own.no,
 AV.sl (nat_lit 3) (tksL (toksI src)) Own.no,
 AV.sl (nat_lit 2) (pbsL (probsI src)) Own.no,
 AV.int IntKind.i64 (IntKind.i64.wrap ((↑x : Int) + (1 : Int)))]
 [AV.sl (nat_lit 1) (bytesL src) Own.no,
 AV.sl (nat_lit 3) (tksL (toksI src)) Own.no,
 AV.sl (nat_lit 2) (pbsL (probsI src)) Own.no,
 AV.int IntKind.i64 (↑y : Int)] ∧
 StIs { boxes := [], live := [] } { boxes := [], live := [] } ∧
 y ≤ (probsI src).length ∧
 (probsI src).length - y < (probsI src).length - x))))) ∧
 (decide ((↑x : Int) < (↑(pbsL (probsI src)).length : Int)) = false →
 ((0 : Int) ≤ IntKind.i64.wrap ((↑(tksL (toksI src)).length : Int) - (1 : Int)) ∧
 IntKind.i64.wrap ((↑(tksL (toksI src)).length : Int) - (1 : Int)) <
 (↑(tksL (toksI src)).length : Int)) ∧
 ∃ (n : Int),
 takeAt PP (nat_lit 3) (tksL (toksI src))
 (IntKind.i64.wrap ((↑(tksL (toksI src)).length : Int) - (1 : Int))).toNat (nat_lit 2) =
 some (AV.int IntKind.i64 n) ∧
 ((n == (↑(bytesL src).length : Int)) = true →
 ((0 : Int) ≤ IntKind.i64.wrap ((↑(tksL (toksI src)).length : Int) - (1 : Int)) ∧
 IntKind.i64.wrap ((↑(tksL (toksI src)).length : Int) - (1 : Int)) <
 (↑(tksL (toksI src)).length : Int)) ∧
 ∃ (s : List UInt8),
 takeAt PP (nat_lit 9) (tksL (toksI src))
 (IntKind.i64.wrap ((↑(tksL (toksI src)).length : Int) - (1 : Int))).toNat (nat_lit 1) =
 some (AV.str s) ∧
 ((s == []) = true → RetIs (AV.bool true) [] (AV.bool true, [])) ∧
 ((s == []) = false → RetIs (AV.bool false) [] (AV.bool true, []))) ∧
 ((n == (↑(bytesL src).length : Int)) = false → RetIs (AV.bool false) [] (AV.bool true, []))))))))) ∧
      (b = false → RetIs (AV.bool false) [] (AV.bool true, []))) := by kernel_rfl
end Go.Abs

namespace Go.Abs
open Go.Proofs L8
/-- a token's source stands at its place -/
theorem tok_src {l : List UInt8} {a : Nat} {adj : Bool} {t : Tk} (ht : t ∈ (scan l a adj).1) : ∃ k, t.at_ = a + k ∧ k + (srcT (toTI t)).length ≤ l.length ∧ (l.drop k).take (srcT (toTI t)).length = srcT (toTI t) ∧ t.kind ≠ 6 := by
  obtain ⟨k, h1, h2, h3⟩ := tok_at l a adj t ht
  obtain ⟨hk, h0, he⟩ := tkOf_isTk h3
  have hle := piece_le (l.drop k)
  rw [List.length_drop] at hle
  have e1 := srcT_len_piece (at_ := (t.at_ : Int)) hk
  have e2 := srcT_piece (at_ := (t.at_ : Int)) hk
  have e3 : toTI t = ⟨(piece (l.drop k)).1, txtOf (l.drop k), t.at_⟩ := by rw [he]; rfl
  refine ⟨k, h1, ?_, ?_, ?_⟩
  · rw [e3, e1]; omega
  · rw [e3, e1]; exact e2.symm
  · rw [he]
    simp only
    rcases piece_kinds (l.drop k) with h | h | ⟨h, _⟩ | h | h | h | ⟨_, _, _, _, h⟩ <;> rw [h] <;> first | decide | (intro h'; cases h')
theorem scan_pair (l : List UInt8) (a : Nat) (adj : Bool) : (scan l a adj).1.Pairwise fun t u => t.at_ + (srcT (toTI t)).length ≤ u.at_ := by
  refine scan_ind (P := fun l a adj => (scan l a adj).1.Pairwise fun t u => t.at_ + (srcT (toTI t)).length ≤ u.at_) (fun a adj => by simp [scan_nil]) (fun l a adj hne ih => ?_) l a adj
  rw [scan_step hne]
  refine List.pairwise_append.2 ⟨?_, ih, fun t ht u hu => ?_⟩
  · have := tkOf_len l a
    cases h : tkOf l a with
    | nil => exact .nil
    | cons x r =>
      rw [h] at this
      have hr : r = [] := List.length_eq_zero_iff.1 (by simp only [List.length_cons] at this; omega)
      subst hr
      exact List.pairwise_singleton _ _
  · obtain ⟨hk, _, he⟩ := tkOf_isTk ht
    obtain ⟨k, h1, _⟩ := tok_at _ _ _ u hu
    have := srcT_len_piece (at_ := (a : Int)) hk
    have e : (srcT (toTI t)).length = (piece l).2.1 := by rw [he]; exact this
    rw [e, tkOf_at ht]; omega
theorem pbOf_at2 {l : List UInt8} {a : Nat} {adj : Bool} {p : Pb} (h : p ∈ pbOf l a adj) : p.at_ = a ∧ p.code ≠ 0 := by
  unfold pbOf at h
  split at h
  · split at h
    · simp at h
    · simp at h; subst h; exact ⟨rfl, fun h' : (80 : Int) = 0 => by cases h'⟩
  · split at h
    · simp at h
    · rename_i h0
      simp at h; subst h; exact ⟨rfl, h0⟩
theorem pb_place (l : List UInt8) (a : Nat) (adj : Bool) : ∀ p ∈ (scan l a adj).2, ∃ k, p.at_ = a + k ∧ k < l.length ∧ p.code ≠ 0 := by
  refine scan_ind (P := fun l a adj => ∀ p ∈ (scan l a adj).2, ∃ k, p.at_ = a + k ∧ k < l.length ∧ p.code ≠ 0) (fun a adj t ht => by simp [scan_nil] at ht) (fun l a adj hne ih p hp => ?_) l a adj
  rw [scan_step hne] at hp
  have hpos := List.length_pos_iff.2 hne
  rcases List.mem_append.1 hp with hp | hp
  · obtain ⟨h1, h2⟩ := pbOf_at2 hp
    exact ⟨0, by omega, hpos, h2⟩
  · obtain ⟨k, h1, h2, h3⟩ := ih p hp
    rw [List.length_drop] at h2
    exact ⟨(piece l).2.1 + k, by omega, by omega, h3⟩
theorem pb_pair (l : List UInt8) (a : Nat) (adj : Bool) : (scan l a adj).2.Pairwise fun t u => t.at_ < u.at_ := by
  refine scan_ind (P := fun l a adj => (scan l a adj).2.Pairwise fun t u => t.at_ < u.at_) (fun a adj => by simp [scan_nil]) (fun l a adj hne ih => ?_) l a adj
  rw [scan_step hne]
  refine List.pairwise_append.2 ⟨?_, ih, fun t ht u hu => ?_⟩
  · have := pbOf_len l a adj
    cases h : pbOf l a adj with
    | nil => exact .nil
    | cons x r =>
      rw [h] at this
      have hr : r = [] := List.length_eq_zero_iff.1 (by simp only [List.length_cons] at this; omega)
      subst hr
      exact List.pairwise_singleton _ _
  · obtain ⟨k, h1, _⟩ := pb_place _ _ _ u hu
    have := piece_n_pos hne
    rw [(pbOf_at2 ht).1]; omega
/-- what is known of the tokens of a source -/
structure TokF (src : List UInt8) (t : TI) (i : Nat) : Prop where
  lo : 0 ≤ t.at_
  hi : t.at_ + (srcT t).length ≤ src.length
  own : (src.drop t.at_.toNat).take (srcT t).length = srcT t
  last : t.kind = 6 ↔ i + 1 = (toksI src).length
theorem toksI_eq (src : List UInt8) : toksI src = (scan src 0 false).1.map toTI ++ [⟨6, [], src.length⟩] := by
  simp only [toksI, toksL, List.map_append, List.map_cons, List.map_nil, toTI]
theorem tok_facts {src : List UInt8} {i : Nat} (h : i < (toksI src).length) : TokF src (toksI src)[i] i := by
  have hl : (toksI src).length = (scan src 0 false).1.length + 1 := by rw [toksI_eq]; simp
  by_cases hi : i < (scan src 0 false).1.length
  · have e : (toksI src)[i] = toTI (scan src 0 false).1[i] := by
      simp only [toksI_eq]
      rw [List.getElem_append_left (by simpa using hi), List.getElem_map]
    obtain ⟨k, h1, h2, h3, h4⟩ := tok_src (List.getElem_mem hi)
    rw [e]
    have ea : (toTI (scan src 0 false).1[i]).at_ = ((k : Nat) : Int) := by
      show (((scan src 0 false).1[i].at_ : Nat) : Int) = _
      omega
    exact ⟨by omega, by omega, by rw [ea, Int.toNat_natCast]; exact h3, ⟨fun h6 => absurd h6 h4, fun h6 => by omega⟩⟩
  · have hi' : i = (scan src 0 false).1.length := by omega
    have e : (toksI src)[i] = ⟨6, [], src.length⟩ := by
      subst hi'
      simp only [toksI_eq]
      rw [List.getElem_append_right (by simp)]
      simp
    rw [e]
    refine ⟨Int.natCast_nonneg _, ?_, ?_, ⟨fun _ => by omega, fun _ => rfl⟩⟩
    · show (src.length : Int) + ((0 : Nat) : Int) ≤ _; omega
    · show (src.drop _).take 0 = []; simp
theorem getD_in {α : Type} {l : List α} {i : Nat} {d : α} (h : i < l.length) : l.getD i d = l[i] := by
  rw [List.getD_eq_getElem?_getD, List.getElem?_eq_getElem h, Option.getD_some]
theorem tok_next {src : List UInt8} {i : Nat} (h : i < (toksI src).length) : endAt (toksI src) i ≤ (toksI src)[i].at_ := by
  unfold endAt
  split
  · exact (tok_facts h).lo
  · rename_i h0
    have hp : i - 1 < (toksI src).length := by omega
    rw [getD_in hp]
    have hpw : (toksI src).Pairwise fun t u => t.at_ + ((srcT t).length : Int) ≤ u.at_ := by
      rw [toksI_eq]
      refine List.pairwise_append.2 ⟨?_, List.pairwise_singleton _ _, fun t ht u hu => ?_⟩
      · rw [List.pairwise_map]
        refine (scan_pair src 0 false).imp fun {t u} h => ?_
        show ((t.at_ : Nat) : Int) + _ ≤ ((u.at_ : Nat) : Int)
        omega
      · obtain ⟨x, hx, rfl⟩ := List.mem_map.1 ht
        obtain ⟨k, h1, h2, _⟩ := tok_src hx
        simp at hu; subst hu
        show ((x.at_ : Nat) : Int) + _ ≤ (src.length : Int)
        omega
    exact List.pairwise_iff_getElem.1 hpw (i - 1) i hp h (by omega)
theorem endAt_succ {l : List TI} {i : Nat} (h : i < l.length) : endAt l (i + 1) = l[i].at_ + (srcT l[i]).length := by
  unfold endAt
  rw [if_neg (by omega), Nat.add_sub_cancel, getD_in h]
structure PbF (src : List UInt8) (p : PI) : Prop where
  lo : 0 ≤ p.at_
  hi : p.at_ < src.length
  code : p.code ≠ 0
theorem probsI_eq (src : List UInt8) : probsI src = ((scan src 0 false).2.take 32).map toPI := by
  simp only [probsI, probsL]
theorem pb_facts {src : List UInt8} {i : Nat} (h : i < (probsI src).length) : PbF src (probsI src)[i] := by
  obtain ⟨p, hp, he⟩ : ∃ p ∈ (scan src 0 false).2.take 32, toPI p = (probsI src)[i] := by
    have := List.getElem_mem h
    generalize (probsI src)[i] = x at *
    rw [probsI_eq, List.mem_map] at this
    exact this
  obtain ⟨k, h1, h2, h3⟩ := pb_place src 0 false p (List.mem_of_mem_take hp)
  rw [← he]
  exact ⟨Int.natCast_nonneg _, by show ((p.at_ : Nat) : Int) < _; omega, h3⟩
theorem pb_next {src : List UInt8} {i j : Nat} (hij : i < j) (h : j < (probsI src).length) : (probsI src)[i].at_ < (probsI src)[j].at_ := by
  have hpw : (probsI src).Pairwise fun t u => t.at_ < u.at_ := by
    rw [probsI_eq, List.pairwise_map]
    refine ((pb_pair src 0 false).sublist (List.take_sublist _ _)).imp fun {t u} h => ?_
    show ((t.at_ : Nat) : Int) < ((u.at_ : Nat) : Int)
    omega
  exact List.pairwise_iff_getElem.1 hpw i j (by omega) h hij
end Go.Abs

namespace Go.Abs
open Go.Proofs L8
theorem pb_fld {P : Program} {t : TypeId} (ha : aggA P t = some false) {s : Nat} (hs : sizeA P t = some s) {l : List PI} {i : Nat} (h : i < l.length) :
    takeAt P t (pbsL l) i 0 = some (.int .i64 l[i].at_) ∧ takeAt P t (pbsL l) i 1 = some (.int .i64 l[i].code) := by
  have he : (pbsL l)[i]? = some (piA l[i]) := by simp [h]
  simp only [takeAt, he, ha, hs, takeA, piA, AV.cells]
  exact ⟨rfl, rfl⟩
theorem agg26 : aggA PP 26 = some false := by kernel_rfl
theorem size26 : sizeA PP 26 = some 1 := by kernel_rfl
theorem p6 (m : Int) (src : List UInt8) : PureOk PP (G8 m) XJ (tbl [(11, s11), (12, s12), (23, s23)]) (itbl []) (a6 src) [] 6 [bytesA src] (.bool true, []) := by
  constructor
  rw [w6]
  have t11 : tbl [(11, s11), (12, s12), (23, s23)] 11 [] = some (.bool true, []) := rfl
  have t12 : ∀ x, tbl [(11, s11), (12, s12), (23, s23)] 12 x = s12 x := fun _ => rfl
  have t23 : ∀ x, tbl [(11, s11), (12, s12), (23, s23)] 23 x = s23 x := fun _ => rfl
  rw [t11]
  simp only [t12, t23, callIs_iff, valsAre_iff, stIs_iff, retIs_iff, tksL_length, pbsL_length, bytesL_length, Option.some.injEq, Prod.mk.injEq, AV.int.injEq, AV.bool.injEq, AV.sl.injEq, List.cons.injEq, and_true, true_and, true_or, decide_eq_true_eq, decide_eq_false_iff_not, bne_iff_ne, bne_eq_false_iff_eq, beq_iff_eq, beq_eq_false_iff_ne, ne_eq, Int.toNat_natCast, gt_iff_lt, ge_iff_le, true_implies, tf_imp, ft_imp]
  refine ⟨true, rfl, fun _ => ⟨fun _ => trivial, fun hs => ?_⟩, fun h => nomatch h⟩
  have hTl := toksI_len src
  have hT0 : 1 ≤ (toksI src).length := by rw [toksI_eq]; simp
  have hPl := probsI_len src
  have sub : ∀ n k : Nat, (List.mapM byteOf (List.drop n (List.take k (bytesL src)))) = some ((src.take k).drop n) := fun n k => by
    rw [bytesL, ← List.map_take, ← List.map_drop]
    exact mapM_bs _
  have nx : ∀ x, x < (probsI src).length → ∃ y : Nat, IntKind.i64.wrap ((x : Int) + 1) = y ∧ y ≤ (probsI src).length ∧ (probsI src).length - y < (probsI src).length - x := fun x h => ⟨x + 1, by rw [wrap64_in (by omega) (by omega)]; rfl, by omega, by omega⟩
  have code : ∀ x, x < (probsI src).length → ((0 : Int) ≤ x ∧ (x : Int) < (probsI src).length) ∧ ∃ n, takeAt PP 26 (pbsL (probsI src)) x 1 = some (.int .i64 n) ∧ (n = 0 → false = true) ∧ (¬n = 0 → ∃ y : Nat, IntKind.i64.wrap ((x : Int) + 1) = y ∧ y ≤ (probsI src).length ∧ (probsI src).length - y < (probsI src).length - x) := fun x h =>
    ⟨by omega, _, (pb_fld agg26 size26 h).2, fun h0 => absurd h0 (pb_facts h).code, fun _ => nx x h⟩
  refine ⟨_, _, _, s12_ok (by omega), fun h => absurd rfl h, fun _ => ⟨fun h => ?_, fun _ => ⟨fun h => ?_, fun _ => ⟨⟨0, ⟨rfl, rfl, rfl, rfl⟩, Nat.zero_le _⟩, fun x hx => ⟨fun hlt => ?_, fun hge => ⟨⟨0, rfl, Nat.zero_le _⟩, fun x hx => ⟨fun hlt => ?_, fun hge => ?_⟩⟩⟩⟩⟩⟩⟩
  · rw [tksL_length] at h; omega
  · rw [pbsL_length] at h; omega
  · have h1 : x < (toksI src).length := by omega
    obtain ⟨f1, f2, f3, f4⟩ := tok_facts h1
    have fn := tok_next h1
    obtain ⟨k0, _, k2⟩ := tk_at agg3 size3 h1
    have hsm := (toks_small (bs := src) (by omega)).2 _ (List.getElem_mem h1)
    have w1 : IntKind.i64.wrap ((toksI src)[x].at_ + (srcT (toksI src)[x]).length) = (toksI src)[x].at_ + (srcT (toksI src)[x]).length := wrap64_in (by omega) (by omega)
    have w2 : IntKind.i64.wrap ((src.length : Int) - (srcT (toksI src)[x]).length) = (src.length : Int) - (srcT (toksI src)[x]).length := wrap64_in (by omega) (by omega)
    have fin : ((0 : Int) ≤ x ∧ (x : Int) < (toksI src).length) ∧ ∃ n, takeAt PP 3 (tksL (toksI src)) x 2 = some (.int .i64 n) ∧ ∃ y : Nat, (IntKind.i64.wrap (n + (srcT (toksI src)[x]).length) = endAt (toksI src) y ∧ IntKind.i64.wrap ((x : Int) + 1) = y) ∧ y ≤ (toksI src).length ∧ (toksI src).length - y < (toksI src).length - x :=
      ⟨by omega, _, k2, x + 1, ⟨by rw [w1, endAt_succ h1], by rw [wrap64_in (by omega) (by omega)]; rfl⟩, by omega, by omega⟩
    have wl : IntKind.i64.wrap (((toksI src).length : Int) - 1) = ((toksI src).length : Int) - 1 := wrap64_in (by omega) (by omega)
    refine ⟨by omega, _, _, _, tok38 agg38 size38 h1, srcT (toksI src)[x], ?_, by omega, _, k2, fun h => by omega, fun _ => ⟨by omega, _, k2, fun h => ?_, fun _ => ⟨by omega, _, k2, by omega, _, k2, f1, ?_, ?_, _, sub _ _, ?_⟩⟩⟩
    · exact s23_ok (t := (toksI src)[x]) (by omega)
    · rw [w2] at h; omega
    · rw [w1]; omega
    · rw [w1]; omega
    · have e : (src.take (IntKind.i64.wrap ((toksI src)[x].at_ + (srcT (toksI src)[x]).length)).toNat).drop (toksI src)[x].at_.toNat = srcT (toksI src)[x] := by
        rw [w1, show ((toksI src)[x].at_ + (srcT (toksI src)[x]).length : Int).toNat = (toksI src)[x].at_.toNat + (srcT (toksI src)[x]).length by omega, take_drop']
        exact f3
      rw [e]
      refine ⟨fun h => by simp at h, fun _ => ⟨by omega, _, k0, fun h6 => ⟨fun _ => fin, fun hn => ?_⟩, fun h6 => ⟨fun hn => ?_, fun _ => fin⟩⟩⟩
      · have := f4.1 h6
        rw [wl] at hn; omega
      · refine absurd (f4.2 ?_) h6
        rw [wl] at hn; omega
  · have h1 : x < (probsI src).length := by omega
    obtain ⟨f1, f2, f3⟩ := pb_facts h1
    obtain ⟨k0, _⟩ := pb_fld agg3 size3 h1
    refine ⟨by omega, _, k0, fun h => by omega, fun _ => ⟨by omega, _, k0, fun h => by omega, fun _ => ⟨fun hp => ?_, fun _ => code x h1⟩⟩⟩
    have w1 : IntKind.i64.wrap ((x : Int) - 1) = ((x - 1 : Nat) : Int) := by rw [wrap64_in (by omega) (by omega)]; omega
    have h2 : x - 1 < (probsI src).length := by omega
    refine ⟨by omega, _, k0, by rw [w1]; omega, _, by rw [w1, Int.toNat_natCast]; exact (pb_fld agg3 size3 h2).1, fun h => ?_, fun _ => code x h1⟩
    have := pb_next (src := src) (i := x - 1) (j := x) (by omega) h1
    omega
  · have w1 : IntKind.i64.wrap (((toksI src).length : Int) - 1) = (((toksI src).length - 1 : Nat) : Int) := by rw [wrap64_in (by omega) (by omega)]; omega
    have h2 : (toksI src).length - 1 < (toksI src).length := by omega
    have e : (toksI src)[(toksI src).length - 1] = ⟨6, [], src.length⟩ := by
      have : (toksI src)[(toksI src).length - 1]? = some ⟨6, [], src.length⟩ := by
        rw [← List.getLast?_eq_getElem?, toksI_eq, List.getLast?_concat]
      rw [List.getElem?_eq_getElem h2] at this
      exact Option.some.inj this
    have k2 := (tk_at agg3 size3 h2).2.2
    have k1 := (tk_at agg9 size9 h2).2.1
    rw [e] at k1 k2
    rw [w1, Int.toNat_natCast]
    exact ⟨by omega, _, k2, fun _ => ⟨by omega, _, k1, fun _ => trivial, fun h => absurd rfl h⟩, fun h => absurd rfl h⟩
def s6 : Spec := fun args => match args with
  | [.sl sz es .no] => if sz = 1 then onBytes es fun _ => some (.bool true, []) else none
  | _ => none
theorem o6 (m : Int) : SpecOk PP (G8 m) 6 s6 := spec_of (X := XJ) (m := []) mixed8 (tbl_cons (o11 m) (tbl_cons (o12' m) (tbl_cons (o23 m) tbl_nil))) itbl_nil fun args r h => by
  unfold s6 at h
  split at h
  · split at h
    · rename_i hsz
      subst hsz
      unfold onBytes at h
      split at h
      · rename_i bs hb
        obtain rfl := unBytes_some hb
        injection h with h; subst h; exact ⟨_, p6 m bs⟩
      · cases h
    · cases h
  · cases h
theorem s6_true (l : List UInt8) : s6 [bytesA l] = some (.bool true, []) := by simp only [s6, if_true, onBytes, unBytes_mk]
end Go.Abs

namespace Go.Abs
open Go.Proofs L8
theorem w8 (m : Int) (a b : List UInt8) (s11 : Spec) : (pureW PP (G8 m) XJ (tbl [(11, s11), (12, s12), (14, s14), (15, s15)]) (itbl []) (a8 a b) [] 8 [bytesA a, bytesA b] (.bool true, [])) =
(∃ (b_1 : Bool),
  CallIs (tbl [(nat_lit 11, s11), (nat_lit 12, s12), (nat_lit 14, s14), (nat_lit 15, s15)] (nat_lit 11) []) (AV.bool b_1) [] ∧
    (b_1 = true →
        (decide ((↑(bytesL a).length : Int) > (2000 : Int)) = true → RetIs (AV.bool true) [] (AV.bool true, [])) ∧
 (decide ((↑(bytesL a).length : Int) > (2000 : Int)) = false →
 (decide ((↑(bytesL b).length : Int) > (2000 : Int)) = true → RetIs (AV.bool true) [] (AV.bool true, [])) ∧
 (decide ((↑(bytesL b).length : Int) > (2000 : Int)) = false →
 ((nat_lit 1 = nat_lit 1 ∨ ([] : List AV) = []) ∧
 ((0 : Nat) + (bytesL a).length) * nat_lit 2 ≤ nat_lit 70368744177664 ∧
 (bytesL a = [] →
 (nat_lit 1 = nat_lit 1 ∨ ([] : List AV) = []) ∧
 ((0 : Nat) + (1 : Nat)) * nat_lit 2 ≤ nat_lit 70368744177664 ∧
 (nat_lit 1 = nat_lit 1 ∨ [AV.int IntKind.u8 (10 : Int)] = []) ∧
 ((1 : Nat) + (bytesL b).length) * nat_lit 2 ≤ nat_lit 70368744177664 ∧
 (0 : Nat) + (1 : Nat) = (1 : Nat) ∧
 ∃ (_y : Unit),
 ValsAre
 [AV.sl (nat_lit 1) (bytesL a) Own.no, AV.sl (nat_lit 1) (bytesL b) Own.no,
 AV.sl (nat_lit 1) ([AV.int IntKind.u8 (10 : Int)] ++ bytesL b) Own.no]
 [AV.sl (nat_lit 1) (bytesL a) Own.no, AV.sl (nat_lit 1) (bytesL b) Own.no,
 AV.sl (nat_lit 1) (bytesL (a ++ (10 : UInt8) :: b)) Own.no] ∧
 StIs { boxes := [], live := [] } { boxes := [], live := [] } ∧ True ∧ True) ∧
 (bytesL a ≠ [] →
 (nat_lit 1 = nat_lit 1 ∨ [] ++ bytesL a = []) ∧
 (([] ++ bytesL a).length + (1 : Nat)) * nat_lit 2 ≤ nat_lit 70368744177664 ∧
 (0 : Nat) + (bytesL a).length = ([] ++ bytesL a).length ∧
 (nat_lit 1 = nat_lit 1 ∨ [] ++ bytesL a ++ [AV.int IntKind.u8 (10 : Int)] = []) ∧
 (([] ++ bytesL a ++ [AV.int IntKind.u8 (10 : Int)]).length + (bytesL b).length) * nat_lit 2 ≤ nat_lit 70368744177664 ∧
 ([] ++ bytesL a).length + (1 : Nat) = ([] ++ bytesL a ++ [AV.int IntKind.u8 (10 : Int)]).length ∧
 ∃ (_y : Unit),
 ValsAre
 [AV.sl (nat_lit 1) (bytesL a) Own.no, AV.sl (nat_lit 1) (bytesL b) Own.no,
 AV.sl (nat_lit 1) ([] ++ bytesL a ++ [AV.int IntKind.u8 (10 : Int)] ++ bytesL b) Own.no]
 [AV.sl (nat_lit 1) (bytesL a) Own.no, AV.sl (nat_lit 1) (bytesL b) Own.no,
 AV.sl (nat_lit 1) (bytesL (a ++ (10 : UInt8) :: b)) Own.no] ∧
 StIs { boxes := [], live := [] } { boxes := [], live := [] } ∧ True ∧ True)) ∧
 ∀ (_x : Unit),
 True →
 True →
 ∃ (es : List AV),
 ∃ (es_1 : List AV),
 ∃ (n : Int),
 CallIs
 (tbl [(nat_lit 11, s11), (nat_lit 12, s12), (nat_lit 14, s14), (nat_lit 15, s15)] (nat_lit 12)
 [AV.sl (nat_lit 1) (bytesL a) Own.no])
 (AV.tup [AV.sl (nat_lit 3) es Own.no, AV.sl (nat_lit 2) es_1 Own.no, AV.int IntKind.i64 n]) [] ∧
 ∃ (es_2 : List AV),
 ∃ (es_3 : List AV),
 ∃ (n_1 : Int),
 CallIs
 (tbl [(nat_lit 11, s11), (nat_lit 12, s12), (nat_lit 14, s14), (nat_lit 15, s15)] (nat_lit 12)
 [AV.sl (nat_lit 1) (bytesL b) Own.no])
 (AV.tup [AV.sl (nat_lit 3) es_2 Own.no, AV.sl (nat_lit 2) es_3 Own.no, AV.int IntKind.i64 n_1]) [] ∧
 ∃ (es_4 : List AV),
 ∃ (es_5 : List AV),
 ∃ (n_2 : Int),
 CallIs
 (tbl [(nat_lit 11, s11), (nat_lit 12, s12), (nat_lit 14, s14), (nat_lit 15, s15)] (nat_lit 12)
 [AV.sl (nat_lit 1) (bytesL (a ++ (10 : UInt8) :: b)) Own.no])
 (AV.tup [AV.sl (nat_lit 3) es_4 Own.no, AV.sl (nat_lit 2) es_5 Own.no, AV.int IntKind.i64 n_2]) [] ∧
 ((n != (0 : Int)) = true → RetIs (AV.bool false) [] (AV.bool true, [])) ∧
 ((n != (0 : Int)) = false →
 ((n_1 != (0 : Int)) = true → RetIs (AV.bool false) [] (AV.bool true, [])) ∧
 ((n_1 != (0 : Int)) = false →
 ((n_2 != (0 : Int)) = true → RetIs (AV.bool false) [] (AV.bool true, [])) ∧
 ((n_2 != (0 : Int)) = false →
 (((↑es.length : Int) == (0 : Int)) = true → RetIs (AV.bool false) [] (AV.bool true, [])) ∧
 (((↑es.length : Int) == (0 : Int)) = false →
 (((↑es_4.length : Int) !=
 IntKind.i64.wrap
 (IntKind.i64.wrap ((↑es.length : Int) - (1 : Int)) + (↑es_2.length : Int))) =
 true →
 RetIs (AV.bool false) [] (AV.bool true, [])) ∧
 (((↑es_4.length : Int) !=
 IntKind.i64.wrap
 (IntKind.i64.wrap ((↑es.length : Int) - (1 : Int)) + (↑es_2.length : Int))) =
 false →
 ((∃ (y : Nat),
 ValsAre
 [AV.sl (nat_lit 1) (bytesL a) Own.no, AV.sl (nat_lit 3) es Own.no,
 AV.sl (nat_lit 2) es_1 Own.no, AV.sl (nat_lit 3) es_2 Own.no,
 AV.sl (nat_lit 2) es_3 Own.no, AV.sl (nat_lit 3) es_4 Own.no,
 AV.sl (nat_lit 2) es_5 Own.no, AV.int IntKind.i64 (0 : Int)]
 [AV.sl (nat_lit 1) (bytesL a) Own.no, AV.sl (nat_lit 3) (tksL (toksI a)) Own.no,
 AV.sl (nat_lit 2)
 (pbsL
 (probsI a ++ List.map (shiftP (↑a.length : Int)) (List.take y (probsI b))))
 Own.no,
 AV.sl (nat_lit 3) (tksL (toksI b)) Own.no,
 AV.sl (nat_lit 2) (pbsL (probsI b)) Own.no,
 AV.sl (nat_lit 3) (tksL (toksI (a ++ (10 : UInt8) :: b))) Own.no,
 AV.sl (nat_lit 2) (pbsL (probsI (a ++ (10 : UInt8) :: b))) Own.no,
 AV.int IntKind.i64 (↑y : Int)] ∧
 StIs { boxes := [], live := [] } { boxes := [], live := [] } ∧
 y ≤ (probsI b).length ∧ True) ∧
 ∀ (x : Nat),
 x ≤ (probsI b).length →
 (decide ((↑x : Int) < (↑(pbsL (probsI b)).length : Int)) = true →
 (nat_lit 2 = nat_lit 2 ∨ ([] : List AV) = []) ∧
 ((0 : Nat) +
 (pbsL
 (probsI a ++
 List.map (shiftP (↑a.length : Int))
 (List.take x (probsI b)))).length) *
 nat_lit 17 ≤
 nat_lit 70368744177664 ∧
 (pbsL
 (probsI a ++
 List.map (shiftP (↑a.length : Int)) (List.take x (probsI b))) =
 [] →
 ((0 : Int) ≤ (↑x : Int) ∧
 (↑x : Int) < (↑(pbsL (probsI b)).length : Int)) ∧
 ∃ (n : Int),
 takeAt PP (nat_lit 3) (pbsL (probsI b)) (↑x : Int).toNat
 (nat_lit 0) =
 some (AV.int IntKind.i64 n) ∧
 ((0 : Int) ≤ (↑x : Int) ∧
 (↑x : Int) < (↑(pbsL (probsI b)).length : Int)) ∧
 ∃ (n_3 : Int),
 takeAt PP (nat_lit 26) (pbsL (probsI b)) (↑x : Int).toNat
 (nat_lit 1) =
 some (AV.int IntKind.i64 n_3) ∧
 (nat_lit 2 = nat_lit 2 ∨ ([] : List AV) = []) ∧
 ((0 : Nat) + (1 : Nat)) * nat_lit 17 ≤
 nat_lit 70368744177664 ∧
 ∃ (y : Nat),
 ValsAre
 [AV.sl (nat_lit 1) (bytesL a) Own.no,
 AV.sl (nat_lit 3) (tksL (toksI a)) Own.no,
 AV.sl (nat_lit 2)
 [AV.agg
 [AV.int IntKind.i64
 (IntKind.i64.wrap
 (IntKind.i64.wrap
 (n +
 (↑(bytesL a).length : Int)) +
 (1 : Int))),
 AV.int IntKind.i64 n_3]]
 Own.no,
 AV.sl (nat_lit 3) (tksL (toksI b)) Own.no,
 AV.sl (nat_lit 2) (pbsL (probsI b)) Own.no,
 AV.sl (nat_lit 3)
 (tksL (toksI (a ++ (10 : UInt8) :: b)))
 Own.no,
 AV.sl (nat_lit 2)
 (pbsL (probsI (a ++ (10 : UInt8) :: b)))
 Own.no,
 AV.int IntKind.i64
 (IntKind.i64.wrap ((↑x : Int) + (1 : Int)))]
 [AV.sl (nat_lit 1) (bytesL a) Own.no,
 AV.sl (nat_lit 3) (tksL (toksI a)) Own.no,
 AV.sl (nat_lit 2)
 (pbsL
 (probsI a ++
 List.map (shiftP (↑a.length : Int))
 (List.take y (probsI b))))
 Own.no,
 AV.sl (nat_lit 3) (tksL (toksI b)) Own.no,
 AV.sl (nat_lit 2) (pbsL (probsI b)) Own.no,
 AV.sl (nat_lit 3)
 (tksL (toksI (a ++ (10 : UInt8) :: b)))
 Own.no,
 AV.sl (nat_lit 2)
 (pbsL (probsI (a ++ (10 : UInt8) :: b)))
 Own.no,
 AV.int IntKind.i64 (↑y : Int)] ∧
 StIs { boxes := [], live := [] }
 { boxes := [], live := [] } ∧
 y ≤ (probsI b).length ∧
 (probsI b).length - y < (probsI b).length - x) ∧
 (pbsL
 (probsI a ++
 List.map (shiftP (↑a.length : Int)) (List.take x (probsI b))) ≠
 [] →
 ((0 : Int) ≤ (↑x : Int) ∧
 (↑x : Int) < (↑(pbsL (probsI b)).length : Int)) ∧
 ∃ (n : Int),
 takeAt PP (nat_lit 3) (pbsL (probsI b)) (↑x : Int).toNat
 (nat_lit 0) =
 some (AV.int IntKind.i64 n) ∧
 ((0 : Int) ≤ (↑x : Int) ∧
 (↑x : Int) < (↑(pbsL (probsI b)).length : Int)) ∧
 ∃ (n_3 : Int),
 takeAt PP (nat_lit 26) (pbsL (probsI b)) (↑x : Int).toNat
 (nat_lit 1) =
 some (AV.int IntKind.i64 n_3) ∧
 (nat_lit 2 = nat_lit 2 ∨
 [] ++
 pbsL
 (probsI a ++
 List.map (shiftP (↑a.length : Int))
 (List.take x (probsI b))) =
 []) ∧
 (([] ++
 pbsL
 (probsI a ++
 List.map (shiftP (↑a.length : Int))
 (List.take x (probsI b)))).length +
 (1 : Nat)) *
 nat_lit 17 ≤
 nat_lit 70368744177664 ∧
 (0 : Nat) +
 (pbsL
 (probsI a ++
 List.map (shiftP (↑a.length : Int))
 (List.take x (probsI b)))).length =
 ([] ++
 pbsL
 (probsI a ++
 List.map (shiftP (↑a.length : Int))
 (List.take x (probsI b)))).length ∧
 ∃ (y : Nat),
 ValsAre
 [AV.sl (nat_lit 1) (bytesL a) Own.no,
 AV.sl (nat_lit 3) (tksL (toksI a)) Own.no,
 AV.sl (nat_lit 2)
 ([] ++
 pbsL
 (probsI a ++
 List.map (shiftP (↑a.length : Int))
 (List.take x (probsI b))) ++
 [AV.agg
 [AV.int IntKind.i64
 (IntKind.i64.wrap
 (IntKind.i64.wrap
 (n +
 (↑(bytesL a).length :
 Int)) +
 (1 : Int))),
 AV.int IntKind.i64 n_3]])
 Own.no,
 AV.sl (nat_lit 3) (tksL (toksI b)) Own.no,
 AV.sl (nat_lit 2) (pbsL (probsI b)) Own.no,
 AV.sl (nat_lit 3)
 (tksL (toksI (a ++ (10 : UInt8) :: b)))
 Own.no,
 AV.sl (nat_lit 2)
 (pbsL (probsI (a ++ (10 : UInt8) :: b)))
 Own.no,
 AV.int IntKind.i64
 (IntKind.i64.wrap ((↑x : Int) + (1 : Int)))]
 [AV.sl (nat_lit 1) (bytesL a) Own.no,
 AV.sl (nat_lit 3) (tksL (toksI a)) Own.no,
 AV.sl (nat_lit 2)
 (pbsL
 (probsI a ++
 List.map (shiftP (↑a.length : Int))
 (List.take y (probsI b))))
 Own.no,
 AV.sl (nat_lit 3) (tksL (toksI b)) Own.no,
 AV.sl (nat_lit 2) (pbsL (probsI b)) Own.no,
 AV.sl (nat_lit 3)
 (tksL (toksI (a ++ (10 : UInt8) :: b)))
 Own.no,
 AV.sl (nat_lit 2)
 (pbsL (probsI (a ++ (10 : UInt8) :: b)))
 Own.no,
 AV.int IntKind.i64 (↑y : Int)] ∧
 StIs { boxes := [], live := [] }
 { boxes := [], live := [] } ∧
 y ≤ (probsI b).length ∧
 (probsI b).length - y <
 (probsI b).length - x)) ∧
 (decide ((↑x : Int) < (↑(pbsL (probsI b)).length : Int)) = false →
 ∃ (_y : Unit),
 ValsAre
 [AV.sl (nat_lit 1) (bytesL a) Own.no,
 AV.sl (nat_lit 3) (tksL (toksI a)) Own.no,
 AV.sl (nat_lit 2)
 (pbsL
 (probsI a ++
 List.map (shiftP (↑a.length : Int)) (List.take x (probsI b))))
 Own.no,
 AV.sl (nat_lit 3) (tksL (toksI b)) Own.no,
 AV.sl (nat_lit 3) (tksL (toksI (a ++ (10 : UInt8) :: b))) Own.no,
 AV.sl (nat_lit 2) (pbsL (probsI (a ++ (10 : UInt8) :: b))) Own.no]
 [AV.sl (nat_lit 1) (bytesL a) Own.no,
 AV.sl (nat_lit 3) (tksL (toksI a)) Own.no,
 AV.sl (nat_lit 2)
 (pbsL (probsI a ++ List.map (shiftP (↑a.length : Int)) (probsI b)))
 Own.no,
 AV.sl (nat_lit 3) (tksL (toksI b)) Own.no,
 AV.sl (nat_lit 3) (tksL (toksI (a ++ (10 : UInt8) :: b))) Own.no,
 AV.sl (nat_lit 2) (pbsL (probsI (a ++ (10 : UInt8) :: b))) Own.no] ∧
 StIs { boxes := [], live := [] } { boxes := [], live := [] } ∧
 True ∧ True)) ∧
 ∀ (_x : Unit),
 True →
 True →
 (0 : Int) ≤ IntKind.i64.wrap ((↑(tksL (toksI a)).length : Int) - (1 : Int)) ∧
 (nat_lit 0 ≤
 (IntKind.i64.wrap ((↑(tksL (toksI a)).length : Int) - (1 : Int))).toNat ∧
 (IntKind.i64.wrap ((↑(tksL (toksI a)).length : Int) - (1 : Int))).toNat ≤
 (tksL (toksI a)).length) ∧
 (nat_lit 3 = nat_lit 3 ∨ tksL (toksI a) = []) ∧
 (0 : Int) ≤ IntKind.i64.wrap ((↑(tksL (toksI a)).length : Int) - (1 : Int)) ∧
 (nat_lit 0 ≤
 (IntKind.i64.wrap
 ((↑(tksL (toksI a)).length : Int) - (1 : Int))).toNat ∧
 (IntKind.i64.wrap
 ((↑(tksL (toksI a)).length : Int) - (1 : Int))).toNat ≤
 (tksL (toksI (a ++ (10 : UInt8) :: b))).length) ∧
 (nat_lit 3 = nat_lit 3 ∨ tksL (toksI (a ++ (10 : UInt8) :: b)) = []) ∧
 ∃ (b_2 : Bool),
 CallIs
 (tbl
 [(nat_lit 11, s11), (nat_lit 12, s12), (nat_lit 14, s14),
 (nat_lit 15, s15)]
 (nat_lit 14)
 [AV.sl (nat_lit 3)
 (List.drop (nat_lit 0)
 (List.take
 (IntKind.i64.wrap
 ((↑(tksL (toksI a)).length : Int) -
 (1 : Int))).toNat
 (tksL (toksI a))))
 Own.no,
 AV.sl (nat_lit 3)
 (List.drop (nat_lit 0)
 (List.take
 (IntKind.i64.wrap
 ((↑(tksL (toksI a)).length : Int) -
 (1 : Int))).toNat
 (tksL (toksI (a ++ (10 : UInt8) :: b)))))
 Own.no,
 AV.bool true, AV.int IntKind.i64 (0 : Int)])
 (AV.bool b_2) [] ∧
 (b_2 = true →
 (0 : Int) ≤
 IntKind.i64.wrap
 ((↑(tksL (toksI a)).length : Int) - (1 : Int)) ∧
 ((IntKind.i64.wrap
 ((↑(tksL (toksI a)).length : Int) -
 (1 : Int))).toNat ≤
 (tksL (toksI (a ++ (10 : UInt8) :: b))).length ∧
 (tksL (toksI (a ++ (10 : UInt8) :: b))).length ≤
 (tksL (toksI (a ++ (10 : UInt8) :: b))).length) ∧
 (nat_lit 3 = nat_lit 3 ∨
 tksL (toksI (a ++ (10 : UInt8) :: b)) = []) ∧
 ∃ (b_3 : Bool),
 CallIs
 (tbl
 [(nat_lit 11, s11), (nat_lit 12, s12),
 (nat_lit 14, s14), (nat_lit 15, s15)]
 (nat_lit 14)
 [AV.sl (nat_lit 3) (tksL (toksI b)) Own.no,
 AV.sl (nat_lit 3)
 (List.drop
 (IntKind.i64.wrap
 ((↑(tksL (toksI a)).length : Int) -
 (1 : Int))).toNat
 (List.take
 (tksL
 (toksI
 (a ++ (10 : UInt8) :: b))).length
 (tksL (toksI (a ++ (10 : UInt8) :: b)))))
 Own.no,
 AV.bool true,
 AV.int IntKind.i64
 (IntKind.i64.wrap
 ((↑(bytesL a).length : Int) + (1 : Int)))])
 (AV.bool b_3) [] ∧
 (b_3 = true →
 (0 : Int) ≤
 min
 (↑(pbsL
 (probsI a ++
 List.map
 (shiftP (↑a.length : Int))
 (probsI b))).length :
 Int)
 (32 : Int) ∧
 (nat_lit 0 ≤
 (min
 (↑(pbsL
 (probsI a ++
 List.map
 (shiftP (↑a.length : Int))
 (probsI b))).length :
 Int)
 (32 : Int)).toNat ∧
 (min
 (↑(pbsL
 (probsI a ++
 List.map
 (shiftP (↑a.length : Int))
 (probsI b))).length :
 Int)
 (32 : Int)).toNat ≤
 (pbsL
 (probsI a ++
 List.map (shiftP (↑a.length : Int))
 (probsI b))).length) ∧
 (nat_lit 2 = nat_lit 2 ∨
 pbsL
 (probsI a ++
 List.map (shiftP (↑a.length : Int))
 (probsI b)) =
 []) ∧
 ∃ (b_4 : Bool),
 CallIs
 (tbl
 [(nat_lit 11, s11),
 (nat_lit 12, s12),
 (nat_lit 14, s14),
 (nat_lit 15, s15)]
 (nat_lit 15)
 [AV.sl (nat_lit 2)
 (pbsL
 (probsI
 (a ++ (10 : UInt8) :: b)))
 Own.no,
 AV.sl (nat_lit 2)
 (List.drop (nat_lit 0)
 (List.take
 (min
 (↑(pbsL
 (probsI a ++
 List.map
 (shiftP
 (↑a.length :
 Int))
 (probsI
 b))).length :
 Int)
 (32 : Int)).toNat
 (pbsL
 (probsI a ++
 List.map
 (shiftP
 (↑a.length : Int))
 (probsI b)))))
 Own.no])
 (AV.bool b_4) [] ∧
 (b_4 = true →
 RetIs (AV.bool true) []
 (AV.bool true, [])) ∧
 (b_4 = false →
 RetIs (AV.bool false) []
 (AV.bool true, []))) ∧
 (b_3 = false →
 RetIs (AV.bool false) [] (AV.bool true, []))) ∧
 (b_2 = false →
 RetIs (AV.bool false) [] (AV.bool true, [])))))))))) ∧
      (b_1 = false → RetIs (AV.bool false) [] (AV.bool true, []))) := by kernel_rfl
end Go.Abs

namespace Go.Abs
open Go.Proofs L8
theorem scan_line (b : List UInt8) (l : List UInt8) (a : Nat) (adj : Bool) : scan (l ++ 10 :: b) a adj = ((scan l a adj).1 ++ (scan b (a + l.length + 1) false).1, (scan l a adj).2 ++ (scan b (a + l.length + 1) false).2) := by
  refine scan_ind (P := fun l a adj => scan (l ++ 10 :: b) a adj = ((scan l a adj).1 ++ (scan b (a + l.length + 1) false).1, (scan l a adj).2 ++ (scan b (a + l.length + 1) false).2)) (fun a adj => ?_) (fun l a adj hne ih => ?_) l a adj
  · rw [List.nil_append, scan_blank (by rfl), scan_nil]
    rfl
  · have hp := piece_line hne b
    have hle := piece_le l
    have htx : txtOf (l ++ 10 :: b) = txtOf l := by simp only [txtOf, hp, take_app hle]
    have e1 : tkOf (l ++ 10 :: b) a = tkOf l a := by simp only [tkOf, hp, htx]
    have e2 : pbOf (l ++ 10 :: b) a adj = pbOf l a adj := by simp only [pbOf, hp]
    have e3 : adjOf (l ++ 10 :: b) = adjOf l := by simp only [adjOf, hp]
    rw [scan_step (by simp), e1, e2, e3, hp, drop_app hle, ih, scan_step hne]
    have el : a + (piece l).2.1 + (l.drop (piece l).2.1).length + 1 = a + l.length + 1 := by rw [List.length_drop]; omega
    rw [el]
    simp only [List.append_assoc]
theorem scan_shift (k : Nat) (l : List UInt8) (a : Nat) (adj : Bool) : scan l (a + k) adj = ((scan l a adj).1.map fun t => ⟨t.kind, t.text, t.at_ + k⟩, (scan l a adj).2.map fun p => ⟨p.at_ + k, p.code⟩) := by
  refine scan_ind (P := fun l a adj => scan l (a + k) adj = ((scan l a adj).1.map fun t => ⟨t.kind, t.text, t.at_ + k⟩, (scan l a adj).2.map fun p => ⟨p.at_ + k, p.code⟩)) (fun a adj => rfl) (fun l a adj hne ih => ?_) l a adj
  have e1 : tkOf l (a + k) = (tkOf l a).map fun t => ⟨t.kind, t.text, t.at_ + k⟩ := by unfold tkOf; split <;> rfl
  have e2 : pbOf l (a + k) adj = (pbOf l a adj).map fun p => ⟨p.at_ + k, p.code⟩ := by
    unfold pbOf
    split
    · split <;> rfl
    · split <;> rfl
  rw [scan_step hne, scan_step hne, e1, e2, show a + k + (piece l).2.1 = a + (piece l).2.1 + k by omega, ih, List.map_append, List.map_append]
theorem toks_line (a b : List UInt8) : toksI (a ++ 10 :: b) = (toksI a).dropLast ++ (toksI b).map fun t => ⟨t.kind, t.text, t.at_ + (a.length + 1)⟩ := by
  rw [toksI_eq, toksI_eq, toksI_eq, List.dropLast_concat, scan_line, show 0 + a.length + 1 = 0 + (a.length + 1) by omega, scan_shift]
  simp only [List.map_append, List.map_map, List.map_cons, List.map_nil, List.append_assoc, List.append_cancel_left_eq, List.append_cancel_left_eq]
  congr 1
  simp only [List.length_append, List.length_cons, List.cons.injEq, TI.mk.injEq, and_true, true_and]
  omega
theorem probs_line (a b : List UInt8) (hb : b.length ≤ 1000000) (ha : a.length ≤ 1000000) : probsI (a ++ 10 :: b) = (probsI a ++ (probsI b).map (shiftP a.length)).take 32 := by
  rw [probsI_eq, probsI_eq, probsI_eq, scan_line, show 0 + a.length + 1 = 0 + (a.length + 1) by omega, scan_shift]
  have e : ((List.take 32 (scan b 0 false).2).map toPI).map (shiftP a.length) = (List.take 32 ((scan b 0 false).2.map fun p => (⟨p.at_ + (a.length + 1), p.code⟩ : Pb))).map toPI := by
    rw [← List.map_take, List.map_map, List.map_map]
    refine List.map_congr_left fun p hp => ?_
    obtain ⟨k, h1, h2, _⟩ := pb_place b 0 false p (List.mem_of_mem_take hp)
    show (⟨IntKind.i64.wrap (IntKind.i64.wrap ((p.at_ : Int) + a.length) + 1), p.code⟩ : PI) = ⟨((p.at_ + (a.length + 1) : Nat) : Int), p.code⟩
    rw [wrap64_in (n := (p.at_ : Int) + a.length) (by omega) (by omega), wrap64_in (by omega) (by omega)]
    congr 1
  rw [e, ← List.map_append, ← List.map_take]
  congr 1
  generalize (scan a 0 false).2 = x
  generalize List.map _ (scan b 0 false).2 = y
  rw [List.take_append, List.take_append, List.take_take, List.take_take, List.length_take]
  rw [Nat.min_self]
  by_cases h : x.length ≤ 32
  · congr 2; omega
  · rw [show 32 - x.length = 0 by omega, show min (32 - min 32 x.length) 32 = 0 by omega]
theorem same_line {k : Nat} : ∀ {l : List TI}, (∀ t ∈ l, 0 ≤ t.at_ ∧ t.at_ ≤ 1000000) → k ≤ 1000000 → all2B (sameT true k) l (l.map fun t => ⟨t.kind, t.text, t.at_ + k⟩) = true
  | [], _, _ => rfl
  | t :: l, h, hk => by
    have ih := same_line (l := l) (fun t ht => h t (List.mem_cons_of_mem _ ht)) hk
    obtain ⟨h1, h2⟩ := h t List.mem_cons_self
    simp only [List.map_cons, all2B, ih, Bool.and_true, sameT]
    rw [wrap64_in (by omega) (by omega)]
    simp
theorem same_self {l : List TI} (h : ∀ t ∈ l, 0 ≤ t.at_ ∧ t.at_ ≤ 1000000) : all2B (sameT true 0) l l = true := all2B_refl fun t ht => by
  obtain ⟨h1, h2⟩ := h t ht
  simp only [sameT]
  rw [wrap64_in (by omega) (by omega)]
  simp
theorem len3 {α β : Type} (x : List α) (f : β → α) (y : List β) (k : Nat) : (x ++ List.map f (List.take k y)).length = x.length + min k y.length := by simp
theorem p8 (m : Int) (a b : List UInt8) : PureOk PP (G8 m) XJ (tbl [(11, s11), (12, s12), (14, s14), (15, s15)]) (itbl []) (a8 a b) [] 8 [bytesA a, bytesA b] (.bool true, []) := by
  constructor
  rw [w8]
  have t11 : tbl [(11, s11), (12, s12), (14, s14), (15, s15)] 11 [] = some (.bool true, []) := rfl
  have t12 : ∀ x, tbl [(11, s11), (12, s12), (14, s14), (15, s15)] 12 x = s12 x := fun _ => rfl
  have t14 : ∀ x, tbl [(11, s11), (12, s12), (14, s14), (15, s15)] 14 x = s14 x := fun _ => rfl
  have t15 : ∀ x, tbl [(11, s11), (12, s12), (14, s14), (15, s15)] 15 x = s15 x := fun _ => rfl
  rw [t11]
  simp only [t12, t14, t15, callIs_iff, valsAre_iff, stIs_iff, retIs_iff, tksL_length, pbsL_length, bytesL_length, Option.some.injEq, Prod.mk.injEq, AV.int.injEq, AV.bool.injEq, AV.sl.injEq, List.cons.injEq, and_true, true_and, and_self, true_or, decide_eq_true_eq, decide_eq_false_iff_not, bne_iff_ne, bne_eq_false_iff_eq, beq_iff_eq, beq_eq_false_iff_ne, ne_eq, Int.toNat_natCast, gt_iff_lt, true_implies]
  refine ⟨true, rfl, fun _ => ⟨fun _ => trivial, fun hs => ?_⟩, fun h => nomatch h⟩
  refine ⟨fun _ => trivial, fun hsb => ?_⟩
  have hA := toksI_len a
  have hB := toksI_len b
  have hA0 : 1 ≤ (toksI a).length := by rw [toksI_eq]; simp
  have hl := toks_line a b
  have hp := probs_line a b (by omega) (by omega)
  have hpa := probsI_len a
  have hpb := probsI_len b
  have hL : (toksI (a ++ 10 :: b)).length = (toksI a).length - 1 + (toksI b).length := by rw [hl, List.length_append, List.length_map, List.length_dropLast]
  have w1 : IntKind.i64.wrap (((toksI a).length : Int) - 1) = (((toksI a).length - 1 : Nat) : Int) := by rw [wrap64_in (by omega) (by omega)]; omega
  have bl : ∀ x y : List UInt8, bytesL x ++ bytesL y = bytesL (x ++ y) := fun x y => (List.map_append ..).symm
  refine ⟨⟨by omega, fun h0 => ?_, fun h0 => ?_⟩, fun _ => ⟨_, _, _, s12_ok (by omega), _, _, _, s12_ok (by omega), _, _, _, s12_ok (by rw [List.length_append, List.length_cons]; omega), fun h => absurd rfl h, fun _ => ⟨fun h => absurd rfl h, fun _ => ⟨fun h => absurd rfl h, fun _ => ⟨fun h => ?_, fun _ => ⟨fun h => ?_, fun _ => ⟨⟨⟨0, ⟨rfl, ?_, rfl, rfl, rfl, rfl, rfl⟩, Nat.zero_le _⟩, fun x hx => ⟨fun hlt => ?_, fun hge => ⟨(), ?_⟩⟩⟩, fun _ => ?_⟩⟩⟩⟩⟩⟩⟩
  · have : a = [] := by simpa [bytesL] using h0
    subst this
    exact ⟨by omega, by omega, (), rfl⟩
  · refine ⟨?_, ?_, ?_, ?_, (), ?_⟩
    · simp only [List.nil_append, bytesL_length]; omega
    · simp only [List.nil_append, bytesL_length]; omega
    · simp only [List.nil_append, List.length_append, bytesL_length, List.length_cons, List.length_nil]; omega
    · simp only [List.nil_append, List.length_append, bytesL_length, List.length_cons, List.length_nil]
    · rw [List.nil_append, show [AV.int IntKind.u8 10] = bytesL [10] from rfl, bl, bl]
      congr 1
      simp
  · rw [tksL_length] at h; omega
  · rw [tksL_length, tksL_length, tksL_length, w1, hL] at h
    rw [wrap64_in (by omega) (by omega)] at h
    omega
  · rw [List.take_zero, List.map_nil, List.append_nil]
  · have h1 : x < (probsI b).length := by omega
    have k0 := (pb_fld agg3 size3 h1).1
    have k1 := (pb_fld agg26 size26 h1).2
    have hln : (probsI a ++ List.map (shiftP a.length) (List.take x (probsI b))).length ≤ 64 := by
      have e1 := len3 (probsI a) (shiftP a.length) (probsI b) x
      omega
    have st : pbsL (probsI a ++ List.map (shiftP a.length) (List.take x (probsI b))) ++ [AV.agg [AV.int IntKind.i64 (IntKind.i64.wrap (IntKind.i64.wrap ((probsI b)[x].at_ + a.length) + 1)), AV.int IntKind.i64 (probsI b)[x].code]] = pbsL (probsI a ++ List.map (shiftP a.length) (List.take (x + 1) (probsI b))) := by
      rw [List.take_succ_eq_append_getElem h1, List.map_append, ← List.append_assoc, pbsL, pbsL, List.map_append (l₁ := probsI a ++ _)]
      rfl
    have nx : IntKind.i64.wrap ((x : Int) + 1) = ((x + 1 : Nat) : Int) := by rw [wrap64_in (by omega) (by omega)]; rfl
    refine ⟨by omega, fun h0 => ⟨by omega, _, k0, by omega, _, k1, by omega, x + 1, ⟨?_, nx⟩, by omega, by omega⟩, fun h0 => ⟨by omega, _, k0, by omega, _, k1, ?_, ?_, x + 1, ⟨?_, nx⟩, by omega, by omega⟩⟩
    · rw [h0, List.nil_append] at st; exact st
    · rw [List.nil_append, pbsL_length]; omega
    · rw [List.nil_append, pbsL_length]; omega
    · rw [List.nil_append]; exact st
  · rw [List.take_of_length_le (by omega)]
  · rw [w1, Int.toNat_natCast]
    have e1 : List.drop 0 (List.take ((toksI a).length - 1) (tksL (toksI a))) = tksL (toksI a).dropLast := by
      rw [List.drop_zero, tksL, ← List.map_take, List.dropLast_eq_take]
    have e2 : List.drop 0 (List.take ((toksI a).length - 1) (tksL (toksI (a ++ 10 :: b)))) = tksL (toksI a).dropLast := by
      rw [List.drop_zero, tksL, ← List.map_take, hl, List.take_append_of_le_length (by rw [List.length_dropLast]; omega), List.take_of_length_le (by rw [List.length_dropLast]; omega)]
    have e3 : List.drop ((toksI a).length - 1) (List.take (toksI (a ++ 10 :: b)).length (tksL (toksI (a ++ 10 :: b)))) = tksL ((toksI b).map fun t => ⟨t.kind, t.text, t.at_ + ((a.length + 1 : Nat) : Int)⟩) := by
      rw [List.take_of_length_le (by rw [tksL_length]; omega), tksL, ← List.map_drop, hl]
      congr 1
      rw [List.drop_append, List.drop_of_length_le (by rw [List.length_dropLast]; omega), List.length_dropLast, Nat.sub_self, List.nil_append, List.drop_zero]
      rfl
    have e4 : List.drop 0 (List.take (min (((probsI a ++ List.map (shiftP a.length) (probsI b)).length : Nat) : Int) 32).toNat (pbsL (probsI a ++ List.map (shiftP a.length) (probsI b)))) = pbsL (probsI (a ++ 10 :: b)) := by
      rw [List.drop_zero, pbsL, ← List.map_take, hp]
      congr 1
      by_cases h : (probsI a ++ List.map (shiftP a.length) (probsI b)).length ≤ 32
      · rw [List.take_of_length_le (by omega), List.take_of_length_le h]
      · congr 1; omega
    rw [e1, e2, e3, e4]
    have atA : ∀ t ∈ (toksI a).dropLast, 0 ≤ t.at_ ∧ t.at_ ≤ 1000000 := fun t ht => by
      have := toksI_at (List.dropLast_subset _ ht); omega
    have atB : ∀ t ∈ toksI b, 0 ≤ t.at_ ∧ t.at_ ≤ 1000000 := fun t ht => by
      have := toksI_at ht; omega
    have w2 : IntKind.i64.wrap ((a.length : Int) + 1) = ((a.length + 1 : Nat) : Int) := by rw [wrap64_in (by omega) (by omega)]; rfl
    rw [w2]
    have hdl : (toksI a).dropLast.length ≤ 1000000 := by rw [List.length_dropLast]; omega
    refine ⟨by omega, by omega, by omega, by omega, _, s14_ok hdl hdl, fun _ => ⟨by omega, by omega, _, s14_ok (by omega) (by rw [List.length_map]; omega), fun _ => ⟨by omega, by omega, _, s15_ok (by have := probsI_len (a ++ 10 :: b); omega) (by have := probsI_len (a ++ 10 :: b); omega), fun _ => trivial, fun h => ?_⟩, fun h => ?_⟩, fun h => ?_⟩
    · rw [all2B_refl (by simp)] at h; exact h.symm
    · rw [same_line atB (by omega)] at h; exact h.symm
    · rw [same_self atA] at h; exact h.symm
def s8 : Spec := fun args => match args with
  | [.sl sz es .no, .sl sy ys .no] => if sz = 1 ∧ sy = 1 then onBytes es fun _ => onBytes ys fun _ => some (.bool true, []) else none
  | _ => none
theorem o8 (m : Int) : SpecOk PP (G8 m) 8 s8 := spec_of (X := XJ) (m := []) mixed8 (tbl_cons (o11 m) (tbl_cons (o12' m) (tbl_cons (o14 m) (tbl_cons (o15 m) tbl_nil)))) itbl_nil fun args r h => by
  unfold s8 at h
  split at h
  · split at h
    · rename_i hsz
      obtain ⟨rfl, rfl⟩ := hsz
      unfold onBytes at h
      split at h
      · rename_i bs hb
        obtain rfl := unBytes_some hb
        dsimp only at h
        split at h
        · rename_i cs hc
          obtain rfl := unBytes_some hc
          injection h with h; subst h; exact ⟨_, p8 m bs cs⟩
        · cases h
      · cases h
    · cases h
  · cases h
theorem s8_true (k l : List UInt8) : s8 [bytesA k, bytesA l] = some (.bool true, []) := by simp only [s8, and_self, if_true, onBytes, unBytes_mk]
end Go.Abs
