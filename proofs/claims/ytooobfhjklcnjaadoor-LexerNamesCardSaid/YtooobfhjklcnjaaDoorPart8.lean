/- Own texts, part 8. -/
import Derived.Test.YtooobfhjklcnjaaDoorPart7

namespace Go.Abs
open Go.Proofs L8

theorem tkOf_isTk {l : List UInt8} {a : Nat} {t : Tk} (h : t ∈ tkOf l a) : isTk (piece l).1 ∧ (piece l).2.2 = 0 ∧ t = ⟨(piece l).1, txtOf l, a⟩ := by
  unfold tkOf at h
  split at h
  · rename_i hc
    simp at h
    exact ⟨⟨hc.2.2, hc.1⟩, hc.2.1, h⟩
  · simp at h
theorem numP_kind (l : List UInt8) : (numP l).1 = 2 ∨ (numP l).1 = 3 := by
  unfold numP
  split
  · split
    · exact .inl rfl
    · exact .inr rfl
  · exact .inl rfl
/-- which kinds there are; what a text looks like -/
theorem piece_kinds (l : List UInt8) : (piece l).1 = 0 ∨ (piece l).1 = -1 ∨ ((piece l).1 = 1 ∧ ∃ c t, l = c :: t ∧ letterB c = true ∧ piece l = (1, 1 + (t.takeWhile innerB).length, if 24 < 1 + (t.takeWhile innerB).length then 2 else 0)) ∨ (piece l).1 = 2 ∨ (piece l).1 = 3 ∨ (piece l).1 = 5 ∨
    (∃ t r, l = 34 :: t ∧ t.drop (t.takeWhile lineB).length = 34 :: r ∧ piece l = (4, (t.takeWhile lineB).length + 2, txtErr (t.takeWhile lineB))) := by
  cases l with
  | nil => exact .inl rfl
  | cons c t =>
    rw [piece_eq]
    by_cases h1 : blankB c = true
    · rw [if_pos h1]; exact .inl rfl
    rw [if_neg h1]
    by_cases h2 : (c == 35) = true
    · rw [if_pos h2]; exact .inl rfl
    rw [if_neg h2]
    by_cases h3 : letterB c = true
    · rw [if_pos h3]; exact .inr (.inr (.inl ⟨rfl, c, t, rfl, h3, rfl⟩))
    rw [if_neg h3]
    by_cases h4 : digitB c = true
    · rw [if_pos h4]
      rcases numP_kind (c :: t) with h | h
      · exact .inr (.inr (.inr (.inl h)))
      · exact .inr (.inr (.inr (.inr (.inl h))))
    rw [if_neg h4]
    by_cases h5 : (c == 34) = true
    · rw [if_pos h5]
      have hc : c = 34 := by simpa using h5
      subst hc
      rcases quoP_form t with hq | ⟨r, hd, hq⟩
      · rw [hq]; exact .inr (.inl rfl)
      · exact .inr (.inr (.inr (.inr (.inr (.inr ⟨t, r, rfl, hd, hq⟩)))))
    rw [if_neg h5]
    by_cases h6 : (eqB c && (t.head?.getD 0 == 61)) = true
    · rw [if_pos h6]; exact .inr (.inr (.inr (.inr (.inr (.inl rfl)))))
    rw [if_neg h6]
    by_cases h7 : signB c = true
    · rw [if_pos h7]; exact .inr (.inr (.inr (.inr (.inr (.inl rfl)))))
    · rw [if_neg h7]; exact .inr (.inl rfl)
theorem srcT_piece {l : List UInt8} {at_ : Int} (hk : isTk (piece l).1) : srcT ⟨(piece l).1, txtOf l, at_⟩ = l.take (piece l).2.1 := by
  by_cases h4 : (piece l).1 = 4
  · rcases piece_kinds l with h | h | ⟨h, _⟩ | h | h | h | ⟨t, r, hl, hd, hp⟩
    · rw [h] at h4; cases h4
    · rw [h] at h4; cases h4
    · rw [h] at h4; cases h4
    · rw [h] at h4; cases h4
    · rw [h] at h4; cases h4
    · rw [h] at h4; cases h4
    · have hlen := drop_cons_lt hd
      have e1 : t.take ((t.takeWhile lineB).length + 1) = t.takeWhile lineB ++ [34] := by
        have e0 : t.take (t.takeWhile lineB).length = t.takeWhile lineB := (List.prefix_iff_eq_take.1 (List.takeWhile_prefix lineB)).symm
        rw [List.take_add, hd, e0]
        rfl
      simp only [srcT, if_true, txtOf, hp]
      subst hl
      rw [show (t.takeWhile lineB).length + 2 = ((t.takeWhile lineB).length + 1) + 1 from rfl, List.take_succ_cons, e1]
      simp
  · show (if (piece l).1 = 4 then _ else txtOf l) = _
    rw [if_neg h4]
    unfold txtOf
    rw [if_neg h4]
theorem piece_n_pos {l : List UInt8} (h : l ≠ []) : 1 ≤ (piece l).2.1 := by
  cases l with
  | nil => exact absurd rfl h
  | cons c t => exact piece_pos c t
theorem srcT_len_piece {l : List UInt8} {at_ : Int} (hk : isTk (piece l).1) : (srcT ⟨(piece l).1, txtOf l, at_⟩).length = (piece l).2.1 := by
  rw [srcT_piece hk, List.length_take]
  have := piece_le l; omega
/-- a token stands at its place -/
theorem tok_at (l : List UInt8) (a : Nat) (adj : Bool) : ∀ t ∈ (scan l a adj).1, ∃ k, t.at_ = a + k ∧ k < l.length ∧ t ∈ tkOf (l.drop k) t.at_ := by
  refine scan_ind (P := fun l a adj => ∀ t ∈ (scan l a adj).1, ∃ k, t.at_ = a + k ∧ k < l.length ∧ t ∈ tkOf (l.drop k) t.at_) (fun a adj t ht => by simp [scan_nil] at ht) (fun l a adj hne ih t ht => ?_) l a adj
  rw [scan_step hne] at ht
  have hpos := List.length_pos_iff.2 hne
  rcases List.mem_append.1 ht with ht | ht
  · exact ⟨0, by rw [tkOf_at ht]; rfl, hpos, by rw [List.drop_zero, tkOf_at ht]; exact ht⟩
  · obtain ⟨k, h1, h2, h3⟩ := ih t ht
    rw [List.length_drop] at h2
    rw [List.drop_drop] at h3
    exact ⟨(piece l).2.1 + k, by omega, by omega, h3⟩
theorem scan_whole {l : List UInt8} (hne : l ≠ []) (hw : (piece l).2.1 = l.length) (a : Nat) (adj : Bool) : scan l a adj = (tkOf l a, pbOf l a adj) := by
  rw [scan_step hne, hw, List.drop_length, scan_nil, List.append_nil, List.append_nil]
theorem tk_ne {l : List UInt8} (hk : isTk (piece l).1) : l ≠ [] := by rintro rfl; exact hk.1 rfl
/-- the source of a token is this token -/
theorem tok_alone {l : List UInt8} (hk : isTk (piece l).1) (_h0 : (piece l).2.2 = 0) : piece (l.take (piece l).2.1) = piece l ∧ (piece l).2.1 = (l.take (piece l).2.1).length ∧ txtOf (l.take (piece l).2.1) = txtOf l := by
  have hle := piece_le l
  have ht := piece_take hk
  refine ⟨ht, by rw [List.length_take]; omega, ?_⟩
  simp only [txtOf, ht, List.take_take, Nat.min_self]
theorem proper_piece_of {l : List UInt8} {at_ : Int} (hk : isTk (piece l).1) (h0 : (piece l).2.2 = 0) (hl : (piece l).2.1 ≤ 16384) : properB ⟨(piece l).1, txtOf l, at_⟩ = true := by
  obtain ⟨e1, e2, e3⟩ := tok_alone hk h0
  have hs := srcT_piece (at_ := at_) hk
  have hw : l.take (piece l).2.1 ≠ [] := by
    intro h
    have := congrArg List.length h
    have hp := piece_n_pos (tk_ne hk)
    rw [← e2] at this
    simp at this; omega
  have hsc := scan_whole hw (by rw [e1]; exact e2) 0 false
  have htk : tkOf (l.take (piece l).2.1) 0 = [⟨(piece l).1, txtOf l, 0⟩] := by
    simp only [tkOf, e1, e3]
    rw [if_pos ⟨hk.2, h0, hk.1⟩]
  have hpb : pbOf (l.take (piece l).2.1) 0 false = [] := by
    simp only [pbOf, e1]
    rw [if_neg hk.2, if_pos h0]
  rw [htk, hpb] at hsc
  simp only [properB, hs, Bool.and_eq_true, decide_eq_true_eq]
  refine ⟨by rw [← e2]; exact hl, ?_, ?_⟩
  · simp [probsI, probsL, hsc]
  · simp [toksI, toksL, hsc, toTI]
theorem proper_scan {l : List UInt8} {a : Nat} {adj : Bool} (hl : l.length ≤ 16384) {t : Tk} (ht : t ∈ (scan l a adj).1) : properB (toTI t) = true := by
  obtain ⟨k, _, _, h3⟩ := tok_at l a adj t ht
  obtain ⟨hk, h0, he⟩ := tkOf_isTk h3
  have hle := piece_le (l.drop k)
  rw [List.length_drop] at hle
  have := proper_piece_of (at_ := (t.at_ : Int)) hk h0 (by omega)
  rw [he]
  exact this
structure PropP (t : TI) : Prop where
  tk : isTk (piece (srcT t)).1
  kind : (piece (srcT t)).1 = t.kind
  len : (piece (srcT t)).2.1 = (srcT t).length
  ok : (piece (srcT t)).2.2 = 0
  txt : txtOf (srcT t) = t.text
theorem properP {t : TI} (h : properB t = true) : PropP t := by
  simp only [properB, Bool.and_eq_true, decide_eq_true_eq] at h
  obtain ⟨_, _, h⟩ := h
  have hne : srcT t ≠ [] := by
    intro e
    rw [e] at h
    simp [toksI, toksL, scan_nil] at h
  have h' : (scan (srcT t) 0 false).1.map toTI = [⟨t.kind, t.text, 0⟩] := by
    have e := h
    simp only [toksI, toksL, List.map_append, List.map_cons, List.map_nil, toTI] at e
    exact (List.append_inj' (t₂ := [(⟨6, [], (srcT t).length⟩ : TI)]) e rfl).1
  rw [scan_step hne] at h'
  simp only [List.map_append] at h'
  have hp := piece_n_pos hne
  cases htk : tkOf (srcT t) 0 with
  | nil =>
    rw [htk, List.map_nil, List.nil_append] at h'
    have hb := (scanB ((srcT t).drop (piece (srcT t)).2.1) (0 + (piece (srcT t)).2.1) (adjOf (srcT t))).tk
    cases hs : (scan ((srcT t).drop (piece (srcT t)).2.1) (0 + (piece (srcT t)).2.1) (adjOf (srcT t))).1 with
    | nil => rw [hs] at h'; simp at h'
    | cons u r =>
      rw [hs] at h' hb
      have h1 := hb u List.mem_cons_self
      simp only [List.map_cons, List.cons.injEq, toTI, TI.mk.injEq] at h'
      have := h'.1.2.2
      omega
  | cons u r =>
    have hu : u ∈ tkOf (srcT t) 0 := by rw [htk]; exact List.mem_cons_self
    obtain ⟨hk, h0, he⟩ := tkOf_isTk hu
    rw [htk] at h'
    simp only [List.map_cons, List.cons_append, List.cons.injEq, toTI, TI.mk.injEq] at h'
    obtain ⟨⟨k1, k2, _⟩, _⟩ := h'
    rw [he] at k1 k2
    simp only at k1 k2
    have hs := srcT_piece (at_ := t.at_) hk
    rw [k1, k2] at hs
    have hst : srcT (⟨t.kind, t.text, t.at_⟩ : TI) = srcT t := rfl
    rw [hst] at hs
    have hlen := congrArg List.length hs
    rw [List.length_take] at hlen
    have hle := piece_le (srcT t)
    exact ⟨hk, k1, by omega, h0, k2⟩
theorem scan_blank {c : UInt8} (hc : blankB c = true) (r : List UInt8) (a : Nat) (adj : Bool) : scan (c :: r) a adj = scan r (a + 1) false := by
  have hp : piece (c :: r) = (0, 1, 0) := by rw [piece_eq, if_pos hc]
  rw [scan_step (by simp)]
  simp [tkOf, pbOf, adjOf, hp]
theorem scan_join {t : TI} (h : properB t = true) (r : List UInt8) (a : Nat) (adj : Bool) : scan (srcT t ++ 32 :: r) a adj = (⟨t.kind, t.text, a⟩ :: (scan (32 :: r) (a + (srcT t).length) false).1, (scan (32 :: r) (a + (srcT t).length) false).2) := by
  obtain ⟨hk, h1, h2, h3, h4⟩ := properP h
  have hp := piece_sep hk h2 r
  have htx : txtOf (srcT t ++ 32 :: r) = t.text := by
    rw [← h4]
    simp only [txtOf, hp, h2, take_app (Nat.le_refl _)]
  rw [scan_step (by simp)]
  have e1 : tkOf (srcT t ++ 32 :: r) a = [⟨t.kind, t.text, a⟩] := by
    simp only [tkOf, hp, htx]
    rw [if_pos ⟨hk.2, h3, hk.1⟩, h1]
  have e2 : pbOf (srcT t ++ 32 :: r) a adj = [] := by
    simp only [pbOf, hp]
    rw [if_neg hk.2, if_pos h3]
  have e3 : adjOf (srcT t ++ 32 :: r) = false := by
    simp only [adjOf, hp]
    exact decide_eq_false hk.2
  rw [e1, e2, e3, hp, h2, drop_app (Nat.le_refl _), List.drop_length]
  rfl
theorem scan_last {t : TI} (h : properB t = true) (a : Nat) (adj : Bool) : scan (srcT t) a adj = ([⟨t.kind, t.text, a⟩], []) := by
  obtain ⟨hk, h1, h2, h3, h4⟩ := properP h
  rw [scan_whole (tk_ne hk) h2]
  have e1 : tkOf (srcT t) a = [⟨t.kind, t.text, a⟩] := by
    simp only [tkOf, h4]
    rw [if_pos ⟨hk.2, h3, hk.1⟩, h1]
  have e2 : pbOf (srcT t) a adj = [] := by
    simp only [pbOf]
    rw [if_neg hk.2, if_pos h3]
  rw [e1, e2]
/-- what tokens are but for their places -/
abbrev kt (t : TI) : Int × List UInt8 := (t.kind, t.text)
abbrev ktT (t : Tk) : Int × List UInt8 := (t.kind, t.text)
theorem jb_scan : ∀ (L : List TI), L.all properB = true → ∀ a adj, (scan (jb0 L) a adj).1.map ktT = L.map kt ∧ (scan (jb0 L) a adj).2 = []
  | [], _, a, adj => ⟨rfl, rfl⟩
  | [t], h, a, adj => by
    simp only [List.all_cons, List.all_nil, Bool.and_true] at h
    have e : jb0 [t] = srcT t := by simp [jb0]
    rw [e, scan_last h]
    exact ⟨rfl, rfl⟩
  | t :: u :: L, h, a, adj => by
    simp only [List.all_cons, Bool.and_eq_true] at h
    have e : jb0 (t :: u :: L) = srcT t ++ 32 :: jb0 (u :: L) := by simp [jb0]
    have ih := jb_scan (u :: L) (by simp only [List.all_cons, Bool.and_eq_true]; exact h.2) (a + (srcT t).length + 1) false
    rw [e, scan_join h.1, scan_blank (by rfl)]
    exact ⟨by rw [List.map_cons, List.map_cons, ih.1], ih.2⟩
theorem same_kt : ∀ {l k : List TI}, l.map kt = k.map kt → all2B (sameT false 0) l k = true
  | [], [], _ => rfl
  | [], b :: k, h => by simp at h
  | a :: l, [], h => by simp at h
  | a :: l, b :: k, h => by
    simp only [List.map_cons, List.cons.injEq, kt, Prod.mk.injEq] at h
    simp only [all2B, Bool.and_eq_true]
    exact ⟨by simp [sameT, h.1.1, h.1.2], same_kt h.2⟩
theorem srcT_kt {t u : TI} (h : kt t = kt u) : srcT t = srcT u := by
  simp only [kt, Prod.mk.injEq] at h
  simp only [srcT, h.1, h.2]
theorem jb0_kt : ∀ {l k : List TI}, l.map kt = k.map kt → jb0 l = jb0 k
  | [], [], _ => rfl
  | [], b :: k, h => by simp at h
  | a :: l, [], h => by simp at h
  | a :: l, b :: k, h => by
    simp only [List.map_cons, List.cons.injEq] at h
    have hrest : ∀ {l k : List TI}, l.map kt = k.map kt → (l.flatMap fun u => 32 :: srcT u) = k.flatMap fun u => 32 :: srcT u := by
      intro l
      induction l with
      | nil => intro k h; cases k with
        | nil => rfl
        | cons b k => simp at h
      | cons a l ih => intro k h; cases k with
        | nil => simp at h
        | cons b k =>
          simp only [List.map_cons, List.cons.injEq] at h
          simp only [List.flatMap_cons, srcT_kt h.1, ih h.2]
    simp only [jb0, srcT_kt h.1, hrest h.2]
theorem trim_toks (bs : List UInt8) : trimEnd (toksI bs) = (scan bs 0 false).1.map toTI := by
  unfold trimEnd
  simp only [toksI, toksL, List.map_append, List.map_cons, List.map_nil, List.getLast?_append, List.getLast?_singleton, Option.some_or]
  have : isEnd (toTI ⟨6, [], bs.length⟩) = true := by simp [isEnd, toTI]
  rw [if_pos this, List.dropLast_concat]
theorem kt_to (l : List Tk) : (l.map toTI).map kt = l.map ktT := by simp [kt, toTI, Function.comp_def]
end Go.Abs

namespace Go.Abs
open Go.Proofs L8
theorem tok_src_le {l : List UInt8} {a : Nat} {adj : Bool} {t : Tk} (ht : t ∈ (scan l a adj).1) : (srcT (toTI t)).length ≤ l.length := by
  obtain ⟨k, _, hk, h3⟩ := tok_at l a adj t ht
  obtain ⟨hk', h0, he⟩ := tkOf_isTk h3
  have hle := piece_le (l.drop k)
  rw [List.length_drop] at hle
  have h := srcT_len_piece (at_ := (t.at_ : Int)) hk'
  rw [he]
  show (srcT ⟨(piece (l.drop k)).1, txtOf (l.drop k), t.at_⟩).length ≤ _
  omega
theorem text_le (t : TI) : t.text.length ≤ (srcT t).length := by
  unfold srcT; split
  · simp only [List.length_cons, List.length_append]; omega
  · exact Nat.le_refl _
theorem toks_small {bs : List UInt8} (h : bs.length ≤ 16384) : smallTks (toksI bs) := by
  refine ⟨by have := toksI_len bs; omega, fun t ht => ?_⟩
  simp only [toksI, toksL, List.map_append, List.mem_append, List.mem_map] at ht
  rcases ht with ⟨u, hu, rfl⟩ | ⟨u, hu, rfl⟩
  · have h1 := tok_src_le hu
    have h2 := text_le (toTI u)
    omega
  · simp at hu; subst hu; simp [toTI]
def sumS : List TI → Nat
  | [] => 0
  | t :: l => (srcT t).length + 1 + sumS l
theorem sumS_app : ∀ l k : List TI, sumS (l ++ k) = sumS l + sumS k
  | [], k => by simp [sumS]
  | t :: l, k => by simp only [List.cons_append, sumS, sumS_app l k]; omega
theorem jb0_sum : ∀ l : List TI, (jb0 l).length ≤ sumS l
  | [] => by simp [jb0]
  | t :: l => by
    have key : ∀ l : List TI, (l.flatMap fun u => 32 :: srcT u).length = sumS l := by
      intro l
      induction l with
      | nil => rfl
      | cons a l ih => simp only [List.flatMap_cons, List.length_append, List.length_cons, ih, sumS]
    simp only [jb0, List.length_append, key, sumS]; omega
theorem scan_sum (l : List UInt8) (a : Nat) (adj : Bool) : sumS ((scan l a adj).1.map toTI) ≤ 2 * l.length := by
  refine scan_ind (P := fun l a adj => sumS ((scan l a adj).1.map toTI) ≤ 2 * l.length) (fun a adj => by simp [scan_nil, sumS]) (fun l a adj hne ih => ?_) l a adj
  rw [scan_step hne, List.map_append, sumS_app]
  rw [List.length_drop] at ih
  have hp := piece_n_pos hne
  have hle := piece_le l
  have : sumS ((tkOf l a).map toTI) ≤ 2 * (piece l).2.1 := by
    cases h : tkOf l a with
    | nil => simp [sumS]
    | cons x r =>
      have hx : x ∈ tkOf l a := by rw [h]; exact List.mem_cons_self
      have hl := tkOf_len l a
      rw [h] at hl
      have hr : r = [] := List.length_eq_zero_iff.1 (by simp only [List.length_cons] at hl; omega)
      subst hr
      obtain ⟨hk, _, he⟩ := tkOf_isTk hx
      have := srcT_len_piece (at_ := (a : Int)) hk
      simp only [List.map_cons, List.map_nil, sumS, he, toTI]
      omega
  omega
/-- a join of what was read -/
structure BackOk (src b : List UInt8) : Prop where
  len : b.length ≤ 16384
  join : jbR (toksI src) = (.tup [bytesA b, .int .i64 0], [])
  probs : probsI b = []
  same : (toksI src).map kt = (toksI b).map kt
  back : jbR (toksI b) = (.tup [bytesA b, .int .i64 0], [])
theorem backOk {src : List UInt8} (h : src.length ≤ 3000) : BackOk src (jb0 (trimEnd (toksI src))) := by
  have hT := trim_toks src
  have hall : ((scan src 0 false).1.map toTI).all properB = true := by
    rw [List.all_eq_true]
    intro t ht
    obtain ⟨u, hu, rfl⟩ := List.mem_map.1 ht
    exact proper_scan (by omega) hu
  rw [hT]
  have hb : (jb0 ((scan src 0 false).1.map toTI)).length ≤ 6000 := by
    have h1 := jb0_sum ((scan src 0 false).1.map toTI)
    have h2 := scan_sum src 0 false
    omega
  obtain ⟨j1, j2⟩ := jb_scan _ hall 0 false
  generalize hB : jb0 ((scan src 0 false).1.map toTI) = b at *
  have hT' := trim_toks b
  have hsame : ((scan b 0 false).1.map toTI).map kt = ((scan src 0 false).1.map toTI).map kt := by rw [kt_to]; exact j1
  have hjb := jb0_kt hsame
  rw [hB] at hjb
  have hall' : ((scan b 0 false).1.map toTI).all properB = true := by
    rw [List.all_eq_true]
    intro t ht
    obtain ⟨u, hu, rfl⟩ := List.mem_map.1 ht
    exact proper_scan (by omega) hu
  refine ⟨by omega, ?_, ?_, ?_, ?_⟩
  · unfold jbR
    rw [hT, if_pos hall, hB, if_pos (by omega)]
  · simp [probsI, probsL, j2]
  · have e : ∀ x : List UInt8, (toksI x).map kt = ((scan x 0 false).1.map toTI).map kt ++ [(6, [])] := fun x => by simp [toksI, toksL, kt, toTI]
    rw [e, e, hsame]
  · unfold jbR
    rw [hT', if_pos hall', hjb, if_pos (by omega)]
theorem p7 (m : Int) (src : List UInt8) : PureOk PP (G8 m) XJ (tbl [(11, s11), (12, s12), (14, s14), (21, s21)]) (itbl []) nAn [] 7 [bytesA src] (.bool true, []) := by
  constructor
  rw [w7]
  have t11 : tbl [(11, s11), (12, s12), (14, s14), (21, s21)] 11 [] = some (.bool true, []) := rfl
  have t12 : ∀ x, tbl [(11, s11), (12, s12), (14, s14), (21, s21)] 12 x = s12 x := fun _ => rfl
  have t14 : ∀ x, tbl [(11, s11), (12, s12), (14, s14), (21, s21)] 14 x = s14 x := fun _ => rfl
  have t21 : ∀ x, tbl [(11, s11), (12, s12), (14, s14), (21, s21)] 21 x = s21 x := fun _ => rfl
  rw [t11]
  simp only [t12, t14, t21, callIs_iff, retIs_iff, bytesL_length, Option.some.injEq, Prod.mk.injEq, AV.bool.injEq, and_true, decide_eq_true_eq, decide_eq_false_iff_not, true_or, true_and]
  refine ⟨true, rfl, fun _ => ⟨fun _ => trivial, fun hl => ?_⟩, fun h => nomatch h⟩
  have hl' : src.length ≤ 3000 := by omega
  obtain ⟨b1, b2, b3, b4, b5⟩ := backOk hl'
  generalize jb0 (trimEnd (toksI src)) = b at *
  have hs1 := s21_ok (toks_small (bs := src) (by omega))
  have hs2 := s21_ok (toks_small (bs := b) b1)
  rw [b2] at hs1
  rw [b5] at hs2
  have n1 := toksI_len src
  have n2 := toksI_len b
  refine ⟨_, _, _, s12_ok (by omega), fun h => absurd h (by decide), fun _ => ⟨_, _, hs1, fun h => absurd h (by decide), fun _ => ⟨_, _, _, s12_ok b1, _, _, hs2, fun _ => ⟨fun _ => ⟨fun _ => ⟨_, s14_ok (by omega) (by omega), fun _ => ⟨_, mapM_bs b, _, mapM_bs b, fun _ => trivial, fun h => ?_⟩, fun h => ?_⟩, fun h => ?_⟩, fun h => absurd h (by decide)⟩, fun h => absurd h (by decide)⟩⟩⟩
  · simp at h
  · rw [same_kt b4] at h; cases h
  · rw [b3] at h; simp at h
def s7 : Spec := s3
theorem o7 (m : Int) : SpecOk PP (G8 m) 7 s7 := spec_of (X := XJ) (m := []) mixed8 (tbl_cons (o11 m) (tbl_cons (o12' m) (tbl_cons (o14 m) (tbl_cons (o21 m) tbl_nil)))) itbl_nil fun args r h => by
  unfold s7 s3 at h
  split at h
  · split at h
    · rename_i hsz
      subst hsz
      unfold onBytes at h
      split at h
      · rename_i bs hb
        obtain rfl := unBytes_some hb
        injection h with h; subst h; exact ⟨nAn, p7 m bs⟩
      · cases h
    · cases h
  · cases h
theorem s7_true (l : List UInt8) : s7 [bytesA l] = some (.bool true, []) := s3_true l
end Go.Abs

namespace Go.Abs
open Go.Proofs L8
theorem w9 (m : Int) (l : List TI) (gaps : List (List UInt8)) (s11 : Spec) : (pureW PP (G8 m) XJ (tbl [(11, s11), (12, s12), (14, s14), (20, s20), (22, s21), (23, s23), (24, s24)]) (itbl []) (a9 l gaps) [] 9 [.sl 3 (tksL l) .no, .sl 1 (gaps.map AV.str) .no] (.bool true, [])) =
(∃ (b : Bool),
  CallIs
      (tbl [(nat_lit 11, s11), (nat_lit 12, s12), (nat_lit 14, s14), (nat_lit 20, s20), (nat_lit 22, s21), (nat_lit 23, s23), (nat_lit 24, s24)] (nat_lit 11)
        [])
      (AV.bool b) [] ∧
    (b = true →
        ∃ (b : Bool),
 CallIs
 (tbl [(nat_lit 11, s11), (nat_lit 12, s12), (nat_lit 14, s14), (nat_lit 20, s20), (nat_lit 22, s21), (nat_lit 23, s23), (nat_lit 24, s24)]
 (nat_lit 20) [AV.sl (nat_lit 3) (tksL l) Own.no])
 (AV.bool b) [] ∧
 (b = true →
 (((↑(List.map AV.str gaps).length : Int) == (0 : Int)) = true → RetIs (AV.bool true) [] (AV.bool true, [])) ∧
 (((↑(List.map AV.str gaps).length : Int) == (0 : Int)) = false →
 ∃ (es : List AV),
 ∃ (n : Int),
 CallIs
 (tbl
 [(nat_lit 11, s11), (nat_lit 12, s12), (nat_lit 14, s14), (nat_lit 20, s20), (nat_lit 22, s21), (nat_lit 23, s23),
 (nat_lit 24, s24)]
 (nat_lit 22) [AV.sl (nat_lit 3) (tksL l) Own.no])
 (AV.tup [AV.sl (nat_lit 1) es Own.no, AV.int IntKind.i64 n]) [] ∧
 ((n != (0 : Int)) = true → RetIs (AV.bool true) [] (AV.bool true, [])) ∧
 ((n != (0 : Int)) = false →
 (∃ (y : Nat),
 ValsAre
 [AV.sl (nat_lit 3) (tksL l) Own.no, AV.sl (nat_lit 1) (List.map AV.str gaps) Own.no,
 AV.sl (nat_lit 1) [] (Own.tok (nat_lit 0)), AV.int IntKind.i64 (0 : Int)]
 [AV.sl (nat_lit 3) (tksL l) Own.no, AV.sl (nat_lit 1) (List.map AV.str gaps) Own.no,
 AV.sl (nat_lit 1) (bytesL (gapsB l gaps y)) (Own.tok (nat_lit 0)), AV.int IntKind.i64 (↑y : Int)] ∧
 StIs { boxes := [], live := [(nat_lit 0, nat_lit 5)] } { boxes := [], live := [((gapsB l gaps y).length, nat_lit 5)] } ∧
 y ≤ l.length ∧ True) ∧
 ∀ (x : Nat),
 x ≤ l.length →
 (decide ((↑x : Int) < (↑(tksL l).length : Int)) = true →
 (↑(List.map AV.str gaps).length : Int) ≠ (0 : Int) ∧
 ((0 : Int) ≤ (↑x : Int).tmod (↑(List.map AV.str gaps).length : Int) ∧
 (↑x : Int).tmod (↑(List.map AV.str gaps).length : Int) < (↑(List.map AV.str gaps).length : Int)) ∧
 ∃ (s : List UInt8),
 takeAt PP (nat_lit 9) (List.map AV.str gaps) ((↑x : Int).tmod (↑(List.map AV.str gaps).length : Int)).toNat
 (nat_lit 0) =
 some (AV.str s) ∧
 ∃ (es : List AV),
 CallIs
 (tbl
 [(nat_lit 11, s11), (nat_lit 12, s12), (nat_lit 14, s14), (nat_lit 20, s20), (nat_lit 22, s21),
 (nat_lit 23, s23), (nat_lit 24, s24)]
 (nat_lit 24) [AV.str s])
 (AV.sl (nat_lit 1) es Own.no) [] ∧
 (nat_lit 1 = nat_lit 1 ∨ bytesL (gapsB l gaps x) = []) ∧
 ((bytesL (gapsB l gaps x)).length + es.length) * nat_lit 2 ≤ nat_lit 70368744177664 ∧
 (gapsB l gaps x).length = (bytesL (gapsB l gaps x)).length ∧
 ((0 : Int) ≤ (↑x : Int) ∧ (↑x : Int) < (↑(tksL l).length : Int)) ∧
 ∃ (n : Int),
 ∃ (s : List UInt8),
 ∃ (n_1 : Int),
 takeAt PP (nat_lit 38) (tksL l) (↑x : Int).toNat (nat_lit 0) =
 some (AV.agg [AV.int IntKind.i64 n, AV.str s, AV.int IntKind.i64 n_1]) ∧
 ∃ (s_1 : List UInt8),
 CallIs
 (tbl
 [(nat_lit 11, s11), (nat_lit 12, s12), (nat_lit 14, s14), (nat_lit 20, s20),
 (nat_lit 22, s21), (nat_lit 23, s23), (nat_lit 24, s24)]
 (nat_lit 23) [AV.agg [AV.int IntKind.i64 n, AV.str s, AV.int IntKind.i64 n_1]])
 (AV.str s_1) [] ∧
 (nat_lit 1 = nat_lit 1 ∨ bytesL (gapsB l gaps x) ++ es = []) ∧
 ((bytesL (gapsB l gaps x) ++ es).length +
 (List.map (fun (c : UInt8) => AV.int IntKind.u8 (↑c.toNat : Int))
 s_1).length) *
 nat_lit 2 ≤
 nat_lit 70368744177664 ∧
 (bytesL (gapsB l gaps x)).length + es.length =
 (bytesL (gapsB l gaps x) ++ es).length ∧
 ∃ (y : Nat),
 ValsAre
 [AV.sl (nat_lit 3) (tksL l) Own.no,
 AV.sl (nat_lit 1) (List.map AV.str gaps) Own.no,
 AV.sl (nat_lit 1)
 (bytesL (gapsB l gaps x) ++ es ++
 List.map (fun (c : UInt8) => AV.int IntKind.u8 (↑c.toNat : Int)) s_1)
 (Own.tok (nat_lit 0)),
 AV.int IntKind.i64 (IntKind.i64.wrap ((↑x : Int) + (1 : Int)))]
 [AV.sl (nat_lit 3) (tksL l) Own.no,
 AV.sl (nat_lit 1) (List.map AV.str gaps) Own.no,
 AV.sl (nat_lit 1) (bytesL (gapsB l gaps y)) (Own.tok (nat_lit 0)),
 AV.int IntKind.i64 (↑y : Int)] ∧
 StIs
 { boxes := [], live := [((bytesL (gapsB l gaps x) ++ es).length + (List.map (fun (c : UInt8) => AV.int IntKind.u8 (↑c.toNat : Int)) s_1).length, nat_lit 5)] }
 { boxes := [], live := [((gapsB l gaps y).length, nat_lit 5)] } ∧
 y ≤ l.length ∧ l.length - y < l.length - x) ∧
 (decide ((↑x : Int) < (↑(tksL l).length : Int)) = false →
 (↑(List.map AV.str gaps).length : Int) ≠ (0 : Int) ∧
 ((0 : Int) ≤ (↑(tksL l).length : Int).tmod (↑(List.map AV.str gaps).length : Int) ∧
 (↑(tksL l).length : Int).tmod (↑(List.map AV.str gaps).length : Int) < (↑(List.map AV.str gaps).length : Int)) ∧
 ∃ (s : List UInt8),
 takeAt PP (nat_lit 9) (List.map AV.str gaps)
 ((↑(tksL l).length : Int).tmod (↑(List.map AV.str gaps).length : Int)).toNat (nat_lit 0) =
 some (AV.str s) ∧
 ∃ (es : List AV),
 CallIs
 (tbl
 [(nat_lit 11, s11), (nat_lit 12, s12), (nat_lit 14, s14), (nat_lit 20, s20), (nat_lit 22, s21),
 (nat_lit 23, s23), (nat_lit 24, s24)]
 (nat_lit 24) [AV.str s])
 (AV.sl (nat_lit 1) es Own.no) [] ∧
 (nat_lit 1 = nat_lit 1 ∨ bytesL (gapsB l gaps x) = []) ∧
 ((bytesL (gapsB l gaps x)).length + es.length) * nat_lit 2 ≤ nat_lit 70368744177664 ∧
 (gapsB l gaps x).length = (bytesL (gapsB l gaps x)).length ∧
 (decide ((↑(bytesL (gapsB l gaps x) ++ es).length : Int) > (16384 : Int)) = true →
 RetIs (AV.bool true) [] (AV.bool true, [])) ∧
 (decide ((↑(bytesL (gapsB l gaps x) ++ es).length : Int) > (16384 : Int)) = false →
 ∃ (es_1 : List AV),
 ∃ (es_2 : List AV),
 ∃ (n : Int),
 CallIs
 (tbl
 [(nat_lit 11, s11), (nat_lit 12, s12), (nat_lit 14, s14), (nat_lit 20, s20),
 (nat_lit 22, s21), (nat_lit 23, s23), (nat_lit 24, s24)]
 (nat_lit 12) [AV.sl (nat_lit 1) (bytesL (gapsB l gaps x) ++ es) Own.no])
 (AV.tup
 [AV.sl (nat_lit 3) es_1 Own.no, AV.sl (nat_lit 2) es_2 Own.no, AV.int IntKind.i64 n])
 [] ∧
 (decide ((↑(tksL l).length : Int) > (0 : Int)) = true →
 ((0 : Int) ≤ IntKind.i64.wrap ((↑(tksL l).length : Int) - (1 : Int)) ∧
 IntKind.i64.wrap ((↑(tksL l).length : Int) - (1 : Int)) <
 (↑(tksL l).length : Int)) ∧
 ∃ (n_1 : Int),
 takeAt PP (nat_lit 3) (tksL l)
 (IntKind.i64.wrap ((↑(tksL l).length : Int) - (1 : Int))).toNat
 (nat_lit 0) =
 some (AV.int IntKind.i64 n_1) ∧
 ((n_1 == (6 : Int)) = true →
 ((n == (0 : Int)) = true →
 (((↑es_2.length : Int) == (0 : Int)) = true →
 (((↑es_1.length : Int) ==
 IntKind.i64.wrap
 (IntKind.i64.wrap ((↑(tksL l).length : Int) - (1 : Int)) +
 (1 : Int))) =
 true →
 (0 : Int) ≤
 IntKind.i64.wrap ((↑(tksL l).length : Int) - (1 : Int)) ∧
 (nat_lit 0 ≤
 (IntKind.i64.wrap
 ((↑(tksL l).length : Int) - (1 : Int))).toNat ∧
 (IntKind.i64.wrap
 ((↑(tksL l).length : Int) - (1 : Int))).toNat ≤
 (tksL l).length) ∧
 (nat_lit 3 = nat_lit 3 ∨ tksL l = []) ∧
 (0 : Int) ≤
 IntKind.i64.wrap
 ((↑(tksL l).length : Int) - (1 : Int)) ∧
 (nat_lit 0 ≤
 (IntKind.i64.wrap
 ((↑(tksL l).length : Int) -
 (1 : Int))).toNat ∧
 (IntKind.i64.wrap
 ((↑(tksL l).length : Int) -
 (1 : Int))).toNat ≤
 es_1.length) ∧
 (nat_lit 3 = nat_lit 3 ∨ es_1 = []) ∧
 ∃ (b : Bool),
 CallIs
 (tbl
 [(nat_lit 11, s11), (nat_lit 12, s12),
 (nat_lit 14, s14), (nat_lit 20, s20),
 (nat_lit 22, s21), (nat_lit 23, s23),
 (nat_lit 24, s24)]
 (nat_lit 14)
 [AV.sl (nat_lit 3)
 (List.drop (nat_lit 0)
 (List.take
 (IntKind.i64.wrap
 ((↑(tksL l).length : Int) -
 (1 : Int))).toNat
 (tksL l)))
 Own.no,
 AV.sl (nat_lit 3)
 (List.drop (nat_lit 0)
 (List.take
 (IntKind.i64.wrap
 ((↑(tksL l).length : Int) -
 (1 : Int))).toNat
 es_1))
 Own.no,
 AV.bool false,
 AV.int IntKind.i64 (0 : Int)])
 (AV.bool b) [] ∧
 (b = true →
 RetIs (AV.bool true) []
 (AV.bool true, [])) ∧
 (b = false →
 RetIs (AV.bool false) []
 (AV.bool true, []))) ∧
 (((↑es_1.length : Int) ==
 IntKind.i64.wrap
 (IntKind.i64.wrap ((↑(tksL l).length : Int) - (1 : Int)) +
 (1 : Int))) =
 false →
 RetIs (AV.bool false) [] (AV.bool true, []))) ∧
 (((↑es_2.length : Int) == (0 : Int)) = false →
 RetIs (AV.bool false) [] (AV.bool true, []))) ∧
 ((n == (0 : Int)) = false →
 RetIs (AV.bool false) [] (AV.bool true, []))) ∧
 ((n_1 == (6 : Int)) = false →
 ((n == (0 : Int)) = true →
 (((↑es_2.length : Int) == (0 : Int)) = true →
 (((↑es_1.length : Int) ==
 IntKind.i64.wrap ((↑(tksL l).length : Int) + (1 : Int))) =
 true →
 (0 : Int) ≤ (↑(tksL l).length : Int) ∧
 (nat_lit 0 ≤ (↑(tksL l).length : Int).toNat ∧
 (↑(tksL l).length : Int).toNat ≤ (tksL l).length) ∧
 (nat_lit 3 = nat_lit 3 ∨ tksL l = []) ∧
 (0 : Int) ≤ (↑(tksL l).length : Int) ∧
 (nat_lit 0 ≤ (↑(tksL l).length : Int).toNat ∧
 (↑(tksL l).length : Int).toNat ≤ es_1.length) ∧
 (nat_lit 3 = nat_lit 3 ∨ es_1 = []) ∧
 ∃ (b : Bool),
 CallIs
 (tbl
 [(nat_lit 11, s11), (nat_lit 12, s12),
 (nat_lit 14, s14), (nat_lit 20, s20),
 (nat_lit 22, s21), (nat_lit 23, s23),
 (nat_lit 24, s24)]
 (nat_lit 14)
 [AV.sl (nat_lit 3)
 (List.drop (nat_lit 0)
 (List.take
 (↑(tksL l).length : Int).toNat
 (tksL l)))
 Own.no,
 AV.sl (nat_lit 3)
 (List.drop (nat_lit 0)
 (List.take
 (↑(tksL l).length : Int).toNat
 es_1))
 Own.no,
 AV.bool false,
 AV.int IntKind.i64 (0 : Int)])
 (AV.bool b) [] ∧
 (b = true →
 RetIs (AV.bool true) []
 (AV.bool true, [])) ∧
 (b = false →
 RetIs (AV.bool false) []
 (AV.bool true, []))) ∧
 (((↑es_1.length : Int) ==
 IntKind.i64.wrap ((↑(tksL l).length : Int) + (1 : Int))) =
 false →
 RetIs (AV.bool false) [] (AV.bool true, []))) ∧
 (((↑es_2.length : Int) == (0 : Int)) = false →
 RetIs (AV.bool false) [] (AV.bool true, []))) ∧
 ((n == (0 : Int)) = false →
 RetIs (AV.bool false) [] (AV.bool true, [])))) ∧
 (decide ((↑(tksL l).length : Int) > (0 : Int)) = false →
 ((n == (0 : Int)) = true →
 (((↑es_2.length : Int) == (0 : Int)) = true →
 (((↑es_1.length : Int) ==
 IntKind.i64.wrap ((↑(tksL l).length : Int) + (1 : Int))) =
 true →
 (0 : Int) ≤ (↑(tksL l).length : Int) ∧
 (nat_lit 0 ≤ (↑(tksL l).length : Int).toNat ∧
 (↑(tksL l).length : Int).toNat ≤ (tksL l).length) ∧
 (nat_lit 3 = nat_lit 3 ∨ tksL l = []) ∧
 (0 : Int) ≤ (↑(tksL l).length : Int) ∧
 (nat_lit 0 ≤ (↑(tksL l).length : Int).toNat ∧
 (↑(tksL l).length : Int).toNat ≤ es_1.length) ∧
 (nat_lit 3 = nat_lit 3 ∨ es_1 = []) ∧
 ∃ (b : Bool),
 CallIs
 (tbl
 [(nat_lit 11, s11), (nat_lit 12, s12),
 (nat_lit 14, s14), (nat_lit 20, s20),
 (nat_lit 22, s21), (nat_lit 23, s23),
 (nat_lit 24, s24)]
 (nat_lit 14)
 [AV.sl (nat_lit 3)
 (List.drop (nat_lit 0)
 (List.take (↑(tksL l).length : Int).toNat
 (tksL l)))
 Own.no,
 AV.sl (nat_lit 3)
 (List.drop (nat_lit 0)
 (List.take (↑(tksL l).length : Int).toNat es_1))
 Own.no,
 AV.bool false, AV.int IntKind.i64 (0 : Int)])
 (AV.bool b) [] ∧
 (b = true → RetIs (AV.bool true) [] (AV.bool true, [])) ∧
 (b = false →
 RetIs (AV.bool false) [] (AV.bool true, []))) ∧
 (((↑es_1.length : Int) ==
 IntKind.i64.wrap ((↑(tksL l).length : Int) + (1 : Int))) =
 false →
 RetIs (AV.bool false) [] (AV.bool true, []))) ∧
 (((↑es_2.length : Int) == (0 : Int)) = false →
 RetIs (AV.bool false) [] (AV.bool true, []))) ∧
 ((n == (0 : Int)) = false → RetIs (AV.bool false) [] (AV.bool true, [])))))))) ∧
 (b = false → RetIs (AV.bool true) [] (AV.bool true, []))) ∧
      (b = false → RetIs (AV.bool false) [] (AV.bool true, []))) := by kernel_rfl
end Go.Abs

namespace Go.Abs
open Go.Proofs L8
theorem w24 (m : Int) (s : List UInt8) : (laxW PP (G8 m) XJ (tbl []) (itbl []) (a24 s) [] 24 [.str s] (bytesA (gapR s), [])) =
(((decide ((↑s.length : Int) > (20 : Int)) = true →
      (0 : Int) ≤ (20 : Int) ∧
        (nat_lit 0 ≤ nat_lit 20 ∧ nat_lit 20 ≤ s.length) ∧
 ∃ (_y : Unit),
 ValsAre [AV.str (List.drop (nat_lit 0) (List.take (nat_lit 20) s)), AV.sl (nat_lit 1) [AV.int IntKind.u8 (32 : Int)] Own.full]
 [AV.str (List.take (nat_lit 20) s), AV.sl (nat_lit 1) [AV.int IntKind.u8 (32 : Int)] Own.full] ∧
 StIs { boxes := [], live := [] } { boxes := [], live := [] } ∧ True ∧ True) ∧
    (decide ((↑s.length : Int) > (20 : Int)) = false →
      ∃ (_y : Unit),
        ValsAre [AV.str s, AV.sl (nat_lit 1) [AV.int IntKind.u8 (32 : Int)] Own.full]
 [AV.str (List.take (nat_lit 20) s), AV.sl (nat_lit 1) [AV.int IntKind.u8 (32 : Int)] Own.full] ∧
 StIs { boxes := [], live := [] } { boxes := [], live := [] } ∧ True ∧ True)) ∧
  ∀ (_x : Unit),
    True →
      True →
        (2 : Int) ≠ (0 : Int) ∧
 (((↑(List.take (nat_lit 20) s).length : Int).tmod (2 : Int) == (1 : Int)) = true →
 (nat_lit 1 = nat_lit 1 ∨ [AV.int IntKind.u8 (32 : Int)] = []) ∧
 (nat_lit 1 + (1 : Nat)) * nat_lit 2 ≤ nat_lit 70368744177664 ∧
 (∃ (y : Nat),
 ValsAre
 [AV.str (List.take (nat_lit 20) s),
 AV.sl (nat_lit 1) [AV.int IntKind.u8 (32 : Int), AV.int IntKind.u8 (35 : Int)] (Own.tok (nat_lit 0)), AV.int IntKind.i64 (0 : Int)]
 [AV.str (List.take (nat_lit 20) s),
 AV.sl (nat_lit 1)
 (bytesL
 ((32 : UInt8) :: (35 : UInt8) :: List.filter (fun (x : UInt8) => x != (10 : UInt8)) (List.take y (List.take (nat_lit 20) s))))
 (Own.tok (nat_lit 0)),
 AV.int IntKind.i64 (↑y : Int)] ∧
 StIs { boxes := [], live := [(nat_lit 2, nat_lit 5)] }
 { boxes := [], live := [(((32 : UInt8) :: (35 : UInt8) :: List.filter (fun (x : UInt8) => x != (10 : UInt8)) (List.take y (List.take (nat_lit 20) s))).length, nat_lit 5)] } ∧
 y ≤ (List.take (20 : Nat) s).length ∧ True) ∧
 ∀ (x : Nat),
 x ≤ (List.take (20 : Nat) s).length →
 (decide ((↑x : Int) < (↑(List.take (nat_lit 20) s).length : Int)) = true →
 (0 : Int) ≤ (↑x : Int) ∧
 ∃ (c : UInt8),
 (List.take (nat_lit 20) s)[(↑x : Int).toNat]? = some c ∧
 (((↑c.toNat : Int) != (10 : Int)) = true →
 (0 : Int) ≤ (↑x : Int) ∧
 ∃ (c : UInt8),
 (List.take (nat_lit 20) s)[(↑x : Int).toNat]? = some c ∧
 (nat_lit 1 = nat_lit 1 ∨
 bytesL
 ((32 : UInt8) ::
 (35 : UInt8) ::
 List.filter (fun (x : UInt8) => x != (10 : UInt8)) (List.take x (List.take (nat_lit 20) s))) =
 []) ∧
 ((bytesL
 ((32 : UInt8) ::
 (35 : UInt8) ::
 List.filter (fun (x : UInt8) => x != (10 : UInt8))
 (List.take x (List.take (nat_lit 20) s)))).length +
 (1 : Nat)) *
 nat_lit 2 ≤
 nat_lit 70368744177664 ∧
 ((32 : UInt8) ::
 (35 : UInt8) ::
 List.filter (fun (x : UInt8) => x != (10 : UInt8)) (List.take x (List.take (nat_lit 20) s))).length =
 (bytesL
 ((32 : UInt8) ::
 (35 : UInt8) ::
 List.filter (fun (x : UInt8) => x != (10 : UInt8))
 (List.take x (List.take (nat_lit 20) s)))).length ∧
 ∃ (y : Nat),
 ValsAre
 [AV.str (List.take (nat_lit 20) s),
 AV.sl (nat_lit 1)
 (bytesL
 ((32 : UInt8) ::
 (35 : UInt8) ::
 List.filter (fun (x : UInt8) => x != (10 : UInt8))
 (List.take x (List.take (nat_lit 20) s))) ++
 [AV.int IntKind.u8 (↑c.toNat : Int)])
 (Own.tok (nat_lit 0)),
 AV.int IntKind.i64 (IntKind.i64.wrap ((↑x : Int) + (1 : Int)))]
 [AV.str (List.take (nat_lit 20) s),
 AV.sl (nat_lit 1)
 (bytesL
 ((32 : UInt8) ::
 (35 : UInt8) ::
 List.filter (fun (x : UInt8) => x != (10 : UInt8)) (List.take y (List.take (nat_lit 20) s))))
 (Own.tok (nat_lit 0)),
 AV.int IntKind.i64 (↑y : Int)] ∧
 StIs
 { boxes := [], live := [((bytesL ((32 : UInt8) :: (35 : UInt8) :: List.filter (fun (x : UInt8) => x != (10 : UInt8)) (List.take x (List.take (nat_lit 20) s)))).length + nat_lit 1, nat_lit 5)] }
 { boxes := [], live := [(((32 : UInt8) :: (35 : UInt8) :: List.filter (fun (x : UInt8) => x != (10 : UInt8)) (List.take y (List.take (nat_lit 20) s))).length, nat_lit 5)] } ∧
 y ≤ (List.take (20 : Nat) s).length ∧
 (List.take (nat_lit 20) s).length - y < (List.take (nat_lit 20) s).length - x) ∧
 (((↑c.toNat : Int) != (10 : Int)) = false →
 ∃ (y : Nat),
 ValsAre
 [AV.str (List.take (nat_lit 20) s),
 AV.sl (nat_lit 1)
 (bytesL
 ((32 : UInt8) ::
 (35 : UInt8) ::
 List.filter (fun (x : UInt8) => x != (10 : UInt8)) (List.take x (List.take (nat_lit 20) s))))
 (Own.tok (nat_lit 0)),
 AV.int IntKind.i64 (IntKind.i64.wrap ((↑x : Int) + (1 : Int)))]
 [AV.str (List.take (nat_lit 20) s),
 AV.sl (nat_lit 1)
 (bytesL
 ((32 : UInt8) ::
 (35 : UInt8) ::
 List.filter (fun (x : UInt8) => x != (10 : UInt8)) (List.take y (List.take (nat_lit 20) s))))
 (Own.tok (nat_lit 0)),
 AV.int IntKind.i64 (↑y : Int)] ∧
 StIs
 { boxes := [], live := [(((32 : UInt8) :: (35 : UInt8) :: List.filter (fun (x : UInt8) => x != (10 : UInt8)) (List.take x (List.take (nat_lit 20) s))).length, nat_lit 5)] }
 { boxes := [], live := [(((32 : UInt8) :: (35 : UInt8) :: List.filter (fun (x : UInt8) => x != (10 : UInt8)) (List.take y (List.take (nat_lit 20) s))).length, nat_lit 5)] } ∧
 y ≤ (List.take (20 : Nat) s).length ∧
 (List.take (nat_lit 20) s).length - y < (List.take (nat_lit 20) s).length - x)) ∧
 (decide ((↑x : Int) < (↑(List.take (nat_lit 20) s).length : Int)) = false →
 (nat_lit 1 = nat_lit 1 ∨
 bytesL
 ((32 : UInt8) ::
 (35 : UInt8) :: List.filter (fun (x : UInt8) => x != (10 : UInt8)) (List.take x (List.take (nat_lit 20) s))) =
 []) ∧
 ((bytesL
 ((32 : UInt8) ::
 (35 : UInt8) ::
 List.filter (fun (x : UInt8) => x != (10 : UInt8)) (List.take x (List.take (nat_lit 20) s)))).length +
 (1 : Nat)) *
 nat_lit 2 ≤
 nat_lit 70368744177664 ∧
 ((32 : UInt8) ::
 (35 : UInt8) :: List.filter (fun (x : UInt8) => x != (10 : UInt8)) (List.take x (List.take (nat_lit 20) s))).length =
 (bytesL
 ((32 : UInt8) ::
 (35 : UInt8) :: List.filter (fun (x : UInt8) => x != (10 : UInt8)) (List.take x (List.take (nat_lit 20) s)))).length ∧
 RetLax
 (AV.sl (nat_lit 1)
 (bytesL
 ((32 : UInt8) ::
 (35 : UInt8) :: List.filter (fun (x : UInt8) => x != (10 : UInt8)) (List.take x (List.take (nat_lit 20) s))) ++
 [AV.int IntKind.u8 (10 : Int)])
 (Own.tok (nat_lit 0)))
 (AV.sl (nat_lit 1) (bytesL (gapR s)) Own.no, []))) ∧
 (((↑(List.take (nat_lit 20) s).length : Int).tmod (2 : Int) == (1 : Int)) = false →
 (decide ((0 : Int) < (↑(List.take (nat_lit 20) s).length : Int)) = true →
 (0 : Int) ≤ (0 : Int) ∧
 ∃ (c : UInt8),
 (List.take (nat_lit 20) s)[nat_lit 0]? = some c ∧
 (4 : Int) ≠ (0 : Int) ∧
 (0 : Int) ≤ (↑c.toNat : Int).tmod (4 : Int) ∧
 ∃ (c_1 : UInt8),
 [(32 : UInt8), (9 : UInt8), (10 : UInt8), (13 : UInt8)][((↑c.toNat : Int).tmod (4 : Int)).toNat]? = some c_1 ∧
 (nat_lit 1 = nat_lit 1 ∨ [AV.int IntKind.u8 (32 : Int)] = []) ∧
 (nat_lit 1 + (1 : Nat)) * nat_lit 2 ≤ nat_lit 70368744177664 ∧
 (∃ (y : Nat),
 ValsAre
 [AV.str (List.take (nat_lit 20) s),
 AV.sl (nat_lit 1) [AV.int IntKind.u8 (32 : Int), AV.int IntKind.u8 (↑c_1.toNat : Int)] (Own.tok (nat_lit 0)),
 AV.int IntKind.i64 (1 : Int)]
 [AV.str (List.take (nat_lit 20) s),
 AV.sl (nat_lit 1) (bytesL ((32 : UInt8) :: List.map gapC (List.take y (List.take (nat_lit 20) s))))
 (Own.tok (nat_lit 0)),
 AV.int IntKind.i64 (↑y : Int)] ∧
 StIs { boxes := [], live := [(nat_lit 2, nat_lit 5)] }
 { boxes := [], live := [(((32 : UInt8) :: List.map gapC (List.take y (List.take (nat_lit 20) s))).length, nat_lit 5)] } ∧
 y ≤ (List.take (20 : Nat) s).length ∧ True) ∧
 ∀ (x : Nat),
 x ≤ (List.take (20 : Nat) s).length →
 (decide ((↑x : Int) < (↑(List.take (nat_lit 20) s).length : Int)) = true →
 (0 : Int) ≤ (↑x : Int) ∧
 ∃ (c : UInt8),
 (List.take (nat_lit 20) s)[(↑x : Int).toNat]? = some c ∧
 (4 : Int) ≠ (0 : Int) ∧
 (0 : Int) ≤ (↑c.toNat : Int).tmod (4 : Int) ∧
 ∃ (c_2 : UInt8),
 [(32 : UInt8), (9 : UInt8), (10 : UInt8), (13 : UInt8)][((↑c.toNat : Int).tmod (4 : Int)).toNat]? =
 some c_2 ∧
 (nat_lit 1 = nat_lit 1 ∨
 bytesL ((32 : UInt8) :: List.map gapC (List.take x (List.take (nat_lit 20) s))) = []) ∧
 ((bytesL ((32 : UInt8) :: List.map gapC (List.take x (List.take (nat_lit 20) s)))).length +
 (1 : Nat)) *
 nat_lit 2 ≤
 nat_lit 70368744177664 ∧
 ((32 : UInt8) :: List.map gapC (List.take x (List.take (nat_lit 20) s))).length =
 (bytesL ((32 : UInt8) :: List.map gapC (List.take x (List.take (nat_lit 20) s)))).length ∧
 ∃ (y : Nat),
 ValsAre
 [AV.str (List.take (nat_lit 20) s),
 AV.sl (nat_lit 1)
 (bytesL ((32 : UInt8) :: List.map gapC (List.take x (List.take (nat_lit 20) s))) ++
 [AV.int IntKind.u8 (↑c_2.toNat : Int)])
 (Own.tok (nat_lit 0)),
 AV.int IntKind.i64 (IntKind.i64.wrap ((↑x : Int) + (1 : Int)))]
 [AV.str (List.take (nat_lit 20) s),
 AV.sl (nat_lit 1)
 (bytesL ((32 : UInt8) :: List.map gapC (List.take y (List.take (nat_lit 20) s))))
 (Own.tok (nat_lit 0)),
 AV.int IntKind.i64 (↑y : Int)] ∧
 StIs
 { boxes := [], live := [((bytesL ((32 : UInt8) :: List.map gapC (List.take x (List.take (nat_lit 20) s)))).length + nat_lit 1, nat_lit 5)] }
 { boxes := [], live := [(((32 : UInt8) :: List.map gapC (List.take y (List.take (nat_lit 20) s))).length, nat_lit 5)] } ∧
 y ≤ (List.take (20 : Nat) s).length ∧
 (List.take (nat_lit 20) s).length - y < (List.take (nat_lit 20) s).length - x) ∧
 (decide ((↑x : Int) < (↑(List.take (nat_lit 20) s).length : Int)) = false →
 RetLax
 (AV.sl (nat_lit 1) (bytesL ((32 : UInt8) :: List.map gapC (List.take x (List.take (nat_lit 20) s))))
 (Own.tok (nat_lit 0)))
 (AV.sl (nat_lit 1) (bytesL (gapR s)) Own.no, []))) ∧
 (decide ((0 : Int) < (↑(List.take (nat_lit 20) s).length : Int)) = false →
 RetLax (AV.sl (nat_lit 1) [AV.int IntKind.u8 (32 : Int)] Own.full) (AV.sl (nat_lit 1) (bytesL (gapR s)) Own.no, [])))) := by kernel_rfl
end Go.Abs

namespace Go.Abs
open Go.Proofs L8
theorem p24 (m : Int) (s : List UInt8) : LaxOk PP (G8 m) XJ (tbl []) (itbl []) (a24 s) [] 24 [.str s] (bytesA (gapR s), []) := by
  constructor
  rw [w24]
  have hk : (s.take 20).length ≤ 20 := by rw [List.length_take]; omega
  simp only [retLax_iff2, valsAre_iff, stIs_iff, bytesL_length, Prod.mk.injEq, AV.int.injEq, AV.str.injEq, AV.sl.injEq, St.mk.injEq, List.cons.injEq, and_true, true_and, and_self, true_or, decide_eq_true_eq, decide_eq_false_iff_not, bne_iff_ne, bne_eq_false_iff_eq, beq_iff_eq, beq_eq_false_iff_ne, ne_eq, Int.toNat_natCast, gt_iff_lt, List.length_cons, true_implies, List.drop_zero]
  have hg : gapR s = if (s.take 20).length % 2 = 1 then 32 :: 35 :: ((s.take 20).filter (· != 10) ++ [10]) else 32 :: (s.take 20).map gapC := rfl
  have h20 : s.length ≤ 20 → s.take 20 = s := fun h => List.take_of_length_le h
  refine ⟨⟨fun h => ⟨by omega, by omega, (), trivial⟩, fun h => ⟨(), (h20 (by omega)).symm⟩⟩, fun _ => ⟨by omega, ?_⟩⟩
  rw [hg]
  clear hg h20
  generalize s.take 20 = u at *
  have hm : ((u.length : Int)).tmod 2 = ((u.length % 2 : Nat) : Int) := rfl
  rw [hm]
  have hlax : ∀ {es fs : List AV} {o : Own}, es = fs → Lax2 (.sl 1 es o) (.sl 1 fs .no) := fun h => by subst h; simp [Lax2, Lax1, Lax0]
  have hc4 : ∀ c : UInt8, [32, 9, 10, 13][(((c.toNat : Int)).tmod 4).toNat]? = some (gapC c) := fun c => by
    have e : (((c.toNat : Int)).tmod 4).toNat = c.toNat % 4 := rfl
    rw [e]
    have : c.toNat % 4 < 4 := by omega
    unfold gapC
    match c.toNat % 4, this with
    | 0, _ | 1, _ | 2, _ | 3, _ => rfl
  have hnn : ∀ c : UInt8, 0 ≤ ((c.toNat : Int)).tmod 4 := fun c => by
    have : ((c.toNat : Int)).tmod 4 = ((c.toNat % 4 : Nat) : Int) := rfl
    omega
  have hs2 : ∀ x, x < u.length → (u.take (x + 1)).map gapC = (u.take x).map gapC ++ [gapC (u.getD x 0)] := fun x hxl => by
    rw [List.take_succ_eq_append_getElem hxl, List.map_append]
    simp [hxl]
  refine ⟨fun h1 => ⟨by omega, ⟨0, ⟨by simp, rfl⟩, by simp, Nat.zero_le _⟩, fun x hx => ⟨fun hlt => ?_, fun hge => ?_⟩⟩, fun h1 => ⟨fun h0 => ?_, fun h0 => ?_⟩⟩
  · have hxl : x < u.length := by omega
    have hfl : ((u.take x).filter (· != 10)).length ≤ 20 := Nat.le_trans (List.length_filter_le _ _) (by rw [List.length_take]; omega)
    have hwr : IntKind.i64.wrap ((x : Int) + 1) = ((x + 1 : Nat) : Int) := by rw [wrap64_in (by omega) (by omega)]; rfl
    have hs : (u.take (x + 1)).filter (· != 10) = (u.take x).filter (· != 10) ++ (if u.getD x 0 = 10 then [] else [u.getD x 0]) := by
      rw [List.take_succ_eq_append_getElem hxl, List.filter_append]
      congr 1
      have e : u.getD x 0 = u[x] := by simp [hxl]
      rw [e]
      by_cases h : u[x] = 10
      · simp [h]
      · simp [h]
    have e10 : ((u.getD x 0).toNat : Int) = 10 ↔ u.getD x 0 = 10 := nat_eq_u8 (k := 10) (by omega)
    refine ⟨by omega, _, sAtOpt hxl, fun hc => ⟨by omega, _, sAtOpt hxl, by omega, x + 1, ⟨?_, hwr⟩, ?_, by omega, by omega⟩, fun hc => ⟨x + 1, ⟨?_, hwr⟩, ?_, by omega, by omega⟩⟩
    · rw [e10] at hc
      rw [hs, if_neg hc]; simp [bytesL]
    · rw [e10] at hc
      rw [hs, if_neg hc]; simp
    · rw [e10] at hc
      rw [hs, if_pos hc]; simp
    · rw [e10] at hc
      rw [hs, if_pos hc]; simp
  · have hxl : x = u.length := by omega
    rw [hxl, List.take_length]
    have hfl : (u.filter (· != 10)).length ≤ 20 := Nat.le_trans (List.length_filter_le _ _) hk
    refine ⟨by omega, ?_, ?_⟩
    · rw [if_pos (by omega)]
      exact hlax (by simp [bytesL])
    · rw [if_pos (by omega)]; rfl
  · have hxl : 0 < u.length := by omega
    refine ⟨by omega, _, sAtOpt hxl, by omega, hnn _, _, hc4 _, by omega, ⟨1, ⟨?_, rfl⟩, ?_, by omega⟩, fun x hx => ⟨fun hlt => ?_, fun hge => ?_⟩⟩
    · rw [List.take_succ_eq_append_getElem hxl]
      simp [bytesL, hxl]
    · rw [List.take_succ_eq_append_getElem hxl]; simp
    · have hxl : x < u.length := by omega
      have hwr : IntKind.i64.wrap ((x : Int) + 1) = ((x + 1 : Nat) : Int) := by rw [wrap64_in (by omega) (by omega)]; rfl
      have hml : ((u.take x).map gapC).length ≤ 20 := by rw [List.length_map, List.length_take]; omega
      refine ⟨by omega, _, sAtOpt hxl, by omega, hnn _, _, hc4 _, by omega, x + 1, ⟨?_, hwr⟩, ?_, by omega, by omega⟩
      · rw [hs2 x hxl]
        simp only [bytesL, List.map_cons, List.map_append, List.map_nil, List.cons_append]
      · rw [hs2 x hxl, List.length_append, List.length_singleton]
    · have hxl : x = u.length := by omega
      rw [hxl, List.take_length, if_neg (by omega)]
      exact ⟨hlax rfl, rfl⟩
  · have : u = [] := List.length_eq_zero_iff.1 (by omega)
    subst this
    rw [if_neg (by simp)]
    exact ⟨hlax rfl, rfl⟩
theorem o24 (m : Int) : SpecOk PP (G8 m) 24 s24 := lax_of (X := XJ) (m := []) mixed8 tbl_nil itbl_nil fun args r h => by
  unfold s24 at h
  split at h
  · injection h with h; subst h; exact ⟨a24 _, p24 m _⟩
  · cases h
end Go.Abs

namespace Go.Abs
open Go.Proofs L8
theorem tw_all_p {p : UInt8 → Bool} : ∀ {l : List UInt8}, (∀ c ∈ l, p c = true) → l.takeWhile p = l
  | [], _ => rfl
  | c :: l, h => by
    rw [List.takeWhile_cons, if_pos (h c List.mem_cons_self), tw_all_p fun x hx => h x (List.mem_cons_of_mem _ hx)]
theorem blanks_scan : ∀ (w : List UInt8), (∀ c ∈ w, blankB c = true) → ∀ r a, scan (w ++ r) a false = scan r (a + w.length) false
  | [], _, r, a => rfl
  | c :: w, h, r, a => by
    rw [List.cons_append, scan_blank (h c List.mem_cons_self), blanks_scan w (fun x hx => h x (List.mem_cons_of_mem _ hx)), List.length_cons]
    rw [show a + 1 + w.length = a + (w.length + 1) by omega]
theorem gapC_blank (c : UInt8) : blankB (gapC c) = true := by
  have : c.toNat % 4 < 4 := by omega
  unfold gapC
  match c.toNat % 4, this with
  | 0, _ | 1, _ | 2, _ | 3, _ => rfl
theorem gap_scan (g r : List UInt8) (a : Nat) (adj : Bool) : scan (gapR g ++ r) a adj = scan r (a + (gapR g).length) false := by
  unfold gapR
  split
  · generalize hv : (g.take 20).filter (· != 10) = v
    have hv10 : ∀ c ∈ v, (c != 10) = true := fun c hc => by rw [← hv] at hc; exact (List.mem_filter.1 hc).2
    have e : (32 :: 35 :: (v ++ [10])) ++ r = 32 :: (35 :: (v ++ 10 :: r)) := by simp
    have htw : (v ++ 10 :: r).takeWhile (· != 10) = v := by
      rw [tw_app (by rfl)]
      exact tw_all_p hv10
    have hp : piece (35 :: (v ++ 10 :: r)) = (0, 1 + v.length, 0) := by
      rw [piece_eq, if_neg (by decide), if_pos (by rfl), htw]
    rw [e, scan_blank (by rfl), scan_step (by simp)]
    have e1 : tkOf (35 :: (v ++ 10 :: r)) (a + 1) = [] := by simp [tkOf, hp]
    have e2 : pbOf (35 :: (v ++ 10 :: r)) (a + 1) false = [] := by simp [pbOf, hp]
    have e3 : adjOf (35 :: (v ++ 10 :: r)) = false := by simp [adjOf, hp]
    rw [e1, e2, e3, hp]
    simp only [List.nil_append]
    rw [Nat.add_comm 1 v.length, List.drop_succ_cons, drop_app (Nat.le_refl _), List.drop_length, List.nil_append, scan_blank (by rfl)]
    simp only [List.length_cons, List.length_append, List.length_nil]
    rw [show a + 1 + (v.length + 1) + 1 = a + (v.length + (0 + 1) + 1 + 1) by omega]
  · rw [List.cons_append, scan_blank (by rfl), blanks_scan _ (fun c hc => by obtain ⟨x, _, rfl⟩ := List.mem_map.1 hc; exact gapC_blank x), List.length_cons]
    rw [show ∀ k, a + 1 + k = a + (k + 1) from fun k => by omega]
theorem gap_head (g : List UInt8) : ∃ w, gapR g = 32 :: w := by
  unfold gapR; split <;> exact ⟨_, rfl⟩
/-- gaps and tokens, read -/
theorem gaps_scan (l : List TI) (gaps : List (List UInt8)) (h : (trimEnd l).all properB = true) : ∀ i, i ≤ (trimEnd l).length → ∀ r0, (scan (gapsB l gaps i ++ 32 :: r0) 0 false).1.map ktT = (l.take i).map kt ++ (scan (32 :: r0) (gapsB l gaps i).length false).1.map ktT ∧ (scan (gapsB l gaps i ++ 32 :: r0) 0 false).2 = (scan (32 :: r0) (gapsB l gaps i).length false).2
  | 0, _, r0 => ⟨rfl, rfl⟩
  | i + 1, hi, r0 => by
    obtain ⟨h', hget⟩ := trimEnd_get (l := l) (i := i) (by omega)
    have hp : properB l[i] = true := by
      rw [List.all_eq_true] at h
      rw [← hget]; exact h _ (List.getElem_mem _)
    obtain ⟨w, hw⟩ := gap_head (gaps.getD (i % gaps.length) [])
    have hgd : l.getD i ⟨0, [], 0⟩ = l[i] := by simp [h']
    have e : gapsB l gaps (i + 1) ++ 32 :: r0 = gapsB l gaps i ++ 32 :: (w ++ (srcT l[i] ++ 32 :: r0)) := by
      simp only [gapsB, hw, hgd]; simp
    have el : (gapsB l gaps (i + 1)).length = (gapsB l gaps i).length + (gapR (gaps.getD (i % gaps.length) [])).length + (srcT l[i]).length := by
      simp only [gapsB, hgd, List.length_append]
    obtain ⟨k1, k2⟩ := gaps_scan l gaps h i (by omega) (w ++ (srcT l[i] ++ 32 :: r0))
    have e2 : 32 :: (w ++ (srcT l[i] ++ 32 :: r0)) = gapR (gaps.getD (i % gaps.length) []) ++ (srcT l[i] ++ 32 :: r0) := by rw [hw]; rfl
    rw [e2, gap_scan, scan_join hp] at k1 k2
    rw [e, e2, el]
    refine ⟨?_, k2⟩
    rw [k1, List.take_succ_eq_append_getElem h', List.map_append]
    simp [ktT, kt]
theorem not_end {t : TI} (h : properB t = true) : t.kind ≠ 6 := by
  obtain ⟨hk, h1, _⟩ := properP h
  rw [← h1]
  rcases piece_kinds (srcT t) with h | h | ⟨h, _⟩ | h | h | h | ⟨t, r, hl, hd, hp⟩
  · rw [h]; decide
  · rw [h]; decide
  · rw [h]; decide
  · rw [h]; decide
  · rw [h]; decide
  · rw [h]; decide
  · rw [hp]; show (4 : Int) ≠ 6; decide
structure BlankOk (l : List TI) (s : List UInt8) : Prop where
  len : (toksI s).length = (trimEnd l).length + 1
  toks : ((toksI s).take (trimEnd l).length).map kt = (trimEnd l).map kt
  probs : probsI s = []
theorem blankOk (l : List TI) (gaps : List (List UInt8)) (gl : List UInt8) (h : (trimEnd l).all properB = true) : BlankOk l (gapsB l gaps l.length ++ gapR gl) := by
  have fin : (scan (gapsB l gaps l.length ++ gapR gl) 0 false).1.map ktT = (trimEnd l).map kt ∧ (scan (gapsB l gaps l.length ++ gapR gl) 0 false).2 = [] := by
    obtain ⟨w, hw⟩ := gap_head gl
    have hlen := trimEnd_len l
    by_cases hn : (trimEnd l).length = l.length
    · have ht : trimEnd l = l := by
        rcases Nat.eq_zero_or_pos l.length with h0 | h0
        · have : l = [] := List.length_eq_zero_iff.1 h0
          subst this; rfl
        · have e := trimEnd_last h0
          by_cases he : isEnd l[l.length - 1] = true
          · rw [if_pos he] at e
            have := congrArg List.length e
            rw [List.length_take] at this; omega
          · rw [if_neg he] at e; exact e
      obtain ⟨k1, k2⟩ := gaps_scan l gaps h l.length (by omega) w
      rw [← hw] at k1 k2
      have e : scan (gapR gl) (gapsB l gaps l.length).length false = ([], []) := by
        have := gap_scan gl [] (gapsB l gaps l.length).length false
        rw [List.append_nil] at this
        rw [this, scan_nil]
      rw [e] at k1 k2
      rw [k1, k2, List.take_length, ht]
      simp
    · have h0 : 0 < l.length := by omega
      have hl1 : (trimEnd l).length = l.length - 1 := by omega
      have e := trimEnd_last h0
      have he : isEnd l[l.length - 1] = true := by
        cases hx : isEnd l[l.length - 1] with
        | true => rfl
        | false =>
          rw [hx] at e
          exact absurd (congrArg List.length e) (by simpa using hn)
      rw [if_pos he] at e
      obtain ⟨n, hln⟩ : ∃ n, l.length = n + 1 := ⟨l.length - 1, by omega⟩
      have hgd : l.getD n ⟨0, [], 0⟩ = l[l.length - 1] := by
        have : n = l.length - 1 := by omega
        subst this
        simp [List.getElem?_eq_getElem (show l.length - 1 < l.length by omega)]
      have hs : srcT l[l.length - 1] = [] := by
        simp only [isEnd, Bool.and_eq_true, decide_eq_true_eq] at he
        simp [srcT, he.1, he.2]
      obtain ⟨w2, hw2⟩ := gap_head (gaps.getD (n % gaps.length) [])
      have eS : gapsB l gaps l.length ++ gapR gl = gapsB l gaps n ++ 32 :: (w2 ++ gapR gl) := by
        rw [hln]
        simp only [gapsB, hgd, hs, hw2]; simp
      obtain ⟨k1, k2⟩ := gaps_scan l gaps h n (by omega) (w2 ++ gapR gl)
      have e2 : 32 :: (w2 ++ gapR gl) = gapR (gaps.getD (n % gaps.length) []) ++ gapR gl := by rw [hw2]; rfl
      have e3 : scan (gapR (gaps.getD (n % gaps.length) []) ++ gapR gl) (gapsB l gaps n).length false = ([], []) := by
        rw [gap_scan]
        have := gap_scan gl [] ((gapsB l gaps n).length + (gapR (gaps.getD (n % gaps.length) [])).length) false
        rw [List.append_nil] at this
        rw [this, scan_nil]
      rw [eS]
      rw [e2, e3] at k1 k2
      rw [e2, k1, k2, e, show l.length - 1 = n by omega]
      simp
  have fl := congrArg List.length fin.1
  simp only [List.length_map] at fl
  refine ⟨?_, ?_, ?_⟩
  · simp only [toksI, toksL, List.length_map, List.length_append, List.length_cons, List.length_nil, fl]
  · have e : toksI (gapsB l gaps l.length ++ gapR gl) = (scan (gapsB l gaps l.length ++ gapR gl) 0 false).1.map toTI ++ [toTI ⟨6, [], (gapsB l gaps l.length ++ gapR gl).length⟩] := by simp [toksI, toksL]
    rw [e, List.take_append_of_le_length (by rw [List.length_map, fl]; exact Nat.le_refl _), List.take_of_length_le (by rw [List.length_map, fl]; exact Nat.le_refl _), kt_to, fin.1]
  · simp [probsI, probsL, fin.2]
theorem str_at {P : Program} {t : TypeId} (ha : aggA P t = some false) {s : Nat} (hs : sizeA P t = some s) {l : List (List UInt8)} {i : Nat} (h : i < l.length) : takeAt P t (l.map AV.str) i 0 = some (.str (l.getD i [])) := by
  have he : (l.map AV.str)[i]? = some (.str (l.getD i [])) := by simp [h]
  simp only [takeAt, he, ha, hs, takeA, AV.cells]
  rfl
theorem s24_ok (s : List UInt8) : s24 [.str s] = some (bytesA (gapR s), []) := rfl
theorem gapR_len (s : List UInt8) : (gapR s).length ≤ 23 := by
  have h : (s.take 20).length ≤ 20 := by rw [List.length_take]; omega
  unfold gapR
  split
  · have := List.length_filter_le (fun x : UInt8 => x != 10) (s.take 20)
    simp only [List.length_cons, List.length_append, List.length_nil]; omega
  · simp only [List.length_cons, List.length_map]; omega
theorem gapsB_len {l : List TI} (h : smallB l = true) (gaps : List (List UInt8)) : ∀ i, i ≤ l.length → (gapsB l gaps i).length ≤ i * 330
  | 0, _ => by simp [gapsB]
  | i + 1, hi => by
    have ih := gapsB_len h gaps i (by omega)
    have h1 := gapR_len (gaps.getD (i % gaps.length) [])
    have h2 := srcT_len (l.getD i ⟨0, [], 0⟩)
    have h3 : (l.getD i ⟨0, [], 0⟩).text.length ≤ 300 := by
      simp only [smallB, Bool.and_eq_true, List.all_eq_true, decide_eq_true_eq] at h
      have e : l.getD i ⟨0, [], 0⟩ = l[i] := by simp [show i < l.length by omega]
      rw [e]
      exact h.1 _ (List.getElem_mem _)
    simp only [gapsB, List.length_append]; omega
theorem p9 (m : Int) (l : List TI) (gaps : List (List UInt8)) (hl : l.length ≤ 9223372036854775807) (hg : gaps.length ≤ 9223372036854775807) : PureOk PP (G8 m) XJ (tbl [(11, s11), (12, s12), (14, s14), (20, s20), (22, s21), (23, s23), (24, s24)]) (itbl []) (a9 l gaps) [] 9 [.sl 3 (tksL l) .no, .sl 1 (gaps.map AV.str) .no] (.bool true, []) := by
  constructor
  rw [w9]
  have t11 : tbl [(11, s11), (12, s12), (14, s14), (20, s20), (22, s21), (23, s23), (24, s24)] 11 [] = some (.bool true, []) := rfl
  have t12 : ∀ x, tbl [(11, s11), (12, s12), (14, s14), (20, s20), (22, s21), (23, s23), (24, s24)] 12 x = s12 x := fun _ => rfl
  have t14 : ∀ x, tbl [(11, s11), (12, s12), (14, s14), (20, s20), (22, s21), (23, s23), (24, s24)] 14 x = s14 x := fun _ => rfl
  have t20 : ∀ x, tbl [(11, s11), (12, s12), (14, s14), (20, s20), (22, s21), (23, s23), (24, s24)] 20 x = s20 x := fun _ => rfl
  have t22 : ∀ x, tbl [(11, s11), (12, s12), (14, s14), (20, s20), (22, s21), (23, s23), (24, s24)] 22 x = s21 x := fun _ => rfl
  have t23 : ∀ x, tbl [(11, s11), (12, s12), (14, s14), (20, s20), (22, s21), (23, s23), (24, s24)] 23 x = s23 x := fun _ => rfl
  have t24 : ∀ x, tbl [(11, s11), (12, s12), (14, s14), (20, s20), (22, s21), (23, s23), (24, s24)] 24 x = s24 x := fun _ => rfl
  rw [t11]
  simp only [t12, t14, t20, t22, t23, t24, callIs_iff, valsAre_iff, stIs_iff, retIs_iff, map_bytes, List.length_map, Option.some.injEq, Prod.mk.injEq, AV.int.injEq, AV.bool.injEq, AV.sl.injEq, St.mk.injEq, List.cons.injEq, and_true, true_and, true_or, decide_eq_true_eq, decide_eq_false_iff_not, bne_iff_ne, bne_eq_false_iff_eq, beq_iff_eq, beq_eq_false_iff_ne, ne_eq, Int.toNat_natCast, gt_iff_lt, List.length_append, List.drop_zero]
  refine ⟨true, rfl, fun _ => ⟨_, s20_ok hl, fun hsm => ⟨fun _ => trivial, fun hg0 => ?_⟩, fun _ => trivial⟩, fun h => nomatch h⟩
  obtain ⟨b, n, hj, hcase⟩ := jbR_form l
  have h21 := s21_ok (smallB_tks hsm)
  rw [hj] at h21
  have l60 : l.length ≤ 60 := by simp only [smallB, Bool.and_eq_true, decide_eq_true_eq] at hsm; exact hsm.2
  refine ⟨_, _, h21, fun _ => trivial, fun hn => ?_⟩
  obtain ⟨hall⟩ : (trimEnd l).all properB = true ∧ True := by
    rcases hcase with ⟨_, h, _⟩ | ⟨h, _⟩
    · exact ⟨h, trivial⟩
    · exact absurd hn h
  have hgp : 0 < gaps.length := by omega
  have hmod : ∀ x : Nat, ((x : Int)).tmod (gaps.length : Int) = ((x % gaps.length : Nat) : Int) := fun x => rfl
  have hmlt : ∀ x : Nat, x % gaps.length < gaps.length := fun x => Nat.mod_lt _ hgp
  have hstr : ∀ x : Nat, takeAt PP 9 (gaps.map AV.str) (x % gaps.length) 0 = some (.str (gaps.getD (x % gaps.length) [])) := fun x => str_at agg9 size9 (hmlt x)
  refine ⟨⟨0, ⟨rfl, rfl⟩, rfl, Nat.zero_le _⟩, fun x hx => ⟨fun hlt => ?_, fun hge => ?_⟩⟩
  · have hxl : x < l.length := by omega
    have hgb := gapsB_len hsm gaps x hx
    have hgr := gapR_len (gaps.getD (x % gaps.length) [])
    have htx : l[x].text.length ≤ 300 := by
      have h := hsm
      simp only [smallB, Bool.and_eq_true, List.all_eq_true, decide_eq_true_eq] at h
      exact h.1 _ (List.getElem_mem _)
    have hsl := srcT_len l[x]
    have hgd : l.getD x ⟨0, [], 0⟩ = l[x] := by simp [hxl]
    rw [hmod, Int.toNat_natCast]
    have hm := hmlt x
    have hwr : IntKind.i64.wrap ((x : Int) + 1) = ((x + 1 : Nat) : Int) := by rw [wrap64_in (by omega) (by omega)]; rfl
    refine ⟨hg0, by omega, _, hstr x, _, s24_ok _, by rw [bytesL_length]; omega, by omega, _, _, _, tok38 agg38 size38 hxl, _, s23_ok (t := l[x]) (by omega), by rw [bytesL_length]; omega, x + 1, ⟨?_, hwr⟩, ?_, by omega, by omega⟩
    · simp only [gapsB, hgd, bytes_join]
    · simp only [gapsB, hgd, List.length_append, bytesL_length]
  · have hxe : x = l.length := by omega
    subst hxe
    have hgb := gapsB_len hsm gaps l.length (Nat.le_refl _)
    have hgr := gapR_len (gaps.getD (l.length % gaps.length) [])
    rw [hmod, Int.toNat_natCast]
    have hm := hmlt l.length
    refine ⟨hg0, by omega, _, hstr l.length, _, s24_ok _, by rw [bytesL_length]; omega, fun _ => trivial, fun hle => ?_⟩
    rw [bytesL_length] at hle
    obtain ⟨hlenT, q1, q2⟩ := blankOk l gaps (gaps.getD (l.length % gaps.length) []) hall
    rw [bytes_join]
    have hSl : (gapsB l gaps l.length ++ gapR (gaps.getD (l.length % gaps.length) [])).length ≤ 16384 := by rw [List.length_append]; omega
    generalize gapsB l gaps l.length ++ gapR (gaps.getD (l.length % gaps.length) []) = S at *
    have htl := trimEnd_len l
    have hTI := toksI_len S
    have wn : ∀ n : Nat, n ≤ 100 → IntKind.i64.wrap ((n : Int) + 1) = ((n + 1 : Nat) : Int) := fun n h => by rw [wrap64_in (by omega) (by omega)]; rfl
    have cmp : ∀ n, n = (trimEnd l).length → (l.take n).map kt = (trimEnd l).map kt → ∃ b, s14 [.sl 3 ((tksL l).take n) .no, .sl 3 ((tksL (toksI S)).take n) .no, .bool false, .int .i64 0] = some (.bool b, []) ∧ (b = true → True) ∧ (b = false → false = true) := fun n hn hk => by
      have e1 : (tksL l).take n = tksL (l.take n) := by simp [tksL]
      have e2 : (tksL (toksI S)).take n = tksL ((toksI S).take n) := by simp [tksL]
      rw [e1, e2]
      refine ⟨_, s14_ok (by rw [List.length_take]; omega) (by rw [List.length_take]; omega), fun _ => trivial, fun h => ?_⟩
      rw [hn] at h hk
      rw [same_kt (hk.trans q1.symm)] at h
      cases h
    refine ⟨_, _, _, s12_ok hSl, fun h0 => ?_, fun h0 => ?_⟩
    · have hk : l.length - 1 < l.length := by omega
      have hw : IntKind.i64.wrap ((l.length : Int) - 1) = ((l.length - 1 : Nat) : Int) := by rw [wrap64_in (by omega) (by omega)]; omega
      rw [hw, Int.toNat_natCast]
      obtain ⟨k1, _, _⟩ := tk_at agg3 size3 hk
      have e := trimEnd_last (l := l) (by omega)
      refine ⟨by omega, _, k1, fun c1 => ⟨fun _ => ⟨fun _ => ⟨fun _ => ⟨by omega, by omega, by omega, by rw [tksL_length, hlenT]; omega, ?_⟩, fun h => ?_⟩, fun h => ?_⟩, fun h => absurd rfl h⟩, fun c1 => ⟨fun _ => ⟨fun _ => ⟨fun _ => ⟨by omega, by omega, by omega, by rw [tksL_length, hlenT]; omega, ?_⟩, fun h => ?_⟩, fun h => ?_⟩, fun h => absurd rfl h⟩⟩
      · have hEnd : isEnd l[l.length - 1] = true := by
          cases hx : isEnd l[l.length - 1] with
          | true => rfl
          | false =>
            rw [hx] at e
            have e' : trimEnd l = l := e
            rw [e', List.all_eq_true] at hall
            exact absurd c1 (not_end (hall _ (List.getElem_mem hk)))
        rw [if_pos hEnd] at e
        exact cmp (l.length - 1) (by rw [e, List.length_take]; omega) (by rw [e])
      · have hEnd : isEnd l[l.length - 1] = true := by
          cases hx : isEnd l[l.length - 1] with
          | true => rfl
          | false =>
            rw [hx] at e
            have e' : trimEnd l = l := e
            rw [e', List.all_eq_true] at hall
            exact absurd c1 (not_end (hall _ (List.getElem_mem hk)))
        rw [if_pos hEnd] at e
        have e2 := congrArg List.length e
        rw [List.length_take] at e2
        rw [tksL_length, hlenT, wn _ (by omega)] at h
        exact absurd (by omega) h
      · rw [q2] at h; simp at h
      · have hEnd : isEnd l[l.length - 1] = false := by
          rw [Bool.eq_false_iff]; intro hx
          simp only [isEnd, Bool.and_eq_true, decide_eq_true_eq] at hx
          exact c1 hx.1
        rw [hEnd] at e
        have e' : trimEnd l = l := e
        exact cmp l.length (by rw [e']) (by rw [e', List.take_length])
      · have hEnd : isEnd l[l.length - 1] = false := by
          rw [Bool.eq_false_iff]; intro hx
          simp only [isEnd, Bool.and_eq_true, decide_eq_true_eq] at hx
          exact c1 hx.1
        rw [hEnd] at e
        have e' : trimEnd l = l := e
        rw [e'] at hlenT
        rw [tksL_length, hlenT, wn _ (by omega)] at h
        exact absurd (by omega) h
      · rw [q2] at h; simp at h
    · have : l = [] := List.length_eq_zero_iff.1 (by omega)
      subst this
      refine ⟨fun _ => ⟨fun _ => ⟨fun _ => ⟨by omega, by simp, by omega, by simp, ?_⟩, fun h => ?_⟩, fun h => ?_⟩, fun h => absurd rfl h⟩
      · exact cmp 0 rfl rfl
      · rw [tksL_length, hlenT] at h
        exact absurd (show (((trimEnd ([] : List TI)).length + 1 : Nat) : Int) = IntKind.i64.wrap (((0 : Nat) : Int) + 1) from (wn 0 (by omega)).symm) h
      · rw [q2] at h; simp at h
def unStr : AV → Option (List UInt8)
  | .str s => some s
  | _ => none
theorem unStr_some {x : AV} {t : List UInt8} (h : unStr x = some t) : x = .str t := by
  unfold unStr at h
  split at h
  · injection h with h; subst h; rfl
  · cases h
theorem unStrs (l : List (List UInt8)) : unL unStr (l.map AV.str) = some l := unL_mk (g := AV.str) (fun _ => rfl) l
def s9 : Spec := fun args => match args with
  | [.sl sz es .no, .sl sz' fs .no] => if sz = 3 ∧ sz' = 1 then match unL unTI es, unL unStr fs with
    | some l, some g => if l.length ≤ 9223372036854775807 ∧ g.length ≤ 9223372036854775807 then some (.bool true, []) else none
    | _, _ => none else none
  | _ => none
theorem o9 (m : Int) : SpecOk PP (G8 m) 9 s9 := spec_of (X := XJ) (m := []) mixed8 (tbl_cons (o11 m) (tbl_cons (o12' m) (tbl_cons (o14 m) (tbl_cons (o20 m) (tbl_cons (o22 m) (tbl_cons (o23 m) (tbl_cons (o24 m) tbl_nil))))))) itbl_nil fun args r h => by
  unfold s9 at h
  split at h
  · split at h
    · rename_i hsz
      obtain ⟨rfl, rfl⟩ := hsz
      split at h
      · rename_i l g h1 h2
        obtain rfl := unL_some (g := tiA) (fun _ _ => unTI_some) h1
        obtain rfl := unL_some (g := AV.str) (fun _ _ => unStr_some) h2
        split at h
        · rename_i hc
          injection h with h; subst h; exact ⟨a9 l g, p9 m l g hc.1 hc.2⟩
        · cases h
      · cases h
    · cases h
  · cases h
theorem s9_true {l : List TI} {g : List (List UInt8)} (h1 : l.length ≤ 9223372036854775807) (h2 : g.length ≤ 9223372036854775807) : s9 [.sl 3 (tksL l) .no, .sl 1 (g.map AV.str) .no] = some (.bool true, []) := by
  simp only [s9, and_self, if_true, unTIs, unStrs, if_pos (And.intro h1 h2)]
end Go.Abs

namespace Go.Abs
open Go.Proofs L8
theorem w10 (m : Int) (s src : List UInt8) (s11 : Spec) : (pureW PP (G8 m) XJ (tbl [(11, s11), (12, s12), (16, s16), (18, s18), (25, s25)]) (itbl []) (a10 s src) [] 10 [.str s, bytesA src] (.bool true, [])) =
(∃ (b : Bool),
  CallIs (tbl [(nat_lit 11, s11), (nat_lit 12, s12), (nat_lit 16, s16), (nat_lit 18, s18), (nat_lit 25, s25)] (nat_lit 11) []) (AV.bool b) [] ∧
    (b = true →
        (decide ((↑s.length : Int) > (200 : Int)) = true → RetIs (AV.bool true) [] (AV.bool true, [])) ∧
 (decide ((↑s.length : Int) > (200 : Int)) = false →
 (decide ((↑(bytesL src).length : Int) > (2000 : Int)) = true → RetIs (AV.bool true) [] (AV.bool true, [])) ∧
 (decide ((↑(bytesL src).length : Int) > (2000 : Int)) = false →
 (∃ (b : Bool),
 CallIs (tbl [(nat_lit 11, s11), (nat_lit 12, s12), (nat_lit 16, s16), (nat_lit 18, s18), (nat_lit 25, s25)] (nat_lit 18) [AV.str s])
 (AV.bool b) [] ∧
 (b = true →
 ∃ (b : Bool),
 CallIs (tbl [(nat_lit 11, s11), (nat_lit 12, s12), (nat_lit 16, s16), (nat_lit 18, s18), (nat_lit 25, s25)] (nat_lit 16) [AV.str s])
 (AV.bool b) [] ∧
 (b = true → RetIs (AV.bool false) [] (AV.bool true, [])) ∧
 (b = false →
 ∃ (_y : Unit),
 ValsAre [AV.str s, AV.sl (nat_lit 1) (bytesL src) Own.no] [AV.str s, AV.sl (nat_lit 1) (bytesL src) Own.no] ∧
 StIs { boxes := [], live := [] } { boxes := [], live := [] } ∧ True ∧ True)) ∧
 (b = false →
 ∃ (_y : Unit),
 ValsAre [AV.str s, AV.sl (nat_lit 1) (bytesL src) Own.no] [AV.str s, AV.sl (nat_lit 1) (bytesL src) Own.no] ∧
 StIs { boxes := [], live := [] } { boxes := [], live := [] } ∧ True ∧ True)) ∧
 ∀ (_x : Unit),
 True →
 True →
 s.length ≤ nat_lit 70368744177664 ∧
 ∃ (es : List AV),
 ∃ (es_1 : List AV),
 ∃ (n : Int),
 CallIs
 (tbl [(nat_lit 11, s11), (nat_lit 12, s12), (nat_lit 16, s16), (nat_lit 18, s18), (nat_lit 25, s25)] (nat_lit 12)
 [AV.sl (nat_lit 1) (List.map (fun (c : UInt8) => AV.int IntKind.u8 (↑c.toNat : Int)) s) Own.no])
 (AV.tup [AV.sl (nat_lit 3) es Own.no, AV.sl (nat_lit 2) es_1 Own.no, AV.int IntKind.i64 n]) [] ∧
 (((n == (0 : Int)) = true →
 (((↑es_1.length : Int) == (0 : Int)) = true →
 (((↑es.length : Int) == (2 : Int)) = true →
 ((0 : Int) ≤ (0 : Int) ∧ (0 : Int) < (↑es.length : Int)) ∧
 ∃ (n : Int),
 ∃ (s_1 : List UInt8),
 ∃ (n_1 : Int),
 takeAt PP (nat_lit 38) es (nat_lit 0) (nat_lit 0) =
 some (AV.agg [AV.int IntKind.i64 n, AV.str s_1, AV.int IntKind.i64 n_1]) ∧
 ∃ (n_2 : Int),
 ∃ (s_2 : List UInt8),
 ∃ (n_3 : Int),
 CallIs
 (some
 (AV.agg
 [AV.int IntKind.i64 ({ kind := (1 : Int), text := s, at_ := (0 : Int) } : TI).kind,
 AV.str ({ kind := (1 : Int), text := s, at_ := (0 : Int) } : TI).text,
 AV.int IntKind.i64 ({ kind := (1 : Int), text := s, at_ := (0 : Int) } : TI).at_],
 []))
 (AV.agg [AV.int IntKind.i64 n_2, AV.str s_2, AV.int IntKind.i64 n_3]) [] ∧
 ((n == n_2 && (s_1 == s_2 && (n_1 == n_3 && true))) = true →
 ∃ (y : Bool),
 ValsAre [AV.str s, AV.sl (nat_lit 1) (bytesL src) Own.no, AV.bool true]
 [AV.str s, AV.sl (nat_lit 1) (bytesL src) Own.no, AV.bool y] ∧
 StIs { boxes := [], live := [] } { boxes := [], live := [] } ∧ y = wordTok s ∧ True) ∧
 ((n == n_2 && (s_1 == s_2 && (n_1 == n_3 && true))) = false →
 ∃ (y : Bool),
 ValsAre [AV.str s, AV.sl (nat_lit 1) (bytesL src) Own.no, AV.bool false]
 [AV.str s, AV.sl (nat_lit 1) (bytesL src) Own.no, AV.bool y] ∧
 StIs { boxes := [], live := [] } { boxes := [], live := [] } ∧
 y = wordTok s ∧ True)) ∧
 (((↑es.length : Int) == (2 : Int)) = false →
 ∃ (y : Bool),
 ValsAre [AV.str s, AV.sl (nat_lit 1) (bytesL src) Own.no, AV.bool false]
 [AV.str s, AV.sl (nat_lit 1) (bytesL src) Own.no, AV.bool y] ∧
 StIs { boxes := [], live := [] } { boxes := [], live := [] } ∧ y = wordTok s ∧ True)) ∧
 (((↑es_1.length : Int) == (0 : Int)) = false →
 ∃ (y : Bool),
 ValsAre [AV.str s, AV.sl (nat_lit 1) (bytesL src) Own.no, AV.bool false]
 [AV.str s, AV.sl (nat_lit 1) (bytesL src) Own.no, AV.bool y] ∧
 StIs { boxes := [], live := [] } { boxes := [], live := [] } ∧ y = wordTok s ∧ True)) ∧
 ((n == (0 : Int)) = false →
 ∃ (y : Bool),
 ValsAre [AV.str s, AV.sl (nat_lit 1) (bytesL src) Own.no, AV.bool false]
 [AV.str s, AV.sl (nat_lit 1) (bytesL src) Own.no, AV.bool y] ∧
 StIs { boxes := [], live := [] } { boxes := [], live := [] } ∧ y = wordTok s ∧ True)) ∧
 ∀ (x : Bool),
 x = wordTok s →
 True →
 (x = true →
 (∃ (b : Bool),
 CallIs
 (tbl [(nat_lit 11, s11), (nat_lit 12, s12), (nat_lit 16, s16), (nat_lit 18, s18), (nat_lit 25, s25)]
 (nat_lit 18) [AV.str s])
 (AV.bool b) [] ∧
 (b = true →
 (false = true → RetIs (AV.bool false) [] (AV.bool true, [])) ∧
 (false = false →
 ∃ (_y : Unit),
 ValsAre [AV.sl (nat_lit 1) (bytesL src) Own.no] [AV.sl (nat_lit 1) (bytesL src) Own.no] ∧
 StIs { boxes := [], live := [] } { boxes := [], live := [] } ∧ True ∧ True)) ∧
 (b = false →
 ∃ (b : Bool),
 CallIs
 (tbl
 [(nat_lit 11, s11), (nat_lit 12, s12), (nat_lit 16, s16), (nat_lit 18, s18), (nat_lit 25, s25)]
 (nat_lit 16) [AV.str s])
 (AV.bool b) [] ∧
 (b = true →
 (false = true → RetIs (AV.bool false) [] (AV.bool true, [])) ∧
 (false = false →
 ∃ (_y : Unit),
 ValsAre [AV.sl (nat_lit 1) (bytesL src) Own.no] [AV.sl (nat_lit 1) (bytesL src) Own.no] ∧
 StIs { boxes := [], live := [] } { boxes := [], live := [] } ∧ True ∧ True)) ∧
 (b = false →
 (true = true → RetIs (AV.bool false) [] (AV.bool true, [])) ∧
 (true = false →
 ∃ (_y : Unit),
 ValsAre [AV.sl (nat_lit 1) (bytesL src) Own.no] [AV.sl (nat_lit 1) (bytesL src) Own.no] ∧
 StIs { boxes := [], live := [] } { boxes := [], live := [] } ∧ True ∧ True)))) ∧
 ∀ (_x : Unit),
 True →
 True →
 ∃ (es : List AV),
 ∃ (es_2 : List AV),
 ∃ (n : Int),
 CallIs
 (tbl
 [(nat_lit 11, s11), (nat_lit 12, s12), (nat_lit 16, s16), (nat_lit 18, s18),
 (nat_lit 25, s25)]
 (nat_lit 12) [AV.sl (nat_lit 1) (bytesL src) Own.no])
 (AV.tup [AV.sl (nat_lit 3) es Own.no, AV.sl (nat_lit 2) es_2 Own.no, AV.int IntKind.i64 n]) [] ∧
 (∃ (y : Nat),
 ValsAre [AV.sl (nat_lit 3) es Own.no, AV.int IntKind.i64 n, AV.int IntKind.i64 (0 : Int)]
 [AV.sl (nat_lit 3) (tksL (toksI src)) Own.no, AV.int IntKind.i64 (0 : Int),
 AV.int IntKind.i64 (↑y : Int)] ∧
 StIs { boxes := [], live := [] } { boxes := [], live := [] } ∧
 y ≤ (toksI src).length ∧ True) ∧
 ∀ (x : Nat),
 x ≤ (toksI src).length →
 (decide ((↑x : Int) < (↑(tksL (toksI src)).length : Int)) = true →
 ((0 : Int) ≤ (↑x : Int) ∧ (↑x : Int) < (↑(tksL (toksI src)).length : Int)) ∧
 ∃ (n : Int),
 takeAt PP (nat_lit 3) (tksL (toksI src)) (↑x : Int).toNat (nat_lit 0) =
 some (AV.int IntKind.i64 n) ∧
 ((n == (1 : Int)) = true →
 ((0 : Int) ≤ (↑x : Int) ∧ (↑x : Int) < (↑(tksL (toksI src)).length : Int)) ∧
 ∃ (s : List UInt8),
 takeAt PP (nat_lit 9) (tksL (toksI src)) (↑x : Int).toNat (nat_lit 1) =
 some (AV.str s) ∧
 ∃ (b : Bool),
 CallIs
 (tbl
 [(nat_lit 11, s11), (nat_lit 12, s12), (nat_lit 16, s16),
 (nat_lit 18, s18), (nat_lit 25, s25)]
 (nat_lit 18) [AV.str s])
 (AV.bool b) [] ∧
 (b = true →
 ∃ (y : Nat),
 ValsAre
 [AV.sl (nat_lit 3) (tksL (toksI src)) Own.no,
 AV.int IntKind.i64 (0 : Int),
 AV.int IntKind.i64
 (IntKind.i64.wrap ((↑x : Int) + (1 : Int)))]
 [AV.sl (nat_lit 3) (tksL (toksI src)) Own.no,
 AV.int IntKind.i64 (0 : Int),
 AV.int IntKind.i64 (↑y : Int)] ∧
 StIs { boxes := [], live := [] }
 { boxes := [], live := [] } ∧
 y ≤ (toksI src).length ∧
 (toksI src).length - y < (toksI src).length - x) ∧
 (b = false →
 ((0 : Int) ≤ (↑x : Int) ∧
 (↑x : Int) < (↑(tksL (toksI src)).length : Int)) ∧
 ∃ (s : List UInt8),
 takeAt PP (nat_lit 9) (tksL (toksI src)) (↑x : Int).toNat
 (nat_lit 1) =
 some (AV.str s) ∧
 ∃ (b : Bool),
 CallIs
 (tbl
 [(nat_lit 11, s11), (nat_lit 12, s12),
 (nat_lit 16, s16), (nat_lit 18, s18),
 (nat_lit 25, s25)]
 (nat_lit 16) [AV.str s])
 (AV.bool b) [] ∧
 (b = true →
 ∃ (y : Nat),
 ValsAre
 [AV.sl (nat_lit 3) (tksL (toksI src))
 Own.no,
 AV.int IntKind.i64 (0 : Int),
 AV.int IntKind.i64
 (IntKind.i64.wrap
 ((↑x : Int) + (1 : Int)))]
 [AV.sl (nat_lit 3) (tksL (toksI src))
 Own.no,
 AV.int IntKind.i64 (0 : Int),
 AV.int IntKind.i64 (↑y : Int)] ∧
 StIs { boxes := [], live := [] }
 { boxes := [], live := [] } ∧
 y ≤ (toksI src).length ∧
 (toksI src).length - y <
 (toksI src).length - x) ∧
 (b = false →
 RetIs (AV.bool false) [] (AV.bool true, [])))) ∧
 ((n == (1 : Int)) = false →
 ∃ (y : Nat),
 ValsAre
 [AV.sl (nat_lit 3) (tksL (toksI src)) Own.no,
 AV.int IntKind.i64 (0 : Int),
 AV.int IntKind.i64 (IntKind.i64.wrap ((↑x : Int) + (1 : Int)))]
 [AV.sl (nat_lit 3) (tksL (toksI src)) Own.no,
 AV.int IntKind.i64 (0 : Int), AV.int IntKind.i64 (↑y : Int)] ∧
 StIs { boxes := [], live := [] } { boxes := [], live := [] } ∧
 y ≤ (toksI src).length ∧
 (toksI src).length - y < (toksI src).length - x)) ∧
 (decide ((↑x : Int) < (↑(tksL (toksI src)).length : Int)) = false →
 (true = true → RetIs (AV.bool true) [] (AV.bool true, [])) ∧
 (true = false → RetIs (AV.bool false) [] (AV.bool true, [])))) ∧
 (x = false →
 (∃ (b : Bool),
 CallIs
 (tbl [(nat_lit 11, s11), (nat_lit 12, s12), (nat_lit 16, s16), (nat_lit 18, s18), (nat_lit 25, s25)]
 (nat_lit 18) [AV.str s])
 (AV.bool b) [] ∧
 (b = true →
 (true = true → RetIs (AV.bool false) [] (AV.bool true, [])) ∧
 (true = false →
 ∃ (_y : Unit),
 ValsAre [AV.sl (nat_lit 1) (bytesL src) Own.no] [AV.sl (nat_lit 1) (bytesL src) Own.no] ∧
 StIs { boxes := [], live := [] } { boxes := [], live := [] } ∧ True ∧ True)) ∧
 (b = false →
 ∃ (b : Bool),
 CallIs
 (tbl
 [(nat_lit 11, s11), (nat_lit 12, s12), (nat_lit 16, s16), (nat_lit 18, s18), (nat_lit 25, s25)]
 (nat_lit 16) [AV.str s])
 (AV.bool b) [] ∧
 (b = true →
 (true = true → RetIs (AV.bool false) [] (AV.bool true, [])) ∧
 (true = false →
 ∃ (_y : Unit),
 ValsAre [AV.sl (nat_lit 1) (bytesL src) Own.no] [AV.sl (nat_lit 1) (bytesL src) Own.no] ∧
 StIs { boxes := [], live := [] } { boxes := [], live := [] } ∧ True ∧ True)) ∧
 (b = false →
 (false = true → RetIs (AV.bool false) [] (AV.bool true, [])) ∧
 (false = false →
 ∃ (_y : Unit),
 ValsAre [AV.sl (nat_lit 1) (bytesL src) Own.no] [AV.sl (nat_lit 1) (bytesL src) Own.no] ∧
 StIs { boxes := [], live := [] } { boxes := [], live := [] } ∧ True ∧ True)))) ∧
 ∀ (_x : Unit),
 True →
 True →
 ∃ (es : List AV),
 ∃ (es_2 : List AV),
 ∃ (n : Int),
 CallIs
 (tbl
 [(nat_lit 11, s11), (nat_lit 12, s12), (nat_lit 16, s16), (nat_lit 18, s18),
 (nat_lit 25, s25)]
 (nat_lit 12) [AV.sl (nat_lit 1) (bytesL src) Own.no])
 (AV.tup [AV.sl (nat_lit 3) es Own.no, AV.sl (nat_lit 2) es_2 Own.no, AV.int IntKind.i64 n]) [] ∧
 (∃ (y : Nat),
 ValsAre [AV.sl (nat_lit 3) es Own.no, AV.int IntKind.i64 n, AV.int IntKind.i64 (0 : Int)]
 [AV.sl (nat_lit 3) (tksL (toksI src)) Own.no, AV.int IntKind.i64 (0 : Int),
 AV.int IntKind.i64 (↑y : Int)] ∧
 StIs { boxes := [], live := [] } { boxes := [], live := [] } ∧
 y ≤ (toksI src).length ∧ True) ∧
 ∀ (x : Nat),
 x ≤ (toksI src).length →
 (decide ((↑x : Int) < (↑(tksL (toksI src)).length : Int)) = true →
 ((0 : Int) ≤ (↑x : Int) ∧ (↑x : Int) < (↑(tksL (toksI src)).length : Int)) ∧
 ∃ (n : Int),
 takeAt PP (nat_lit 3) (tksL (toksI src)) (↑x : Int).toNat (nat_lit 0) =
 some (AV.int IntKind.i64 n) ∧
 ((n == (1 : Int)) = true →
 ((0 : Int) ≤ (↑x : Int) ∧ (↑x : Int) < (↑(tksL (toksI src)).length : Int)) ∧
 ∃ (s : List UInt8),
 takeAt PP (nat_lit 9) (tksL (toksI src)) (↑x : Int).toNat (nat_lit 1) =
 some (AV.str s) ∧
 ∃ (b : Bool),
 CallIs
 (tbl
 [(nat_lit 11, s11), (nat_lit 12, s12), (nat_lit 16, s16),
 (nat_lit 18, s18), (nat_lit 25, s25)]
 (nat_lit 18) [AV.str s])
 (AV.bool b) [] ∧
 (b = true →
 ∃ (y : Nat),
 ValsAre
 [AV.sl (nat_lit 3) (tksL (toksI src)) Own.no,
 AV.int IntKind.i64 (0 : Int),
 AV.int IntKind.i64
 (IntKind.i64.wrap ((↑x : Int) + (1 : Int)))]
 [AV.sl (nat_lit 3) (tksL (toksI src)) Own.no,
 AV.int IntKind.i64 (0 : Int),
 AV.int IntKind.i64 (↑y : Int)] ∧
 StIs { boxes := [], live := [] }
 { boxes := [], live := [] } ∧
 y ≤ (toksI src).length ∧
 (toksI src).length - y < (toksI src).length - x) ∧
 (b = false →
 ((0 : Int) ≤ (↑x : Int) ∧
 (↑x : Int) < (↑(tksL (toksI src)).length : Int)) ∧
 ∃ (s : List UInt8),
 takeAt PP (nat_lit 9) (tksL (toksI src)) (↑x : Int).toNat
 (nat_lit 1) =
 some (AV.str s) ∧
 ∃ (b : Bool),
 CallIs
 (tbl
 [(nat_lit 11, s11), (nat_lit 12, s12),
 (nat_lit 16, s16), (nat_lit 18, s18),
 (nat_lit 25, s25)]
 (nat_lit 16) [AV.str s])
 (AV.bool b) [] ∧
 (b = true →
 ∃ (y : Nat),
 ValsAre
 [AV.sl (nat_lit 3) (tksL (toksI src))
 Own.no,
 AV.int IntKind.i64 (0 : Int),
 AV.int IntKind.i64
 (IntKind.i64.wrap
 ((↑x : Int) + (1 : Int)))]
 [AV.sl (nat_lit 3) (tksL (toksI src))
 Own.no,
 AV.int IntKind.i64 (0 : Int),
 AV.int IntKind.i64 (↑y : Int)] ∧
 StIs { boxes := [], live := [] }
 { boxes := [], live := [] } ∧
 y ≤ (toksI src).length ∧
 (toksI src).length - y <
 (toksI src).length - x) ∧
 (b = false →
 RetIs (AV.bool false) [] (AV.bool true, [])))) ∧
 ((n == (1 : Int)) = false →
 ∃ (y : Nat),
 ValsAre
 [AV.sl (nat_lit 3) (tksL (toksI src)) Own.no,
 AV.int IntKind.i64 (0 : Int),
 AV.int IntKind.i64 (IntKind.i64.wrap ((↑x : Int) + (1 : Int)))]
 [AV.sl (nat_lit 3) (tksL (toksI src)) Own.no,
 AV.int IntKind.i64 (0 : Int), AV.int IntKind.i64 (↑y : Int)] ∧
 StIs { boxes := [], live := [] } { boxes := [], live := [] } ∧
 y ≤ (toksI src).length ∧
 (toksI src).length - y < (toksI src).length - x)) ∧
 (decide ((↑x : Int) < (↑(tksL (toksI src)).length : Int)) = false →
 (true = true → RetIs (AV.bool true) [] (AV.bool true, [])) ∧
 (true = false → RetIs (AV.bool false) [] (AV.bool true, []))))))) ∧
      (b = false → RetIs (AV.bool false) [] (AV.bool true, []))) := by kernel_rfl
end Go.Abs

namespace Go.Abs
open Go.Proofs L8
/-- a word of at most 24 bytes -/
def wordB (w : List UInt8) : Bool := decide (w ≠ []) && decide (w.length ≤ 24) && decide (wl w = w.length)
theorem kw_word : ∀ w ∈ kwList, wordB w = true := by decide
theorem name_kw (w : List UInt8) : (nameR w || kwR w) = wordB w := by
  by_cases h : kwR w = true
  · rw [h, Bool.or_true]
    exact (kw_word w (by simpa [kwR] using h)).symm
  · rw [Bool.not_eq_true] at h
    simp only [nameR, wordB, h, Bool.not_false, Bool.and_true, Bool.or_false]
theorem name_not_kw (w : List UInt8) (h : nameR w = true) : kwR w = false := by
  simp only [nameR, Bool.and_eq_true, Bool.not_eq_true'] at h
  exact h.2
theorem wl_cons (c : UInt8) (t : List UInt8) : wl (c :: t) = if letterB c then 1 + (t.takeWhile innerB).length else 0 := rfl
theorem letter_piece {c : UInt8} {t : List UInt8} (h : letterB c = true) : piece (c :: t) = (1, 1 + (t.takeWhile innerB).length, if 24 < 1 + (t.takeWhile innerB).length then 2 else 0) := by
  have h1 : 97 ≤ c.toNat ∧ c.toNat ≤ 122 := by simpa [letterB] using h
  have h2 : blankB c = false := by
    simp only [blankB, Bool.or_eq_false_iff, beq_eq_false_iff_ne, ne_eq]
    refine ⟨⟨⟨?_, ?_⟩, ?_⟩, ?_⟩ <;> (rintro rfl; revert h1; decide)
  have h3 : (c == 35) = false := by
    rw [beq_eq_false_iff_ne]; rintro rfl; revert h1; decide
  rw [piece_eq, if_neg (by rw [h2]; decide), if_neg (by rw [h3]; decide), if_pos h]
/-- words that are read are words -/
theorem word_tok {l : List UInt8} {a : Nat} {adj : Bool} {t : Tk} (ht : t ∈ (scan l a adj).1) (hk : t.kind = 1) : wordB t.text = true := by
  obtain ⟨k, _, _, h3⟩ := tok_at l a adj t ht
  obtain ⟨hk', h0, he⟩ := tkOf_isTk h3
  have h1 : (piece (l.drop k)).1 = 1 := by rw [he] at hk; exact hk
  generalize l.drop k = u at *
  rcases piece_kinds u with h | h | ⟨_, c, v, hu, hl, hp⟩ | h | h | h | ⟨v, r, hu, hd, hp⟩
  · rw [h] at h1; cases h1
  · rw [h] at h1; cases h1
  · rw [he]
    show wordB (txtOf u) = true
    rw [hp] at h0
    simp only at h0
    have h24 : 1 + (v.takeWhile innerB).length ≤ 24 := by
      by_cases hc : 24 < 1 + (v.takeWhile innerB).length
      · rw [if_pos hc] at h0; cases h0
      · omega
    have hle := tw_le (p := innerB) v
    have etx : txtOf u = c :: v.take (v.takeWhile innerB).length := by
      unfold txtOf
      rw [hp, if_neg (show ¬ (1 : Int) = 4 by decide), hu, Nat.add_comm 1, List.take_succ_cons]
    have e2 : (v.take (v.takeWhile innerB).length).takeWhile innerB = v.takeWhile innerB := tw_take (Nat.le_refl _)
    have el : (v.take (v.takeWhile innerB).length).length = (v.takeWhile innerB).length := by rw [List.length_take]; omega
    rw [etx]
    simp only [wordB, wl_cons, hl, if_true, e2, List.length_cons, el, Bool.and_eq_true, decide_eq_true_eq, ne_eq, reduceCtorEq, not_false_eq_true, true_and]
    omega
  · rw [h] at h1; cases h1
  · rw [h] at h1; cases h1
  · rw [h] at h1; cases h1
  · rw [hp] at h1; cases h1
theorem word_tok_iff (s : List UInt8) : wordTok s = wordB s := by
  by_cases hw : wordB s = true
  · rw [hw]
    simp only [wordB, Bool.and_eq_true, decide_eq_true_eq] at hw
    obtain ⟨⟨hne, h24⟩, hwl⟩ := hw
    cases s with
    | nil => exact absurd rfl hne
    | cons c t =>
      have hl : letterB c = true := by
        cases h : letterB c with
        | true => rfl
        | false => rw [wl_cons, h] at hwl; simp at hwl
      have hp := letter_piece (t := t) hl
      rw [wl_cons, hl] at hwl
      simp only [if_true, List.length_cons] at hwl h24
      have hsc := scan_whole (l := c :: t) (by simp) (by rw [hp]; simp only [List.length_cons]; omega) 0 false
      have htx : txtOf (c :: t) = c :: t := by
        unfold txtOf
        rw [hp, if_neg (show ¬ (1 : Int) = 4 by decide)]
        exact List.take_of_length_le (by simp only [List.length_cons]; omega)
      have e1 : tkOf (c :: t) 0 = [⟨1, c :: t, 0⟩] := by
        simp only [tkOf, hp, htx]
        rw [if_pos ⟨by decide, by rw [if_neg (by omega)], by decide⟩]
      have e2 : pbOf (c :: t) 0 false = [] := by
        simp only [pbOf, hp]
        rw [if_neg (by decide), if_pos (by rw [if_neg (by omega)])]
      rw [e1, e2] at hsc
      simp [wordTok, probsI, probsL, toksI, toksL, hsc, toTI]
  · rw [Bool.not_eq_true] at hw
    rw [hw]
    simp only [wordTok]
    rw [decide_eq_false_iff_not]
    rintro ⟨_, h⟩
    have h0 : (scan s 0 false).1.map toTI = [⟨1, s, 0⟩] := by
      simp only [toksI, toksL, List.map_append, List.map_cons, List.map_nil, toTI] at h
      exact (List.append_inj' (t₂ := [(⟨6, [], s.length⟩ : TI)]) h rfl).1
    cases hs : (scan s 0 false).1 with
    | nil => rw [hs] at h0; simp at h0
    | cons u r =>
      rw [hs] at h0
      simp only [List.map_cons, List.cons.injEq, toTI, TI.mk.injEq] at h0
      have := word_tok (l := s) (a := 0) (adj := false) (t := u) (by rw [hs]; exact List.mem_cons_self) h0.1.1
      rw [h0.1.2.1, hw] at this
      cases this
theorem toksI_word {src : List UInt8} {t : TI} (ht : t ∈ toksI src) (hk : t.kind = 1) : (nameR t.text || kwR t.text) = true := by
  simp only [toksI, toksL, List.map_append, List.mem_append, List.mem_map] at ht
  rw [name_kw]
  rcases ht with ⟨u, hu, rfl⟩ | ⟨u, hu, rfl⟩
  · exact word_tok hu hk
  · simp at hu; subst hu; simp [toTI] at hk
theorem p10 (m : Int) (s src : List UInt8) : PureOk PP (G8 m) XJ (tbl [(11, s11), (12, s12), (16, s16), (18, s18), (25, s25)]) (itbl []) (a10 s src) [] 10 [.str s, bytesA src] (.bool true, []) := by
  constructor
  rw [w10]
  have t11 : tbl [(11, s11), (12, s12), (16, s16), (18, s18), (25, s25)] 11 [] = some (.bool true, []) := rfl
  have t12 : ∀ x, tbl [(11, s11), (12, s12), (16, s16), (18, s18), (25, s25)] 12 x = s12 x := fun _ => rfl
  have t16 : ∀ x, tbl [(11, s11), (12, s12), (16, s16), (18, s18), (25, s25)] 16 x = s16 x := fun _ => rfl
  have t18 : ∀ x, tbl [(11, s11), (12, s12), (16, s16), (18, s18), (25, s25)] 18 x = s18 x := fun _ => rfl
  rw [t11]
  simp only [t12, t16, t18, callIs_iff, valsAre_iff, stIs_iff, retIs_iff, tksL_length, bytesL_length, map_bytes, Option.some.injEq, Prod.mk.injEq, AV.int.injEq, AV.bool.injEq, AV.str.injEq, AV.sl.injEq, AV.agg.injEq, List.cons.injEq, and_true, true_and, and_self, decide_eq_true_eq, decide_eq_false_iff_not, beq_iff_eq, beq_eq_false_iff_ne, ne_eq, Int.toNat_natCast, gt_iff_lt, true_implies, tf_imp, ft_imp]
  refine ⟨true, rfl, fun _ => ⟨fun _ => trivial, fun hs => ⟨fun _ => trivial, fun hsrc => ?_⟩⟩, fun h => nomatch h⟩
  have h18 : ∀ w : List UInt8, w.length ≤ 1000000 → s18 [.str w] = some (.bool (nameR w), []) := fun w h => by simp only [s18, if_pos h]
  have h16 : ∀ w : List UInt8, w.length ≤ 1000000 → s16 [.str w] = some (.bool (kwR w), []) := fun w h => by simp only [s16, if_pos h]
  have hsm := toks_small (bs := src) (by omega)
  have hTl := toksI_len src
  have h18t : ∀ x (h : x < (toksI src).length), s18 [.str (toksI src)[x].text] = some (.bool (nameR (toksI src)[x].text), []) := fun x h => h18 _ (Nat.le_trans (hsm.2 _ (List.getElem_mem h)) (by omega))
  have h16t : ∀ x (h : x < (toksI src).length), s16 [.str (toksI src)[x].text] = some (.bool (kwR (toksI src)[x].text), []) := fun x h => h16 _ (Nat.le_trans (hsm.2 _ (List.getElem_mem h)) (by omega))
  have nx : ∀ x, x < (toksI src).length → ∃ y : Nat, IntKind.i64.wrap ((x : Int) + 1) = y ∧ y ≤ (toksI src).length ∧ (toksI src).length - y < (toksI src).length - x := fun x h => ⟨x + 1, by rw [wrap64_in (by omega) (by omega)]; rfl, by omega, by omega⟩
  have hsl : s.length ≤ 16384 := by omega
  refine ⟨⟨_, h18 s (by omega), fun hn => ⟨_, h16 s (by omega), fun hk => ?_, fun _ => ⟨(), trivial⟩⟩, fun _ => ⟨(), trivial⟩⟩, fun _ => ⟨by omega, _, _, _, s12_ok hsl, ⟨fun _ => ⟨fun hp => ⟨fun h2 => ?_, fun h2 => ⟨_, rfl, ?_⟩⟩, fun hp => ⟨_, rfl, ?_⟩⟩, fun h => absurd rfl h⟩, fun x hx => ⟨fun hxt => ⟨⟨_, h18 s (by omega), fun _ => ⟨(), trivial⟩, fun hn => ⟨_, h16 s (by omega), fun _ => ⟨(), trivial⟩, fun hk => ?_⟩⟩, fun _ => ?_⟩, fun hxf => ⟨⟨_, h18 s (by omega), fun hn => ?_, fun hn => ⟨_, h16 s (by omega), fun hk => ?_, fun _ => ⟨(), trivial⟩⟩⟩, fun _ => ?_⟩⟩⟩⟩
  · rw [name_not_kw s hn] at hk; exact hk
  · rw [tksL_length] at h2
    rw [pbsL_length] at hp
    have h0 : 0 < (toksI s).length := by omega
    have hall := toksI_two (by omega) (List.getElem?_eq_getElem h0)
    have hpn : probsI s = [] := List.length_eq_zero_iff.1 (by omega)
    refine ⟨by rw [tksL_length]; omega, _, _, _, tok38 agg38 size38 h0, _, _, _, ⟨rfl, rfl, rfl⟩, fun h => ⟨_, rfl, ?_⟩, fun h => ⟨_, rfl, ?_⟩⟩
    · generalize (toksI s)[0] = y at *
      obtain ⟨a, b, c⟩ := y
      simp only [Bool.and_true, Bool.and_eq_true, beq_iff_eq] at h
      obtain ⟨rfl, rfl, rfl⟩ := h
      simp [wordTok, hpn, hall]
    · generalize (toksI s)[0] = y at *
      symm
      simp only [wordTok]
      rw [decide_eq_false_iff_not]
      rintro ⟨_, h'⟩
      rw [hall] at h'
      simp only [List.cons.injEq, and_true] at h'
      subst h'
      simp at h
  · symm
    simp only [wordTok]
    rw [decide_eq_false_iff_not]
    rintro ⟨_, h'⟩
    rw [tksL_length, h'] at h2
    exact h2 rfl
  · symm
    simp only [wordTok]
    rw [decide_eq_false_iff_not]
    rintro ⟨h', _⟩
    rw [pbsL_length, h'] at hp
    exact hp rfl
  · rw [hx, word_tok_iff, ← name_kw, hn, hk] at hxt
    exact hxt
  · refine ⟨_, _, _, s12_ok (bs := src) (by omega), ⟨0, ⟨rfl, rfl, rfl⟩, Nat.zero_le _⟩, fun x hx => ⟨fun hlt => ?_, fun _ => trivial⟩⟩
    have h1 : x < (toksI src).length := by omega
    obtain ⟨k1, _, _⟩ := tk_at agg3 size3 h1
    obtain ⟨_, u2, _⟩ := tk_at agg9 size9 h1
    refine ⟨by omega, _, k1, fun c1 => ⟨by omega, _, u2, _, h18t x h1, fun _ => nx x h1, fun hn => ⟨by omega, _, u2, _, h16t x h1, fun _ => nx x h1, fun hk => ?_⟩⟩, fun _ => nx x h1⟩
    have := toksI_word (List.getElem_mem h1) c1
    rw [hn, hk] at this
    exact this
  · rw [hx, word_tok_iff, ← name_kw, hn] at hxf
    exact hxf.symm
  · rw [hx, word_tok_iff, ← name_kw, hk, Bool.or_true] at hxf
    exact hxf.symm
  · refine ⟨_, _, _, s12_ok (bs := src) (by omega), ⟨0, ⟨rfl, rfl, rfl⟩, Nat.zero_le _⟩, fun x hx => ⟨fun hlt => ?_, fun _ => trivial⟩⟩
    have h1 : x < (toksI src).length := by omega
    obtain ⟨k1, _, _⟩ := tk_at agg3 size3 h1
    obtain ⟨_, u2, _⟩ := tk_at agg9 size9 h1
    refine ⟨by omega, _, k1, fun c1 => ⟨by omega, _, u2, _, h18t x h1, fun _ => nx x h1, fun hn => ⟨by omega, _, u2, _, h16t x h1, fun _ => nx x h1, fun hk => ?_⟩⟩, fun _ => nx x h1⟩
    have := toksI_word (List.getElem_mem h1) c1
    rw [hn, hk] at this
    exact this
def s10 : Spec := fun args => match args with
  | [.str _, .sl sz es .no] => if sz = 1 then onBytes es fun _ => some (.bool true, []) else none
  | _ => none
theorem o10 (m : Int) : SpecOk PP (G8 m) 10 s10 := spec_of (X := XJ) (m := []) mixed8 (tbl_cons (o11 m) (tbl_cons (o12' m) (tbl_cons (o16 m) (tbl_cons (o18 m) (tbl_cons (o25 m) tbl_nil))))) itbl_nil fun args r h => by
  unfold s10 at h
  split at h
  · split at h
    · rename_i hsz
      subst hsz
      unfold onBytes at h
      split at h
      · rename_i bs hb
        obtain rfl := unBytes_some hb
        injection h with h; subst h; exact ⟨_, p10 m _ bs⟩
      · cases h
    · cases h
  · cases h
theorem s10_true (s l : List UInt8) : s10 [.str s, bytesA l] = some (.bool true, []) := by simp only [s10, if_true, onBytes, unBytes_mk]
end Go.Abs
