/-
  The plain mathematics of sums of buckets: ascending lists, their sums at a key, the reference's Merge.
-/
import Derived.Test.YthppcgafanognaaOrdered
namespace Go.Proofs.Ythppcgafanognaa
open Go.RowKit

/-- a sketch: ascending keys, no zero -/
def Asc (l : Bks) : Prop := l.Pairwise (fun x y => x.1 < y.1) ∧ ∀ x ∈ l, x.2 ≠ 0

theorem valid_tail {x : Int × Int} {t : Bks} (h : Valid (x :: t)) : Valid t := fun j hj => by
  obtain ⟨y, hy, h0, h1⟩ := h (j + 1) (by simp; omega)
  refine ⟨y, by simpa using hy, h0, fun i hi => ?_⟩
  subst hi
  obtain ⟨z, hz, hlt⟩ := h1 (i + 1) rfl
  exact ⟨z, by simpa using hz, hlt⟩
theorem asc_of_valid : ∀ (l : Bks), Valid l → Asc l
  | [], _ => ⟨List.Pairwise.nil, by simp⟩
  | x :: t, h => by
    obtain ⟨h1, h2⟩ := asc_of_valid t (valid_tail h)
    obtain ⟨x', hx, h0, _⟩ := h 0 (by simp)
    simp at hx; subst hx
    refine ⟨List.pairwise_cons.2 ⟨?_, h1⟩, fun y hy => ?_⟩
    · cases t with
      | nil => simp
      | cons y t =>
        obtain ⟨y', hy, _, hp⟩ := h 1 (by simp)
        obtain ⟨z, hz, hlt⟩ := hp 0 rfl
        simp at hy hz; subst hy; subst hz
        intro u hu
        rcases List.mem_cons.1 hu with rfl | hu
        · exact hlt
        · exact Int.lt_trans hlt ((List.pairwise_cons.1 h1).1 u hu)
    · rcases List.mem_cons.1 hy with rfl | hy
      · exact h0
      · exact h2 y hy
theorem valid_of_asc {l : Bks} (h : Asc l) : Valid l := fun j hj => by
  refine ⟨l[j], List.getElem?_eq_getElem hj, h.2 _ (List.getElem_mem hj), fun i hi => ?_⟩
  subst hi
  exact ⟨l[i], List.getElem?_eq_getElem (by omega), List.pairwise_iff_getElem.1 h.1 i (i + 1) (by omega) hj (by omega)⟩
theorem valid_iff (l : Bks) : Valid l ↔ Asc l := ⟨asc_of_valid l, valid_of_asc⟩

theorem totFrom_none (l : Bks) : ∀ (s k : Int), (∀ x ∈ l, x.1 ≠ k) → totFrom s l k = s := by
  induction l with
  | nil => intro s k _; rfl
  | cons x t ih =>
    intro s k h
    rw [totFrom, if_neg (h x (by simp))]
    exact ih s k fun y hy => h y (by simp [hy])
theorem totFrom_one {l : Bks} (h : l.Pairwise (fun x y => x.1 < y.1)) (s : Int) {x : Int × Int} (hx : x ∈ l) : totFrom s l x.1 = wrap64 (s + x.2) := by
  induction l generalizing s with
  | nil => cases hx
  | cons y t ih =>
    obtain ⟨h1, h2⟩ := List.pairwise_cons.1 h
    rcases List.mem_cons.1 hx with rfl | hx
    · rw [totFrom, if_pos rfl]
      exact totFrom_none t _ _ fun z hz => by have := h1 z hz; omega
    · rw [totFrom, if_neg (by have := h1 x hx; omega)]
      exact ih h2 s hx
theorem tot_one {l : Bks} (h : Asc l) (hf : WfB l) {x : Int × Int} (hx : x ∈ l) : tot l x.1 = x.2 := by
  have := (hf x hx).2
  rw [tot, totFrom_one h.1 0 hx, Int.zero_add, w64 this.1 this.2]
theorem tot_none {l : Bks} {k : Int} (h : ∀ x ∈ l, x.1 ≠ k) : tot l k = 0 := totFrom_none l 0 k h
/-- the sum at a key of a list and of an ascending list behind it -/
theorem totFrom_asc {l : Bks} (h : Asc l) (hf : WfB l) (s k : Int) (hs : I64 s) : totFrom s l k = wrap64 (s + tot l k) := by
  by_cases hx : ∃ x ∈ l, x.1 = k
  · obtain ⟨x, hx, rfl⟩ := hx
    rw [totFrom_one h.1 s hx, tot_one h hf hx]
  · have hn : ∀ x ∈ l, x.1 ≠ k := fun x hxl e => hx ⟨x, hxl, e⟩
    rw [totFrom_none l s k hn, tot_none hn, Int.add_zero, w64 hs.1 hs.2]
theorem totFrom_range (l : Bks) : ∀ (s k : Int), I64 s → I64 (totFrom s l k) := by
  induction l with
  | nil => intro s k h; exact h
  | cons x t ih =>
    intro s k h
    rw [totFrom]
    split
    · exact ih _ _ (w64_range _)
    · exact ih _ _ h
theorem tot_range (l : Bks) (k : Int) : I64 (tot l k) := totFrom_range l 0 k ⟨by omega, by omega⟩
theorem tot_append {a b : Bks} (hb : Asc b) (hf : WfB b) (k : Int) : tot (a ++ b) k = wrap64 (tot a k + tot b k) := by
  rw [tot, totFrom_append]; exact totFrom_asc hb hf _ k (tot_range a k)
theorem tot_append_congr {a a' b : Bks} {k : Int} (h : tot a k = tot a' k) : tot (a ++ b) k = tot (a' ++ b) k := by
  rw [tot, tot, totFrom_append, totFrom_append]; exact congrArg (fun s => totFrom s b k) h

theorem eq_of_asc : ∀ {l m : Bks}, l.Pairwise (fun x y => x.1 < y.1) → m.Pairwise (fun x y => x.1 < y.1) → (∀ x, x ∈ l ↔ x ∈ m) → l = m
  | [], [], _, _, _ => rfl
  | [], y :: m, _, _, h => by have := (h y).2 (by simp); cases this
  | x :: l, [], _, _, h => by have := (h x).1 (by simp); cases this
  | x :: l, y :: m, hl, hm, h => by
    obtain ⟨l1, l2⟩ := List.pairwise_cons.1 hl
    obtain ⟨m1, m2⟩ := List.pairwise_cons.1 hm
    have e : x = y := by
      rcases List.mem_cons.1 ((h x).1 (by simp)) with e | hx
      · exact e
      · rcases List.mem_cons.1 ((h y).2 (by simp)) with e | hy
        · exact e.symm
        · have a := m1 x hx; have b := l1 y hy; omega
    subst e
    congr 1
    refine eq_of_asc l2 m2 fun z => ⟨fun hz => ?_, fun hz => ?_⟩
    · rcases List.mem_cons.1 ((h z).1 (by simp [hz])) with e | hz'
      · subst e; have := l1 z hz; omega
      · exact hz'
    · rcases List.mem_cons.1 ((h z).2 (by simp [hz])) with e | hz'
      · subst e; have := m1 z hz; omega
      · exact hz'
theorem mem_asc {l : Bks} (h : Asc l) (hf : WfB l) (x : Int × Int) : x ∈ l ↔ (tot l x.1 = x.2 ∧ x.2 ≠ 0) := by
  constructor
  · intro hx; exact ⟨tot_one h hf hx, h.2 x hx⟩
  · rintro ⟨h1, h2⟩
    by_cases hx : ∃ y ∈ l, y.1 = x.1
    · obtain ⟨y, hy, e⟩ := hx
      have := tot_one h hf hy
      rw [e, h1] at this
      have : x = y := Prod.ext e.symm this
      rw [this]; exact hy
    · exact absurd (h1.symm.trans (tot_none fun y hy e => hx ⟨y, hy, e⟩)) h2
/-- two sketches with the same sums are one -/
theorem asc_ext {l m : Bks} (hl : Asc l) (fl : WfB l) (hm : Asc m) (fm : WfB m) (h : ∀ k, tot l k = tot m k) : l = m :=
  eq_of_asc hl.1 hm.1 fun x => by rw [mem_asc hl fl, mem_asc hm fm, h]

/-- what pick gives -/
theorem pick_asc {l : Bks} {ss : List Int} (hnd : ss.Nodup) : Asc (pick l (ss.mergeSort leI)) := by
  have hs : (ss.mergeSort leI).Pairwise (fun x y => x < y) := by
    have h1 := List.pairwise_mergeSort (le := leI) (fun a b c => by simp [leI]; omega) (fun a b => by simp [leI]; omega) ss
    have h2 : (ss.mergeSort leI).Nodup := (List.mergeSort_perm ss leI).nodup_iff.2 hnd
    exact (List.pairwise_and_iff.2 ⟨h1, h2⟩).imp fun {a b} ⟨ha, hb⟩ => by simp [leI] at ha; omega
  constructor
  · unfold pick
    rw [List.pairwise_filterMap]
    refine hs.imp fun {a b} hab x hx y hy => ?_
    split at hx <;> simp at hx
    split at hy <;> simp at hy
    rw [← hx, ← hy]; exact hab
  · intro x hx
    obtain ⟨k, _, hk⟩ := List.mem_filterMap.1 hx
    split at hk <;> simp at hk
    rw [← hk]; assumption
theorem pick_wf {l : Bks} {ss : List Int} (hk : ∀ k ∈ ss, I64 k) : WfB (pick l (ss.mergeSort leI)) := fun x hx => by
  obtain ⟨k, hm, hk'⟩ := List.mem_filterMap.1 hx
  split at hk' <;> simp at hk'
  rw [← hk']
  exact ⟨hk k ((List.mergeSort_perm ss leI).mem_iff.1 hm), tot_range l k⟩
theorem pick_tot {l : Bks} {ss : List Int} (hnd : ss.Nodup) (hm : ∀ x, x ∈ ss ↔ l.any (fun y => y.1 == x) = true) (hw : WfB (pick l (ss.mergeSort leI))) (k : Int) : tot (pick l (ss.mergeSort leI)) k = tot l k := by
  by_cases h0 : tot l k = 0
  · rw [h0]
    refine tot_none fun x hx e => ?_
    obtain ⟨k', _, hk'⟩ := List.mem_filterMap.1 hx
    split at hk' <;> simp at hk'
    rw [← hk'] at e
    simp at e; subst e; contradiction
  · have hin : (k, tot l k) ∈ pick l (ss.mergeSort leI) := by
      refine List.mem_filterMap.2 ⟨k, (List.mergeSort_perm ss leI).mem_iff.2 ((hm k).2 ?_), by simp [h0]⟩
      by_cases hx : ∃ y ∈ l, y.1 = k
      · obtain ⟨y, hy, e⟩ := hx
        exact List.any_eq_true.2 ⟨y, hy, by simp [e]⟩
      · exact absurd (tot_none fun y hy e => hx ⟨y, hy, e⟩) h0
    exact tot_one (pick_asc hnd) hw hin

/-- the reference's Merge -/
def mergeRef : Bks → Bks → Bks
  | [], b => b
  | x :: a, [] => x :: a
  | x :: a, y :: b =>
    if x.1 < y.1 then x :: mergeRef a (y :: b)
    else if y.1 < x.1 then y :: mergeRef (x :: a) b
    else if wrap64 (x.2 + y.2) = 0 then mergeRef a b else (x.1, wrap64 (x.2 + y.2)) :: mergeRef a b
termination_by a b => a.length + b.length
theorem mergeRef_nil (a : Bks) : mergeRef a [] = a := by cases a <;> simp [mergeRef]

theorem mem_mergeRef (a b : Bks) : ∀ x ∈ mergeRef a b, (∃ y ∈ a, y.1 = x.1) ∨ (∃ y ∈ b, y.1 = x.1) := by
  fun_induction mergeRef a b with
  | case1 b => intro x hx; exact Or.inr ⟨x, hx, rfl⟩
  | case2 x a => intro y hy; exact Or.inl ⟨y, hy, rfl⟩
  | case3 x a y b hlt ih =>
    intro z hz
    rcases List.mem_cons.1 hz with rfl | hz
    · exact Or.inl ⟨_, by simp, rfl⟩
    · rcases ih z hz with ⟨u, hu, e⟩ | h
      · exact Or.inl ⟨u, by simp [hu], e⟩
      · exact Or.inr h
  | case4 x a y b h1 hlt ih =>
    intro z hz
    rcases List.mem_cons.1 hz with rfl | hz
    · exact Or.inr ⟨_, by simp, rfl⟩
    · rcases ih z hz with h | ⟨u, hu, e⟩
      · exact Or.inl h
      · exact Or.inr ⟨u, by simp [hu], e⟩
  | case5 x a y b h1 h2 h0 ih =>
    intro z hz
    rcases ih z hz with ⟨u, hu, e⟩ | ⟨u, hu, e⟩
    · exact Or.inl ⟨u, by simp [hu], e⟩
    · exact Or.inr ⟨u, by simp [hu], e⟩
  | case6 x a y b h1 h2 h0 ih =>
    intro z hz
    rcases List.mem_cons.1 hz with rfl | hz
    · exact Or.inl ⟨x, by simp, rfl⟩
    · rcases ih z hz with ⟨u, hu, e⟩ | ⟨u, hu, e⟩
      · exact Or.inl ⟨u, by simp [hu], e⟩
      · exact Or.inr ⟨u, by simp [hu], e⟩
theorem asc_cons {x : Int × Int} {t : Bks} (h : Asc (x :: t)) : Asc t ∧ (∀ y ∈ t, x.1 < y.1) ∧ x.2 ≠ 0 :=
  ⟨⟨(List.pairwise_cons.1 h.1).2, fun y hy => h.2 y (by simp [hy])⟩, (List.pairwise_cons.1 h.1).1, h.2 x (by simp)⟩
theorem asc_mk {x : Int × Int} {t : Bks} (h : Asc t) (h1 : ∀ y ∈ t, x.1 < y.1) (h0 : x.2 ≠ 0) : Asc (x :: t) :=
  ⟨List.pairwise_cons.2 ⟨h1, h.1⟩, fun y hy => by rcases List.mem_cons.1 hy with rfl | hy; exact h0; exact h.2 y hy⟩
theorem mergeRef_asc (a b : Bks) : Asc a → Asc b → Asc (mergeRef a b) := by
  fun_induction mergeRef a b with
  | case1 b => intro _ h; exact h
  | case2 x a => intro h _; exact h
  | case3 x a y b hlt ih =>
    intro ha hb
    obtain ⟨a1, a2, a3⟩ := asc_cons ha
    obtain ⟨b1, b2, b3⟩ := asc_cons hb
    refine asc_mk (ih a1 hb) (fun z hz => ?_) a3
    rcases mem_mergeRef _ _ z hz with ⟨u, hu, e⟩ | ⟨u, hu, e⟩
    · have := a2 u hu; omega
    · rcases List.mem_cons.1 hu with rfl | hu
      · omega
      · have := b2 u hu; omega
  | case4 x a y b h1 hlt ih =>
    intro ha hb
    obtain ⟨a1, a2, a3⟩ := asc_cons ha
    obtain ⟨b1, b2, b3⟩ := asc_cons hb
    refine asc_mk (ih ha b1) (fun z hz => ?_) b3
    rcases mem_mergeRef _ _ z hz with ⟨u, hu, e⟩ | ⟨u, hu, e⟩
    · rcases List.mem_cons.1 hu with rfl | hu
      · omega
      · have := a2 u hu; omega
    · have := b2 u hu; omega
  | case5 x a y b h1 h2 h0 ih =>
    intro ha hb
    exact ih (asc_cons ha).1 (asc_cons hb).1
  | case6 x a y b h1 h2 h0 ih =>
    intro ha hb
    obtain ⟨a1, a2, a3⟩ := asc_cons ha
    obtain ⟨b1, b2, b3⟩ := asc_cons hb
    refine asc_mk (ih a1 b1) (fun z hz => ?_) h0
    rcases mem_mergeRef _ _ z hz with ⟨u, hu, e⟩ | ⟨u, hu, e⟩
    · have := a2 u hu; simp; omega
    · have := b2 u hu; simp; omega
theorem wfB_cons {x : Int × Int} {t : Bks} (h : WfB (x :: t)) : (I64 x.1 ∧ I64 x.2) ∧ WfB t := ⟨h x (by simp), fun y hy => h y (by simp [hy])⟩
theorem wfB_mk {x : Int × Int} {t : Bks} (h : WfB t) (h1 : I64 x.1 ∧ I64 x.2) : WfB (x :: t) := fun y hy => by
  rcases List.mem_cons.1 hy with rfl | hy
  · exact h1
  · exact h y hy
theorem mergeRef_wf (a b : Bks) : WfB a → WfB b → WfB (mergeRef a b) := by
  fun_induction mergeRef a b with
  | case1 b => intro _ h; exact h
  | case2 x a => intro h _; exact h
  | case3 x a y b hlt ih => intro ha hb; exact wfB_mk (ih (wfB_cons ha).2 hb) (wfB_cons ha).1
  | case4 x a y b h1 hlt ih => intro ha hb; exact wfB_mk (ih ha (wfB_cons hb).2) (wfB_cons hb).1
  | case5 x a y b h1 h2 h0 ih => intro ha hb; exact ih (wfB_cons ha).2 (wfB_cons hb).2
  | case6 x a y b h1 h2 h0 ih => intro ha hb; exact wfB_mk (ih (wfB_cons ha).2 (wfB_cons hb).2) ⟨(wfB_cons ha).1.1, w64_range _⟩
theorem tot_cons {x : Int × Int} {t : Bks} (h : Asc (x :: t)) (hf : WfB (x :: t)) (k : Int) : tot (x :: t) k = if x.1 = k then x.2 else tot t k := by
  split
  · rename_i e; subst e; exact tot_one h hf (by simp)
  · rename_i e; rw [tot, totFrom, if_neg e]; rfl
theorem mergeRef_tot (a b : Bks) : Asc a → WfB a → Asc b → WfB b → ∀ k, tot (mergeRef a b) k = wrap64 (tot a k + tot b k) := by
  fun_induction mergeRef a b with
  | case1 b => intro _ _ hb fb k; have := tot_range b k; rw [show tot [] k = 0 from rfl, Int.zero_add, w64 this.1 this.2]
  | case2 x a => intro ha fa _ _ k; have := tot_range (x :: a) k; rw [show tot [] k = 0 from rfl, Int.add_zero, w64 this.1 this.2]
  | case3 x a y b hlt ih =>
    intro ha fa hb fb k
    obtain ⟨a1, a2, a3⟩ := asc_cons ha
    have hm := mergeRef_asc (x :: a) (y :: b) ha hb
    have hw := mergeRef_wf (x :: a) (y :: b) fa fb
    simp only [mergeRef, if_pos hlt] at hm hw
    rw [tot_cons hm hw, tot_cons ha fa, ih a1 (wfB_cons fa).2 hb fb]
    split
    · rename_i e; subst e
      have : tot (y :: b) x.1 = 0 := tot_none fun z hz => by
        rcases List.mem_cons.1 hz with rfl | hz
        · omega
        · have := (asc_cons hb).2.1 z hz; omega
      have hr := (wfB_cons fa).1.2
      rw [this, Int.add_zero, w64 hr.1 hr.2]
    · rfl
  | case4 x a y b h1 hlt ih =>
    intro ha fa hb fb k
    obtain ⟨b1, b2, b3⟩ := asc_cons hb
    have hm := mergeRef_asc (x :: a) (y :: b) ha hb
    have hw := mergeRef_wf (x :: a) (y :: b) fa fb
    simp only [mergeRef, if_neg h1, if_pos hlt] at hm hw
    rw [tot_cons hm hw, tot_cons hb fb, ih ha fa b1 (wfB_cons fb).2]
    split
    · rename_i e; subst e
      have : tot (x :: a) y.1 = 0 := tot_none fun z hz => by
        rcases List.mem_cons.1 hz with rfl | hz
        · omega
        · have := (asc_cons ha).2.1 z hz; omega
      have hr := (wfB_cons fb).1.2
      rw [this, Int.zero_add, w64 hr.1 hr.2]
    · rfl
  | case5 x a y b h1 h2 h0 ih =>
    intro ha fa hb fb k
    rw [ih (asc_cons ha).1 (wfB_cons fa).2 (asc_cons hb).1 (wfB_cons fb).2, tot_cons ha fa, tot_cons hb fb]
    have e : x.1 = y.1 := by omega
    rw [e]
    split
    · rename_i e2; subst e2
      rw [tot_none (l := a) fun z hz => by have := (asc_cons ha).2.1 z hz; omega, tot_none (l := b) fun z hz => by have := (asc_cons hb).2.1 z hz; omega, h0]; simp [wrap64]
    · rfl
  | case6 x a y b h1 h2 h0 ih =>
    intro ha fa hb fb k
    have hm := mergeRef_asc (x :: a) (y :: b) ha hb
    have hw := mergeRef_wf (x :: a) (y :: b) fa fb
    simp only [mergeRef, if_neg h1, if_neg h2, if_neg h0] at hm hw
    rw [tot_cons hm hw, ih (asc_cons ha).1 (wfB_cons fa).2 (asc_cons hb).1 (wfB_cons fb).2, tot_cons ha fa, tot_cons hb fb]
    have e : x.1 = y.1 := by omega
    simp only [e]
    split <;> rfl
end Go.Proofs.Ythppcgafanognaa
