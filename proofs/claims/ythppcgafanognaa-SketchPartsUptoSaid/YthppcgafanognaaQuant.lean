/-
  The plain law of ranks and quantiles in the sketch of a list of integers.
-/
import Derived.Test.YthppcgafanognaaLawB
namespace Go.Proofs.Ythppcgafanognaa
open Go.RowKit

/-- how many of a list have buckets below i, at i -/
def cLt (l : List Int) (i : Int) : Nat := l.countP fun n => decide (idx n < i)
def cEq (l : List Int) (i : Int) : Nat := l.countP fun n => decide (idx n = i)

theorem totFrom_ones (l : List Int) : ∀ (s k : Int), 0 ≤ s → s + l.length ≤ 9223372036854775807 → totFrom s (ones l) k = s + cEq l k := by
  induction l with
  | nil => intro s k _ _; simp [ones, totFrom, cEq]
  | cons n t ih =>
    intro s k h0 h1
    simp only [List.length_cons] at h1
    show totFrom (if idx n = k then wrap64 (s + 1) else s) (ones t) k = _
    by_cases e : idx n = k
    · rw [if_pos e, w64 (by omega) (by omega), ih _ _ (by omega) (by omega)]
      simp only [cEq, List.countP_cons, e, decide_true, if_true]; omega
    · rw [if_neg e, ih _ _ h0 (by omega)]
      simp [cEq, e]
theorem tot_ones (l : List Int) (k : Int) (h : l.length ≤ 9223372036854775807) : tot (ones l) k = cEq l k := by
  rw [tot, totFrom_ones l 0 k (by omega) (by omega)]; omega

theorem sum_hit (j : Int) (p : Int → Bool) : ∀ ks : List Int, ks.Nodup → ((ks.filter p).map fun k => if j = k then 1 else 0).sum = if j ∈ ks ∧ p j = true then 1 else 0
  | [], _ => by simp
  | k :: ks, h => by
    obtain ⟨h1, h2⟩ := List.nodup_cons.1 h
    have ih := sum_hit j p ks h2
    by_cases hp : p k = true
    · rw [List.filter_cons_of_pos hp, List.map_cons, List.sum_cons, ih]
      by_cases e : j = k
      · subst e; simp [h1, hp]
      · simp [e]
    · rw [List.filter_cons_of_neg hp, ih]
      by_cases e : j = k
      · subst e; simp [h1, hp]
      · simp [e]
theorem sum_add (f g : Int → Nat) : ∀ l : List Int, (l.map fun k => f k + g k).sum = (l.map f).sum + (l.map g).sum
  | [] => rfl
  | k :: l => by simp only [List.map_cons, List.sum_cons, sum_add f g l]; omega
/-- counting by keys -/
theorem count_keys (p : Int → Bool) (ks : List Int) (hk : ks.Nodup) : ∀ l : List Int, (∀ n ∈ l, idx n ∈ ks) → ((ks.filter p).map fun k => cEq l k).sum = l.countP fun n => p (idx n)
  | [], _ => by
    have : ((ks.filter p).map fun k => cEq [] k) = (ks.filter p).map fun _ => 0 := rfl
    rw [this]
    induction (ks.filter p) with
    | nil => rfl
    | cons a t ih => simpa using ih
  | n :: t, h => by
    have ih := count_keys p ks hk t fun m hm => h m (by simp [hm])
    have e : ∀ k, cEq (n :: t) k = cEq t k + if idx n = k then 1 else 0 := fun k => by
      simp only [cEq, List.countP_cons, decide_eq_true_eq]
    simp only [e]
    rw [sum_add, ih, sum_hit _ _ ks hk, List.countP_cons]
    simp [h n (by simp)]

theorem asc_keys_nodup {m : Bks} (h : Asc m) : (m.map (·.1)).Nodup := by
  unfold List.Nodup
  rw [List.pairwise_map]
  exact h.1.imp fun h => by omega
theorem sumZ_map {m : Bks} {l : List Int} (h : ∀ x ∈ m, x.2 = (cEq l x.1 : Int)) : sumZ m = (((m.map (·.1)).map fun k => cEq l k).sum : Nat) := by
  induction m with
  | nil => rfl
  | cons x t ih =>
    have h0 := h x (by simp)
    have := ih fun y hy => h y (by simp [hy])
    simp only [sumZ, List.map_cons, List.sum_cons]
    omega

section
variable {m : Bks} {l : List Int} (hm : Asc m) (fm : WfB m) (ht : ∀ k, tot m k = tot (ones l) k) (hl : l.length ≤ 9223372036854775807)
include hm fm ht hl
theorem val_eq : ∀ x ∈ m, x.2 = (cEq l x.1 : Int) := fun x hx => by
  rw [← tot_one hm fm hx, ht, tot_ones l _ hl]
omit hm fm in
theorem key_in : ∀ n ∈ l, idx n ∈ m.map (·.1) := fun n hn => by
  have h1 : 0 < cEq l (idx n) := List.countP_pos_iff.2 ⟨n, hn, by simp⟩
  by_cases hx : ∃ y ∈ m, y.1 = idx n
  · obtain ⟨y, hy, e⟩ := hx
    exact List.mem_map.2 ⟨y, hy, e⟩
  · have := tot_none (l := m) (k := idx n) fun y hy e => hx ⟨y, hy, e⟩
    rw [ht, tot_ones l _ hl] at this; omega
theorem sumZ_all : sumZ m = l.length := by
  rw [sumZ_map (val_eq hm fm ht hl)]
  have := count_keys (fun _ => true) (m.map (·.1)) (asc_keys_nodup hm) l (key_in ht hl)
  rw [List.filter_eq_self.2 (by simp)] at this
  rw [this]; simp
theorem sumZ_pre {pre post : Bks} {x : Int × Int} (e : m = pre ++ x :: post) : sumZ pre = cLt l x.1 := by
  have hv := val_eq hm fm ht hl
  rw [sumZ_map (l := l) fun y hy => hv y (by rw [e]; simp [hy])]
  have := count_keys (fun k => decide (k < x.1)) (m.map (·.1)) (asc_keys_nodup hm) l (key_in ht hl)
  rw [e, List.map_append, List.filter_append] at this
  have hp := hm.1
  rw [e, List.pairwise_append] at hp
  obtain ⟨_, p2, p3⟩ := hp
  have f1 : (pre.map (·.1)).filter (fun k => decide (k < x.1)) = pre.map (·.1) := List.filter_eq_self.2 fun k hk => by
    obtain ⟨y, hy, rfl⟩ := List.mem_map.1 hk
    simpa using p3 y hy x (by simp)
  have f2 : ((x :: post).map (·.1)).filter (fun k => decide (k < x.1)) = [] := List.filter_eq_nil_iff.2 fun k hk => by
    obtain ⟨y, hy, rfl⟩ := List.mem_map.1 hk
    rcases List.mem_cons.1 hy with rfl | hy
    · simp
    · have := (List.pairwise_cons.1 p2).1 y hy; simp; omega
  rw [f1, f2, List.append_nil] at this
  rw [this]; rfl
end

theorem sumZ_append (a b : Bks) : sumZ (a ++ b) = sumZ a + sumZ b := by
  induction a with
  | nil => simp [sumZ]
  | cons x t ih => simp only [List.cons_append, sumZ, ih]; omega
theorem rankFrom_spec : ∀ (m : Bks) (s r : Int), 0 ≤ s → s < r → (∀ x ∈ m, 0 ≤ x.2) → s + sumZ m ≤ 9223372036854775807 →
    (rankFrom s r m = none ∧ s + sumZ m < r) ∨ ∃ pre x post, m = pre ++ x :: post ∧ rankFrom s r m = some (low x.1) ∧ s + sumZ pre < r ∧ r ≤ s + sumZ pre + x.2
  | [], s, r, _, h, _, _ => Or.inl ⟨rfl, by simpa [sumZ] using h⟩
  | x :: t, s, r, h0, h, hp, hb => by
    have hx := hp x (by simp)
    have htp : 0 ≤ sumZ t := by
      have : ∀ t : Bks, (∀ x ∈ t, 0 ≤ x.2) → 0 ≤ sumZ t := by
        intro t; induction t with
        | nil => intro _; simp [sumZ]
        | cons y t ih => intro h; have := h y (by simp); have := ih fun z hz => h z (by simp [hz]); simp only [sumZ]; omega
      exact this t fun y hy => hp y (by simp [hy])
    simp only [sumZ] at hb
    have hw : wrap64 (s + x.2) = s + x.2 := w64 (by omega) (by omega)
    rw [rankFrom, hw]
    by_cases hr : r ≤ s + x.2
    · rw [if_pos hr]
      exact Or.inr ⟨[], x, t, rfl, rfl, by simpa [sumZ] using h, by simpa [sumZ] using hr⟩
    · rw [if_neg hr]
      rcases rankFrom_spec t (s + x.2) r (by omega) (by omega) (fun y hy => hp y (by simp [hy])) (by omega) with ⟨h1, h2⟩ | ⟨pre, y, post, e, h1, h2, h3⟩
      · exact Or.inl ⟨h1, by simp only [sumZ]; omega⟩
      · exact Or.inr ⟨x :: pre, y, post, by rw [e]; rfl, h1, by simp only [sumZ]; omega, by simp only [sumZ]; omega⟩

theorem count_of {m : Bks} {l : List Int} (hm : Asc m) (fm : WfB m) (ht : ∀ k, tot m k = tot (ones l) k) (hl : l.length ≤ 9223372036854775807) : count m = l.length := by
  rw [count_sum, sumZ_all hm fm ht hl, w64 (by omega) (by omega)]
/-- Rank in the sketch of a list -/
theorem rank_some {m : Bks} {l : List Int} {r : Int} (hm : Asc m) (fm : WfB m) (hk : Keys m) (ht : ∀ k, tot m k = tot (ones l) k) (hl : l.length ≤ 9223372036854775807) (h1 : 1 ≤ r) (h2 : r ≤ l.length) :
    ∃ i, -1888 ≤ i ∧ i ≤ 1887 ∧ rank m r = some (low i) ∧ (cLt l i : Int) < r ∧ r ≤ cLt l i + cEq l i := by
  have hv := val_eq hm fm ht hl
  have ha := sumZ_all hm fm ht hl
  have e : rank m r = rankFrom 0 r m := by unfold rank; rw [if_neg (by omega)]
  rcases rankFrom_spec m 0 r (by omega) (by omega) (fun x hx => by rw [hv x hx]; omega) (by omega) with ⟨_, h⟩ | ⟨pre, x, post, hp, h3, h4, h5⟩
  · omega
  · have hx := hk x (by rw [hp]; simp)
    have hs := sumZ_pre hm fm ht hl hp
    have hvx := hv x (by rw [hp]; simp)
    exact ⟨x.1, hx.1, hx.2, by rw [e, h3], by omega, by omega⟩
theorem rank_none {m : Bks} {l : List Int} {r : Int} (hm : Asc m) (fm : WfB m) (ht : ∀ k, tot m k = tot (ones l) k) (hl : l.length ≤ 9223372036854775807) (h : r < 1 ∨ (l.length : Int) < r) : rank m r = none := by
  unfold rank
  by_cases h1 : r < 1
  · rw [if_pos h1]
  · rw [if_neg h1]
    have hv := val_eq hm fm ht hl
    have ha := sumZ_all hm fm ht hl
    rcases rankFrom_spec m 0 r (by omega) (by omega) (fun x hx => by rw [hv x hx]; omega) (by omega) with ⟨h, _⟩ | ⟨pre, x, post, hp, h3, h4, h5⟩
    · exact h
    · have hpost : 0 ≤ sumZ post := by
        have : ∀ t : Bks, (∀ x ∈ t, 0 ≤ x.2) → 0 ≤ sumZ t := by
          intro t; induction t with
          | nil => intro _; simp [sumZ]
          | cons y t ih => intro h; have := h y (by simp); have := ih fun z hz => h z (by simp [hz]); simp only [sumZ]; omega
        exact this post fun y hy => by rw [hv y (by rw [hp]; simp [hy])]; omega
      rw [hp, sumZ_append] at ha
      simp only [sumZ] at ha
      omega
/-- counting by representatives is counting by buckets -/
theorem low_lt_iff {i j : Int} (h0 : -1888 ≤ i) (h1 : i ≤ 1887) (h2 : -1888 ≤ j) (h3 : j ≤ 1887) : (low i < low j ↔ i < j) ∧ (low i = low j ↔ i = j) := by
  rcases Int.lt_trichotomy i j with h | h | h
  · have := low_lt i j h0 h3 h; omega
  · subst h; omega
  · have := low_lt j i h2 h1 h; omega
end Go.Proofs.Ythppcgafanognaa
