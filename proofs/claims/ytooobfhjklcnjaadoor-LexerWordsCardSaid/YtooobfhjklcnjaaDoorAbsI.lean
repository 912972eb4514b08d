/-
  Slices that are made: literals, append, make, the bytes of a string.
-/
import Derived.Test.YtooobfhjklcnjaaDoorAbsH
namespace Go.Abs
open Go.RowKit

section
variable {P : Program} {E : Env} {w w' : World} {G : Glob} {N0 : Nat} {w0 : World} {I0 : Nat → Nat → Prop} {S : St}

theorem strip1_cells (a : AV) : a.strip1.cells.length = a.cells.length := by
  cases a with
  | sl sz es o => cases o <;> rfl
  | agg cs => simp [AV.strip1, AV.cells]
  | _ => rfl

theorem Vals.nil (sz : Nat) : Vals E w sz [] [] := ⟨by simp, by simp, by simp, by simp, fun i e j c hi => by simp at hi⟩
theorem Vals.one {s : Nat} {a : AV} {v : Value} (h : Rep E w a v) (hc : a.strip1.closed1 = true) (hl : a.cells.length = s) : Vals E w s [a.strip1] v.cells.toList := by
  have hcr := h.strip1.cr (closed1_plain hc)
  have h2 := strip1_cells a
  refine ⟨by rw [Array.length_toList, hcr.1, h2, hl]; simp, fun e he => by simp at he; subst he; omega, fun e he => by simp at he; subst he; exact hc, fun u hu => ?_, fun i e j c hi hj => ?_⟩
  · obtain ⟨i, hi⟩ := List.mem_iff_getElem?.1 hu
    rw [Array.getElem?_toList] at hi
    have hlt : i < a.strip1.cells.length := by
      have := (Array.getElem?_eq_some_iff.1 hi).1
      rw [hcr.1] at this; exact this
    exact (hcr.2 i _ u (List.getElem?_eq_getElem hlt) hi).2
  · match i, hi with
    | 0, hi =>
      simp at hi; subst hi
      have hlt : j < v.cells.size := by
        have := (List.getElem?_eq_some_iff.1 hj).1
        rw [hcr.1]; exact this
      refine ⟨v.cells[j], by simp [hlt], (hcr.2 j c _ hj (Array.getElem?_eq_getElem hlt)).1⟩
    | i + 1, hi => simp at hi

theorem Vals.parts {s : Nat} : ∀ (ps : List (Nat × AV)) (qs : List (Nat × Value)), PR E w ps qs → (∀ p ∈ ps, p.2.strip1.closed1 = true ∧ p.2.cells.length = s) →
    Vals E w s (ps.map fun p => p.2.strip1) (qs.flatMap fun q => q.2.cells.toList)
  | [], [], _, _ => Vals.nil s
  | p :: ps, q :: qs, h, hc => by
    have h0 := h.2 0 p q rfl rfl
    have h1 := Vals.one h0.2 (hc p (by simp)).1 (hc p (by simp)).2
    have h2 := Vals.parts ps qs ⟨by simpa using h.1, fun i p q hp hq => h.2 (i + 1) p q (by simpa using hp) (by simpa using hq)⟩ fun p hp => hc p (by simp [hp])
    simpa using h1.append h2
  | [], _ :: _, h, _ => by have := h.1; simp at this
  | _ :: _, [], h, _ => by have := h.1; simp at this

theorem fill_row {s : Nat} : ∀ (qs : List (Nat × Value)) (k : Nat) (pre post : List Value), qs.map (·.1) = (List.range' k qs.length) → (∀ q ∈ qs, q.2.cells.size = s) → pre.length = k * s → post.length = qs.length * s →
    Instr.fill (fun i => some (i * s, s)) (pre ++ post).toArray qs = some (pre ++ qs.flatMap fun q => q.2.cells.toList).toArray
  | [], k, pre, post, _, _, _, hp => by
    have : post = [] := List.eq_nil_of_length_eq_zero (by simpa using hp)
    subst this
    simp [Instr.fill]
  | (i, v) :: qs, k, pre, post, hi, hs, h1, h2 => by
    simp only [List.map_cons, List.length_cons, List.range'_succ, List.cons.injEq] at hi
    obtain ⟨rfl, hi⟩ := hi
    have hv : v.cells.size = s := hs (i, v) (by simp)
    have h2' : post.length = qs.length * s + s := by rw [h2, List.length_cons, Nat.add_mul]; simp
    rw [fill_cons (off := i * s) (size := s) rfl hv (by simp; omega)]
    have e : spliceV (pre ++ post).toArray (i * s) v.cells = ((pre ++ v.cells.toList) ++ post.drop s).toArray := by
      unfold spliceV
      rw [List.toList_toArray, ← h1, List.take_left, hv]
      congr 2
      rw [List.drop_append]
      simp
    rw [e, fill_row qs (i + 1) (pre ++ v.cells.toList) (post.drop s) hi (fun q hq => hs q (by simp [hq])) (by simp [h1, hv, Nat.add_mul]) (by simp; omega)]
    simp

theorem buildSliceA_run (hS : SR P G N0 w0 I0 S E w) {t : TypeId} {len : Nat} {ps : List (Nat × AV)} {qs : Array (Nat × Value)} {r : AV} (h : buildSliceA P t len ps = some r) (hp : PR E w ps qs.toList) :
    ∃ v w' E', (Instr.buildSlice t len qs).run P w = .ok v w' ∧ SR P G N0 w0 I0 S E' w' ∧ Env.Le E E' w w' ∧ Rep E' w' r v := by
  unfold buildSliceA at h
  split at h
  · rename_i e hu
    split at h
    · rename_i s hs
      split at h
      · rename_i hh
        obtain ⟨hi, hlen, hlen2, hz, hall⟩ := hh
        simp at h; subst h
        obtain ⟨z, hz⟩ := Option.isSome_iff_exists.1 hz
        rw [List.all_eq_true] at hall
        have hall' : ∀ p ∈ ps, p.2.strip1.closed1 = true ∧ p.2.cells.length = s := fun p hp => by
          have := hall p hp
          simpa using this
        have hv := Vals.parts ps qs.toList hp hall'
        have hps : ps.length = len := by have := congrArg List.length hi; simpa using this
        have hqi : qs.toList.map (·.1) = List.range' 0 qs.toList.length := by
          rw [← List.range_eq_range', ← hp.1, hps, ← hi]
          apply List.ext_getElem?
          intro k
          rw [List.getElem?_map, List.getElem?_map]
          cases hk : ps[k]? with
          | none =>
            have : ¬ k < qs.toList.length := by rw [← hp.1]; intro h'; rw [List.getElem?_eq_getElem h'] at hk; cases hk
            rw [List.getElem?_eq_none (by omega)]
            rfl
          | some p =>
            have hlt : k < qs.toList.length := by rw [← hp.1]; exact (List.getElem?_eq_some_iff.1 hk).1
            rw [List.getElem?_eq_getElem hlt]
            have := (hp.2 k p _ hk (List.getElem?_eq_getElem hlt)).1
            simp [this]
        have hqs : ∀ q ∈ qs.toList, q.2.cells.size = s := fun q hq => by
          obtain ⟨k, hk⟩ := List.mem_iff_getElem?.1 hq
          have hlt : k < ps.length := by rw [hp.1]; exact (List.getElem?_eq_some_iff.1 hk).1
          have h0 := hp.2 k _ q (List.getElem?_eq_getElem hlt) hk
          have hc := hall' ps[k] (List.getElem_mem hlt)
          have := h0.2.strip1.cr (closed1_plain hc.1)
          rw [this.1, strip1_cells]; exact hc.2
        have hfill : ∀ (z : Array Value), Instr.fill (fun i => some (i * s, s)) ((Array.range (len * s)).map (z[· % z.size]!)) qs.toList = some (qs.toList.flatMap fun q => q.2.cells.toList).toArray := fun z => by
          have := fill_row (s := s) qs.toList 0 [] ((Array.range (len * s)).map (z[· % z.size]!)).toList hqi hqs (by simp) (by simp [← hp.1, hps])
          simpa only [List.nil_append, Array.toArray_toList] using this
        have hlen' : ¬ len * s > 2 ^ 24 := by omega
        have hrun : (Instr.buildSlice t len qs).run P w = .ok (.slice (some ⟨w.heap.size, 0, none⟩) len len) (w.alloc (.cells (qs.toList.flatMap fun q => q.2.cells.toList).toArray e)) := by
          unfold Instr.buildSlice
          simp only [Sem.run_bind, run_underlying hu, run_sizeOf' hs, Result.andThen_ok]
          rw [if_neg hlen']
          by_cases h0 : len * s = 0
          · simp only [h0, if_true, Sem.run_bind, Sem.run_pure, Result.andThen_ok]
            have := hfill #[]
            rw [h0] at this
            rw [this]
            rfl
          · simp only [h0, if_false, Sem.run_bind, run_zero hz, Sem.run_pure, Result.andThen_ok, hfill]
            rfl
        obtain ⟨hS', hle⟩ := hS.ext (w' := w.alloc (.cells (qs.toList.flatMap fun q => q.2.cells.toList).toArray e)) (below_alloc w _) (I' := fun b o => E.I b o ∨ (b = w.heap.size)) (fun b o h => .inl h) (fun b o h => h.imp id fun e => by subst e; simp)
        refine ⟨_, _, _, hrun, hS', hle, ?_⟩
        have hv' := hv.le hle
        have hl : (ps.map fun p => p.2.strip1).length = len := by simpa using hps
        have := hv'.rep w.heap.size 0 len .full (by omega) (by simp only [maxLen]; omega) (fun j u hj => ⟨.inr rfl, by
            rw [Nat.zero_add, World.cell?_alloc_new]; simpa using hj⟩) (by simp [OwnOk, hl])
        rw [hl] at this
        exact this
      · cases h
    · cases h
  · cases h
end
end Go.Abs
