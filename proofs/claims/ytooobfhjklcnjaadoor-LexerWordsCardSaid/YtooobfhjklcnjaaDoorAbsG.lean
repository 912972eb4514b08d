/-
  Operations that make memory: variables, literals of slices.
-/
import Derived.Test.YtooobfhjklcnjaaDoorAbsF
namespace Go.Abs
open Go.RowKit

section
variable {P : Program} {E : Env} {w w' : World} {G : Glob} {N0 : Nat} {w0 : World} {I0 : Nat → Nat → Prop} {S : St}

/-- new blocks only, some of whose cells are promised -/
theorem SR.ext (h : SR P G N0 w0 I0 S E w) (hb : Below w.heap.size w w') {I' : Nat → Nat → Prop} (h1 : ∀ b o, E.I b o → I' b o) (h2 : ∀ b o, I' b o → E.I b o ∨ (w.heap.size ≤ b ∧ b < w'.heap.size)) :
    SR P G N0 w0 I0 S ⟨I', E.B, E.K⟩ w' ∧ Env.Le E ⟨I', E.B, E.K⟩ w w' := by
  have hle : Env.Le E ⟨I', E.B, E.K⟩ w w' := ⟨fun b o hi => ⟨h1 b o hi, hb.cell (p := ⟨b, o, none⟩) (h.Ilt b o hi)⟩, fun _ _ h => h, fun _ _ _ h => h⟩
  refine ⟨⟨h.below.trans (hb.mono h.n0), Nat.le_trans h.n0 hb.size, fun b o hi => ?_, fun b o hi hlt => (h2 b o hi).elim (fun h' => h.Iold b o h' hlt) (fun h' => absurd hlt (by have := h.n0; omega)), fun id b he => ?_, h.Binj, fun id cs hi => ?_, h.glob.le hle, h.hole, h.Klt, fun t n v hk g hg => Nat.lt_of_lt_of_le (h.Kblk t n v hk g hg) hb.size, fun t n e ht => ?_⟩, hle⟩
  · rcases h2 b o hi with h' | h'
    · exact Nat.lt_of_lt_of_le (h.Ilt b o h') hb.size
    · exact h'.2
  · obtain ⟨a1, a2, a3, a4⟩ := h.Blt id b he
    refine ⟨a1, a2, Nat.lt_of_lt_of_le a3 hb.size, fun o ho => ?_⟩
    rcases h2 b o ho with h' | h'
    · exact a4 o h'
    · omega
  · obtain ⟨blk, arr, ty, hB, hh, hn, hc⟩ := h.box id cs hi
    refine ⟨blk, arr, ty, hB, by rw [hb.block blk (h.Blt id blk hB).2.2.1]; exact hh, hn, fun i c v hi hv => ⟨(hc i c v hi hv).1.le hle, (hc i c v hi hv).2⟩⟩
  · obtain ⟨v, xs, sz, hsz, hown, hu, hK, hg⟩ := h.live t n e ht
    have hlt : ∀ g, v.ownBlock = some g → g < w.heap.size := fun g hg' => (hown.lt g hg').2
    refine ⟨v, xs, sz, hsz, hown.kept (row := none) ⟨hb.os, hb.tape, hb.output, hb.size, fun k hk _ => hb.block k hk⟩ (by cases v.ownBlock <;> simp), hu, hK, fun g hg' => ?_⟩
    obtain ⟨a1, a2, a3⟩ := hg g hg'
    refine ⟨fun o ho => ?_, a2, a3⟩
    rcases h2 g o ho with h' | h'
    · exact a1 o h'
    · have := hlt g hg'; omega

theorem below_drew (w : World) : Below w.heap.size w w.drew := (Below.refl _ w).drew
theorem below_alloc (w : World) (o : Obj) : Below w.heap.size w (w.alloc o) := (Below.refl _ w).alloc (Nat.le_refl _) o

/-- room for variables -/
theorem SR.room (h : SR P G N0 w0 I0 S E w) (k : Nat) : SR P G N0 w0 I0 { S with boxes := S.boxes ++ List.replicate k none } E w := by
  refine ⟨h.below, h.n0, h.Ilt, h.Iold, fun id b he => ?_, h.Binj, fun id cs hi => ?_, h.glob, fun id hi => ?_, h.Klt, h.Kblk, h.live⟩
  · obtain ⟨a1, a2⟩ := h.Blt id b he
    exact ⟨by simp; omega, a2⟩
  · by_cases hid : id < S.boxes.length
    · simp only [List.getElem?_append_left hid] at hi
      exact h.box id cs hi
    · simp only at hi
      rw [List.getElem?_append_right (by omega), List.getElem?_replicate] at hi
      split at hi <;> simp at hi
  · by_cases hid : id < S.boxes.length
    · simp only [List.getElem?_append_left hid] at hi
      exact h.hole id hi
    · cases hb : E.B id with
      | none => rfl
      | some b => exact absurd (h.Blt id b hb).1 hid

/-- a new variable -/
theorem SR.box_new (h : SR P G N0 w0 I0 S E w) (bid : Nat) (hbid : S.boxes[bid]? = some none) (cs : List AV) (arr : Array Value) (ty : TypeId) (hn : arr.size = cs.length)
    (hc : ∀ (i : Nat) (c : AV) (v : Value), cs[i]? = some c → arr[i]? = some v → Rep E w c v ∧ v.oneCell' = true) :
    ∃ E', SR P G N0 w0 I0 { S with boxes := S.boxes.set bid (some cs) } E' (w.alloc (.cells arr ty)) ∧ Env.Le E E' w (w.alloc (.cells arr ty)) ∧ E'.B bid = some w.heap.size := by
  have hb := below_alloc w (.cells arr ty)
  have hlt : bid < S.boxes.length := (List.getElem?_eq_some_iff.1 hbid).1
  have hnone : ∀ id b, E.B id = some b → id ≠ bid := fun id b he e => by subst e; rw [h.hole id hbid] at he; cases he
  let E' : Env := ⟨E.I, fun id => if id = bid then some w.heap.size else E.B id, E.K⟩
  have hle : Env.Le E E' w (w.alloc (.cells arr ty)) := ⟨fun b o hi => ⟨hi, hb.cell (p := ⟨b, o, none⟩) (h.Ilt b o hi)⟩, fun b x hx => by
    show (if b = bid then some w.heap.size else E.B b) = some x
    rw [if_neg (hnone b x hx)]; exact hx, fun _ _ _ h => h⟩
  refine ⟨E', ⟨h.below.trans (hb.mono h.n0), by simp; have := h.n0; omega, fun b o hi => by simp; have := h.Ilt b o hi; omega, h.Iold, fun id b he => ?_, fun id id' b he he' => ?_, fun id cs' hi => ?_, h.glob.le hle, fun id hi => ?_, h.Klt, fun t n v hk g hg => by have hlt := h.Kblk t n v hk g hg; simp; omega, fun t n e ht => ?_⟩, hle, by
    show (if bid = bid then some w.heap.size else _) = _
    rw [if_pos rfl]⟩
  · have he' : (if id = bid then some w.heap.size else E.B id) = some b := he
    split at he'
    · rename_i e
      injection he' with he'
      subst he'
      subst e
      exact ⟨by simpa using hlt, h.n0, by simp, fun o ho => by have := h.Ilt _ o ho; omega⟩
    · obtain ⟨a1, a2, a3, a4⟩ := h.Blt id b he'
      exact ⟨by simpa using a1, a2, by simp; omega, a4⟩
  · have e1 : (if id = bid then some w.heap.size else E.B id) = some b := he
    have e2 : (if id' = bid then some w.heap.size else E.B id') = some b := he'
    split at e1 <;> split at e2
    · omega
    · injection e1 with e1
      have := (h.Blt id' b e2).2.2.1; omega
    · injection e2 with e2
      have := (h.Blt id b e1).2.2.1; omega
    · exact h.Binj id id' b e1 e2
  · simp only [List.getElem?_set] at hi
    by_cases hid : bid = id
    · subst hid
      simp [hlt] at hi
      subst hi
      refine ⟨w.heap.size, arr, ty, ?_, heap_alloc_new w _, hn, fun i c v hi hv => ⟨(hc i c v hi hv).1.le hle, (hc i c v hi hv).2⟩⟩
      show (if bid = bid then some w.heap.size else _) = _
      rw [if_pos rfl]
    · simp [hid] at hi
      obtain ⟨blk, arr', ty', hB, hh, hn', hc'⟩ := h.box id cs' hi
      exact ⟨blk, arr', ty', hle.B _ _ hB, by rw [hb.block blk (h.Blt id blk hB).2.2.1]; exact hh, hn', fun i c v hi hv => ⟨(hc' i c v hi hv).1.le hle, (hc' i c v hi hv).2⟩⟩
  · simp only [List.getElem?_set] at hi
    by_cases hid : bid = id
    · subst hid
      simp [hlt] at hi
    · simp [hid] at hi
      show (if id = bid then some w.heap.size else E.B id) = none
      rw [if_neg (Ne.symm hid)]; exact h.hole id hi
  · obtain ⟨v, xs, sz, hsz, hown, hu, hK, hg⟩ := h.live t n e ht
    refine ⟨v, xs, sz, hsz, hown.alloc _, hu, hK, fun g hg' => ?_⟩
    obtain ⟨a1, a2, a3⟩ := hg g hg'
    refine ⟨a1, fun id he => ?_, a3⟩
    have he' : (if id = bid then some w.heap.size else E.B id) = some g := he
    split at he'
    · injection he' with he'
      have := (hown.lt g hg').2; omega
    · exact a2 id he'

/-- a store into a variable -/
theorem SR.box_set (h : SR P G N0 w0 I0 S E w) {id blk : Nat} {cs' : List AV} {arr arr' : Array Value} {ty : TypeId} (hB : E.B id = some blk) (hh : w.heap[blk]? = some (.cells arr ty (0, 0)))
    (hn : arr'.size = cs'.length) (hc : ∀ (i : Nat) (c : AV) (v : Value), cs'[i]? = some c → arr'[i]? = some v → Rep E w c v ∧ v.oneCell' = true) :
    SR P G N0 w0 I0 { S with boxes := S.boxes.set id (some cs') } E (w.setRow blk arr') ∧ Env.Le E E w (w.setRow blk arr') := by
  obtain ⟨b1, b2, b3, b4⟩ := h.Blt id blk hB
  have hblk : ∀ k, k ≠ blk → (w.setRow blk arr').heap[k]? = w.heap[k]? := fun k hk => setRow_other w blk k arr' hk
  have hle : Env.Le E E w (w.setRow blk arr') := ⟨fun b o hi => ⟨hi, World.cell?_of_block (a := ⟨b, o, none⟩) (hblk b (fun e => b4 o (e ▸ hi)))⟩, fun _ _ h => h, fun _ _ _ h => h⟩
  refine ⟨⟨h.below.trans ⟨rfl, rfl, rfl, by simp, fun k hk => hblk k (by omega)⟩, by simpa using h.n0, fun b o hi => by simpa using h.Ilt b o hi, h.Iold, fun id' b he => ?_, h.Binj, fun id' cs'' hi => ?_, h.glob.le hle, fun id' hi => ?_, h.Klt, fun t n v hk g hg => by have hlt := h.Kblk t n v hk g hg; simpa using hlt, fun t n e ht => ?_⟩, hle⟩
  · obtain ⟨a1, a2, a3, a4⟩ := h.Blt id' b he
    exact ⟨by simpa using a1, a2, by simpa using a3, a4⟩
  · simp only [List.getElem?_set] at hi
    by_cases e : id = id'
    · subst e
      simp [b1] at hi
      subst hi
      exact ⟨blk, arr', ty, hB, setRow_heap w blk arr arr' ty _ hh, hn, fun i c v hi hv => ⟨(hc i c v hi hv).1.le hle, (hc i c v hi hv).2⟩⟩
    · simp [e] at hi
      obtain ⟨blk', arr2, ty2, hB', hh', hn', hc'⟩ := h.box id' cs'' hi
      refine ⟨blk', arr2, ty2, hB', by rw [hblk blk' (fun e' => e (h.Binj id id' blk hB (e' ▸ hB')))]; exact hh', hn', fun i c v hi hv => ⟨(hc' i c v hi hv).1.le hle, (hc' i c v hi hv).2⟩⟩
  · simp only [List.getElem?_set] at hi
    by_cases e : id = id'
    · subst e
      simp [b1] at hi
    · simp [e] at hi
      exact h.hole id' hi
  · obtain ⟨v, xs, sz, hsz, hown, hu, hK, hg⟩ := h.live t n e ht
    refine ⟨v, xs, sz, hsz, hown.kept (row := some blk) ⟨rfl, rfl, rfl, by simp, fun k _ hk => hblk k (fun e => hk (by rw [e]))⟩ ?_, hu, hK, hg⟩
    right
    intro e'
    exact (hg blk e').2.1 id hB

/-- the cells of a slice, in a row -/
def Vals (E : Env) (w : World) (sz : Nat) (es : List AV) (vals : List Value) : Prop :=
  vals.length = es.length * sz ∧ (∀ e ∈ es, e.cells.length = sz) ∧ (∀ e ∈ es, e.closed1 = true) ∧ (∀ u ∈ vals, u.oneCell' = true) ∧
  ∀ (i : Nat) (e : AV) (j : Nat) (c : AV), es[i]? = some e → e.cells[j]? = some c → ∃ u, vals[i * sz + j]? = some u ∧ Rep E w c u

theorem Vals.le {E' : Env} {sz : Nat} {es : List AV} {vals : List Value} (h : Vals E w sz es vals) (hl : Env.Le E E' w w') : Vals E' w' sz es vals :=
  ⟨h.1, h.2.1, h.2.2.1, h.2.2.2.1, fun i e j c hi hj => by
    obtain ⟨u, hu, hr⟩ := h.2.2.2.2 i e j c hi hj
    exact ⟨u, hu, hr.le hl⟩⟩
theorem Vals.append {sz : Nat} {es fs : List AV} {us vs : List Value} (h : Vals E w sz es us) (k : Vals E w sz fs vs) : Vals E w sz (es ++ fs) (us ++ vs) := by
  refine ⟨by rw [List.length_append, List.length_append, h.1, k.1, Nat.add_mul], fun e he => ?_, fun e he => ?_, fun u hu => ?_, fun i e j c hi hj => ?_⟩
  · rcases List.mem_append.1 he with he | he
    · exact h.2.1 e he
    · exact k.2.1 e he
  · rcases List.mem_append.1 he with he | he
    · exact h.2.2.1 e he
    · exact k.2.2.1 e he
  · rcases List.mem_append.1 hu with hu | hu
    · exact h.2.2.2.1 u hu
    · exact k.2.2.2.1 u hu
  · by_cases hlt : i < es.length
    · rw [List.getElem?_append_left hlt] at hi
      obtain ⟨u, hu, hr⟩ := h.2.2.2.2 i e j c hi hj
      refine ⟨u, ?_, hr⟩
      rw [List.getElem?_append_left (List.getElem?_eq_some_iff.1 hu).1]; exact hu
    · rw [List.getElem?_append_right (by omega)] at hi
      obtain ⟨u, hu, hr⟩ := k.2.2.2.2 _ e j c hi hj
      refine ⟨u, ?_, hr⟩
      have e1 : i * sz + j = us.length + ((i - es.length) * sz + j) := by
        rw [h.1, Nat.sub_mul]
        have : es.length * sz ≤ i * sz := Nat.mul_le_mul_right _ (by omega)
        omega
      rw [e1, List.getElem?_append_right (by omega)]
      simpa using hu

/-- a slice whose cells lie there -/
theorem Vals.rep {sz : Nat} {es : List AV} {vals : List Value} (h : Vals E w sz es vals) (g off cap : Nat) (o : Own) (hcap : es.length ≤ cap) (hmax : cap ≤ maxLen)
    (hc : ∀ j u, vals[j]? = some u → E.I g (off + j) ∧ w.cell? ⟨g, off + j, none⟩ = some u) (ho : OwnOk E.K o es.length cap (.slice (some ⟨g, off, none⟩) es.length cap)) :
    Rep E w (.sl sz es o) (.slice (some ⟨g, off, none⟩) es.length cap) := by
  refine .sl sz es o _ cap (fun i j => vals.getD (i * sz + j) (.bool false)) hcap hmax (.inr ⟨g, off, rfl, fun i e j c hi hj => ?_⟩) h.2.1 h.2.2.1 ho (fun i e j c hi hj => ?_) (fun i j => ?_)
  · obtain ⟨u, hu, _⟩ := h.2.2.2.2 i e j c hi hj
    have := hc _ u hu
    rw [Nat.add_assoc]
    refine ⟨this.1, ?_⟩
    rw [this.2, List.getD_eq_getElem?_getD, hu]; rfl
  · obtain ⟨u, hu, hr⟩ := h.2.2.2.2 i e j c hi hj
    rw [List.getD_eq_getElem?_getD, hu]; exact hr
  · rw [List.getD_eq_getElem?_getD]
    cases hu : vals[i * sz + j]? with
    | none => rfl
    | some u => exact h.2.2.2.1 u (List.mem_of_getElem? hu)

/-- the cells of a slice that is there -/
theorem rep_vals {sz : Nat} {es : List AV} {o : Own} {A : Option Addr} {cap : Nat} (h : Rep E w (.sl sz es o) (.slice A es.length cap)) (hs : 0 < sz) :
    ∃ vals, Vals E w sz es vals ∧ (∀ (w' : World), (∀ p, w'.cell? p = w.cell? p) → (Builtin.firstCells sz es.length (.slice A es.length cap)).run P w' = .ok vals.toArray w') ∧
      (∀ b off, A = some ⟨b, off, none⟩ → ∀ j u, vals[j]? = some u → E.I b (off + j) ∧ w.cell? ⟨b, off + j, none⟩ = some u) := by
  cases h with | sl _ _ _ _ _ u hcap hmax hA hsz hcl ho hr hone =>
  have split : ∀ k, k < es.length * sz → ∃ e c, es[k / sz]? = some e ∧ e.cells[k % sz]? = some c := fun k hk => by
    have h1 : k / sz < es.length := (Nat.div_lt_iff_lt_mul hs).2 hk
    have h2 : k % sz < es[k / sz].cells.length := by rw [hsz _ (List.getElem_mem h1)]; exact Nat.mod_lt _ hs
    exact ⟨_, _, List.getElem?_eq_getElem h1, List.getElem?_eq_getElem h2⟩
  have hdm : ∀ k, k / sz * sz + k % sz = k := fun k => by rw [Nat.mul_comm]; exact Nat.div_add_mod k sz
  have hat : ∀ b off, A = some ⟨b, off, none⟩ → ∀ k, k < es.length * sz → E.I b (off + k) ∧ w.cell? ⟨b, off + k, none⟩ = some (u (k / sz) (k % sz)) := fun b off e k hk => by
    have hne : es ≠ [] := fun e => by subst e; simp at hk
    obtain ⟨b', off', e', hc⟩ := hA.resolve_left hne
    rw [e] at e'
    injection e' with e'; injection e' with e1 e2
    subst e1; subst e2
    obtain ⟨e, c, h1, h2⟩ := split k hk
    have := hc _ e _ c h1 h2
    rw [Nat.add_assoc, hdm k] at this
    exact this
  refine ⟨(List.range (es.length * sz)).map fun k => u (k / sz) (k % sz), ⟨by simp, hsz, hcl, fun v hv => ?_, fun i e j c hi hj => ?_⟩, fun w' hw' => ?_, fun b off e j v hv => ?_⟩
  · obtain ⟨k, _, rfl⟩ := List.mem_map.1 hv
    exact hone _ _
  · have hj' : j < sz := by
      have := (List.getElem?_eq_some_iff.1 hj).1
      rw [hsz e (List.mem_of_getElem? hi)] at this
      exact this
    have hi' : i < es.length := (List.getElem?_eq_some_iff.1 hi).1
    have hlt : i * sz + j < es.length * sz := by
      have : (i + 1) * sz ≤ es.length * sz := Nat.mul_le_mul_right _ hi'
      rw [Nat.add_mul] at this; omega
    refine ⟨u i j, ?_, hr i e j c hi hj⟩
    rw [List.getElem?_map, List.getElem?_range hlt]
    have e1 : (i * sz + j) / sz = i := by rw [Nat.mul_comm, Nat.mul_add_div hs, Nat.div_eq_of_lt hj', Nat.add_zero]
    have e2 : (i * sz + j) % sz = j := by rw [Nat.mul_comm, Nat.mul_add_mod, Nat.mod_eq_of_lt hj']
    simp [e1, e2]
  · cases A with
    | none =>
      have : es = [] := by
        rcases hA with hA | ⟨b, off, e, _⟩
        · exact hA
        · cases e
      subst this
      simp [Builtin.firstCells]
    | some a =>
      refine run_firstCells_some w' sz es.length a es.length cap _ (by simp) (fun j v hv => ?_)
      rcases hA with hA | ⟨b, off, e, hc⟩
      · subst hA; simp at hv
      · injection e with e; subst e
        rw [List.getElem?_map] at hv
        by_cases hj : j < es.length * sz
        · rw [List.getElem?_range hj] at hv
          simp at hv; subst hv
          rw [add_plain, hw']
          exact (hat b off rfl j hj).2
        · rw [List.getElem?_eq_none (by simpa using hj)] at hv; cases hv
  · rw [List.getElem?_map] at hv
    by_cases hj : j < es.length * sz
    · rw [List.getElem?_range hj] at hv
      simp at hv; subst hv
      exact hat b off e j hj
    · rw [List.getElem?_eq_none (by simpa using hj)] at hv; cases hv
end
end Go.Abs
