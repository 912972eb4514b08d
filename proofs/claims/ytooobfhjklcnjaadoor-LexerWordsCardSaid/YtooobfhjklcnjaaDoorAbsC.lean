/-
  What it means that abstract variables stand for a world; small lemmas.
-/
import Derived.Test.YtooobfhjklcnjaaDoorAbsB
import Derived.Deep.AppendSrc
import Derived.Laws.StructEq
namespace Go.Abs
open Go.RowKit

/-- package variables that nobody writes -/
def GlobOk (G : Glob) (E : Env) (w : World) : Prop := ∀ g e, G g = some e → e.closed1 = true ∧ Rep E w (.elt e.cells.length [e] 0 0) (.pointer (some ⟨g, 0, none⟩))
theorem GlobOk.le {G : Glob} {E E' : Env} {w w' : World} (h : GlobOk G E w) (hl : Env.Le E E' w w') : GlobOk G E' w' := fun g e hg => ⟨(h g e hg).1, (h g e hg).2.le hl⟩

structure SR (P : Program) (G : Glob) (N0 : Nat) (w0 : World) (I0 : Nat → Nat → Prop) (S : St) (E : Env) (w : World) : Prop where
  below : Below N0 w0 w
  n0 : N0 ≤ w.heap.size
  Ilt : ∀ b o, E.I b o → b < w.heap.size
  Iold : ∀ b o, E.I b o → b < N0 → I0 b o
  Blt : ∀ id b, E.B id = some b → id < S.boxes.length ∧ N0 ≤ b ∧ b < w.heap.size ∧ ∀ o, ¬ E.I b o
  Binj : ∀ id id' b, E.B id = some b → E.B id' = some b → id = id'
  box : ∀ id cs, S.boxes[id]? = some (some cs) → ∃ blk arr ty, E.B id = some blk ∧ w.heap[blk]? = some (.cells arr ty (0, 0)) ∧ arr.size = cs.length ∧
    ∀ (i : Nat) (c : AV) (v : Value), cs[i]? = some c → arr[i]? = some v → Rep E w c v ∧ v.oneCell' = true
  glob : GlobOk G E w
  hole : ∀ id, S.boxes[id]? = some none → E.B id = none
  Klt : ∀ t n v, E.K t n v → ∃ m e, S.live[t]? = some (m, e) ∧ n ≤ m
  Kblk : ∀ t n v, E.K t n v → ∀ g, v.ownBlock = some g → g < w.heap.size
  live : ∀ t n e, S.live[t]? = some (n, e) → ∃ v xs sz, sizeA P e = some sz ∧ w.ownsRow N0 e sz v n xs ∧ (∀ v', E.K t n v' → v' = v) ∧ E.K t n v ∧
    ∀ g, v.ownBlock = some g → (∀ o, E.I g o → o < n * sz) ∧ (∀ id, E.B id ≠ some g) ∧ ∀ t' n' v', E.K t' n' v' → v'.ownBlock = some g → t' = t

theorem SR.Kb {P : Program} {G : Glob} {N0 : Nat} {w0 : World} {I0 : Nat → Nat → Prop} {S : St} {E : Env} {w : World} (h : SR P G N0 w0 I0 S E w) {t n : Nat} {v : Value} {g : Nat} (hk : E.K t n v) (hg : v.ownBlock = some g) : g < w.heap.size := h.Kblk t n v hk g hg

/-- temporaries -/
def TR (E : Env) (w : World) (T : List AV) (tm : Array Value) : Prop :=
  T.length = tm.size ∧ ∀ (i : Nat) (c : AV) (v : Value), T[i]? = some c → tm[i]? = some v → Rep E w c v

section
variable {P : Program} {E E' : Env} {w w' : World}

theorem TR.le {T : List AV} {tm : Array Value} (h : TR E w T tm) (hl : Env.Le E E' w w') : TR E' w' T tm := ⟨h.1, fun i c v h1 h2 => (h.2 i c v h1 h2).le hl⟩
theorem rep_undef : Rep E w (.tup []) undef := .tup [] #[] rfl fun i c v h => by simp at h
theorem TR.get {T : List AV} {tm : Array Value} (h : TR E w T tm) (i : Nat) : Rep E w (T.getD i (.tup [])) (tm.getD i undef) := by
  by_cases hi : i < T.length
  · have hi' : i < tm.size := h.1 ▸ hi
    have := h.2 i T[i] tm[i] (List.getElem?_eq_getElem hi) (Array.getElem?_eq_getElem hi')
    simpa [hi, hi'] using this
  · have hi' : ¬ i < tm.size := h.1 ▸ hi
    rw [List.getD_eq_getElem?_getD, List.getElem?_eq_none (by omega)]
    simp only [Array.getD, hi', dif_neg, not_false_eq_true]
    exact rep_undef
theorem TR.put {T : List AV} {a : Act} (h : TR E w T a.tmps) (d : Option Tmp) {r : AV} {v : Value} (hr : Rep E w r v) : TR E w (match d with | some d => T.set d r | none => T) (a.put d v).tmps := by
  cases d with
  | none => exact h
  | some d =>
    refine ⟨by simp [Act.put, h.1], fun i c u h1 h2 => ?_⟩
    simp only [Act.put] at h2
    rw [List.getElem?_set] at h1
    rw [Array.getElem?_setIfInBounds] at h2
    by_cases e : d = i
    · subst e
      by_cases hd : d < T.length
      · have hd' : d < a.tmps.size := h.1 ▸ hd
        simp [hd] at h1
        simp [hd'] at h2
        subst h1; subst h2; exact hr
      · simp [hd] at h1
    · simp [e] at h1 h2
      exact h.2 i c u h1 h2

theorem litOk_one {v : Value} (h : litOk v = true) : v.oneCell' = true := by
  cases v <;> simp_all [litOk, Value.oneCell']
theorem Rep.one {a : AV} {v : Value} (h : Rep E w a v) (hp : a.plain = true) (ha : ∀ cs, a ≠ .agg cs) : v.oneCell' = true := by
  cases h <;> simp_all [AV.plain, Value.oneCell'] <;> first | rfl | exact litOk_one ‹_›
theorem Rep.cells {a : AV} {v : Value} (h : Rep E w a v) (hp : a.plain = true) : v.cells.size = a.cells.length ∧
    (∀ (i : Nat) (c : AV) (u : Value), a.cells[i]? = some c → v.cells[i]? = some u → Rep E w c u ∧ u.oneCell' = true) := by
  by_cases ha : ∃ cs, a = .agg cs
  · obtain ⟨cs, rfl⟩ := ha
    cases h with
    | agg _ vs hn h1 h => exact ⟨hn, fun i c u hc hu => ⟨h i c u hc hu, h1 i u hu⟩⟩
  · have ha' : ∀ cs, a ≠ .agg cs := fun cs e => ha ⟨cs, e⟩
    have h1 := h.one hp ha'
    have e1 : a.cells = [a] := by cases a <;> simp_all [AV.cells]
    have e2 : v.cells = #[v] := by cases v <;> simp_all [Value.cells, Value.oneCell']
    rw [e1, e2]
    refine ⟨rfl, fun i c u hc hu => ?_⟩
    match i, hc, hu with
    | 0, hc, hu => simp at hc hu; subst hc; subst hu; exact ⟨h, h1⟩
    | i + 1, hc, hu => simp at hc

theorem absV0_rep (v : Value) : Rep E w (absV0 v) v := by
  unfold absV0
  split
  · exact .bool _
  · exact .int _ _
  · exact .str _ _ rfl
  · exact .sl 0 [] .nil none 0 (fun _ _ => .bool false) (Nat.le_refl _) (by simp [maxLen]) (.inl rfl) (by simp) (by simp) rfl (by simp) (by simp [Value.oneCell'])
  · exact .lit _ rfl
  · exact .lit _ rfl
  · exact .lit _ rfl
  · exact .lit _ rfl
  · exact .junk _
theorem absV0_map {l : List Value} {i : Nat} {c : AV} {u : Value} (hc : (l.map absV0)[i]? = some c) (hu : l[i]? = some u) : Rep E w c u := by
  rw [List.getElem?_map, hu] at hc
  simp at hc
  subst hc
  exact absV0_rep u
theorem absV_rep (v : Value) : Rep E w (absV v) v := by
  unfold absV
  split
  · rename_i cs
    split
    · rename_i h
      refine .agg _ _ (by simp) (fun i v hv => ?_) (fun i c u hc hu => absV0_map hc (by simpa using hu))
      rw [List.all_eq_true] at h
      exact h v (by simpa using Array.mem_of_getElem? hv)
    · exact .junk _
  · rename_i vs
    split
    · rename_i h
      obtain rfl : vs = #[] := by simpa using h
      exact rep_undef
    · exact .junk _
  · exact absV0_rep _

theorem evA_rep {G : Glob} (hG : GlobOk G E w) {T : List AV} {a : Act} (h : TR E w T a.tmps) (x : Operand) : Rep E w (evA G T x) (a.eval x) := by
  cases x with
  | tmp t => exact h.get t
  | const v => exact absV_rep v
  | global g =>
    simp only [evA]
    split
    · rename_i e he
      exact (hG g e he).2
    · exact .junk _
  | func f => exact .fn f [] #[] rfl fun i c v h => by simp at h

theorem wp_value {o : Oper} {a : Act} {K : Act → World → Prop} {Q : Exit → Act → World → Prop} {v : Value} (h : (execOp a.eval o).run P w = .ok (.value v) w') (hk : K (a.put o.dst v) w') : o.wp P a w K Q := by
  unfold Oper.wp; rw [h]; exact hk
theorem wp_skip' {o : Oper} {a : Act} {K : Act → World → Prop} {Q : Exit → Act → World → Prop} (h : (execOp a.eval o).run P w = .ok .skip w') (hk : K (a.put o.dst undef) w') : o.wp P a w K Q := by
  unfold Oper.wp; rw [h]; exact hk

theorem run_isAgg {t : TypeId} {b : Bool} (h : aggA P t = some b) (w : World) : (isAgg t).run P w = .ok b w := by
  unfold aggA at h
  cases hu : P.underlying t with
  | none => simp [hu] at h
  | some d =>
    simp [hu] at h
    subst h
    cases d <;> simp [isAgg, run_underlying hu]
theorem run_sizeOf' {t : TypeId} {s : Nat} (h : sizeA P t = some s) (w : World) : (sizeOf t).run P w = .ok s w := by
  unfold sizeA at h
  cases hi : P.info? t with
  | none => simp [hi] at h
  | some i =>
    simp [hi] at h
    subst h
    simp [sizeOf, typeInfo, hi]
theorem run_zero {t : TypeId} {z : Value} (h : zeroA P t = some z) (w : World) : (zeroValue t).run P w = .ok z w := by
  unfold zeroA at h
  cases hi : P.info? t with
  | none => simp [hi] at h
  | some i =>
    simp [hi] at h
    simp [zeroValue, typeInfo, hi, h]
end
end Go.Abs
