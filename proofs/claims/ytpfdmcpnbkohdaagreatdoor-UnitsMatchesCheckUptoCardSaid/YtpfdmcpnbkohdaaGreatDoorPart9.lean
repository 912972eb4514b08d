/- Own texts, part 9. -/
import Derived.Test.YtpfdmcpnbkohdaaGreatDoorPart8

namespace Go.Abs
open Go.Proofs Go.Proofs.YtpfdmcpnbkohdaaGreatDoor
open Go.ChangeShapes Go.WideShapes Go.ChangeAt Go.RowKit Go.ChangeMaps
abbrev nameQ {H : Type} (f : FacI) (x : DataW H) : Prop := f.1.s.length + 1 ≤ Rows.uptoBulk x
set_option maxRecDepth 100000 in
theorem elemQ_fac {H : Type} {enc : TypeId × Value → H} {W : World} : ElemQ PU W enc 37 (fun f : FacI => facA f.1) nameQ := by
  intro n cs x h
  obtain ⟨f0, f1, hu, t0, o0, t1, o1⟩ := fac_struct
  obtain ⟨xs, m, _, hx, hlen, hxl, hf⟩ := DataW.trod_struct hu h
  rw [fac_cells] at hlen
  have h0 := hf 0 f0 rfl
  have h1 := hf 1 f1 rfl
  rw [t0, o0, str_cells] at h0
  rw [t1, o1, int_cells] at h1
  match cs, hlen, xs, hxl with
  | [c0, c1], _, [y0, y1], _ =>
    simp at h0 h1
    obtain ⟨s, e0, d0, _⟩ := DataW.trod_string Tryz.underlying9 h0
    obtain ⟨k, e1, _, wk⟩ := DataW.trod_int Tryz.underlying3 h1
    simp at e0 e1
    subst e0; subst e1
    refine ⟨⟨⟨s.data.toList, k⟩, int_rng wk⟩, ?_, fun E j c u hc hu => ?_⟩
    · rw [hx]
      show s.data.toList.length + 1 ≤ Rows.uptoBulk (DataW.agg [y0.1, y1.1])
      rw [d0]
      simp only [Rows.uptoBulk, Rows.uptoBulkAll]
      omega
    match j, hc, hu with
    | 0, hc, hu => simp [facA, AV.cells] at hc hu; subst hc; subst hu; exact ⟨mk_str s, rfl⟩
    | 1, hc, hu => simp [facA, AV.cells] at hc hu; subst hc; subst hu; exact ⟨.int _ _, rfl⟩
    | j + 2, hc, hu => simp [facA, AV.cells] at hc
def namesLen (l : List Fac) : Nat := (l.map fun f => f.s.length + 1).sum
theorem names_le {H : Type} : ∀ {l : List FacI} {elems : List (DataW H)}, elems.length = l.length → (∀ (i : Nat) a x, l[i]? = some a → elems[i]? = some x → nameQ a x) → namesLen (l.map (·.1)) ≤ Rows.uptoBulkAll elems
  | [], _, _, _ => Nat.zero_le _
  | f :: l, [], h, _ => by simp at h
  | f :: l, x :: xs, h, hq => by
    have ih := names_le (l := l) (elems := xs) (by simpa using h) fun i a y hi hy => hq (i + 1) a y (by simpa using hi) (by simpa using hy)
    have h0 : f.1.s.length + 1 ≤ Rows.uptoBulk x := hq 0 f x rfl rfl
    unfold namesLen at *
    simp only [List.map_cons, List.sum_cons, Rows.uptoBulkAll]
    omega
set_option maxRecDepth 100000 in
theorem open_facsB {H : Type} {enc : TypeId × Value → H} {W : World} {v : Value} {d : DataW H} {ps : List MemPlace} {b0 : Nat} (hv : Value.okWide PU W .any b0 22 v) (h : DataW.Trod enc PU W 0 (fun _ => true) true 22 v d ps) :
    ∃ l : List Fac, Rep (oldE W) W (.sl 2 (facsL l) .no) v ∧ (∀ f ∈ l, iOk f.e) ∧ namesLen l ≤ Rows.uptoBulk d := by
  obtain ⟨l, hl, hb⟩ := open_slQ (P := PU) (g := fun f : FacI => facA f.1) (sz := 2) Tryz.underlying22 fac_cells (by omega) (fun _ => ⟨rfl, rfl⟩) elemQ_fac (okWide_slice Tryz.underlying22 hv) h
  have e : l.map (fun f : FacI => facA f.1) = facsL (l.map (·.1)) := by unfold facsL; rw [List.map_map]; rfl
  rw [e] at hl
  refine ⟨l.map (·.1), hl, fun f hf => ?_, ?_⟩
  · obtain ⟨g, _, rfl⟩ := List.mem_map.1 hf
    exact g.2
  · rcases hb with rfl | ⟨elems, spare, rfl, hlen, hq⟩
    · exact Nat.zero_le _
    · have := names_le hlen hq
      have := Bulks.slice_elems elems spare
      omega
theorem names_count : ∀ l : List Fac, l.length ≤ namesLen l
  | [] => Nat.le_refl _
  | f :: l => by
    have := names_count l
    unfold namesLen at *
    simp only [List.map_cons, List.sum_cons, List.length_cons]; omega
theorem tail_le : ∀ {l : List Fac}, (∀ f ∈ l, iOk f.e) → (Lib.joinTail [42] (l.map partF)).length ≤ 24 * namesLen l
  | [], _ => by simp [Lib.joinTail]
  | f :: l, h => by
    have ih := tail_le (l := l) fun g hg => h g (by simp [hg])
    have hi := itoa_len (h f (by simp))
    have hp : (partF f).length ≤ f.s.length + 22 := by
      unfold partF; split
      · omega
      · simp only [List.length_append, List.length_cons, List.length_nil]; omega
    unfold namesLen Lib.joinTail at *
    simp only [List.map_cons, List.sum_cons, List.flatten_cons, List.length_append, List.length_cons, List.length_nil] at *
    omega
theorem fmt_small {l : List Fac} (h : ∀ f ∈ l, iOk f.e) (hn : namesLen l ≤ 1048576) : fmtOk l := by
  refine ⟨by have := names_count l; omega, h, ?_⟩
  have ht := tail_le h
  unfold fmtF
  cases l with
  | nil => simp [Lib.join_nil]
  | cons f r =>
    rw [List.map_cons, Lib.join_cons, List.length_append]
    unfold Lib.joinTail at *
    simp only [List.map_cons, List.flatten_cons, List.length_append, List.length_cons, List.length_nil] at *
    omega
theorem len_small {l : List Fac} (hn : namesLen l ≤ 1048576) : lenOk l := by have := names_count l; unfold lenOk; omega
def chkOk (l : List Fac) : Prop := lenOk l ∧ ∀ f ∈ l, iOk f.e
theorem s3_row (l : List Fac) (h : chkOk l) : s3 [.sl 2 (facsL l) .no] = some (.bool true, []) := s3_true l h.1 h.2
end Go.Abs
