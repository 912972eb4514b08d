/- Own texts, part 6. -/
import Derived.Test.YtpijifiekgbjnaaDoorPart5
import Derived.Test.YtpijifiekgbjnaaDoorRows
import Derived.Lib.LaidTab
import Derived.Lib.LaidU8
import Derived.LaidLaws
import Derived.Lay
import Derived.Shelf.Lay

namespace Go.Abs
open Go.Proofs Go.Proofs.YtpijifiekgbjnaaDoor Go.ChangeShapes Go.WideShapes Go.ChangeAt Go.RowKit Go.Deep Go.ChangeMaps

abbrev laid5 : List (String × DataW Unit) := Rows.valuesComparesRow.laid
theorem gTens : PZ.globalNamed "asof/decimal.tens" = some 0 := by kernel_rfl
theorem gSyn : PZ.globalNamed "strconv.ErrSyntax" = some 2 := by kernel_rfl
theorem gRange : PZ.globalNamed "strconv.ErrRange" = some 3 := by kernel_rfl
theorem gPows : PZ.globalNamed "internal/strconv.uint64pow10" = some 6 := by kernel_rfl
theorem nGlob : PZ.globals.size = 9 := by kernel_rfl
def tensL : List Int := [1, 10, 100, 1000, 10000, 100000, 1000000]
section
variable {W : World}
theorem tens_cells (h : laidMet PZ laid5 W) : ∀ i, i < 7 → W.cell? ⟨0, i, none⟩ = some (.int .i64 (10 ^ i)) := by
  obtain ⟨g, t, cs, fuel, p, h1, h2, h3, h4⟩ := Lib.laidMet.reads h (n := "asof/decimal.tens") (d := Rows.laid_asof_decimal_tens) (by simp [laid5, Rows.valuesComparesRow])
  obtain rfl := Option.some.inj (gTens.symm.trans h1)
  have ty : ∃ t0 e, (PZ.globals[0]?).map (·.type) = some t0 ∧ PZ.underlying t0 = some (.array 7 e) ∧ PZ.underlying e = some (.int .i64) ∧ PZ.cellsOf e = 1 ∧ PZ.cellsOf t0 = 7 := ⟨55, 3, by kernel_rfl, by kernel_rfl, by kernel_rfl, by kernel_rfl, by kernel_rfl⟩
  obtain ⟨t0, e, g1, g2, g3, g4, g5⟩ := ty
  obtain rfl := Option.some.inj (g1.symm.trans h2)
  have hcs := Lib.cells_of_tab (zs := tensL) g2 g3 g4 g5 h4
  intro i hi
  rw [World.var?_cell h1 h3 i, ← Array.getElem?_toList, hcs]
  match i, hi with
  | 0, _ | 1, _ | 2, _ | 3, _ | 4, _ | 5, _ | 6, _ => rfl
theorem pow_cells (h : laidMet PZ laid5 W) : ∀ i, i < 20 → W.cell? ⟨6, i, none⟩ = some (.int .u64 ((10 ^ i : Nat) : Int)) := by
  obtain ⟨g, t, cs, fuel, p, h1, h2, h3, h4⟩ := Lib.laidMet.reads h (n := "internal/strconv.uint64pow10") (d := Rows.laid_internal_strconv_uint64pow10) (by simp [laid5, Rows.valuesComparesRow])
  obtain rfl := Option.some.inj (gPows.symm.trans h1)
  have ty : ∃ t0 e, (PZ.globals[6]?).map (·.type) = some t0 ∧ PZ.underlying t0 = some (.array 20 e) ∧ PZ.underlying e = some (.int .u64) ∧ PZ.cellsOf e = 1 ∧ PZ.cellsOf t0 = 20 := ⟨132, 63, by kernel_rfl, by kernel_rfl, by kernel_rfl, by kernel_rfl, by kernel_rfl⟩
  obtain ⟨t0, e, g1, g2, g3, g4, g5⟩ := ty
  obtain rfl := Option.some.inj (g1.symm.trans h2)
  have hd : (Rows.laid_internal_strconv_uint64pow10 : DataW Unit) = Lib.tabData .u64 Lib.pow10Tab := by kernel_rfl
  rw [hd] at h4
  have hcs := Lib.cells_of_tab g2 g3 g4 g5 h4
  intro i hi
  rw [World.var?_cell h1 h3 i, ← Array.getElem?_toList, hcs]
  simp [Lib.pow10Tab, hi]
theorem range_cell (h : laidMet PZ laid5 W) : ∃ t v, W.cell? ⟨3, 0, none⟩ = some (.iface t v) := by
  obtain ⟨g, t, cs, fuel, p, h1, h2, h3, h4⟩ := Lib.laidMet.reads h (n := "strconv.ErrRange") (d := Rows.laid_strconv_ErrRange) (by simp [laid5, Rows.valuesComparesRow])
  obtain rfl := Option.some.inj (gRange.symm.trans h1)
  have ty : ∃ t0 ms, (PZ.globals[3]?).map (·.type) = some t0 ∧ PZ.underlying t0 = some (.interface ms) := ⟨59, _, by kernel_rfl, Tryd.underlying59⟩
  obtain ⟨t0, ms, g1, g2⟩ := ty
  obtain rfl := Option.some.inj (g1.symm.trans h2)
  obtain ⟨_, u, v, hcs, _⟩ := iface_of_trod g2 h4
  refine ⟨u, v, ?_⟩
  rw [World.var?_cell h1 h3 0, ← Array.getElem?_toList, hcs]
  rfl
theorem syn_cell (h : laidMet PZ laid5 W) : ∃ t v, W.cell? ⟨2, 0, none⟩ = some (.iface t v) := by
  obtain ⟨g, t, cs, fuel, p, h1, h2, h3, h4⟩ := Lib.laidMet.reads h (n := "strconv.ErrSyntax") (d := Rows.laid_strconv_ErrSyntax) (by simp [laid5, Rows.valuesComparesRow])
  obtain rfl := Option.some.inj (gSyn.symm.trans h1)
  have ty : ∃ t0 ms, (PZ.globals[2]?).map (·.type) = some t0 ∧ PZ.underlying t0 = some (.interface ms) := ⟨59, _, by kernel_rfl, Tryd.underlying59⟩
  obtain ⟨t0, ms, g1, g2⟩ := ty
  obtain rfl := Option.some.inj (g1.symm.trans h2)
  obtain ⟨_, u, v, hcs, _⟩ := iface_of_trod g2 h4
  refine ⟨u, v, ?_⟩
  rw [World.var?_cell h1 h3 0, ← Array.getElem?_toList, hcs]
  rfl
theorem glob5A (h : laidMet PZ laid5 W) (hsh : W.ShapedOpen PZ) {m : Int} (hm : W.cell? ⟨1, 0, none⟩ = some (.int .i64 m)) : GlobOk (GZ m) (oldE W) W := by
  refine globA (fun g e hg => ?_) fun g e hg => ?_
  · match g, hg with
    | 0, hg =>
      simp only [GZ, Option.some.injEq] at hg
      subst hg
      refine ⟨rfl, fun j c hj => ?_⟩
      have hlt : j < 7 := (List.getElem?_eq_some_iff.1 hj).1
      refine ⟨_, tens_cells h j hlt, ?_, rfl⟩
      have : c = .int .i64 (10 ^ j) := by
        match j, hlt with
        | 0, _ | 1, _ | 2, _ | 3, _ | 4, _ | 5, _ | 6, _ => simp [tensA, AV.cells] at hj; subst hj; rfl
      subst this
      exact .int _ _
    | 1, hg =>
      simp only [GZ, Option.some.injEq] at hg
      subst hg
      refine ⟨rfl, fun j c hj => ?_⟩
      match j, hj with
      | 0, hj => simp [AV.cells] at hj; subst hj; exact ⟨_, hm, .int _ _, rfl⟩
      | j + 1, hj => simp [AV.cells] at hj
    | 2, hg =>
      simp only [GZ, Option.some.injEq] at hg
      subst hg
      refine ⟨rfl, fun j c hj => ?_⟩
      match j, hj with
      | 0, hj =>
        simp [AV.cells] at hj; subst hj
        obtain ⟨t, v, hv⟩ := syn_cell h
        exact ⟨_, hv, .ifc _ _, rfl⟩
      | j + 1, hj => simp [AV.cells] at hj
    | 3, hg =>
      simp only [GZ, Option.some.injEq] at hg
      subst hg
      refine ⟨rfl, fun j c hj => ?_⟩
      match j, hj with
      | 0, hj =>
        simp [AV.cells] at hj; subst hj
        obtain ⟨t, v, hv⟩ := range_cell h
        exact ⟨_, hv, .ifc _ _, rfl⟩
      | j + 1, hj => simp [AV.cells] at hj
    | 4, hg => cases hg
    | 5, hg => cases hg
    | 6, hg =>
      simp only [GZ, Option.some.injEq] at hg
      subst hg
      refine ⟨?_, fun j c hj => ?_⟩
      · simp only [keptPowsA, AV.closed1, keptPows, List.all_map, List.all_eq_true]
        intro x _; rfl
      · have hlt : j < 20 := by
          have := (List.getElem?_eq_some_iff.1 hj).1
          simpa [keptPowsA, AV.cells, keptPows] using this
        refine ⟨_, pow_cells h j hlt, ?_, rfl⟩
        have : c = .int .u64 ((10 ^ j : Nat) : Int) := by
          simp only [keptPowsA, AV.cells, keptPows, List.getElem?_map, List.getElem?_range hlt, Option.map_some, Option.some.injEq] at hj
          exact hj.symm
        subst this
        exact .int _ _
    | g + 7, hg => cases hg
  · match g, hg with
    | 0, hg =>
      simp only [GZ, Option.some.injEq] at hg
      subst hg
      exact glob_size hsh (n := 7) (by rw [nGlob]; omega) (by kernel_rfl)
    | 1, hg =>
      simp only [GZ, Option.some.injEq] at hg
      subst hg
      exact glob_size hsh (n := 1) (by rw [nGlob]; omega) (by kernel_rfl)
    | 2, hg =>
      simp only [GZ, Option.some.injEq] at hg
      subst hg
      exact glob_size hsh (n := 1) (by rw [nGlob]; omega) (by kernel_rfl)
    | 3, hg =>
      simp only [GZ, Option.some.injEq] at hg
      subst hg
      exact glob_size hsh (n := 1) (by rw [nGlob]; omega) (by kernel_rfl)
    | 4, hg => cases hg
    | 5, hg => cases hg
    | 6, hg =>
      simp only [GZ, Option.some.injEq] at hg
      subst hg
      have := glob_size (P := PZ) hsh (g := 6) (n := 20) (by rw [nGlob]; omega) (by kernel_rfl)
      have hn : keptPowsA.cells.length = 20 := by simp [keptPowsA, AV.cells, keptPows]
      rw [hn]; exact this
    | g + 7, hg => cases hg
end
theorem int_cells : PZ.cellsOf 3 = 1 := by kernel_rfl
theorem str_cells : PZ.cellsOf 9 = 1 := by kernel_rfl
theorem val_struct : ∃ f0 f1 f2 : Field, PZ.underlying 23 = some (.struct #[f0, f1, f2]) ∧ f0.type = 3 ∧ f0.offset = 0 ∧ f1.type = 3 ∧ f1.offset = 1 ∧ f2.type = 9 ∧ f2.offset = 2 := ⟨_, _, _, Tryd.underlying23, rfl, rfl, rfl, rfl, rfl, rfl⟩
theorem val_cells : PZ.cellsOf 23 = 3 := by kernel_rfl
set_option maxRecDepth 100000 in
/-- cells that read as a value -/
theorem val_open {H : Type} {enc : TypeId × Value → H} {W : World} {n : Nat} {cs : List Value} {x : DataW H × List MemPlace} (h : DataW.trod enc PZ W 0 (fun _ => true) true n 23 cs = some x) :
    ∃ (k m : Int) (s : ByteArray), cs = [.int .i64 k, .int .i64 m, .string s] ∧ i64Ok m := by
  obtain ⟨f0, f1, f2, hu, t0, o0, t1, o1, t2, o2⟩ := val_struct
  obtain ⟨xs, m, _, _, hlen, hxl, hf⟩ := DataW.trod_struct hu h
  rw [val_cells] at hlen
  have h0 := hf 0 f0 rfl
  have h1 := hf 1 f1 rfl
  have h2 := hf 2 f2 rfl
  rw [t0, o0, int_cells] at h0
  rw [t1, o1, int_cells] at h1
  rw [t2, o2, str_cells] at h2
  match cs, hlen, xs, hxl with
  | [c0, c1, c2], _, [y0, y1, y2], _ =>
    simp at h0 h1 h2
    obtain ⟨i, e0, _, wi⟩ := DataW.trod_int Tryd.underlying3 h0
    obtain ⟨k, e1, _, wk⟩ := DataW.trod_int Tryd.underlying3 h1
    obtain ⟨s, e2, _, _⟩ := DataW.trod_string Tryd.underlying9 h2
    simp at e0 e1 e2
    subst e0; subst e1; subst e2
    exact ⟨i, k, s, rfl, int_rng wk⟩
set_option maxRecDepth 100000 in
theorem open_valA {H : Type} {enc : TypeId × Value → H} {W : World} {v : Value} {d : DataW H} {ps : List MemPlace} {b0 : Nat} (hv : Value.okWide PZ W .any b0 23 v) (h : DataW.Trod enc PZ W 0 (fun _ => true) true 23 v d ps) :
    ∃ l : V3, Rep (oldE W) W (aV l) v ∧ i64Ok l.n := by
  obtain ⟨f0, f1, f2, hu, _⟩ := val_struct
  obtain ⟨cs, rfl, hcs⟩ := okWide_struct hu hv
  obtain ⟨fuel, h⟩ := h
  obtain ⟨k, m, s, e, hm⟩ := val_open h
  have e' : cs = #[.int .i64 k, .int .i64 m, .string s] := by
    cases cs; simpa [Value.cells] using e
  subst e'
  exact ⟨⟨k, m, s.data.toList⟩, mk_val, hm⟩
structure Fac where
  s : List UInt8
  e : Int
instance : Inhabited Fac := ⟨⟨[], 0⟩⟩
def facA (a : Fac) : AV := .agg [.str a.s, .int .i64 a.e]
structure T3 where
  k : Int
  fs : List Fac
  o : List UInt8
abbrev tyV (x : T3) : AV := .agg [.int .i64 x.k, .sl 2 (x.fs.map facA) .no, .str x.o]
instance : Inhabited V3 := ⟨⟨0, 0, []⟩⟩
set_option maxRecDepth 100000 in
theorem elem_val {H : Type} {enc : TypeId × Value → H} {W : World} : ElemOk PZ W enc 23 aV := by
  intro n cs x h
  obtain ⟨k, m, s, rfl, _⟩ := val_open h
  refine ⟨⟨k, m, s.data.toList⟩, fun E j c u hc hu => ?_⟩
  match j, hc, hu with
  | 0, hc, hu => simp [aV, AV.cells] at hc hu; subst hc; subst hu; exact ⟨.int _ _, rfl⟩
  | 1, hc, hu => simp [aV, AV.cells] at hc hu; subst hc; subst hu; exact ⟨.int _ _, rfl⟩
  | 2, hc, hu => simp [aV, AV.cells] at hc hu; subst hc; subst hu; exact ⟨mk_str s, rfl⟩
  | j + 3, hc, hu => simp [aV, AV.cells] at hc
theorem witness_row_shaped {H : Type} {enc : TypeId × Value → H} {C : Checked} {os : Os} {f : FuncId} {fn : Func} {s : OpenSpec} {conds : List PathCond} {apart : Bool} {laid : List (String × DataW Unit)} (w0 : World) (args : Array Value) (hos : w0.os = os)
    (hsh : (w0.forCall (fun _ _ => 0) ⟨#[], args, []⟩).Shaped C.prog)
    (hok : Input.okWideB C.prog (w0.forCall (fun _ _ => 0) ⟨#[], args, []⟩) f ⟨#[], args, []⟩ = true)
    (hrow : s.preRow enc C.prog fn conds apart laid (w0.forCall (fun _ _ => 0) ⟨#[], args, []⟩).memory args) :
    ∃ (w : World) (tape : Tape) (i : Input), w.os = os ∧ (w.forCall tape i).Shaped C.prog ∧ i.vars = [] ∧ Input.okWide C.prog (w.forCall tape i) .any w.heap.size f i ∧
      s.preRow enc C.prog fn conds apart laid (w.forCall tape i).memory i.args ∧ ({} : Assume).holds C.prog (lone (Frame.enter C.prog f i.args .normal) [] (w.forCall tape i)) :=
  ⟨w0, fun _ _ => 0, ⟨#[], args, []⟩, hos, hsh, (Input.okWide_of_okWideB (base := 0) hok).1, (Input.okWide_of_okWideB hok).2, hrow, by
    simp only [Assume.holds]
    exact ⟨by simp, by simp, fun _ => Modest.zero, by simp, by simp⟩⟩
end Go.Abs
