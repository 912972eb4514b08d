/- Own texts, part 8. -/
import Derived.Test.YtfcdefnkhkijaaaGreatDoorPart5
import Derived.Test.YtfcdefnkhkijaaaGreatDoorPart4
import Derived.Test.YtfcdefnkhkijaaaGreatDoorRows
import Derived.Lib.LaidTab
import Derived.Lib.LaidU8
import Derived.LaidLaws
import Derived.Lay
import Derived.Shelf.Lay

namespace Go.Abs
open Go.Proofs Go.Proofs.YtfcdefnkhkijaaaGreatDoor Go.ChangeShapes Go.WideShapes Go.ChangeAt Go.RowKit Go.Deep Go.ChangeMaps
abbrev laidQl : List (String × DataW Unit) := Rows.requestChecksRow.laid
theorem gTens : PQ.globalNamed "asof/decimal.tens" = some 1 := by kernel_rfl
theorem gSyn : PQ.globalNamed "strconv.ErrSyntax" = some 2 := by kernel_rfl
theorem gRange : PQ.globalNamed "strconv.ErrRange" = some 3 := by kernel_rfl
theorem gPows : PQ.globalNamed "internal/strconv.uint64pow10" = some 4 := by kernel_rfl
theorem gFirst : PQ.globalNamed "unicode/utf8.first" = some 5 := by kernel_rfl
theorem gAcc : PQ.globalNamed "unicode/utf8.acceptRanges" = some 6 := by kernel_rfl
theorem nGlob : PQ.globals.size = 9 := by kernel_rfl
def tensL : List Int := [1, 10, 100, 1000, 10000, 100000, 1000000]
section
variable {W : World}
theorem tens_cells (h : laidMet PQ laidQl W) : ∀ i, i < 7 → W.cell? ⟨1, i, none⟩ = some (.int .i64 (10 ^ i)) := by
 obtain ⟨g, t, cs, fuel, p, h1, h2, h3, h4⟩ := Lib.laidMet.reads h (n := "asof/decimal.tens") (d := Rows.laid_asof_decimal_tens) (by simp [laidQl, Rows.requestChecksRow])
 obtain rfl := Option.some.inj (gTens.symm.trans h1)
 have ty : ∃ t0 e, (PQ.globals[1]?).map (·.type) = some t0 ∧ PQ.underlying t0 = some (.array 7 e) ∧ PQ.underlying e = some (.int .i64) ∧ PQ.cellsOf e = 1 ∧ PQ.cellsOf t0 = 7 := ⟨225, 3, by kernel_rfl, by kernel_rfl, by kernel_rfl, by kernel_rfl, by kernel_rfl⟩
 obtain ⟨t0, e, g1, g2, g3, g4, g5⟩ := ty
 obtain rfl := Option.some.inj (g1.symm.trans h2)
 have hcs := Lib.cells_of_tab (zs := tensL) g2 g3 g4 g5 h4
 intro i hi
 rw [World.var?_cell h1 h3 i, ← Array.getElem?_toList, hcs]
 match i, hi with
 | 0, _ | 1, _ | 2, _ | 3, _ | 4, _ | 5, _ | 6, _ => rfl
theorem pow_cells (h : laidMet PQ laidQl W) : ∀ i, i < 20 → W.cell? ⟨4, i, none⟩ = some (.int .u64 ((10 ^ i : Nat) : Int)) := by
 obtain ⟨g, t, cs, fuel, p, h1, h2, h3, h4⟩ := Lib.laidMet.reads h (n := "internal/strconv.uint64pow10") (d := Rows.laid_internal_strconv_uint64pow10) (by simp [laidQl, Rows.requestChecksRow])
 obtain rfl := Option.some.inj (gPows.symm.trans h1)
 have ty : ∃ t0 e, (PQ.globals[4]?).map (·.type) = some t0 ∧ PQ.underlying t0 = some (.array 20 e) ∧ PQ.underlying e = some (.int .u64) ∧ PQ.cellsOf e = 1 ∧ PQ.cellsOf t0 = 20 := ⟨238, 76, by kernel_rfl, by kernel_rfl, by kernel_rfl, by kernel_rfl, by kernel_rfl⟩
 obtain ⟨t0, e, g1, g2, g3, g4, g5⟩ := ty
 obtain rfl := Option.some.inj (g1.symm.trans h2)
 have hd : (Rows.laid_internal_strconv_uint64pow10 : DataW Unit) = Lib.tabData .u64 Lib.pow10Tab := by kernel_rfl
 rw [hd] at h4
 have hcs := Lib.cells_of_tab g2 g3 g4 g5 h4
 intro i hi
 rw [World.var?_cell h1 h3 i, ← Array.getElem?_toList, hcs]
 simp [Lib.pow10Tab, hi]
theorem range_cell (h : laidMet PQ laidQl W) : ∃ t v, W.cell? ⟨3, 0, none⟩ = some (.iface t v) := by
 obtain ⟨g, t, cs, fuel, p, h1, h2, h3, h4⟩ := Lib.laidMet.reads h (n := "strconv.ErrRange") (d := Rows.laid_strconv_ErrRange) (by simp [laidQl, Rows.requestChecksRow])
 obtain rfl := Option.some.inj (gRange.symm.trans h1)
 have ty : ∃ t0 ms, (PQ.globals[3]?).map (·.type) = some t0 ∧ PQ.underlying t0 = some (.interface ms) := ⟨109, _, by kernel_rfl, Tryz.underlying109⟩
 obtain ⟨t0, ms, g1, g2⟩ := ty
 obtain rfl := Option.some.inj (g1.symm.trans h2)
 obtain ⟨_, u, v, hcs, _⟩ := iface_of_trod g2 h4
 refine ⟨u, v, ?_⟩
 rw [World.var?_cell h1 h3 0, ← Array.getElem?_toList, hcs]
 rfl
theorem syn_cell (h : laidMet PQ laidQl W) : ∃ t v, W.cell? ⟨2, 0, none⟩ = some (.iface t v) := by
 obtain ⟨g, t, cs, fuel, p, h1, h2, h3, h4⟩ := Lib.laidMet.reads h (n := "strconv.ErrSyntax") (d := Rows.laid_strconv_ErrSyntax) (by simp [laidQl, Rows.requestChecksRow])
 obtain rfl := Option.some.inj (gSyn.symm.trans h1)
 have ty : ∃ t0 ms, (PQ.globals[2]?).map (·.type) = some t0 ∧ PQ.underlying t0 = some (.interface ms) := ⟨109, _, by kernel_rfl, Tryz.underlying109⟩
 obtain ⟨t0, ms, g1, g2⟩ := ty
 obtain rfl := Option.some.inj (g1.symm.trans h2)
 obtain ⟨_, u, v, hcs, _⟩ := iface_of_trod g2 h4
 refine ⟨u, v, ?_⟩
 rw [World.var?_cell h1 h3 0, ← Array.getElem?_toList, hcs]
 rfl
theorem first_cells (h : laidMet PQ laidQl W) : ∀ i, i < 256 → W.cell? ⟨5, i, none⟩ = some (.int .u8 (Lib.firstT i)) := by
 obtain ⟨g, t, cs, fuel, p, h1, h2, h3, h4⟩ := Lib.laidMet.reads h (n := "unicode/utf8.first") (d := Rows.laid_unicode_utf8_first) (by simp [laidQl, Rows.requestChecksRow])
 obtain rfl := Option.some.inj (gFirst.symm.trans h1)
 have ty : ∃ t0 e, (PQ.globals[5]?).map (·.type) = some t0 ∧ PQ.underlying t0 = some (.array 256 e) ∧ PQ.underlying e = some (.int .u8) ∧ PQ.cellsOf e = 1 ∧ PQ.cellsOf t0 = 256 := ⟨147, 5, by kernel_rfl, by kernel_rfl, by kernel_rfl, by kernel_rfl, by kernel_rfl⟩
 obtain ⟨t0, e, g1, g2, g3, g4, g5⟩ := ty
 obtain rfl := Option.some.inj (g1.symm.trans h2)
 have hd : Rows.laid_unicode_utf8_first = Lib.tabData .u8 Lib.firstTab := by kernel_rfl
 rw [hd] at h4
 have hcs := Lib.cells_of_tab g2 g3 g4 g5 h4
 intro i hi
 rw [World.var?_cell h1 h3 i, ← Array.getElem?_toList, hcs]
 simp [Lib.firstTab, hi]
theorem acc_cells (h : laidMet PQ laidQl W) : ∀ i, i < 16 → W.cell? ⟨6, 2 * i, none⟩ = some (.int .u8 (Lib.accLo i)) ∧ W.cell? ⟨6, 2 * i + 1, none⟩ = some (.int .u8 (Lib.accHi i)) := by
 obtain ⟨g, t, cs, fuel, p, h1, h2, h3, h4⟩ := Lib.laidMet.reads h (n := "unicode/utf8.acceptRanges") (d := Rows.laid_unicode_utf8_acceptRanges) (by simp [laidQl, Rows.requestChecksRow])
 obtain rfl := Option.some.inj (gAcc.symm.trans h1)
 have ty : ∃ t0 e f0 f1, (PQ.globals[6]?).map (·.type) = some t0 ∧ PQ.underlying t0 = some (.array 16 e) ∧ PQ.underlying e = some (.struct #[f0, f1]) ∧ PQ.cellsOf e = 2 ∧ PQ.underlying f0.type = some (.int .u8) ∧ PQ.underlying f1.type = some (.int .u8) ∧ f0.offset = 0 ∧ f1.offset = 1 ∧ PQ.cellsOf f0.type = 1 ∧ PQ.cellsOf f1.type = 1 :=
  ⟨245, 244, _, _, by kernel_rfl, by kernel_rfl, Tryz.underlying244, by kernel_rfl, by kernel_rfl, by kernel_rfl, rfl, rfl, by kernel_rfl, by kernel_rfl⟩
 obtain ⟨t0, e, f0, f1, g1, g2, g3, g4, g5, g6, o0, o1, c0, c1⟩ := ty
 obtain rfl := Option.some.inj (g1.symm.trans h2)
 have hd : Rows.laid_unicode_utf8_acceptRanges = Lib.acceptData := by kernel_rfl
 rw [hd] at h4
 intro i hi
 obtain ⟨fuel', d, q, hdi, he⟩ := Lib.array_elem g2 h4 i hi
 simp only [List.getElem?_map, List.getElem?_range hi, Option.map_some, Option.some.injEq] at hdi
 subst hdi
 rw [g4] at he
 have hcs := Lib.ints_of_struct (k := .u8) g3 (fun j f hj => by
  match j, hj with
  | 0, hj => simp at hj; subst hj; exact ⟨g5, o0, c0⟩
  | 1, hj => simp at hj; subst hj; exact ⟨g6, o1, c1⟩
  | j + 2, hj => simp at hj) (by rw [g4]; rfl) he
 have e0 := congrArg (·[0]?) hcs
 have e1 := congrArg (·[1]?) hcs
 simp only [List.getElem?_take, List.getElem?_drop] at e0 e1
 constructor
 ·rw [World.var?_cell h1 h3 (2 * i), ← Array.getElem?_toList]
  simpa [Nat.mul_comm] using e0
 ·rw [World.var?_cell h1 h3 (2 * i + 1), ← Array.getElem?_toList]
  simpa [Nat.mul_comm] using e1
theorem keptAcc_at {j : Nat} (h : j < 32) : keptAcc[j]? = some (.int .u8 (if j % 2 = 0 then Lib.accLo (j / 2) else Lib.accHi (j / 2) : Nat)) := by
 match j, h with
 | 0, _ => show some (AV.int .u8 128) = some (.int .u8 (if 0 % 2 = 0 then Lib.accLo (0 / 2) else Lib.accHi (0 / 2) : Nat)); simp [Lib.accLo]
 | 1, _ => show some (AV.int .u8 191) = some (.int .u8 (if 1 % 2 = 0 then Lib.accLo (1 / 2) else Lib.accHi (1 / 2) : Nat)); simp [Lib.accHi]
 | 2, _ => show some (AV.int .u8 160) = some (.int .u8 (if 2 % 2 = 0 then Lib.accLo (2 / 2) else Lib.accHi (2 / 2) : Nat)); simp [Lib.accLo]
 | 3, _ => show some (AV.int .u8 191) = some (.int .u8 (if 3 % 2 = 0 then Lib.accLo (3 / 2) else Lib.accHi (3 / 2) : Nat)); simp [Lib.accHi]
 | 4, _ => show some (AV.int .u8 128) = some (.int .u8 (if 4 % 2 = 0 then Lib.accLo (4 / 2) else Lib.accHi (4 / 2) : Nat)); simp [Lib.accLo]
 | 5, _ => show some (AV.int .u8 159) = some (.int .u8 (if 5 % 2 = 0 then Lib.accLo (5 / 2) else Lib.accHi (5 / 2) : Nat)); simp [Lib.accHi]
 | 6, _ => show some (AV.int .u8 144) = some (.int .u8 (if 6 % 2 = 0 then Lib.accLo (6 / 2) else Lib.accHi (6 / 2) : Nat)); simp [Lib.accLo]
 | 7, _ => show some (AV.int .u8 191) = some (.int .u8 (if 7 % 2 = 0 then Lib.accLo (7 / 2) else Lib.accHi (7 / 2) : Nat)); simp [Lib.accHi]
 | 8, _ => show some (AV.int .u8 128) = some (.int .u8 (if 8 % 2 = 0 then Lib.accLo (8 / 2) else Lib.accHi (8 / 2) : Nat)); simp [Lib.accLo]
 | 9, _ => show some (AV.int .u8 143) = some (.int .u8 (if 9 % 2 = 0 then Lib.accLo (9 / 2) else Lib.accHi (9 / 2) : Nat)); simp [Lib.accHi]
 | 10, _ => show some (AV.int .u8 0) = some (.int .u8 (if 10 % 2 = 0 then Lib.accLo (10 / 2) else Lib.accHi (10 / 2) : Nat)); simp [Lib.accLo]
 | 11, _ => show some (AV.int .u8 0) = some (.int .u8 (if 11 % 2 = 0 then Lib.accLo (11 / 2) else Lib.accHi (11 / 2) : Nat)); simp [Lib.accHi]
 | 12, _ => show some (AV.int .u8 0) = some (.int .u8 (if 12 % 2 = 0 then Lib.accLo (12 / 2) else Lib.accHi (12 / 2) : Nat)); simp [Lib.accLo]
 | 13, _ => show some (AV.int .u8 0) = some (.int .u8 (if 13 % 2 = 0 then Lib.accLo (13 / 2) else Lib.accHi (13 / 2) : Nat)); simp [Lib.accHi]
 | 14, _ => show some (AV.int .u8 0) = some (.int .u8 (if 14 % 2 = 0 then Lib.accLo (14 / 2) else Lib.accHi (14 / 2) : Nat)); simp [Lib.accLo]
 | 15, _ => show some (AV.int .u8 0) = some (.int .u8 (if 15 % 2 = 0 then Lib.accLo (15 / 2) else Lib.accHi (15 / 2) : Nat)); simp [Lib.accHi]
 | 16, _ => show some (AV.int .u8 0) = some (.int .u8 (if 16 % 2 = 0 then Lib.accLo (16 / 2) else Lib.accHi (16 / 2) : Nat)); simp [Lib.accLo]
 | 17, _ => show some (AV.int .u8 0) = some (.int .u8 (if 17 % 2 = 0 then Lib.accLo (17 / 2) else Lib.accHi (17 / 2) : Nat)); simp [Lib.accHi]
 | 18, _ => show some (AV.int .u8 0) = some (.int .u8 (if 18 % 2 = 0 then Lib.accLo (18 / 2) else Lib.accHi (18 / 2) : Nat)); simp [Lib.accLo]
 | 19, _ => show some (AV.int .u8 0) = some (.int .u8 (if 19 % 2 = 0 then Lib.accLo (19 / 2) else Lib.accHi (19 / 2) : Nat)); simp [Lib.accHi]
 | 20, _ => show some (AV.int .u8 0) = some (.int .u8 (if 20 % 2 = 0 then Lib.accLo (20 / 2) else Lib.accHi (20 / 2) : Nat)); simp [Lib.accLo]
 | 21, _ => show some (AV.int .u8 0) = some (.int .u8 (if 21 % 2 = 0 then Lib.accLo (21 / 2) else Lib.accHi (21 / 2) : Nat)); simp [Lib.accHi]
 | 22, _ => show some (AV.int .u8 0) = some (.int .u8 (if 22 % 2 = 0 then Lib.accLo (22 / 2) else Lib.accHi (22 / 2) : Nat)); simp [Lib.accLo]
 | 23, _ => show some (AV.int .u8 0) = some (.int .u8 (if 23 % 2 = 0 then Lib.accLo (23 / 2) else Lib.accHi (23 / 2) : Nat)); simp [Lib.accHi]
 | 24, _ => show some (AV.int .u8 0) = some (.int .u8 (if 24 % 2 = 0 then Lib.accLo (24 / 2) else Lib.accHi (24 / 2) : Nat)); simp [Lib.accLo]
 | 25, _ => show some (AV.int .u8 0) = some (.int .u8 (if 25 % 2 = 0 then Lib.accLo (25 / 2) else Lib.accHi (25 / 2) : Nat)); simp [Lib.accHi]
 | 26, _ => show some (AV.int .u8 0) = some (.int .u8 (if 26 % 2 = 0 then Lib.accLo (26 / 2) else Lib.accHi (26 / 2) : Nat)); simp [Lib.accLo]
 | 27, _ => show some (AV.int .u8 0) = some (.int .u8 (if 27 % 2 = 0 then Lib.accLo (27 / 2) else Lib.accHi (27 / 2) : Nat)); simp [Lib.accHi]
 | 28, _ => show some (AV.int .u8 0) = some (.int .u8 (if 28 % 2 = 0 then Lib.accLo (28 / 2) else Lib.accHi (28 / 2) : Nat)); simp [Lib.accLo]
 | 29, _ => show some (AV.int .u8 0) = some (.int .u8 (if 29 % 2 = 0 then Lib.accLo (29 / 2) else Lib.accHi (29 / 2) : Nat)); simp [Lib.accHi]
 | 30, _ => show some (AV.int .u8 0) = some (.int .u8 (if 30 % 2 = 0 then Lib.accLo (30 / 2) else Lib.accHi (30 / 2) : Nat)); simp [Lib.accLo]
 | 31, _ => show some (AV.int .u8 0) = some (.int .u8 (if 31 % 2 = 0 then Lib.accLo (31 / 2) else Lib.accHi (31 / 2) : Nat)); simp [Lib.accHi]
 | j + 32, h => exact absurd h (by omega)
theorem globQA (h : laidMet PQ laidQl W) (hsh : W.ShapedOpen PQ) {m : Int} (hm : W.cell? ⟨0, 0, none⟩ = some (.int .i64 m)) : GlobOk (GQ m) (oldE W) W := by
 refine globA (fun g e hg => ?_) fun g e hg => ?_
 ·match g, hg with
  | 1, hg =>
   simp only [GQ, Option.some.injEq] at hg
   subst hg
   refine ⟨rfl, fun j c hj => ?_⟩
   have hlt : j < 7 := (List.getElem?_eq_some_iff.1 hj).1
   refine ⟨_, tens_cells h j hlt, ?_, rfl⟩
   have : c = .int .i64 (10 ^ j) := by
    match j, hlt with
    | 0, _ | 1, _ | 2, _ | 3, _ | 4, _ | 5, _ | 6, _ => simp [tensA, AV.cells] at hj; subst hj; rfl
   subst this
   exact .int _ _
  | 0, hg =>
   simp only [GQ, Option.some.injEq] at hg
   subst hg
   refine ⟨rfl, fun j c hj => ?_⟩
   match j, hj with
   | 0, hj => simp [AV.cells] at hj; subst hj; exact ⟨_, hm, .int _ _, rfl⟩
   | j + 1, hj => simp [AV.cells] at hj
  | 2, hg =>
   simp only [GQ, Option.some.injEq] at hg
   subst hg
   refine ⟨rfl, fun j c hj => ?_⟩
   match j, hj with
   | 0, hj =>
    simp [AV.cells] at hj; subst hj
    obtain ⟨t, v, hv⟩ := syn_cell h
    exact ⟨_, hv, .ifc _ _, rfl⟩
   | j + 1, hj => simp [AV.cells] at hj
  | 3, hg =>
   simp only [GQ, Option.some.injEq] at hg
   subst hg
   refine ⟨rfl, fun j c hj => ?_⟩
   match j, hj with
   | 0, hj =>
    simp [AV.cells] at hj; subst hj
    obtain ⟨t, v, hv⟩ := range_cell h
    exact ⟨_, hv, .ifc _ _, rfl⟩
   | j + 1, hj => simp [AV.cells] at hj
  | 5, hg =>
   simp only [GQ, Option.some.injEq] at hg
   subst hg
   refine ⟨?_, fun j c hj => ?_⟩
   ·simp only [keptFirstA, AV.closed1, keptFirst, List.all_map, List.all_eq_true]
    intro x _; rfl
   ·have hlt : j < 256 := by
     have := (List.getElem?_eq_some_iff.1 hj).1
     simpa [keptFirstA, AV.cells, keptFirst] using this
    refine ⟨_, first_cells h j hlt, ?_, rfl⟩
    have : c = .int .u8 (Lib.firstT j) := by
     simp only [keptFirstA, AV.cells, keptFirst, List.getElem?_map, List.getElem?_range hlt, Option.map_some, Option.some.injEq] at hj
     exact hj.symm
    subst this
    exact .int _ _
  | 6, hg =>
   simp only [GQ, Option.some.injEq] at hg
   subst hg
   refine ⟨rfl, fun j c hj => ?_⟩
   have hlt : j < 32 := (List.getElem?_eq_some_iff.1 hj).1
   have key : W.cell? ⟨6, j, none⟩ = some (.int .u8 (if j % 2 = 0 then Lib.accLo (j / 2) else Lib.accHi (j / 2))) := by
    obtain ⟨a1, a2⟩ := acc_cells h (j / 2) (by omega)
    by_cases hp : j % 2 = 0
    ·rw [if_pos hp, show j = 2 * (j / 2) by omega, a1]
     congr 4; omega
    ·rw [if_neg hp]
     conv => lhs; rw [show j = 2 * (j / 2) + 1 by omega]
     rw [a2]
   refine ⟨_, key, ?_, rfl⟩
   have h2 := keptAcc_at hlt
   have h3 : keptAcc[j]? = some c := hj
   rw [h3] at h2
   injection h2 with h2
   subst h2
   by_cases hp : j % 2 = 0
   ·simp only [hp, if_true]; exact .int _ _
   ·simp only [hp, if_false]; exact .int _ _
  | 4, hg =>
   simp only [GQ, Option.some.injEq] at hg
   subst hg
   refine ⟨?_, fun j c hj => ?_⟩
   ·simp only [keptPowsA, AV.closed1, keptPows, List.all_map, List.all_eq_true]
    intro x _; rfl
   ·have hlt : j < 20 := by
     have := (List.getElem?_eq_some_iff.1 hj).1
     simpa [keptPowsA, AV.cells, keptPows] using this
    refine ⟨_, pow_cells h j hlt, ?_, rfl⟩
    have : c = .int .u64 ((10 ^ j : Nat) : Int) := by
     simp only [keptPowsA, AV.cells, keptPows, List.getElem?_map, List.getElem?_range hlt, Option.map_some, Option.some.injEq] at hj
     exact hj.symm
    subst this
    exact .int _ _
  | g + 7, hg => cases hg
 ·match g, hg with
  | 1, hg =>
   simp only [GQ, Option.some.injEq] at hg
   subst hg
   exact glob_size hsh (n := 7) (by rw [nGlob]; omega) (by kernel_rfl)
  | 0, hg =>
   simp only [GQ, Option.some.injEq] at hg
   subst hg
   exact glob_size hsh (n := 1) (by rw [nGlob]; omega) (by kernel_rfl)
  | 2, hg =>
   simp only [GQ, Option.some.injEq] at hg
   subst hg
   exact glob_size hsh (n := 1) (by rw [nGlob]; omega) (by kernel_rfl)
  | 3, hg =>
   simp only [GQ, Option.some.injEq] at hg
   subst hg
   exact glob_size hsh (n := 1) (by rw [nGlob]; omega) (by kernel_rfl)
  | 5, hg =>
   simp only [GQ, Option.some.injEq] at hg
   subst hg
   have := glob_size (P := PQ) hsh (g := 5) (n := 256) (by rw [nGlob]; omega) (by kernel_rfl)
   have hn : keptFirstA.cells.length = 256 := by simp [keptFirstA, AV.cells, keptFirst]
   rw [hn]; exact this
  | 6, hg =>
   simp only [GQ, Option.some.injEq] at hg
   subst hg
   exact glob_size hsh (n := 32) (by rw [nGlob]; omega) (by kernel_rfl)
  | 4, hg =>
   simp only [GQ, Option.some.injEq] at hg
   subst hg
   have := glob_size (P := PQ) hsh (g := 4) (n := 20) (by rw [nGlob]; omega) (by kernel_rfl)
   have hn : keptPowsA.cells.length = 20 := by simp [keptPowsA, AV.cells, keptPows]
   rw [hn]; exact this
  | g + 7, hg => cases hg
end
end Go.Abs
