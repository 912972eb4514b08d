/- Own texts, part 6. -/
import Derived.Test.YtooobfhjklcnjaaGreatDoorPart5
import Derived.Test.YtooobfhjklcnjaaGreatDoorShelf
import Derived.Lib.AtoiErrMem
import Derived.Lib.AppendIntMem
import Derived.WideMake
import Derived.Lib.IndexBytes
import Derived.Test.YtooobfhjklcnjaaGreatDoorPart2

namespace Go.Abs
open Go.Proofs Go.Wire
end Go.Abs

namespace Go.Abs
open Go.Proofs Go.Wire
def shIntR : Sh × Option TypeId := (.tup [.one (.int .i64), .one (.int .i64), .one (.int .i64)], none)
def shUintR : Sh × Option TypeId := (.tup [.one (.int .u64), .one (.int .i64), .one (.int .i64)], none)
def shTextR : Sh × Option TypeId := (.tup [.one .str, .one (.int .i64), .one (.int .i64)], none)
def shValR : Sh × Option TypeId := (.tup [.agg [.int .i64, .int .i64, .str], .one (.int .i64), .one (.int .i64)], none)
def XO : Shapes := fun f => match f with
  | f => XN f
structure V3 where
  k : Int
  n : Int
  s : List UInt8
end Go.Abs

namespace Go.Abs
open Go.Proofs
end Go.Abs

namespace Go.Abs
open Go.Proofs Go.Wire
theorem s12_at {k n : Int} {s : List UInt8} (h : strOk s) : s17 [.agg [.int .i64 k, .int .i64 n, .str s]] = some (.int .i64 (checkI k n s), []) := by
  simp only [s17, sVal, h, if_true]
end Go.Abs

namespace Go.Abs
open Go.Proofs Go.Wire
end Go.Abs

namespace Go.Abs
open Go.Proofs Go.Wire
def vC (x : V3) : List AV := [.int .i64 x.k, .int .i64 x.n, .str x.s]
end Go.Abs

namespace Go.Abs
open Go.Proofs
end Go.Abs

namespace Go.Abs
open Go.Proofs Go.Wire
end Go.Abs

namespace Go.Abs
open Go.Proofs Go.Wire
theorem drop_cons {bs : List UInt8} {a : Nat} (h : a < bs.length) : bs.drop a = bs.getD a 0 :: bs.drop (a + 1) := by
  rw [List.drop_eq_getElem_cons h, List.getD_eq_getElem?_getD, List.getElem?_eq_getElem h]; rfl
section
variable {bs : List UInt8} {a : Nat}
end
end Go.Abs

namespace Go.Abs
open Go.Proofs Go.RowKit
section
variable {P : Program} {G : Glob} {E : Env} {w w' : World}
theorem size_str {s : ByteArray} {l : List UInt8} (h : s.data.toList = l) : s.size = l.length := by rw [← h]; simp
/-- a table of integers that is a package variable -/
theorem glob_tab {g : Nat} {k : IntKind} {zs : List Int} (hG : GlobOk G E w) (h : G g = some (.agg (zs.map fun z => .int k z))) (hz : zs ≠ []) : w.heap[g]?.bind (fun o => match o with | .cells cs _ _ => some cs | _ => none) = some (zs.map fun z => Value.int k z).toArray := by
  obtain ⟨_, h1, _, h2⟩ := hG g _ h
  have hcell : ∀ j (hj : j < zs.length), w.cell? ⟨g, j, none⟩ = some (.int k zs[j]) := by
    generalize hv : Value.pointer (some ⟨g, 0, none⟩) = v at h1
    cases h1 with | elt _ _ _ _ b off u hcl hA hr h1 =>
    injection hv with hv
    injection hv with hv
    injection hv with h3 h4
    subst h3
    intro j hj
    have hc : (AV.agg (zs.map fun z => .int k z)).cells[j]? = some (.int k zs[j]) := by simp [AV.cells, hj]
    obtain ⟨_, h5⟩ := hA 0 _ j _ rfl hc
    have h6 := rep_int (hr 0 _ j _ rfl hc)
    rw [← h6, ← h5]
    congr 2
    omega
  have h0 := hcell 0 (List.length_pos_iff.2 hz)
  unfold World.cell? at hcell h0 h2
  simp only at hcell h0 h2
  cases ho : w.heap[g]? with
  | none => rw [ho] at h0; cases h0
  | some o =>
    rw [ho] at h0
    rw [ho] at hcell h2
    cases o with
    | cells cs e f =>
      simp only [Option.isSome_none, Bool.false_eq_true, if_false] at hcell h2
      simp only [Option.bind_some, Option.some.injEq]
      have hn : (AV.agg (zs.map fun z => .int k z)).cells.length = zs.length := by simp [AV.cells]
      rw [hn] at h2
      have hsz : cs.size ≤ zs.length := by
        apply Classical.byContradiction
        intro hlt
        rw [Array.getElem?_eq_getElem (by omega)] at h2
        cases h2
      apply Array.ext_getElem?
      intro i
      by_cases hi : i < zs.length
      · rw [hcell i hi]; simp [hi]
      · have e1 : cs[i]? = none := Array.getElem?_eq_none (by omega)
        rw [e1, List.getElem?_toArray, List.getElem?_map, List.getElem?_eq_none (by omega)]; rfl
    | _ => simp at h0
end
def atoiV (l : List UInt8) : Int := match Lib.atoiAll l with
  | .ok v => v
  | .range => Lib.atoiSat l
  | _ => 0
def atoiB (l : List UInt8) : Bool := match Lib.atoiAll l with
  | .ok _ => true
  | _ => false
def s30 : Spec := fun args => match args with
  | [.str l] => if strOk l then some (.tup [.int .i64 (atoiV l), if atoiB l = true then .lit .nilIface else .ifc], []) else none
  | _ => none
def s38 : Spec := fun args => match args with
  | [.int .i64 n] => if i64Ok n then some (.str (Lib.itoa n), []) else none
  | _ => none
theorem o30z (m : Int) : SpecOk PP (G8 m) 30 s30 := by
  intro g args r lv h E w vs hI hG hn' hv hcl
  simp only at h
  split at h
  case isFalse => cases h
  case isTrue e =>
  subst e
  unfold s30 at h
  split at h
  case h_2 => cases h
  case h_1 l =>
  split at h
  case isFalse => cases h
  case isTrue hl =>
  have hl' : l.length ≤ 1000000 := hl
  simp only [Option.some.injEq, Prod.mk.injEq] at h
  obtain ⟨rfl, rfl⟩ := h
  obtain ⟨a, rfl⟩ := vs_one hn'
  obtain ⟨s, rfl, hs⟩ := rep_str (hv 0 _ _ rfl rfl)
  have hsz : s.size = l.length := size_str hs
  refine .inl ⟨good8 (by kernel_rfl), ?_⟩
  unfold atoiV atoiB
  cases hA : Lib.atoiAll l with
  | ok v =>
    refine (Tryz.strconv_Atoi_ok s (by omega) v (by rw [hs]; exact hA) w).mono fun e w' ⟨he, hw⟩ => ⟨_, he, ?_⟩
    have hb : Below w.heap.size w w' := by
      rcases hw with rfl | ⟨t, rfl⟩
      · exact Below.refl _ _
      · exact Lib.bytesWorld_below _ _ _
    exact res_below hb fun B K => rep_tup2 (.int _ _) (.lit _ rfl)
  | range =>
    obtain ⟨t, x, hx⟩ := glob_ifc (g := 3) hG rfl
    refine (Tryz.strconv_Atoi_range s (by omega) (by rw [hs]; exact hA) _ w hx (.inr ⟨t, x, rfl⟩)).mono fun e w' ⟨N, he, _, _, hb⟩ => ⟨_, he, ?_⟩
    rw [← hs]
    exact res_below hb fun B K => rep_tup2 (.int _ _) (.ifc _ _)
  | _ =>
    obtain ⟨t, x, hx⟩ := glob_ifc (g := 2) hG rfl
    refine (Any.strconv_Atoi_syntax Tryz.laysC172 s (by omega) (by rw [hs]; exact hA) _ w hx (.inr ⟨t, x, rfl⟩)).mono fun e w' ⟨N, he, _, _, hb⟩ => ⟨_, he, ?_⟩
    exact res_below hb fun B K => rep_tup2 (.int _ _) (.ifc _ _)
theorem o38 (m : Int) : SpecOk PP (G8 m) 38 s38 := by
  intro g args r lv h E w vs hI hG hn' hv hcl
  simp only at h
  split at h
  case isFalse => cases h
  case isTrue e =>
  subst e
  unfold s38 at h
  split at h
  case h_2 => cases h
  case h_1 n =>
  split at h
  case isFalse => cases h
  case isTrue hl =>
  simp only [Option.some.injEq, Prod.mk.injEq] at h
  obtain ⟨rfl, rfl⟩ := h
  obtain ⟨a, rfl⟩ := vs_one hn'
  obtain rfl := rep_int (hv 0 _ _ rfl rfl)
  have htab : Lib.TabIs PP w "internal/strconv.uint64pow10" .u64 Lib.pow10Tab := by
    have hg : PP.globalNamed "internal/strconv.uint64pow10" = some 6 := by kernel_rfl
    have hk : G8 m 6 = some (.agg (Lib.pow10Tab.map fun z => .int .u64 z)) := by
      show some keptPowsA = _
      unfold keptPowsA keptPows Lib.pow10Tab
      rw [List.map_map]; rfl
    have := glob_tab hG hk (by unfold Lib.pow10Tab; simp)
    unfold Lib.TabIs World.var?
    rw [hg]
    cases ho : w.heap[6]? with
    | none => rw [ho] at this; cases this
    | some o => rw [ho] at this; cases o <;> simp_all
  refine .inl ⟨good8 (by kernel_rfl), (Tryz.strconv_Itoa n hl.1 (by have := hl.2; omega) w htab).mono fun e w' ⟨he, k, os, hw⟩ => ⟨_, he, ?_⟩⟩
  subst hw
  exact res_below (Lib.below_grow _ _ (Nat.le_refl _) _ _) fun B K => .str _ _ rfl
theorem o29 (m : Int) : SpecOk PP (G8 m) 29 sContains := o_contains (good8 (by kernel_rfl)) (g0 := 1) (m := m) rfl fun s sub m w hs hm => Tryz.strings_Contains s sub m w hs hm
end Go.Abs

namespace Go.Abs
open Go.Proofs
end Go.Abs
namespace Go.Abs.L8
open Go.Abs
end Go.Abs.L8
namespace Go.Abs
open Go.Proofs L8
def s8 : Spec := fun args => match args with
  | [.str l] => if l.length ≤ 1000000 then some (.tup [.int .i64 (decP l).1, .int .i64 (decP l).2], []) else none
  | _ => none
theorem o8 (m : Int) : SpecOk PP (G8 m) 8 s8 := spec_of (X := XL) (m := []) mixed8 tbl_nil itbl_nil fun args r h => by
  unfold s8 at h
  split at h
  · split at h
    · rename_i hl
      injection h with h; subst h; exact ⟨a8 _, p8 m _ hl⟩
    · cases h
  · cases h
end Go.Abs

namespace Go.Abs
open Go.Proofs L8
def lowD : Nat → Nat → List UInt8
  | 0, _ => []
  | k + 1, n => lowD k (n / 10) ++ [UInt8.ofNat (48 + n % 10)]
/-- digits that are still to come in front -/
def restD (i n : Nat) : List UInt8 := if n < 10 ^ (7 - i) then lowD (7 - i) n else Lib.decDigits n
def padD (n : Nat) : List UInt8 := restD 0 n
def signL (n : Int) : List UInt8 := if n < 0 then [45] else []
def pointL (l : List UInt8) : List UInt8 := l.take (l.length - 6) ++ 46 :: l.drop (l.length - 6)
/-- the text of a decimal -/
def decFz (n : Int) : List UInt8 := signL n ++ pointL (padD n.natAbs)
def sInt (f : Int → AV) : Spec := fun args => match args with
  | [.int .i64 n] => if i64Ok n then some (f n, []) else none
  | _ => none
def s55 : Spec := sInt fun n => .str (decFz n)
def s59 : Spec := fun args => match args with
  | [.bool b] => some (.str (if b = true then [116, 114, 117, 101] else [102, 97, 108, 115, 101]), [])
  | _ => none
structure X54 where
  i : Nat
  m : Int
  s : List UInt8
structure I55 (n : Int) (x : X54) : Prop where
  i : x.i ≤ 20
  b : x.m.natAbs < 10 ^ (20 - x.i)
  p : 0 ≤ n → 0 ≤ x.m
  q : n < 0 → x.m ≤ 0
  l : x.m.natAbs ≤ n.natAbs
  e : x.i ≤ 6 → restD x.i x.m.natAbs ++ x.s = padD n.natAbs ∧ x.s.length = x.i
  f : 7 ≤ x.i → ∃ a b, x.s = a ++ 46 :: b ∧ b.length = 6 ∧ restD x.i x.m.natAbs ++ a ++ b = padD n.natAbs
structure I39 (n : Int) (s : List UInt8) : Prop where
  e : ∃ k, s = List.replicate k 48 ++ Lib.decDigits n.natAbs ∧ (k = 0 ∨ s.length ≤ 7)
def a39 (n : Int) : Anns := ⟨fun q => if q = 5 then some { α := List UInt8, slots := [3, 4], nb := 0, vals := fun s => [.str s, .str (signL n)], sS := fun _ => ⟨[], []⟩, I := I39 n, μ := fun s => 7 - s.length } else none, nA⟩
def fmtL (k n : Int) (s : List UInt8) : List UInt8 :=
  if validB k n s = false then [] else
  if k = 1 then (if n = 1 then [116, 114, 117, 101] else [102, 97, 108, 115, 101]) else
  if k = 2 then Lib.itoa n else if k = 3 then decFz n else if k = 4 then [34] ++ s ++ [34] else if k = 5 then [64] ++ s else [110, 117, 108, 108]
def sVal' (f : Int → Int → List UInt8 → AV) : Spec := fun args => match args with
  | [.agg [.int .i64 k, .int .i64 n, .str s]] => if strOk s ∧ i64Ok n then some (f k n s, []) else none
  | _ => none
def s6 : Spec := sVal' fun k n s => .str (fmtL k n s)
def XT : Shapes := fun f => match f with
  | 18 | 19 | 20 | 21 | 22 | 23 | 37 | 59 | 38 | 39 | 6 | 28 | 48 | 49 => some shS
  | 27 | 47 | 29 => some shB
  | 8 => some (.tup [.one (.int .i64), .one (.int .i64)], none)
  | 30 => some (.tup [.one (.int .i64), .one .err], none)
  | 10 => some (.tup [.agg [.int .i64, .int .i64, .str], .one (.int .i64)], none)
  | f => XO f
end Go.Abs

namespace Go.Abs
open Go.Proofs L8
theorem w39 (m n : Int) (r : AV) : (pureW PP (G8 m) XT (tbl [(38, s38)]) (itbl []) (a39 n) [] 39 [.int .i64 n] (r, [])) =
(∃ (s : List UInt8),
  CallIs (tbl [(nat_lit 38, s38)] (nat_lit 38) [AV.int IntKind.i64 n]) (AV.str s) [] ∧
    (decide (n < (0 : Int)) = true →
        (0 : Int) ≤ (1 : Int) ∧
 (nat_lit 1 ≤ s.length ∧ s.length ≤ s.length) ∧
 (∃ (y : List UInt8),
 ValsAre [AV.str (List.drop (nat_lit 1) (List.take s.length s)), AV.str [(45 : UInt8)]] [AV.str y, AV.str (signL n)] ∧
 StIs { boxes := [], live := [] } { boxes := [], live := [] } ∧ I39 n y ∧ True) ∧
 ∀ (x : List UInt8),
 I39 n x →
 (decide ((↑x.length : Int) ≤ (6 : Int)) = true →
 nat_lit 1 + x.length ≤ nat_lit 9223372036854775807 ∧
 ∃ (y : List UInt8),
 ValsAre [AV.str ([(48 : UInt8)] ++ x), AV.str (signL n)] [AV.str y, AV.str (signL n)] ∧
 StIs { boxes := [], live := [] } { boxes := [], live := [] } ∧ I39 n y ∧ nat_lit 7 - y.length < nat_lit 7 - x.length) ∧
 (decide ((↑x.length : Int) ≤ (6 : Int)) = false →
 (0 : Int) ≤ IntKind.i64.wrap ((↑x.length : Int) - (6 : Int)) ∧
 (nat_lit 0 ≤ (IntKind.i64.wrap ((↑x.length : Int) - (6 : Int))).toNat ∧
 (IntKind.i64.wrap ((↑x.length : Int) - (6 : Int))).toNat ≤ x.length) ∧
 (signL n).length + (List.drop (nat_lit 0) (List.take (IntKind.i64.wrap ((↑x.length : Int) - (6 : Int))).toNat x)).length ≤
 nat_lit 9223372036854775807 ∧
 (signL n ++ List.drop (nat_lit 0) (List.take (IntKind.i64.wrap ((↑x.length : Int) - (6 : Int))).toNat x)).length + nat_lit 1 ≤
 nat_lit 9223372036854775807 ∧
 (0 : Int) ≤ IntKind.i64.wrap ((↑x.length : Int) - (6 : Int)) ∧
 ((IntKind.i64.wrap ((↑x.length : Int) - (6 : Int))).toNat ≤ x.length ∧ x.length ≤ x.length) ∧
 (signL n ++ List.drop (nat_lit 0) (List.take (IntKind.i64.wrap ((↑x.length : Int) - (6 : Int))).toNat x) ++
 [(46 : UInt8)]).length +
 (List.drop (IntKind.i64.wrap ((↑x.length : Int) - (6 : Int))).toNat (List.take x.length x)).length ≤
 nat_lit 9223372036854775807 ∧
 RetIs
 (AV.str
 (signL n ++ List.drop (nat_lit 0) (List.take (IntKind.i64.wrap ((↑x.length : Int) - (6 : Int))).toNat x) ++
 [(46 : UInt8)] ++
 List.drop (IntKind.i64.wrap ((↑x.length : Int) - (6 : Int))).toNat (List.take x.length x)))
 [] (r, []))) ∧
      (decide (n < (0 : Int)) = false →
        (∃ (y : List UInt8),
 ValsAre [AV.str s, AV.str []] [AV.str y, AV.str (signL n)] ∧ StIs { boxes := [], live := [] } { boxes := [], live := [] } ∧ I39 n y ∧ True) ∧
 ∀ (x : List UInt8),
 I39 n x →
 (decide ((↑x.length : Int) ≤ (6 : Int)) = true →
 nat_lit 1 + x.length ≤ nat_lit 9223372036854775807 ∧
 ∃ (y : List UInt8),
 ValsAre [AV.str ([(48 : UInt8)] ++ x), AV.str (signL n)] [AV.str y, AV.str (signL n)] ∧
 StIs { boxes := [], live := [] } { boxes := [], live := [] } ∧ I39 n y ∧ nat_lit 7 - y.length < nat_lit 7 - x.length) ∧
 (decide ((↑x.length : Int) ≤ (6 : Int)) = false →
 (0 : Int) ≤ IntKind.i64.wrap ((↑x.length : Int) - (6 : Int)) ∧
 (nat_lit 0 ≤ (IntKind.i64.wrap ((↑x.length : Int) - (6 : Int))).toNat ∧
 (IntKind.i64.wrap ((↑x.length : Int) - (6 : Int))).toNat ≤ x.length) ∧
 (signL n).length + (List.drop (nat_lit 0) (List.take (IntKind.i64.wrap ((↑x.length : Int) - (6 : Int))).toNat x)).length ≤
 nat_lit 9223372036854775807 ∧
 (signL n ++ List.drop (nat_lit 0) (List.take (IntKind.i64.wrap ((↑x.length : Int) - (6 : Int))).toNat x)).length + nat_lit 1 ≤
 nat_lit 9223372036854775807 ∧
 (0 : Int) ≤ IntKind.i64.wrap ((↑x.length : Int) - (6 : Int)) ∧
 ((IntKind.i64.wrap ((↑x.length : Int) - (6 : Int))).toNat ≤ x.length ∧ x.length ≤ x.length) ∧
 (signL n ++ List.drop (nat_lit 0) (List.take (IntKind.i64.wrap ((↑x.length : Int) - (6 : Int))).toNat x) ++
 [(46 : UInt8)]).length +
 (List.drop (IntKind.i64.wrap ((↑x.length : Int) - (6 : Int))).toNat (List.take x.length x)).length ≤
 nat_lit 9223372036854775807 ∧
 RetIs
 (AV.str
 (signL n ++ List.drop (nat_lit 0) (List.take (IntKind.i64.wrap ((↑x.length : Int) - (6 : Int))).toNat x) ++
 [(46 : UInt8)] ++
 List.drop (IntKind.i64.wrap ((↑x.length : Int) - (6 : Int))).toNat (List.take x.length x)))
 [] (r, [])))) := by kernel_rfl
theorem w59t (m : Int) (r : AV) : (pureW PP (G8 m) XT (tbl []) (itbl []) nAn [] 59 [.bool true] (r, [])) =
(RetIs (AV.str [(116 : UInt8), (114 : UInt8), (117 : UInt8), (101 : UInt8)]) [] (r, [])) := by kernel_rfl
theorem w59f (m : Int) (r : AV) : (pureW PP (G8 m) XT (tbl []) (itbl []) nAn [] 59 [.bool false] (r, [])) =
(RetIs (AV.str [(102 : UInt8), (97 : UInt8), (108 : UInt8), (115 : UInt8), (101 : UInt8)]) [] (r, [])) := by kernel_rfl
theorem w37 (m : Int) (b : Bool) (r : AV) : (pureW PP (G8 m) XT (tbl [(59, s59)]) (itbl []) nAn [] 37 [.bool b] (r, [])) =
(∃ (s : List UInt8),
  CallIs
      (some
        (AV.str
 (if b = true then [(116 : UInt8), (114 : UInt8), (117 : UInt8), (101 : UInt8)]
 else [(102 : UInt8), (97 : UInt8), (108 : UInt8), (115 : UInt8), (101 : UInt8)]),
 []))
      (AV.str s) [] ∧
    RetIs (AV.str s) [] (r, [])) := by kernel_rfl
theorem w18 (m k n : Int) (s : List UInt8) (r : AV) : (pureW PP (G8 m) XT (tbl []) (itbl []) nAn [] 18 [vA k n s] (r, [])) =
(RetIs (AV.str [(110 : UInt8), (117 : UInt8), (108 : UInt8), (108 : UInt8)]) [] (r, [])) := by kernel_rfl
theorem w19 (m k n : Int) (s : List UInt8) (r : AV) : (pureW PP (G8 m) XT (tbl [(37, s59)]) (itbl []) nAn [] 19 [vA k n s] (r, [])) =
(((n == (1 : Int)) = true →
    ∃ (s : List UInt8), CallIs (some (AV.str [(116 : UInt8), (114 : UInt8), (117 : UInt8), (101 : UInt8)], [])) (AV.str s) [] ∧ RetIs (AV.str s) [] (r, [])) ∧
  ((n == (1 : Int)) = false →
    ∃ (s : List UInt8),
      CallIs (some (AV.str [(102 : UInt8), (97 : UInt8), (108 : UInt8), (115 : UInt8), (101 : UInt8)], [])) (AV.str s) [] ∧ RetIs (AV.str s) [] (r, []))) := by kernel_rfl
theorem w20 (m k n : Int) (s : List UInt8) (r : AV) : (pureW PP (G8 m) XT (tbl [(38, s38)]) (itbl []) nAn [] 20 [vA k n s] (r, [])) =
(∃ (s : List UInt8), CallIs (tbl [(nat_lit 38, s38)] (nat_lit 38) [AV.int IntKind.i64 n]) (AV.str s) [] ∧ RetIs (AV.str s) [] (r, [])) := by kernel_rfl
theorem w21 (m k n : Int) (s : List UInt8) (r : AV) : (pureW PP (G8 m) XT (tbl [(39, s55)]) (itbl []) nAn [] 21 [vA k n s] (r, [])) =
(∃ (s : List UInt8), CallIs (tbl [(nat_lit 39, s55)] (nat_lit 39) [AV.int IntKind.i64 n]) (AV.str s) [] ∧ RetIs (AV.str s) [] (r, [])) := by kernel_rfl
theorem w22 (m k n : Int) (s : List UInt8) (r : AV) : (pureW PP (G8 m) XT (tbl []) (itbl []) nAn [] 22 [vA k n s] (r, [])) =
(nat_lit 1 + s.length ≤ nat_lit 9223372036854775807 ∧
  ([(34 : UInt8)] ++ s).length + nat_lit 1 ≤ nat_lit 9223372036854775807 ∧ RetIs (AV.str ([(34 : UInt8)] ++ s ++ [(34 : UInt8)])) [] (r, [])) := by kernel_rfl
theorem w23 (m k n : Int) (s : List UInt8) (r : AV) : (pureW PP (G8 m) XT (tbl []) (itbl []) nAn [] 23 [vA k n s] (r, [])) =
(nat_lit 1 + s.length ≤ nat_lit 9223372036854775807 ∧ RetIs (AV.str ([(64 : UInt8)] ++ s)) [] (r, [])) := by kernel_rfl
end Go.Abs

namespace Go.Abs
open Go.Proofs L8
theorem decD_step (n : Nat) : Lib.decDigits n = (if n < 10 then [] else Lib.decDigits (n / 10)) ++ [UInt8.ofNat (48 + n % 10)] := by
  rw [Lib.decDigits]
  by_cases h : n < 10
  · rw [dif_pos h, if_pos h, Nat.mod_eq_of_lt h]; rfl
  · rw [dif_neg h, if_neg h]
theorem itoa_eq (n : Int) : Lib.itoa n = signL n ++ Lib.decDigits n.natAbs := by
  unfold Lib.itoa signL
  by_cases h : n < 0
  · rw [if_pos h, if_pos h]; rfl
  · rw [if_neg h, if_neg h, show n.toNat = n.natAbs by omega]; rfl
theorem nDig20 {N : Nat} (h : N < 10 ^ 20) : (Lib.decDigits N).length ≤ 20 := by
  rw [Lib.decDigits_length]
  apply Classical.byContradiction
  intro hn
  have h2 : ∀ (k M : Nat), k < Lib.nDigits M → 1 ≤ k → 10 ^ k ≤ M := by
    intro k
    induction k with
    | zero => intro M _ h; omega
    | succ k ih =>
      intro M hk _
      by_cases h10 : M < 10
      · rw [Lib.nDigits_small h10] at hk; omega
      · rw [Lib.nDigits_big h10] at hk
        by_cases hk0 : k = 0
        · subst hk0; simp; omega
        · have := ih (M / 10) (by omega) (by omega)
          rw [Nat.pow_succ]; omega
  have := h2 20 N (by omega) (by omega)
  omega
theorem natAbs20 {n : Int} (hn : i64Ok n) : n.natAbs < 10 ^ 20 := by
  obtain ⟨h2, h3⟩ := hn
  have e : (10 : Nat) ^ 20 = 100000000000000000000 := by decide
  omega
theorem lowD_len : ∀ k n, (lowD k n).length = k
  | 0, _ => rfl
  | k + 1, n => by simp [lowD, lowD_len k]
theorem padD_len {N : Nat} (h : N < 10 ^ 20) : 7 ≤ (padD N).length ∧ (padD N).length ≤ 20 := by
  unfold padD restD
  by_cases hlt : N < 10 ^ (7 - 0)
  · rw [if_pos hlt, lowD_len]; omega
  · rw [if_neg hlt]
    refine ⟨?_, nDig20 h⟩
    rw [Lib.decDigits_length]
    have := Lib.lt_pow_nDigits N
    apply Classical.byContradiction
    intro hn
    have h2 : 10 ^ Lib.nDigits N ≤ 10 ^ (7 - 0) := Nat.pow_le_pow_right (by omega) (by omega)
    omega
theorem I55.done {n : Int} {x : X54} (h : I55 n x) (h7 : ¬ x.i < 7) (h0 : x.m = 0) : x.s = pointL (padD n.natAbs) := by
  obtain ⟨a, b, h3, h4, h5⟩ := h.f (by omega)
  have hz : restD x.i x.m.natAbs = [] := by
    unfold restD
    rw [h0, show 7 - x.i = 0 by omega, if_pos (by decide)]; rfl
  rw [hz, List.nil_append] at h5
  unfold pointL
  rw [← h5, h3]
  have hl : (a ++ b).length - 6 = a.length := by simp; omega
  rw [hl]; simp
theorem lowD_rep : ∀ (k N : Nat), Lib.nDigits N ≤ k → lowD k N = List.replicate (k - Lib.nDigits N) 48 ++ Lib.decDigits N
  | 0, N, h => by have := Lib.nDigits_pos N; omega
  | k + 1, N, h => by
    rw [lowD]
    by_cases h10 : N < 10
    · have hz : ∀ k, lowD k 0 = List.replicate k 48 := by
        intro k
        induction k with
        | zero => rfl
        | succ k ih => rw [lowD, Nat.zero_div, ih]; exact (List.replicate_succ' (n := k) (a := (48 : UInt8))).symm
      rw [show N / 10 = 0 by omega, hz, Lib.nDigits_small h10, decD_step, if_pos h10]; simp
    · rw [Lib.nDigits_big h10] at h ⊢
      rw [lowD_rep k (N / 10) (by omega), decD_step N, if_neg h10, show k + 1 - (Lib.nDigits (N / 10) + 1) = k - Lib.nDigits (N / 10) by omega, List.append_assoc]
theorem lt_pow_of {N k : Nat} (h : Lib.nDigits N ≤ k) : N < 10 ^ k := Nat.lt_of_lt_of_le (Lib.lt_pow_nDigits N) (Nat.pow_le_pow_right (by omega) h)
theorem pow_le_of : ∀ (k N : Nat), k < Lib.nDigits N → 1 ≤ k → 10 ^ k ≤ N := by
  intro k
  induction k with
  | zero => intro N _ h; omega
  | succ k ih =>
    intro M hk _
    by_cases h10 : M < 10
    · rw [Lib.nDigits_small h10] at hk; omega
    · rw [Lib.nDigits_big h10] at hk
      by_cases hk0 : k = 0
      · subst hk0; simp; omega
      · have := ih (M / 10) (by omega) (by omega)
        rw [Nat.pow_succ]; omega
theorem I39.done {n : Int} {s : List UInt8} (h : I39 n s) (hl : ¬ s.length ≤ 6) : s = padD n.natAbs := by
  obtain ⟨k, he, hk⟩ := h.e
  have hlen := congrArg List.length he
  rw [List.length_append, List.length_replicate, Lib.decDigits_length] at hlen
  unfold padD restD
  simp only [Nat.sub_zero]
  by_cases h7 : Lib.nDigits n.natAbs ≤ 7
  · rw [if_pos (lt_pow_of h7), lowD_rep _ _ h7, he]
    congr 2
    omega
  · have := pow_le_of 7 n.natAbs (by omega) (by omega)
    rw [if_neg (by omega)]
    have : k = 0 := by omega
    subst this
    rw [he]; rfl
theorem p39 (m n : Int) (hn : i64Ok n) : PureOk PP (G8 m) XT (tbl [(38, s38)]) (itbl []) (a39 n) [] 39 [.int .i64 n] (.str (decFz n), []) := by
  have t1 : tbl [(38, s38)] 38 [.int .i64 n] = some (.str (Lib.itoa n), []) := by rw [tbl_hit]; simp only [s38, hn, if_true]
  constructor
  generalize hr : AV.str (decFz n) = r
  rw [w39]
  simp only [t1, callIs_iff, Option.some.injEq, Prod.mk.injEq, AV.str.injEq, List.cons.injEq, valsAre_iff, stIs_iff, true_and, and_true, decide_eq_true_eq, decide_eq_false_iff_not, exists_eq_left']
  have h10 := nDig20 (natAbs20 hn)
  have hlen : ∀ s, I39 n s → s.length ≤ 20 := fun s hs => by
    obtain ⟨k, he, hk⟩ := hs.e
    have hl := congrArg List.length he
    rw [List.length_append, List.length_replicate] at hl
    omega
  have hsg : (signL n).length ≤ 1 := by unfold signL; split <;> simp
  have loop : ∀ x : List UInt8, I39 n x → _ ∧ _ := fun x hx => And.intro
      (show (x.length : Int) ≤ 6 → 1 + x.length ≤ 9223372036854775807 ∧ I39 n ([48] ++ x) ∧ 7 - ([48] ++ x).length < 7 - x.length from fun h6 => by
        have := hlen x hx
        obtain ⟨k, he, hk⟩ := hx.e
        refine ⟨by omega, ⟨k + 1, ?_, .inr (by simp; omega)⟩, by simp; omega⟩
        rw [he, List.replicate_succ]; rfl)
      (show ¬ (x.length : Int) ≤ 6 → x = padD n.natAbs ∧ x.length ≤ 20 ∧ IntKind.i64.wrap ((x.length : Int) - 6) = ((x.length - 6 : Nat) : Int) from fun h6 => ⟨hx.done (by omega), hlen x hx, by
        have := hlen x hx
        rw [wrap64_in (by omega) (by omega)]; omega⟩)
  have fin : ∀ x : List UInt8, x = padD n.natAbs → RetIs (AV.str (signL n ++ List.drop 0 (List.take (x.length - 6) x) ++ [46] ++ List.drop (x.length - 6) (List.take x.length x))) [] (r, []) := fun x hx => ⟨by
    rw [← hr, List.take_length, List.drop_zero, hx]; unfold decFz pointL; simp⟩
  have ends : ∀ x : List UInt8, I39 n x → ¬ (x.length : Int) ≤ 6 → 0 ≤ IntKind.i64.wrap ((x.length : Int) - 6) ∧ (0 ≤ (IntKind.i64.wrap ((x.length : Int) - 6)).toNat ∧ (IntKind.i64.wrap ((x.length : Int) - 6)).toNat ≤ x.length) ∧
      (signL n).length + (List.drop 0 (List.take (IntKind.i64.wrap ((x.length : Int) - 6)).toNat x)).length ≤ 9223372036854775807 ∧
      (signL n ++ List.drop 0 (List.take (IntKind.i64.wrap ((x.length : Int) - 6)).toNat x)).length + 1 ≤ 9223372036854775807 ∧
      0 ≤ IntKind.i64.wrap ((x.length : Int) - 6) ∧ ((IntKind.i64.wrap ((x.length : Int) - 6)).toNat ≤ x.length ∧ x.length ≤ x.length) ∧
      (signL n ++ List.drop 0 (List.take (IntKind.i64.wrap ((x.length : Int) - 6)).toNat x) ++ [46]).length + (List.drop (IntKind.i64.wrap ((x.length : Int) - 6)).toNat (List.take x.length x)).length ≤ 9223372036854775807 ∧
      RetIs (AV.str (signL n ++ List.drop 0 (List.take (IntKind.i64.wrap ((x.length : Int) - 6)).toNat x) ++ [46] ++ List.drop (IntKind.i64.wrap ((x.length : Int) - 6)).toNat (List.take x.length x))) [] (r, []) := fun x hx h6 => by
    obtain ⟨h1, h2, h3⟩ := (loop x hx).2 h6
    rw [h3, Int.toNat_natCast]
    refine ⟨by omega, by omega, ?_, ?_, by omega, by omega, ?_, fin x h1⟩
    · simp; omega
    · simp; omega
    · simp; omega
  have hI : I39 n (Lib.decDigits n.natAbs) := ⟨0, by simp, .inl rfl⟩
  refine ⟨fun h => ⟨by omega, ?_, ⟨_, ⟨rfl, ?_⟩, ?_⟩, fun x hx => ⟨(loop x hx).1, ends x hx⟩⟩, fun h => ⟨⟨_, ⟨rfl, ?_⟩, ?_⟩, fun x hx => ⟨(loop x hx).1, ends x hx⟩⟩⟩
  · rw [itoa_eq]; unfold signL; rw [if_pos h]; simp
  · unfold signL; rw [if_pos h]
  · rw [itoa_eq]; unfold signL; rw [if_pos h, List.take_length]; exact hI
  · unfold signL; rw [if_neg h]
  · rw [itoa_eq]; unfold signL; rw [if_neg h]; exact hI
end Go.Abs

namespace Go.Abs
open Go.Proofs L8
theorem sInt_of {X : Shapes} {R : Callee} {C : CCallee} {m : Int} {g : FuncId} {f : Int → AV} (hR : CalleeOk PP (G8 m) R) (hC : ICalleeOk PP (G8 m) (lowC C))
    (h : ∀ n, i64Ok n → ∃ A, PureOk PP (G8 m) X R C A [] g [.int .i64 n] (f n, [])) : SpecOk PP (G8 m) g (sInt f) := spec_of (X := X) (m := []) mixed8 hR hC fun args r h' => by
  unfold sInt at h'
  split at h'
  · split at h'
    · rename_i hn
      injection h' with h'; subst h'; exact h _ hn
    · cases h'
  · cases h'
theorem sVal'_of {X : Shapes} {R : Callee} {C : CCallee} {m : Int} {g : FuncId} {f : Int → Int → List UInt8 → AV} (hR : CalleeOk PP (G8 m) R) (hC : ICalleeOk PP (G8 m) (lowC C))
    (h : ∀ k n s, strOk s → i64Ok n → ∃ A, PureOk PP (G8 m) X R C A [] g [vA k n s] (f k n s, [])) : SpecOk PP (G8 m) g (sVal' f) := spec_of (X := X) (m := []) mixed8 hR hC fun args r h' => by
  unfold sVal' at h'
  split at h'
  · split at h'
    · rename_i hs
      injection h' with h'; subst h'; exact h _ _ _ hs.1 hs.2
    · cases h'
  · cases h'
theorem o39 (m : Int) : SpecOk PP (G8 m) 39 s55 := sInt_of (X := XT) (tbl_cons (o38 m) tbl_nil) itbl_nil fun n hn => ⟨a39 n, p39 m n hn⟩
theorem o59 (m : Int) : SpecOk PP (G8 m) 59 s59 := spec_of (X := XT) (m := []) mixed8 tbl_nil itbl_nil fun args r h => by
  unfold s59 at h
  split at h
  · rename_i b
    injection h with h; subst h
    cases b with
    | true => exact ⟨nAn, ⟨by rw [w59t]; exact ⟨rfl⟩⟩⟩
    | false => exact ⟨nAn, ⟨by rw [w59f]; exact ⟨rfl⟩⟩⟩
  · cases h
theorem o37 (m : Int) : SpecOk PP (G8 m) 37 s59 := spec_of (X := XT) (m := []) mixed8 (tbl_cons (o59 m) tbl_nil) itbl_nil fun args r h => by
  unfold s59 at h
  split at h
  · rename_i b
    injection h with h; subst h
    exact ⟨nAn, ⟨by rw [w37]; exact ⟨_, ⟨rfl⟩, ⟨rfl⟩⟩⟩⟩
  · cases h
def s18 : Spec := sVal' fun _ _ _ => .str [110, 117, 108, 108]
def s19 : Spec := sVal' fun _ n _ => .str (if n = 1 then [116, 114, 117, 101] else [102, 97, 108, 115, 101])
def s20 : Spec := sVal' fun _ n _ => .str (Lib.itoa n)
def s21 : Spec := sVal' fun _ n _ => .str (decFz n)
def s22 : Spec := sVal' fun _ _ s => .str ([34] ++ s ++ [34])
def s23 : Spec := sVal' fun _ _ s => .str ([64] ++ s)
theorem o18 (m : Int) : SpecOk PP (G8 m) 18 s18 := sVal'_of (X := XT) tbl_nil itbl_nil fun k n s hs hn => ⟨nAn, ⟨by rw [w18]; exact ⟨rfl⟩⟩⟩
theorem o19 (m : Int) : SpecOk PP (G8 m) 19 s19 := sVal'_of (X := XT) (tbl_cons (o37 m) tbl_nil) itbl_nil fun k n s hs hn => ⟨nAn, ⟨by
  rw [w19]
  simp only [beq_iff_eq, beq_eq_false_iff_ne]
  exact ⟨fun h => ⟨_, ⟨rfl⟩, ⟨by rw [if_pos h]⟩⟩, fun h => ⟨_, ⟨rfl⟩, ⟨by rw [if_neg h]⟩⟩⟩⟩⟩
theorem o20 (m : Int) : SpecOk PP (G8 m) 20 s20 := sVal'_of (X := XT) (tbl_cons (o38 m) tbl_nil) itbl_nil fun k n s hs hn => ⟨nAn, ⟨by
  rw [w20, tbl_hit]
  exact ⟨_, ⟨by simp only [s38, hn, if_true]⟩, ⟨rfl⟩⟩⟩⟩
theorem o21 (m : Int) : SpecOk PP (G8 m) 21 s21 := sVal'_of (X := XT) (tbl_cons (o39 m) tbl_nil) itbl_nil fun k n s hs hn => ⟨nAn, ⟨by
  rw [w21, tbl_hit]
  exact ⟨_, ⟨by simp only [s55, sInt, hn, if_true]⟩, ⟨rfl⟩⟩⟩⟩
theorem o22 (m : Int) : SpecOk PP (G8 m) 22 s22 := sVal'_of (X := XT) tbl_nil itbl_nil fun k n s hs hn => ⟨nAn, ⟨by
  have h1 : s.length ≤ 1000000 := hs
  rw [w22]; exact ⟨by show 1 + s.length ≤ 9223372036854775807; omega, by show ([34] ++ s).length + 1 ≤ 9223372036854775807; simp; omega, ⟨rfl⟩⟩⟩⟩
theorem o23 (m : Int) : SpecOk PP (G8 m) 23 s23 := sVal'_of (X := XT) tbl_nil itbl_nil fun k n s hs hn => ⟨nAn, ⟨by
  have h1 : s.length ≤ 1000000 := hs
  rw [w23]; exact ⟨by show 1 + s.length ≤ 9223372036854775807; omega, ⟨rfl⟩⟩⟩⟩
end Go.Abs

namespace Go.Abs
open Go.Proofs Go.RowKit
section
variable {P : Program} {G : Glob} {E : Env} {w w1 : World}
theorem le_below (hb : Below w.heap.size w w1) (hI : ∀ b o, E.I b o → b < w.heap.size) : Env.Le E E w w1 := ⟨fun b o h => ⟨h, hb.cell (p := ⟨b, o, none⟩) (hI b o h)⟩, fun _ _ h => h, fun _ _ _ h => h⟩
theorem spec_calls {f : FuncId} {s : Spec} (hs : SpecOk P G f s) (hg : goodFn P f) {args : List AV} {r : AV} (h : s args = some (r, [])) {vs : Array Value} (hI : ∀ b o, E.I b o → b < w.heap.size) (hG : GlobOk G E w) (hn : vs.size = args.length)
    (hv : ∀ (i : Nat) (c : AV) (v : Value), args[i]? = some c → vs[i]? = some v → Rep E w c v) (hcl : ∀ c ∈ args, c.closed1 = true) : Calls P f vs w fun e w' => ∃ v, e = .returned v ∧ Below w.heap.size w w' ∧ ∃ I', ∀ B K, Rep ⟨I', B, K⟩ w' r v := by
  have hc := hs f args r [] (by simp only [if_true]; exact h) E w vs hI hG hn hv hcl
  rcases hc with ⟨_, hc⟩ | ⟨v, w', hrun, _⟩
  · refine hc.mono fun e w' ⟨v, he, I', _, _, hb, hr⟩ => ?_
    rcases hr with ⟨_, hr⟩ | ⟨n, e', hv', sz, xs, hlv, _⟩
    · exact ⟨v, he, hb, I', hr⟩
    · cases hlv
  · rw [run_callFunc hg] at hrun
    cases hrun
theorem findNow_int (n : Int) : ∀ (l : List MapEntry) (i : Nat), (∀ e ∈ l, ∃ k : Int, e.key = .int .i64 k ∧ k ≠ n) → Instr.findNow (.int .i64) (.int .i64 n) l i = some none
  | [], i, _ => rfl
  | e :: l, i, h => by
    obtain ⟨k, hk, hne⟩ := h e (by simp)
    have : Instr.sameNow (.int .i64) (.int .i64 n) e.key = some false := by
      rw [hk]; simp [Instr.sameNow]; omega
    rw [Instr.findNow, this]
    exact findNow_int n l (i + 1) fun x hx => h x (by simp [hx])
theorem run_mapUpdate_new (mty kt et : TypeId) (r clock : Nat) (es : Array MapEntry) (n : Int) (val : Value) (hm : P.underlying mty = some (.map kt et)) (hk : P.underlying kt = some (.int .i64)) (hb : w.heap[r]? = some (.map es clock))
    (hf : ∀ e ∈ es.toList, ∃ k : Int, e.key = .int .i64 k ∧ k ≠ n) :
    (Instr.mapUpdate mty (.map (some r)) (.int .i64 n) val).run P w = .ok () { w with heap := w.heap.setIfInBounds r (.map (es.push { key := .int .i64 n, val := val, born := clock }) (clock + 1)) } := by
  have hc : (Instr.checkKey false 10000 kt (.int .i64 n)).run P w = .ok () w := MapKept.run_checkKey (k := .int .i64 n) hk (by simp [MapKept.IsKey]) false 9999
  simp [Instr.mapUpdate, run_underlying hm, MapKept.run_getObj_map hb, hc, MapKept.run_findKey hk (findNow_int n es.toList 0 hf), MapKept.run_setObj_map _ hb, Result.andThen]
end
theorem run_lookup_int {P : Program} {w : World} (mty kt et : TypeId) (r clock : Nat) (es : Array MapEntry) (n : Int) (i : Nat) (v : Value) (hm : P.underlying mty = some (.map kt et)) (hk : P.underlying kt = some (.int .i64)) (hb : w.heap[r]? = some (.map es clock))
    (hf : Instr.findNow (.int .i64) (.int .i64 n) es.toList 0 = some (some (i, v))) :
    (Instr.lookup mty (.map (some r)) (.int .i64 n) false).run P w = .ok v w := by
  have hc : (Instr.checkKey es.isEmpty 10000 kt (.int .i64 n)).run P w = .ok () w := MapKept.run_checkKey (k := .int .i64 n) hk (by simp [MapKept.IsKey]) _ 9999
  simp [Instr.lookup, run_underlying hm, MapKept.run_getObj_map hb, hc, MapKept.run_findKey hk hf, Result.andThen]
theorem mk_val {E : Env} {w : World} {k n : Int} {s : ByteArray} : Rep E w (vA k n s.data.toList) (.agg #[.int .i64 k, .int .i64 n, .string s]) := by
  refine .agg _ _ rfl (fun i v h => ?_) fun i c v hc hv => ?_
  · match i, h with
    | 0, h => simp at h; subst h; rfl
    | 1, h => simp at h; subst h; rfl
    | 2, h => simp at h; subst h; rfl
    | i + 3, h => simp at h
  · match i, hc, hv with
    | 0, hc, hv => simp at hc hv; subst hc; subst hv; exact .int _ _
    | 1, hc, hv => simp at hc hv; subst hc; subst hv; exact .int _ _
    | 2, hc, hv => simp at hc hv; subst hc; subst hv; exact .str _ _ rfl
    | i + 3, hc, hv => simp at hc
theorem one_arg {E : Env} {w : World} {a : AV} {v : Value} (h : Rep E w a v) : ∀ (i : Nat) (c : AV) (x : Value), [a][i]? = some c → (#[v])[i]? = some x → Rep E w c x := by
  intro i c x hi hx
  match i, hi, hx with
  | 0, hi, hx => simp at hi hx; subst hi; subst hx; exact h
  | i + 1, hi, hx => simp at hi
theorem agg3z {E : Env} {w : World} {k n : Int} {s : List UInt8} {v : Value} (h : Rep E w (vA k n s) v) : ∃ b : ByteArray, v = .agg #[.int .i64 k, .int .i64 n, .string b] ∧ b.data.toList = s := by
  cases h with | agg _ vs hn h1 hc =>
  obtain ⟨l⟩ := vs
  match l, hn with
  | [a, b, c], _ =>
    obtain rfl := rep_int (hc 0 _ _ rfl rfl)
    obtain rfl := rep_int (hc 1 _ _ rfl rfl)
    obtain ⟨t, rfl, ht⟩ := rep_str (hc 2 _ _ rfl rfl)
    exact ⟨t, rfl, ht⟩
theorem alloc_at (w : World) (o : Obj) : (w.alloc o).heap[w.heap.size]? = some o := Array.getElem?_push_size
/-- the world while the map is being filled -/
structure FM (w : World) (a b r : Nat) (k n : Int) (s : ByteArray) (es : Array MapEntry) (c : Nat) (W : World) : Prop where
  map : W.heap[r]? = some (.map es c)
  ak : W.cell? ⟨a, 0, none⟩ = some (.int .i64 k)
  b0 : W.cell? ⟨b, 0, none⟩ = some (.int .i64 k)
  b1 : W.cell? ⟨b, 1, none⟩ = some (.int .i64 n)
  b2 : W.cell? ⟨b, 2, none⟩ = some (.string s)
  below : Below w.heap.size w W
  hr : w.heap.size ≤ r
  ne1 : a ≠ r
  ne2 : b ≠ r
theorem cell_other {W : World} {r b j : Nat} {o : Obj} (h : b ≠ r) : ({ W with heap := W.heap.setIfInBounds r o } : World).cell? ⟨b, j, none⟩ = W.cell? ⟨b, j, none⟩ := by
  unfold World.cell?
  simp only
  rw [Array.getElem?_setIfInBounds_ne (by omega)]
theorem FM.upd {w : World} {a b r : Nat} {k n : Int} {s : ByteArray} {es : Array MapEntry} {c : Nat} {W : World} (h : FM w a b r k n s es c W) (j : Int) (val : Value) (hf : ∀ e ∈ es.toList, ∃ i : Int, e.key = .int .i64 i ∧ i ≠ j) :
    ∃ W', (Instr.mapUpdate 51 (.map (some r)) (.int .i64 j) val).run PP W = .ok () W' ∧ FM w a b r k n s (es.push { key := .int .i64 j, val := val, born := c }) (c + 1) W' := by
  refine ⟨_, run_mapUpdate_new 51 3 50 r c es j val (by kernel_rfl) (by kernel_rfl) h.map hf, ?_, ?_, ?_, ?_, ?_, ?_, h.hr, h.ne1, h.ne2⟩
  · have : r < W.heap.size := (Array.getElem?_eq_some_iff.1 h.map).1
    simp [this]
  · rw [cell_other h.ne1]; exact h.ak
  · rw [cell_other h.ne2]; exact h.b0
  · rw [cell_other h.ne2]; exact h.b1
  · rw [cell_other h.ne2]; exact h.b2
  · exact ⟨h.below.os, h.below.tape, h.below.output, by simpa using h.below.size, fun q hq => by
      simp only
      rw [Array.getElem?_setIfInBounds_ne (by have := h.hr; omega)]
      exact h.below.block q hq⟩
set_option maxHeartbeats 4000000 in
set_option maxRecDepth 100000 in
theorem fmt_walk (k n : Int) (s : ByteArray) (m : Int) {E : Env} (w : World) (hs : strOk s.data.toList) (hn : i64Ok n) (hI : ∀ b o, E.I b o → b < w.heap.size) (hG : GlobOk (G8 m) E w) :
    Calls PP 6 #[.agg #[.int .i64 k, .int .i64 n, .string s]] w fun e w' => (∃ b : ByteArray, e = .returned (.string b) ∧ b.data.toList = fmtL k n s.data.toList) ∧ Below w.heap.size w w' := by
  have hmm := @run_makeMap PP
  have hmf : ∀ (fn : Fn) (first cap : Array Value) (w : World), (Instr.makeFunc fn first cap).run PP w = .ok (.func fn first cap) w := fun _ _ _ _ => rfl
  go_enter Tryz.func6, Tryz.ntmps6
  go_wp2_with fail
  have hb0 : Below w.heap.size w (w.alloc (Obj.cells #[Value.int IntKind.i64 k, Value.int IntKind.i64 n, Value.string s] 23)) := (Below.refl w.heap.size w).alloc (Nat.le_refl _) _
  refine (spec_calls (E := E) (o17 m) (good8 (by kernel_rfl)) (s12_at (k := k) (n := n) hs) (fun b o h => by have := hI b o h; simp [go_sem]; omega) (hG.le (le_below hb0 hI)) rfl (one_arg mk_val) (by simp [AV.closed1, AV.closed])).mono ?_
  rintro e w1 ⟨v, rfl, hb1, I', hr⟩
  obtain rfl := rep_int (hr (fun _ => none) (fun _ _ _ => False))
  have hsz : (w.alloc (Obj.cells #[Value.int IntKind.i64 k, Value.int IntKind.i64 n, Value.string s] 23)).heap.size = w.heap.size + 1 := by simp [go_sem]
  rw [hsz] at hb1
  have hc0 : ∀ j, w1.cell? ⟨w.heap.size, j, none⟩ = (#[Value.int IntKind.i64 k, Value.int IntKind.i64 n, Value.string s])[j]? := fun j => by
    rw [hb1.cell (p := ⟨w.heap.size, j, none⟩) (by show w.heap.size < _; omega)]; simp [go_sem]
  have h0 := hc0 0; have h1 := hc0 1; have h2 := hc0 2
  simp at h0 h1 h2
  have hb2 := hb0.trans (hb1.mono (by omega))
  have hle : w.heap.size + 1 ≤ w1.heap.size := by have := hb1.size; omega
  have hGw := hG.le (le_below hb2 hI)
  clear hb0 hb1 hc0 hr hsz
  generalize hck : checkI k n s.data.toList = ck
  go_wp2_with fail
  · have hf : fmtL k n s.data.toList = [] := by
      unfold fmtL validB
      rw [if_pos]
      rw [hck]; simp only [decide_eq_false_iff_not]; simpa using ‹(ck != 0) = true›
    go_ret
    exact ⟨⟨_, rfl, by rw [hf]⟩, hb2⟩
  · have hck0 : ck = 0 := by simpa using ‹(ck != 0) = false›
    have F0 : FM w w.heap.size w1.heap.size (w1.heap.size + 1) k n s #[] 0 ((w1.alloc (Obj.cells #[Value.int IntKind.i64 k, Value.int IntKind.i64 n, Value.string s] 49)).alloc (Obj.map #[] 0)) := by
      refine ⟨?_, ?_, by simp [go_sem], by simp [go_sem], by simp [go_sem], ?_, by omega, by omega, by omega⟩
      · have := alloc_at (w1.alloc (Obj.cells #[Value.int IntKind.i64 k, Value.int IntKind.i64 n, Value.string s] 49)) (Obj.map #[] 0)
        rw [show (w1.alloc (Obj.cells #[Value.int IntKind.i64 k, Value.int IntKind.i64 n, Value.string s] 49)).heap.size = w1.heap.size + 1 by simp [go_sem]] at this
        exact this
      · have hb3 : Below (w.heap.size + 1) w1 ((w1.alloc (Obj.cells #[Value.int IntKind.i64 k, Value.int IntKind.i64 n, Value.string s] 49)).alloc (Obj.map #[] 0)) := ((Below.refl _ w1).alloc hle _).alloc (by simp [go_sem]; omega) _
        rw [hb3.cell (p := ⟨w.heap.size, 0, none⟩) (by show w.heap.size < _; omega)]; exact h0
      · exact (hb2.alloc (by omega) _).alloc (by simp [go_sem]; omega) _
    generalize ((w1.alloc (Obj.cells #[Value.int IntKind.i64 k, Value.int IntKind.i64 n, Value.string s] 49)).alloc (Obj.map #[] 0)) = W0 at *
    clear h0 h1 h2 hmm
    generalize hv : Value.agg #[Value.int IntKind.i64 k, Value.int IntKind.i64 n, Value.string s] = V at *
    obtain ⟨W1, r1, F1⟩ := F0.upd 0 (.func (.func 18) #[V] #[]) (by simp)
    rw [r1]
    clear r1
    have b0 := F1.b0; have b1 := F1.b1; have b2 := F1.b2
    go_wp2_with fail
    clear b0 b1 b2 F0
    obtain ⟨W2, r2, F2⟩ := F1.upd 1 (.func (.func 19) #[V] #[]) (by simp)
    rw [r2]
    clear r2
    have b0 := F2.b0; have b1 := F2.b1; have b2 := F2.b2
    go_wp2_with fail
    clear b0 b1 b2 F1
    obtain ⟨W3, r3, F3⟩ := F2.upd 2 (.func (.func 20) #[V] #[]) (by simp)
    rw [r3]
    clear r3
    have b0 := F3.b0; have b1 := F3.b1; have b2 := F3.b2
    go_wp2_with fail
    clear b0 b1 b2 F2
    obtain ⟨W4, r4, F4⟩ := F3.upd 3 (.func (.func 21) #[V] #[]) (by simp)
    rw [r4]
    clear r4
    have b0 := F4.b0; have b1 := F4.b1; have b2 := F4.b2
    go_wp2_with fail
    clear b0 b1 b2 F3
    obtain ⟨W5, r5, F5⟩ := F4.upd 4 (.func (.func 22) #[V] #[]) (by simp)
    rw [r5]
    clear r5
    have b0 := F5.b0; have b1 := F5.b1; have b2 := F5.b2
    go_wp2_with fail
    clear b0 b1 b2 F4
    obtain ⟨W6, r6, F6⟩ := F5.upd 5 (.func (.func 23) #[V] #[]) (by simp)
    rw [r6]
    clear r6
    have b0 := F6.b0; have b1 := F6.b1; have b2 := F6.b2
    have ak := F6.ak
    go_wp2_with fail
    have hkk : k = 0 ∨ k = 1 ∨ k = 2 ∨ k = 3 ∨ k = 4 ∨ k = 5 := by
      rw [hck0] at hck
      unfold checkI at hck
      split at hck
      · cases hck
      · rename_i hf
        unfold fieldsB at hf
        by_cases h0 : k = 0
        · omega
        · by_cases h1 : k = 1
          · omega
          · by_cases h2 : k = 2 ∨ k = 3
            · omega
            · by_cases h3 : k = 4 ∨ k = 5
              · omega
              · rw [if_neg h0, if_neg h1, if_neg h2, if_neg h3] at hf; simp at hf
    have hvd : validB k n s.data.toList = true := by unfold validB; rw [hck, hck0]; rfl
    have hbW := F6.below
    have hGW := hG.le (le_below hbW hI)
    have hIW : ∀ b o, E.I b o → b < W6.heap.size := fun b o h => by have := hI b o h; have := hbW.size; omega
    have hmap := F6.map
    clear F6 b0 b1 b2 F5 hGw hle hb2 hck
    subst hv
    rcases hkk with rfl | rfl | rfl | rfl | rfl | rfl
    · rw [run_lookup_int 51 3 50 _ _ _ 0 0 (.func (.func 18) #[.agg #[.int .i64 0, .int .i64 n, .string s]] #[]) (by kernel_rfl) (by kernel_rfl) hmap rfl]
      go_wp2_with fail
      refine (spec_calls (E := E) (o18 m) (good8 (by kernel_rfl)) (by unfold s18 sVal'; simp only [hs, hn, and_self, if_true]; rfl) hIW hGW rfl (one_arg mk_val) (by simp [AV.closed1, AV.closed])).mono ?_
      rintro e w7 ⟨v, rfl, hb7, I'', hr7⟩
      obtain ⟨t, rfl, ht⟩ := rep_str (hr7 (fun _ => none) (fun _ _ _ => False))
      have hb8 := hbW.trans (hb7.mono hbW.size)
      clear hmap hbW hGW hIW hr7 hb7 ak hG hI
      go_wp2_with fail
      go_ret
      refine ⟨⟨t, rfl, ?_⟩, hb8⟩
      rw [ht]; unfold fmtL; rw [hvd]; rfl
    · rw [run_lookup_int 51 3 50 _ _ _ 1 1 (.func (.func 19) #[.agg #[.int .i64 1, .int .i64 n, .string s]] #[]) (by kernel_rfl) (by kernel_rfl) hmap rfl]
      go_wp2_with fail
      refine (spec_calls (E := E) (o19 m) (good8 (by kernel_rfl)) (by unfold s19 sVal'; simp only [hs, hn, and_self, if_true]; rfl) hIW hGW rfl (one_arg mk_val) (by simp [AV.closed1, AV.closed])).mono ?_
      rintro e w7 ⟨v, rfl, hb7, I'', hr7⟩
      obtain ⟨t, rfl, ht⟩ := rep_str (hr7 (fun _ => none) (fun _ _ _ => False))
      have hb8 := hbW.trans (hb7.mono hbW.size)
      clear hmap hbW hGW hIW hr7 hb7 ak hG hI
      go_wp2_with fail
      go_ret
      refine ⟨⟨t, rfl, ?_⟩, hb8⟩
      rw [ht]; unfold fmtL; rw [hvd]; rfl
    · rw [run_lookup_int 51 3 50 _ _ _ 2 2 (.func (.func 20) #[.agg #[.int .i64 2, .int .i64 n, .string s]] #[]) (by kernel_rfl) (by kernel_rfl) hmap rfl]
      go_wp2_with fail
      refine (spec_calls (E := E) (o20 m) (good8 (by kernel_rfl)) (by unfold s20 sVal'; simp only [hs, hn, and_self, if_true]; rfl) hIW hGW rfl (one_arg mk_val) (by simp [AV.closed1, AV.closed])).mono ?_
      rintro e w7 ⟨v, rfl, hb7, I'', hr7⟩
      obtain ⟨t, rfl, ht⟩ := rep_str (hr7 (fun _ => none) (fun _ _ _ => False))
      have hb8 := hbW.trans (hb7.mono hbW.size)
      clear hmap hbW hGW hIW hr7 hb7 ak hG hI
      go_wp2_with fail
      go_ret
      refine ⟨⟨t, rfl, ?_⟩, hb8⟩
      rw [ht]; unfold fmtL; rw [hvd]; rfl
    · rw [run_lookup_int 51 3 50 _ _ _ 3 3 (.func (.func 21) #[.agg #[.int .i64 3, .int .i64 n, .string s]] #[]) (by kernel_rfl) (by kernel_rfl) hmap rfl]
      go_wp2_with fail
      refine (spec_calls (E := E) (o21 m) (good8 (by kernel_rfl)) (by unfold s21 sVal'; simp only [hs, hn, and_self, if_true]; rfl) hIW hGW rfl (one_arg mk_val) (by simp [AV.closed1, AV.closed])).mono ?_
      rintro e w7 ⟨v, rfl, hb7, I'', hr7⟩
      obtain ⟨t, rfl, ht⟩ := rep_str (hr7 (fun _ => none) (fun _ _ _ => False))
      have hb8 := hbW.trans (hb7.mono hbW.size)
      clear hmap hbW hGW hIW hr7 hb7 ak hG hI
      go_wp2_with fail
      go_ret
      refine ⟨⟨t, rfl, ?_⟩, hb8⟩
      rw [ht]; unfold fmtL; rw [hvd]; rfl
    · rw [run_lookup_int 51 3 50 _ _ _ 4 4 (.func (.func 22) #[.agg #[.int .i64 4, .int .i64 n, .string s]] #[]) (by kernel_rfl) (by kernel_rfl) hmap rfl]
      go_wp2_with fail
      refine (spec_calls (E := E) (o22 m) (good8 (by kernel_rfl)) (by unfold s22 sVal'; simp only [hs, hn, and_self, if_true]; rfl) hIW hGW rfl (one_arg mk_val) (by simp [AV.closed1, AV.closed])).mono ?_
      rintro e w7 ⟨v, rfl, hb7, I'', hr7⟩
      obtain ⟨t, rfl, ht⟩ := rep_str (hr7 (fun _ => none) (fun _ _ _ => False))
      have hb8 := hbW.trans (hb7.mono hbW.size)
      clear hmap hbW hGW hIW hr7 hb7 ak hG hI
      go_wp2_with fail
      go_ret
      refine ⟨⟨t, rfl, ?_⟩, hb8⟩
      rw [ht]; unfold fmtL; rw [hvd]; rfl
    · rw [run_lookup_int 51 3 50 _ _ _ 5 5 (.func (.func 23) #[.agg #[.int .i64 5, .int .i64 n, .string s]] #[]) (by kernel_rfl) (by kernel_rfl) hmap rfl]
      go_wp2_with fail
      refine (spec_calls (E := E) (o23 m) (good8 (by kernel_rfl)) (by unfold s23 sVal'; simp only [hs, hn, and_self, if_true]; rfl) hIW hGW rfl (one_arg mk_val) (by simp [AV.closed1, AV.closed])).mono ?_
      rintro e w7 ⟨v, rfl, hb7, I'', hr7⟩
      obtain ⟨t, rfl, ht⟩ := rep_str (hr7 (fun _ => none) (fun _ _ _ => False))
      have hb8 := hbW.trans (hb7.mono hbW.size)
      clear hmap hbW hGW hIW hr7 hb7 ak hG hI
      go_wp2_with fail
      go_ret
      refine ⟨⟨t, rfl, ?_⟩, hb8⟩
      rw [ht]; unfold fmtL; rw [hvd]; rfl
theorem o6 (m : Int) : SpecOk PP (G8 m) 6 s6 := by
  intro g args r lv h E w vs hI hG hn' hv hcl
  simp only at h
  split at h
  case isFalse => cases h
  case isTrue e =>
  subst e
  unfold s6 sVal' at h
  split at h
  case h_2 => cases h
  case h_1 k n s =>
  split at h
  case isFalse => cases h
  case isTrue hl =>
  simp only [Option.some.injEq, Prod.mk.injEq] at h
  obtain ⟨rfl, rfl⟩ := h
  obtain ⟨a, rfl⟩ := vs_one hn'
  obtain ⟨b, rfl, hb⟩ := agg3z (hv 0 _ _ rfl rfl)
  subst hb
  refine .inl ⟨good8 (by kernel_rfl), (fmt_walk k n b m w hl.1 hl.2 hI hG).mono fun e w' ⟨⟨t, he, ht⟩, hbw⟩ => ⟨_, he, ?_⟩⟩
  exact res_below hbw fun B K => by rw [← ht]; exact .str _ _ rfl
end Go.Abs

namespace Go.Abs
open Go.Proofs L8
def hasPfx (s p : List UInt8) : Bool := decide (s.take p.length = p)
def trL (c : UInt8) (s : List UInt8) : List UInt8 := s.dropWhile (· == c)
def trR (c : UInt8) (s : List UInt8) : List UInt8 := (s.reverse.dropWhile (· == c)).reverse
def s27 : Spec := fun args => match args with
  | [.str s, .str p] => some (.bool (hasPfx s p), [])
  | _ => none
def sTrim (f : UInt8 → List UInt8 → List UInt8) : Spec := fun args => match args with
  | [.str s, .int .u8 c] => if strOk s ∧ 0 ≤ c ∧ c < 256 then some (.str (f (UInt8.ofNat c.toNat) s), []) else none
  | _ => none
def s48 : Spec := sTrim trL
def s49 : Spec := sTrim trR
def s28 : Spec := fun args => match args with
  | [.str s, .str [34]] => if strOk s then some (.str (trL 34 (trR 34 s)), []) else none
  | _ => none
def a48 (s : List UInt8) (c : UInt8) : Anns := ⟨fun q => if q = 1 then some { α := Nat, slots := [0, 1], nb := 0, vals := fun k => [.str (s.drop k), .int .u8 c.toNat], sS := fun _ => ⟨[], []⟩, I := fun k => k ≤ s.length ∧ trL c (s.drop k) = trL c s, μ := fun k => s.length - k } else none, nA⟩
def a49 (s : List UInt8) (c : UInt8) : Anns := ⟨fun q => if q = 1 then some { α := Nat, slots := [0, 1], nb := 0, vals := fun k => [.str (s.take k), .int .u8 c.toNat], sS := fun _ => ⟨[], []⟩, I := fun k => k ≤ s.length ∧ trR c (s.take k) = trR c s, μ := fun k => k } else none, nA⟩
def nullV : V3 := ⟨0, 0, []⟩
abbrev trueT : List UInt8 := [116, 114, 117, 101]
abbrev falseT : List UInt8 := [102, 97, 108, 115, 101]
abbrev nullT : List UInt8 := [110, 117, 108, 108]
/-- what the program guesses -/
def gP (s : List UInt8) : V3 :=
  if s = nullT then nullV else if s = trueT ∨ s = falseT then ⟨1, if s = trueT then 1 else 0, []⟩
  else if hasPfx s [64] = true then ⟨5, 0, s.drop 1⟩ else if hasPfx s [34] = true then ⟨4, 0, trL 34 (trR 34 s)⟩
  else if Lib.contains s [46] = true then ⟨3, (decP s).1, []⟩ else if atoiB s = true then ⟨2, atoiV s, []⟩ else nullV
def endP (g : V3) (s : List UInt8) : V3 × Int := if s ≠ [] ∧ fmtL g.k g.n g.s = s then (g, 0) else (nullV, 3)
def parseV (s : List UInt8) : V3 × Int := endP (gP s) s
def aV (x : V3) : AV := vA x.k x.n x.s
def s10 : Spec := fun args => match args with
  | [.str s] => if strOk s then some (.tup [aV (parseV s).1, .int .i64 (parseV s).2], []) else none
  | _ => none
def b0 : List AV := [.int .i64 0, .int .i64 0, .str []]
def a10 (s : List UInt8) : Anns := ⟨fun q => match q with
  | 1000017 => some { α := V3, slots := [0, 2, 3], nb := 1, vals := fun _ => [.str s, .ptr 0 0, .int .i64 0], sS := fun x => ⟨[some (vC x)], []⟩, I := fun x => x = gP s, μ := fun _ => 0 }
  | _ => none, nA⟩
end Go.Abs

namespace Go.Abs
open Go.Proofs L8
theorem w47 (m : Int) (s p : List UInt8) (r : AV) : (pureW PP (G8 m) XT (tbl []) (itbl []) nAn [] 47 [.str s, .str p] (r, [])) =
((decide ((↑s.length : Int) ≥ (↑p.length : Int)) = true →
    (0 : Int) ≤ (↑p.length : Int) ∧
      (nat_lit 0 ≤ (↑p.length : Int).toNat ∧ (↑p.length : Int).toNat ≤ s.length) ∧
        ((List.drop (nat_lit 0) (List.take (↑p.length : Int).toNat s) == p) = true → RetIs (AV.bool true) [] (r, [])) ∧
 ((List.drop (nat_lit 0) (List.take (↑p.length : Int).toNat s) == p) = false → RetIs (AV.bool false) [] (r, []))) ∧
  (decide ((↑s.length : Int) ≥ (↑p.length : Int)) = false → RetIs (AV.bool false) [] (r, []))) := by kernel_rfl
theorem w27 (m : Int) (s p : List UInt8) (r : AV) : (pureW PP (G8 m) XT (tbl [(47, s27)]) (itbl []) nAn [] 27 [.str s, .str p] (r, [])) =
(∃ (b : Bool),
  CallIs (some (AV.bool (hasPfx s p), [])) (AV.bool b) [] ∧ (b = true → RetIs (AV.bool true) [] (r, [])) ∧ (b = false → RetIs (AV.bool false) [] (r, []))) := by kernel_rfl
theorem w48 (m : Int) (s : List UInt8) (c : UInt8) (r : AV) : (pureW PP (G8 m) XT (tbl []) (itbl []) (a48 s c) [] 48 [.str s, .int .u8 c.toNat] (r, [])) =
((∃ (y : Nat),
    ValsAre [AV.str s, AV.int IntKind.u8 (↑c.toNat : Int)] [AV.str (List.drop y s), AV.int IntKind.u8 (↑c.toNat : Int)] ∧
      StIs { boxes := [], live := [] } { boxes := [], live := [] } ∧ (y ≤ s.length ∧ trL c (List.drop y s) = trL c s) ∧ True) ∧
  ∀ (x : Nat),
    x ≤ s.length ∧ trL c (List.drop x s) = trL c s →
      (decide ((↑(List.drop x s).length : Int) > (0 : Int)) = true →
 (0 : Int) ≤ (0 : Int) ∧
 ∃ (c_1 : UInt8),
 (List.drop x s)[nat_lit 0]? = some c_1 ∧
 (((↑c_1.toNat : Int) == (↑c.toNat : Int)) = true →
 (0 : Int) ≤ (1 : Int) ∧
 (nat_lit 1 ≤ (List.drop x s).length ∧ (List.drop x s).length ≤ (List.drop x s).length) ∧
 ∃ (y : Nat),
 ValsAre [AV.str (List.drop (nat_lit 1) (List.take (List.drop x s).length (List.drop x s))), AV.int IntKind.u8 (↑c.toNat : Int)]
 [AV.str (List.drop y s), AV.int IntKind.u8 (↑c.toNat : Int)] ∧
 StIs { boxes := [], live := [] } { boxes := [], live := [] } ∧
 (y ≤ s.length ∧ trL c (List.drop y s) = trL c s) ∧ s.length - y < s.length - x) ∧
 (((↑c_1.toNat : Int) == (↑c.toNat : Int)) = false → RetIs (AV.str (List.drop x s)) [] (r, []))) ∧
        (decide ((↑(List.drop x s).length : Int) > (0 : Int)) = false → RetIs (AV.str (List.drop x s)) [] (r, []))) := by kernel_rfl
theorem w49 (m : Int) (s : List UInt8) (c : UInt8) (r : AV) : (pureW PP (G8 m) XT (tbl []) (itbl []) (a49 s c) [] 49 [.str s, .int .u8 c.toNat] (r, [])) =
((∃ (y : Nat),
    ValsAre [AV.str s, AV.int IntKind.u8 (↑c.toNat : Int)] [AV.str (List.take y s), AV.int IntKind.u8 (↑c.toNat : Int)] ∧
      StIs { boxes := [], live := [] } { boxes := [], live := [] } ∧ (y ≤ s.length ∧ trR c (List.take y s) = trR c s) ∧ True) ∧
  ∀ (x : Nat),
    x ≤ s.length ∧ trR c (List.take x s) = trR c s →
      (decide ((↑(List.take x s).length : Int) > (0 : Int)) = true →
 (0 : Int) ≤ IntKind.i64.wrap ((↑(List.take x s).length : Int) - (1 : Int)) ∧
 ∃ (c_1 : UInt8),
 (List.take x s)[(IntKind.i64.wrap ((↑(List.take x s).length : Int) - (1 : Int))).toNat]? = some c_1 ∧
 (((↑c_1.toNat : Int) == (↑c.toNat : Int)) = true →
 (0 : Int) ≤ IntKind.i64.wrap ((↑(List.take x s).length : Int) - (1 : Int)) ∧
 (nat_lit 0 ≤ (IntKind.i64.wrap ((↑(List.take x s).length : Int) - (1 : Int))).toNat ∧
 (IntKind.i64.wrap ((↑(List.take x s).length : Int) - (1 : Int))).toNat ≤ (List.take x s).length) ∧
 ∃ (y : Nat),
 ValsAre
 [AV.str
 (List.drop (nat_lit 0) (List.take (IntKind.i64.wrap ((↑(List.take x s).length : Int) - (1 : Int))).toNat (List.take x s))),
 AV.int IntKind.u8 (↑c.toNat : Int)]
 [AV.str (List.take y s), AV.int IntKind.u8 (↑c.toNat : Int)] ∧
 StIs { boxes := [], live := [] } { boxes := [], live := [] } ∧ (y ≤ s.length ∧ trR c (List.take y s) = trR c s) ∧ y < x) ∧
 (((↑c_1.toNat : Int) == (↑c.toNat : Int)) = false → RetIs (AV.str (List.take x s)) [] (r, []))) ∧
        (decide ((↑(List.take x s).length : Int) > (0 : Int)) = false → RetIs (AV.str (List.take x s)) [] (r, []))) := by kernel_rfl
theorem w28 (m : Int) (s : List UInt8) (r : AV) : (pureW PP (G8 m) XT (tbl [(48, s48), (49, s49)]) (itbl []) nAn [] 28 [.str s, .str [34]] (r, [])) =
(((s == []) = true → RetIs (AV.str s) [] (r, [])) ∧
  ((s == []) = false →
    (false = true → RetIs (AV.str s) [] (r, [])) ∧
      (false = false →
        (true = true →
 (0 : Int) ≤ (0 : Int) ∧
 ∃ (c : UInt8),
 some (34 : UInt8) = some c ∧
 (decide ((↑c.toNat : Int) < (128 : Int)) = true →
 (0 : Int) ≤ (0 : Int) ∧
 ∃ (c : UInt8),
 some (34 : UInt8) = some c ∧
 ∃ (s_1 : List UInt8),
 CallIs (tbl [(nat_lit 48, s48), (nat_lit 49, s49)] (nat_lit 49) [AV.str s, AV.int IntKind.u8 (↑c.toNat : Int)]) (AV.str s_1) [] ∧
 (0 : Int) ≤ (0 : Int) ∧
 ∃ (c : UInt8),
 some (34 : UInt8) = some c ∧
 ∃ (s : List UInt8),
 CallIs (tbl [(nat_lit 48, s48), (nat_lit 49, s49)] (nat_lit 48) [AV.str s_1, AV.int IntKind.u8 (↑c.toNat : Int)])
 (AV.str s) [] ∧
 RetIs (AV.str s) [] (r, [])) ∧
 (decide ((↑c.toNat : Int) < (128 : Int)) = false → False)) ∧
 (true = false → False)))) := by kernel_rfl
theorem w10 (m : Int) (s : List UInt8) (r : AV) : (pureW PP (G8 m) XT (tbl [(27, s27), (28, s28), (29, sContains), (8, s8), (30, s30), (6, s6)]) (itbl []) (a10 s) [] 10 [.str s] (r, [])) =
((((s == [(110 : UInt8), (117 : UInt8), (108 : UInt8), (108 : UInt8)]) = true →
      ∃ (y : V3),
        ValsAre [AV.str s, AV.ptr (nat_lit 0) (nat_lit 0), AV.int IntKind.i64 (0 : Int)]
 [AV.str s, AV.ptr (nat_lit 0) (nat_lit 0), AV.int IntKind.i64 (0 : Int)] ∧
 StIs { boxes := [some [AV.int IntKind.i64 (0 : Int), AV.int IntKind.i64 (0 : Int), AV.str []]], live := [] }
 { boxes := [some [AV.int IntKind.i64 y.k, AV.int IntKind.i64 y.n, AV.str y.s]], live := [] } ∧
 y = gP s ∧ True) ∧
    ((s == [(110 : UInt8), (117 : UInt8), (108 : UInt8), (108 : UInt8)]) = false →
      ((s == [(116 : UInt8), (114 : UInt8), (117 : UInt8), (101 : UInt8)]) = true →
 ((s == [(116 : UInt8), (114 : UInt8), (117 : UInt8), (101 : UInt8)]) = true →
 ∃ (y : V3),
 ValsAre [AV.str s, AV.ptr (nat_lit 0) (nat_lit 0), AV.int IntKind.i64 (0 : Int)]
 [AV.str s, AV.ptr (nat_lit 0) (nat_lit 0), AV.int IntKind.i64 (0 : Int)] ∧
 StIs { boxes := [some [AV.int IntKind.i64 (1 : Int), AV.int IntKind.i64 (1 : Int), AV.str []]], live := [] }
 { boxes := [some [AV.int IntKind.i64 y.k, AV.int IntKind.i64 y.n, AV.str y.s]], live := [] } ∧
 y = gP s ∧ True) ∧
 ((s == [(116 : UInt8), (114 : UInt8), (117 : UInt8), (101 : UInt8)]) = false →
 ∃ (y : V3),
 ValsAre [AV.str s, AV.ptr (nat_lit 0) (nat_lit 0), AV.int IntKind.i64 (0 : Int)]
 [AV.str s, AV.ptr (nat_lit 0) (nat_lit 0), AV.int IntKind.i64 (0 : Int)] ∧
 StIs { boxes := [some [AV.int IntKind.i64 (1 : Int), AV.int IntKind.i64 (0 : Int), AV.str []]], live := [] }
 { boxes := [some [AV.int IntKind.i64 y.k, AV.int IntKind.i64 y.n, AV.str y.s]], live := [] } ∧
 y = gP s ∧ True)) ∧
        ((s == [(116 : UInt8), (114 : UInt8), (117 : UInt8), (101 : UInt8)]) = false →
 ((s == [(102 : UInt8), (97 : UInt8), (108 : UInt8), (115 : UInt8), (101 : UInt8)]) = true →
 ((s == [(116 : UInt8), (114 : UInt8), (117 : UInt8), (101 : UInt8)]) = true →
 ∃ (y : V3),
 ValsAre [AV.str s, AV.ptr (nat_lit 0) (nat_lit 0), AV.int IntKind.i64 (0 : Int)]
 [AV.str s, AV.ptr (nat_lit 0) (nat_lit 0), AV.int IntKind.i64 (0 : Int)] ∧
 StIs { boxes := [some [AV.int IntKind.i64 (1 : Int), AV.int IntKind.i64 (1 : Int), AV.str []]], live := [] }
 { boxes := [some [AV.int IntKind.i64 y.k, AV.int IntKind.i64 y.n, AV.str y.s]], live := [] } ∧
 y = gP s ∧ True) ∧
 ((s == [(116 : UInt8), (114 : UInt8), (117 : UInt8), (101 : UInt8)]) = false →
 ∃ (y : V3),
 ValsAre [AV.str s, AV.ptr (nat_lit 0) (nat_lit 0), AV.int IntKind.i64 (0 : Int)]
 [AV.str s, AV.ptr (nat_lit 0) (nat_lit 0), AV.int IntKind.i64 (0 : Int)] ∧
 StIs { boxes := [some [AV.int IntKind.i64 (1 : Int), AV.int IntKind.i64 (0 : Int), AV.str []]], live := [] }
 { boxes := [some [AV.int IntKind.i64 y.k, AV.int IntKind.i64 y.n, AV.str y.s]], live := [] } ∧
 y = gP s ∧ True)) ∧
 ((s == [(102 : UInt8), (97 : UInt8), (108 : UInt8), (115 : UInt8), (101 : UInt8)]) = false →
 ∃ (b : Bool),
 CallIs (some (AV.bool (hasPfx s [(64 : UInt8)]), [])) (AV.bool b) [] ∧
 (b = true →
 (0 : Int) ≤ (1 : Int) ∧
 (nat_lit 1 ≤ s.length ∧ s.length ≤ s.length) ∧
 ∃ (y : V3),
 ValsAre [AV.str s, AV.ptr (nat_lit 0) (nat_lit 0), AV.int IntKind.i64 (0 : Int)]
 [AV.str s, AV.ptr (nat_lit 0) (nat_lit 0), AV.int IntKind.i64 (0 : Int)] ∧
 StIs
 { boxes := [some [AV.int IntKind.i64 (5 : Int), AV.int IntKind.i64 (0 : Int), AV.str (List.drop (nat_lit 1) (List.take s.length s))]], live := [] }
 { boxes := [some [AV.int IntKind.i64 y.k, AV.int IntKind.i64 y.n, AV.str y.s]], live := [] } ∧
 y = gP s ∧ True) ∧
 (b = false →
 ∃ (b : Bool),
 CallIs (some (AV.bool (hasPfx s [(34 : UInt8)]), [])) (AV.bool b) [] ∧
 (b = true →
 ∃ (s_1 : List UInt8),
 CallIs
 (tbl [(nat_lit 27, s27), (nat_lit 28, s28), (nat_lit 29, sContains), (nat_lit 8, s8), (nat_lit 30, s30), (nat_lit 6, s6)]
 (nat_lit 28) [AV.str s, AV.str [(34 : UInt8)]])
 (AV.str s_1) [] ∧
 ∃ (y : V3),
 ValsAre [AV.str s, AV.ptr (nat_lit 0) (nat_lit 0), AV.int IntKind.i64 (0 : Int)]
 [AV.str s, AV.ptr (nat_lit 0) (nat_lit 0), AV.int IntKind.i64 (0 : Int)] ∧
 StIs { boxes := [some [AV.int IntKind.i64 (4 : Int), AV.int IntKind.i64 (0 : Int), AV.str s_1]], live := [] }
 { boxes := [some [AV.int IntKind.i64 y.k, AV.int IntKind.i64 y.n, AV.str y.s]], live := [] } ∧
 y = gP s ∧ True) ∧
 (b = false →
 ∃ (b : Bool),
 CallIs
 (tbl [(nat_lit 27, s27), (nat_lit 28, s28), (nat_lit 29, sContains), (nat_lit 8, s8), (nat_lit 30, s30), (nat_lit 6, s6)]
 (nat_lit 29) [AV.str s, AV.str [(46 : UInt8)]])
 (AV.bool b) [] ∧
 (b = true →
 ∃ (n : Int),
 ∃ (n_1 : Int),
 CallIs
 (tbl
 [(nat_lit 27, s27), (nat_lit 28, s28), (nat_lit 29, sContains), (nat_lit 8, s8), (nat_lit 30, s30),
 (nat_lit 6, s6)]
 (nat_lit 8) [AV.str s])
 (AV.tup [AV.int IntKind.i64 n, AV.int IntKind.i64 n_1]) [] ∧
 ∃ (y : V3),
 ValsAre [AV.str s, AV.ptr (nat_lit 0) (nat_lit 0), AV.int IntKind.i64 (0 : Int)]
 [AV.str s, AV.ptr (nat_lit 0) (nat_lit 0), AV.int IntKind.i64 (0 : Int)] ∧
 StIs { boxes := [some [AV.int IntKind.i64 (3 : Int), AV.int IntKind.i64 n, AV.str []]], live := [] }
 { boxes := [some [AV.int IntKind.i64 y.k, AV.int IntKind.i64 y.n, AV.str y.s]], live := [] } ∧
 y = gP s ∧ True) ∧
 (b = false →
 ∃ (n : Int),
 CallIs
 (tbl
 [(nat_lit 27, s27), (nat_lit 28, s28), (nat_lit 29, sContains), (nat_lit 8, s8), (nat_lit 30, s30),
 (nat_lit 6, s6)]
 (nat_lit 30) [AV.str s])
 (AV.tup [AV.int IntKind.i64 n, AV.ifc]) [] ∧
 (true = true →
 RetIs
 (AV.tup
 [AV.agg [AV.int IntKind.i64 (0 : Int), AV.int IntKind.i64 (0 : Int), AV.str []],
 AV.int IntKind.i64 (3 : Int)])
 [] (r, [])) ∧
 (true = false →
 ∃ (y : V3),
 ValsAre [AV.str s, AV.ptr (nat_lit 0) (nat_lit 0), AV.int IntKind.i64 (0 : Int)]
 [AV.str s, AV.ptr (nat_lit 0) (nat_lit 0), AV.int IntKind.i64 (0 : Int)] ∧
 StIs { boxes := [some [AV.int IntKind.i64 (2 : Int), AV.int IntKind.i64 n, AV.str []]], live := [] }
 { boxes := [some [AV.int IntKind.i64 y.k, AV.int IntKind.i64 y.n, AV.str y.s]], live := [] } ∧
 y = gP s ∧ True) ∨
 CallIs
 (tbl
 [(nat_lit 27, s27), (nat_lit 28, s28), (nat_lit 29, sContains), (nat_lit 8, s8), (nat_lit 30, s30),
 (nat_lit 6, s6)]
 (nat_lit 30) [AV.str s])
 (AV.tup [AV.int IntKind.i64 n, AV.lit Value.nilIface]) [] ∧
 (false = true →
 RetIs
 (AV.tup
 [AV.agg [AV.int IntKind.i64 (0 : Int), AV.int IntKind.i64 (0 : Int), AV.str []],
 AV.int IntKind.i64 (3 : Int)])
 [] (r, [])) ∧
 (false = false →
 ∃ (y : V3),
 ValsAre [AV.str s, AV.ptr (nat_lit 0) (nat_lit 0), AV.int IntKind.i64 (0 : Int)]
 [AV.str s, AV.ptr (nat_lit 0) (nat_lit 0), AV.int IntKind.i64 (0 : Int)] ∧
 StIs { boxes := [some [AV.int IntKind.i64 (2 : Int), AV.int IntKind.i64 n, AV.str []]], live := [] }
 { boxes := [some [AV.int IntKind.i64 y.k, AV.int IntKind.i64 y.n, AV.str y.s]], live := [] } ∧
 y = gP s ∧ True)))))))) ∧
  ∀ (x : V3),
    x = gP s →
      True →
        ∃ (s_1 : List UInt8),
 CallIs
 (tbl [(nat_lit 27, s27), (nat_lit 28, s28), (nat_lit 29, sContains), (nat_lit 8, s8), (nat_lit 30, s30), (nat_lit 6, s6)] (nat_lit 6)
 [AV.agg [AV.int IntKind.i64 x.k, AV.int IntKind.i64 x.n, AV.str x.s]])
 (AV.str s_1) [] ∧
 ((!s_1 == s) = true →
 RetIs (AV.tup [AV.agg [AV.int IntKind.i64 (0 : Int), AV.int IntKind.i64 (0 : Int), AV.str []], AV.int IntKind.i64 (3 : Int)]) [] (r, [])) ∧
 ((!s_1 == s) = false →
 ((s == []) = true →
 RetIs (AV.tup [AV.agg [AV.int IntKind.i64 (0 : Int), AV.int IntKind.i64 (0 : Int), AV.str []], AV.int IntKind.i64 (3 : Int)]) [] (r, [])) ∧
 ((s == []) = false →
 RetIs (AV.tup [AV.agg [AV.int IntKind.i64 x.k, AV.int IntKind.i64 x.n, AV.str x.s], AV.int IntKind.i64 (0 : Int)]) [] (r, [])))) := by kernel_rfl
end Go.Abs

namespace Go.Abs
open Go.Proofs L8
theorem p47 (m : Int) (s p : List UInt8) : PureOk PP (G8 m) XT (tbl []) (itbl []) nAn [] 47 [.str s, .str p] (.bool (hasPfx s p), []) := by
  constructor
  generalize hr : AV.bool (hasPfx s p) = r
  rw [w47]
  simp only [retIs_iff, Prod.mk.injEq, and_true, beq_iff_eq, beq_eq_false_iff_ne, ne_eq, decide_eq_true_eq, decide_eq_false_iff_not, ge_iff_le, List.drop_zero, Int.toNat_natCast]
  unfold hasPfx at hr
  refine ⟨fun h => ⟨by omega, by omega, fun h1 => ?_, fun h1 => ?_⟩, fun h => ?_⟩
  · rw [← hr, decide_eq_true h1]
  · rw [← hr, decide_eq_false h1]
  · rw [← hr, decide_eq_false]
    intro h1
    have := congrArg List.length h1
    rw [List.length_take] at this
    omega
theorem o47 (m : Int) : SpecOk PP (G8 m) 47 s27 := spec_of (X := XT) (m := []) mixed8 tbl_nil itbl_nil fun args r h => by
  unfold s27 at h
  split at h
  · injection h with h; subst h; exact ⟨nAn, p47 m _ _⟩
  · cases h
theorem o27 (m : Int) : SpecOk PP (G8 m) 27 s27 := spec_of (X := XT) (m := []) mixed8 (tbl_cons (o47 m) tbl_nil) itbl_nil fun args r h => by
  unfold s27 at h
  split at h
  · injection h with h; subst h
    rename_i s p
    refine ⟨nAn, ⟨?_⟩⟩
    rw [w27]
    exact ⟨_, ⟨rfl⟩, fun hb => ⟨by rw [hb]⟩, fun hb => ⟨by rw [hb]⟩⟩
  · cases h
theorem trR_snoc_eq (c : UInt8) (l : List UInt8) : trR c (l ++ [c]) = trR c l := by unfold trR; simp
theorem trR_snoc_ne {c d : UInt8} (l : List UInt8) (h : d ≠ c) : trR c (l ++ [d]) = l ++ [d] := by
  unfold trR
  rw [List.reverse_append, List.reverse_singleton, List.singleton_append, List.dropWhile_cons, if_neg (by simpa using h)]
  simp
theorem take_snoc {s : List UInt8} {x : Nat} (h : x + 1 ≤ s.length) : s.take (x + 1) = s.take x ++ [s.getD x 0] := by
  rw [List.take_succ_eq_append_getElem (by omega), List.getD_eq_getElem?_getD, List.getElem?_eq_getElem (by omega)]; rfl
theorem u8c {a b : UInt8} : ((a.toNat : Int) = (b.toNat : Int)) ↔ a = b := by
  rw [Int.natCast_inj]; exact UInt8.toNat_inj
theorem p48 (m : Int) (s : List UInt8) (c : UInt8) (hs : strOk s) : PureOk PP (G8 m) XT (tbl []) (itbl []) (a48 s c) [] 48 [.str s, .int .u8 c.toNat] (.str (trL c s), []) := by
  have hs' : s.length ≤ 1000000 := hs
  constructor
  generalize hr : AV.str (trL c s) = r
  rw [w48]
  simp only [valsAre_iff, stIs_iff, retIs_iff, Prod.mk.injEq, AV.str.injEq, List.cons.injEq, and_true, true_and, beq_iff_eq, beq_eq_false_iff_ne, ne_eq, decide_eq_true_eq, decide_eq_false_iff_not, gt_iff_lt, u8c]
  refine ⟨⟨0, by simp, by omega, by simp⟩, fun x ⟨hx, hI⟩ => ?_⟩
  by_cases hlt : x < s.length
  · have hd : s.drop x = s.getD x 0 :: s.drop (x + 1) := drop_cons hlt
    have htl : ((s.drop x).drop 1) = s.drop (x + 1) := by rw [List.drop_drop]
    refine ⟨fun h => ⟨by omega, s.getD x 0, by rw [hd]; rfl, fun he => ⟨by omega, by rw [hd]; simp, x + 1, by rw [List.take_length, htl], ⟨by omega, ?_⟩, by omega⟩, fun hne => ?_⟩, fun h => ?_⟩
    · rw [← hI, hd]; unfold trL; rw [List.dropWhile_cons, if_pos (by rw [he]; simp)]
    · rw [← hr, ← hI, hd]; unfold trL; rw [List.dropWhile_cons, if_neg (by simpa using hne)]
    · rw [List.length_drop] at h; omega
  · have hd : s.drop x = [] := List.drop_eq_nil_of_le (by omega)
    rw [hd] at hI ⊢
    refine ⟨fun h => by simp at h, fun h => ?_⟩
    rw [← hr, ← hI]; rfl
theorem p49 (m : Int) (s : List UInt8) (c : UInt8) (hs : strOk s) : PureOk PP (G8 m) XT (tbl []) (itbl []) (a49 s c) [] 49 [.str s, .int .u8 c.toNat] (.str (trR c s), []) := by
  have hs' : s.length ≤ 1000000 := hs
  constructor
  generalize hr : AV.str (trR c s) = r
  rw [w49]
  simp only [valsAre_iff, stIs_iff, retIs_iff, Prod.mk.injEq, AV.str.injEq, List.cons.injEq, and_true, true_and, beq_iff_eq, beq_eq_false_iff_ne, ne_eq, decide_eq_true_eq, decide_eq_false_iff_not, gt_iff_lt, u8c]
  refine ⟨⟨s.length, by simp, by omega, by simp⟩, fun x ⟨hx, hI⟩ => ?_⟩
  have hlen : (s.take x).length = x := by rw [List.length_take]; omega
  rw [hlen]
  match x, hx, hI, hlen with
  | 0, hx, hI, hlen =>
    refine ⟨fun h => by omega, fun h => ?_⟩
    rw [← hr, ← hI]; simp [trR]
  | x + 1, hx, hI, hlen =>
    have ht := take_snoc hx
    have hw : IntKind.i64.wrap (((x + 1 : Nat) : Int) - 1) = (x : Int) := by rw [wrap64_in (by omega) (by omega)]; omega
    rw [hw, Int.toNat_natCast, ht]
    refine ⟨fun h => ⟨by omega, s.getD x 0, ?_, fun he => ⟨by omega, by omega, x, ?_, ⟨by omega, ?_⟩, by omega⟩, fun hne => ?_⟩, fun h => by omega⟩
    · rw [List.getElem?_append_right (by rw [List.length_take]; omega), List.length_take, Nat.min_eq_left (by omega), Nat.sub_self]; rfl
    · rw [List.drop_zero, List.take_append_of_le_length (by rw [List.length_take]; omega), List.take_take, Nat.min_self]
    · rw [← hI, ht, he, trR_snoc_eq]
    · rw [← hr, ← hI, ht, trR_snoc_ne _ hne]
theorem sTrim_of {X : Shapes} {R : Callee} {C : CCallee} {m : Int} {g : FuncId} {f : UInt8 → List UInt8 → List UInt8} (hR : CalleeOk PP (G8 m) R) (hC : ICalleeOk PP (G8 m) (lowC C))
    (h : ∀ s c, strOk s → ∃ A, PureOk PP (G8 m) X R C A [] g [.str s, .int .u8 (c : UInt8).toNat] (.str (f c s), [])) : SpecOk PP (G8 m) g (sTrim f) := spec_of (X := X) (m := []) mixed8 hR hC fun args r h' => by
  unfold sTrim at h'
  split at h'
  · split at h'
    · rename_i s c hc
      injection h' with h'; subst h'
      have hn : c = ((UInt8.ofNat c.toNat).toNat : Int) := by rw [UInt8.toNat_ofNat']; omega
      have := h s (UInt8.ofNat c.toNat) hc.1
      rw [← hn] at this
      exact this
    · cases h'
  · cases h'
theorem o48 (m : Int) : SpecOk PP (G8 m) 48 s48 := sTrim_of (X := XT) tbl_nil itbl_nil fun s c hs => ⟨a48 s c, p48 m s c hs⟩
theorem o49 (m : Int) : SpecOk PP (G8 m) 49 s49 := sTrim_of (X := XT) tbl_nil itbl_nil fun s c hs => ⟨a49 s c, p49 m s c hs⟩
theorem trR_len (c : UInt8) (s : List UInt8) : (trR c s).length ≤ s.length := by
  unfold trR
  rw [List.length_reverse]
  have := (List.dropWhile_sublist (fun x => x == c) (l := s.reverse)).length_le
  simpa using this
theorem trL_len (c : UInt8) (s : List UInt8) : (trL c s).length ≤ s.length := (List.dropWhile_sublist (fun x => x == c) (l := s)).length_le
theorem p28 (m : Int) (s : List UInt8) (hs : strOk s) : PureOk PP (G8 m) XT (tbl [(48, s48), (49, s49)]) (itbl []) nAn [] 28 [.str s, .str [34]] (.str (trL 34 (trR 34 s)), []) := by
  have hs2 : strOk (trR 34 s) := Nat.le_trans (trR_len 34 s) hs
  constructor
  generalize hr : AV.str (trL 34 (trR 34 s)) = r
  have t1 : tbl [(48, s48), (49, s49)] 49 [.str s, .int .u8 ((34 : UInt8).toNat : Int)] = some (.str (trR 34 s), []) := by
    rw [tbl_miss (by decide), tbl_hit]; simp only [s49, sTrim]; rw [if_pos ⟨hs, by decide, by decide⟩]; rfl
  have t2 : tbl [(48, s48), (49, s49)] 48 [.str (trR 34 s), .int .u8 ((34 : UInt8).toNat : Int)] = some (.str (trL 34 (trR 34 s)), []) := by
    rw [tbl_hit]; simp only [s48, sTrim]; rw [if_pos ⟨hs2, by decide, by decide⟩]; rfl
  rw [w28]
  simp only [beq_iff_eq, beq_eq_false_iff_ne, ne_eq]
  refine ⟨fun h => ⟨by rw [← hr, h]; rfl⟩, fun h => ⟨fun h => (nomatch h), fun _ => ⟨fun _ => ⟨by omega, 34, rfl, fun _ => ⟨by omega, 34, rfl, trR 34 s, ⟨t1⟩, by omega, 34, rfl, _, ⟨t2⟩, ⟨by rw [← hr]⟩⟩, fun h => ?_⟩, fun h => (nomatch h)⟩⟩⟩
  exact absurd h (by decide)
theorem o28 (m : Int) : SpecOk PP (G8 m) 28 s28 := spec_of (X := XT) (m := []) mixed8 (tbl_cons (o48 m) (tbl_cons (o49 m) tbl_nil)) itbl_nil fun args r h => by
  unfold s28 at h
  split at h
  · split at h
    · rename_i hs
      injection h with h; subst h
      exact ⟨nAn, p28 m _ hs⟩
    · cases h
  · cases h
end Go.Abs

namespace Go.Abs
open Go.Proofs L8
end Go.Abs

namespace Go.Abs
open Go.Proofs L8
theorem dig_ofNat {d : Nat} (h : d < 10) : digitB (UInt8.ofNat (48 + d)) = true ∧ (UInt8.ofNat (48 + d)).toNat = 48 + d := by
  have : (UInt8.ofNat (48 + d)).toNat = 48 + d := by rw [UInt8.toNat_ofNat']; omega
  exact ⟨by rw [digitB_iff, this]; omega, this⟩
theorem decD_all (n : Nat) : (Lib.decDigits n).all digitB = true := by
  induction n using Nat.strongRecOn with
  | ind n ih =>
    rw [decD_step]
    by_cases h : n < 10
    · rw [if_pos h, List.nil_append, List.all_cons, (dig_ofNat (d := n % 10) (by omega)).1]; rfl
    · rw [if_neg h, List.all_append, ih _ (by omega), List.all_cons, (dig_ofNat (d := n % 10) (by omega)).1]; rfl
theorem decD_val (n : Nat) : valL (Lib.decDigits n) = n := by
  induction n using Nat.strongRecOn with
  | ind n ih =>
    rw [decD_step, valL_snoc, (dig_ofNat (d := n % 10) (by omega)).2]
    by_cases h : n < 10
    · rw [if_pos h]; simp [valL]; omega
    · rw [if_neg h, ih _ (by omega)]; omega
theorem decD_ne (n : Nat) : Lib.decDigits n ≠ [] := by rw [decD_step]; simp
theorem lowD_all : ∀ k n, (lowD k n).all digitB = true
  | 0, _ => rfl
  | k + 1, n => by rw [lowD, List.all_append, lowD_all k, List.all_cons, (dig_ofNat (d := n % 10) (by omega)).1]; rfl
theorem lowD_val : ∀ k n, n < 10 ^ k → valL (lowD k n) = n
  | 0, n, h => by simp at h; subst h; rfl
  | k + 1, n, h => by
    rw [Nat.pow_succ] at h
    rw [lowD, valL_snoc, lowD_val k _ (by omega), (dig_ofNat (d := n % 10) (by omega)).2]; omega
theorem padD_all (n : Nat) : (padD n).all digitB = true := by
  unfold padD restD; split
  · exact lowD_all _ _
  · exact decD_all _
theorem padD_val (n : Nat) : valL (padD n) = n := by
  unfold padD restD; split
  · rename_i h; exact lowD_val _ _ h
  · exact decD_val _
/-- parts of a decimal's text -/
theorem point_parts {N : Nat} (h : N < 10 ^ 20) : ∃ a b, pointL (padD N) = a ++ 46 :: b ∧ a ++ b = padD N ∧ a ≠ [] ∧ b.length = 6 ∧ a.all digitB = true ∧ b.all digitB = true := by
  have hl := padD_len h
  have ha := padD_all N
  refine ⟨(padD N).take ((padD N).length - 6), (padD N).drop ((padD N).length - 6), rfl, List.take_append_drop _ _, fun e => ?_, by simp; omega, ?_, ?_⟩
  · have := congrArg List.length e; rw [List.length_take] at this; simp at this; omega
  · exact List.all_eq_true.2 fun x hx => List.all_eq_true.1 ha x (List.mem_of_mem_take hx)
  · exact List.all_eq_true.2 fun x hx => List.all_eq_true.1 ha x (List.mem_of_mem_drop hx)
theorem head_dig {l : List UInt8} (h : l.all digitB = true) (hne : l ≠ []) : ∃ c t, l = c :: t ∧ digitB c = true := by
  cases l with
  | nil => exact absurd rfl hne
  | cons c t => simp at h; exact ⟨c, t, rfl, h.1⟩
def numOk (n : Int) : Prop := -1152921504606846976 ≤ n ∧ n ≤ 1152921504606846976
theorem numOk.i64 {n : Int} (h : numOk n) : i64Ok n := ⟨by have := h.1; omega, by have := h.2; omega⟩
theorem negB_sign {n : Int} {c : UInt8} {t : List UInt8} (hc : digitB c = true) : negB (signL n ++ c :: t) = decide (n < 0) := by
  unfold signL negB
  by_cases h : n < 0
  · rw [if_pos h, decide_eq_true h]; rfl
  · rw [if_neg h, decide_eq_false h]
    rw [digitB_iff] at hc
    have : c ≠ 45 := by rintro rfl; simp at hc
    simp [this]
theorem drop_sign {n : Int} {l : List UInt8} : (if decide (n < 0) = true then (signL n ++ l).drop 1 else signL n ++ l) = l := by
  unfold signL
  by_cases h : n < 0
  · rw [if_pos (decide_eq_true h), if_pos h]; rfl
  · rw [if_neg (by simpa using h), if_neg h]; rfl
theorem decP_decF {n : Int} (h : numOk n) : decP (decFz n) = (n, 0) := by
  obtain ⟨a, b, he, hab, hne, hb, hda, hdb⟩ := point_parts (natAbs20 h.i64)
  obtain ⟨c, t, hc, hd⟩ := head_dig hda hne
  have hN : negB (decFz n) = decide (n < 0) := by
    unfold decFz; rw [he, hc]; exact negB_sign hd
  unfold decP
  rw [hN]
  have hr : (if decide (n < 0) = true then (decFz n).drop 1 else decFz n) = a ++ 46 :: b := by
    unfold decFz; rw [drop_sign, he]
  rw [hr]
  unfold decR
  have hf : dfold (a ++ 46 :: b) = some (a ++ b, some 6) := by
    unfold dfold
    rw [List.foldl_append, dfold_digits a [] none hda, List.foldl_cons]
    have : dstep (some ([] ++ a, Option.map (· + a.length) none)) 46 = some (a, some 0) := by
      simp only [dstep, List.nil_append]; rw [if_pos ⟨trivial, rfl, hne⟩]
    rw [this, dfold_digits b a (some 0) hdb, hb]
    rfl
  rw [hf]
  simp only [Option.getD_some]
  have hno : ¬ (a ++ b = [] ∨ some 6 = some 0 ∨ 6 < 6) := by
    rintro (h | h | h)
    · exact hne (List.append_eq_nil_iff.1 h).1
    · simp at h
    · omega
  rw [if_neg hno, hab, padD_val]
  unfold decFin
  obtain ⟨h1, h2⟩ := h
  rw [Nat.sub_self, Nat.pow_zero, Nat.mul_one, if_neg (by have : (2 : Nat) ^ 60 = 1152921504606846976 := by decide
                                                          omega)]
  by_cases hn : n < 0
  · rw [if_pos (decide_eq_true hn)]; congr 1; omega
  · rw [if_neg (by simpa using hn)]; congr 1; omega
theorem atoi_itoa {n : Int} (h : numOk n) : Lib.atoiAll (Lib.itoa n) = .ok n := by
  obtain ⟨h1, h2⟩ := h
  have hp : Lib.parseMag (Lib.decDigits n.natAbs) = .ok n.natAbs := by
    unfold Lib.parseMag
    have hv : valF 0 (Lib.decDigits n.natAbs) = n.natAbs := by rw [← valL_eq, decD_val]
    rw [if_neg (decD_ne _), parse_digits _ 0 (decD_all _) (by omega), hv, if_pos (by omega)]
  obtain ⟨c, t, hc, hd⟩ := head_dig (decD_all n.natAbs) (decD_ne _)
  rw [digitB_iff] at hd
  rw [itoa_eq]
  unfold signL
  by_cases hn : n < 0
  · rw [if_pos hn]
    show Lib.atoiAll (45 :: Lib.decDigits n.natAbs) = _
    simp only [Lib.atoiAll]
    rw [if_pos (by decide), hp]
    simp only
    rw [if_neg (by simp), if_neg (by simp; omega), if_pos (by decide)]
    congr 1; omega
  · rw [if_neg hn, List.nil_append]
    rw [hc] at hp ⊢
    simp only [Lib.atoiAll]
    rw [if_neg (by omega), hp]
    simp only
    rw [if_neg (by omega), if_neg (by omega), if_neg (by omega)]
    congr 1; omega
theorem contains_mem (s : List UInt8) : Lib.contains s [46] = decide (46 ∈ s) := by
  unfold Lib.contains
  rw [Lib.index_one, ← Lib.contains_iff_indexByte]
  simp
end Go.Abs

namespace Go.Abs
open Go.Proofs L8
/-- a valid value, kind by kind -/
theorem valid_cases {k n : Int} {s : List UInt8} (h : validB k n s = true) :
    (k = 0 ∧ n = 0 ∧ s = []) ∨ (k = 1 ∧ (n = 0 ∨ n = 1) ∧ s = []) ∨ ((k = 2 ∨ k = 3) ∧ numOk n ∧ s = []) ∨ (k = 4 ∧ n = 0 ∧ textB s = true) ∨ (k = 5 ∧ n = 0 ∧ keyB s = true) := by
  have hc : checkI k n s = 0 := by simpa [validB] using h
  unfold checkI at hc
  split at hc
  · cases hc
  · split at hc
    · cases hc
    · split at hc
      · cases hc
      · rename_i h1 h2 h3
        rw [Bool.not_eq_false] at h1
        unfold fieldsB at h1
        by_cases k0 : k = 0
        · rw [if_pos k0] at h1; simp at h1; exact .inl ⟨k0, h1⟩
        · rw [if_neg k0] at h1
          by_cases k1 : k = 1
          · rw [if_pos k1] at h1; simp at h1; exact .inr (.inl ⟨k1, h1⟩)
          · rw [if_neg k1] at h1
            by_cases k2 : k = 2 ∨ k = 3
            · rw [if_pos k2] at h1
              refine .inr (.inr (.inl ⟨k2, ?_, by simpa using h1⟩))
              have : ¬ inR n = false := fun e => h2 (.inl e)
              have h9 : -1152921504606846976 ≤ n ∧ n ≤ 1152921504606846976 := by simpa [inR] using this
              exact h9
            · rw [if_neg k2] at h1
              by_cases k3 : k = 4 ∨ k = 5
              · rw [if_pos k3] at h1
                rcases k3 with k3 | k3
                · exact .inr (.inr (.inr (.inl ⟨k3, by simpa using h1, by
                    cases ht : textB s with
                    | true => rfl
                    | false => exact absurd (.inl ⟨k3, ht⟩) h3⟩)))
                · exact .inr (.inr (.inr (.inr ⟨k3, by simpa using h1, by
                    cases ht : keyB s with
                    | true => rfl
                    | false => exact absurd (.inr ⟨k3, ht⟩) h3⟩)))
              · rw [if_neg k3] at h1; cases h1
theorem fmt_valid {k n : Int} {s : List UInt8} (h : validB k n s = true) : fmtL k n s =
    if k = 1 then (if n = 1 then trueT else falseT) else
    if k = 2 then Lib.itoa n else if k = 3 then decFz n else if k = 4 then [34] ++ s ++ [34] else if k = 5 then [64] ++ s else nullT := by
  unfold fmtL; rw [if_neg (by rw [h]; simp)]
/-- the text of a number begins with a digit or a sign -/
theorem head_num {n : Int} {l : List UInt8} (h : ∃ c t, l = c :: t ∧ digitB c = true) : ∃ c t, signL n ++ l = c :: t ∧ (c = 45 ∨ digitB c = true) := by
  obtain ⟨c, t, rfl, hd⟩ := h
  unfold signL
  by_cases hn : n < 0
  · rw [if_pos hn]; exact ⟨45, c :: t, rfl, .inl rfl⟩
  · rw [if_neg hn]; exact ⟨c, t, rfl, .inr hd⟩
theorem head_itoa (n : Int) : ∃ c t, Lib.itoa n = c :: t ∧ (c = 45 ∨ digitB c = true) := by
  rw [itoa_eq]; exact head_num (head_dig (decD_all _) (decD_ne _))
theorem head_decF {n : Int} (h : numOk n) : ∃ c t, decFz n = c :: t ∧ (c = 45 ∨ digitB c = true) := by
  obtain ⟨a, b, he, hab, hne, hb, hda, hdb⟩ := point_parts (natAbs20 h.i64)
  unfold decFz
  rw [he]
  obtain ⟨c, t, hc, hd⟩ := head_dig hda hne
  exact head_num ⟨c, t ++ 46 :: b, by rw [hc]; rfl, hd⟩
theorem head_not {l : List UInt8} (h : ∃ c t, l = c :: t ∧ (c = 45 ∨ digitB c = true)) : l ≠ nullT ∧ l ≠ trueT ∧ l ≠ falseT ∧ hasPfx l [64] = false ∧ hasPfx l [34] = false ∧ l.getD 0 0 ≠ 34 ∧ l.getD 0 0 ≠ 64 := by
  obtain ⟨c, t, rfl, hd⟩ := h
  have hc : c = 45 ∨ 48 ≤ c.toNat ∧ c.toNat ≤ 57 := by rw [digitB_iff] at hd; exact hd
  have hne : ∀ d : UInt8, d ≠ 45 → ¬ (48 ≤ d.toNat ∧ d.toNat ≤ 57) → c ≠ d := fun d h1 h2 h3 => by
    subst h3; rcases hc with h | h
    · exact h1 h
    · exact h2 h
  refine ⟨fun h => ?_, fun h => ?_, fun h => ?_, ?_, ?_, hne 34 (by decide) (by decide), hne 64 (by decide) (by decide)⟩
  · injection h with h _; exact hne 110 (by decide) (by decide) h
  · injection h with h _; exact hne 116 (by decide) (by decide) h
  · injection h with h _; exact hne 102 (by decide) (by decide) h
  · unfold hasPfx; rw [decide_eq_false]; intro h; simp at h; exact hne 64 (by decide) (by decide) h
  · unfold hasPfx; rw [decide_eq_false]; intro h; simp at h; exact hne 34 (by decide) (by decide) h
theorem decF_mem {n : Int} (h : numOk n) : (46 : UInt8) ∈ decFz n := by
  obtain ⟨a, b, he, _⟩ := point_parts (natAbs20 h.i64)
  unfold decFz; rw [he]; simp
theorem itoa_mem (n : Int) : ¬ (46 : UInt8) ∈ Lib.itoa n := by
  rw [itoa_eq]
  intro hm
  rw [List.mem_append] at hm
  rcases hm with hm | hm
  · unfold signL at hm; split at hm <;> simp at hm
  · have := List.all_eq_true.1 (decD_all n.natAbs) _ hm
    simp [digitB] at this
theorem text_noq {s : List UInt8} (h : textB s = true) : ∀ c ∈ s, c ≠ 34 := by
  unfold textB at h
  rw [Bool.and_eq_true] at h
  intro c hc
  have := List.all_eq_true.1 h.2 c hc
  unfold printB at this
  simp only [Bool.and_eq_true, decide_eq_true_eq] at this
  rintro rfl
  simp at this
theorem trL_noq {s : List UInt8} (h : ∀ c ∈ s, c ≠ 34) : trL 34 s = s := by
  unfold trL
  cases s with
  | nil => rfl
  | cons c t => rw [List.dropWhile_cons, if_neg (by simpa using h c (by simp))]
theorem trim_quoted {s : List UInt8} (h : ∀ c ∈ s, c ≠ 34) : trL 34 (trR 34 ([34] ++ s ++ [34])) = s := by
  rw [trR_snoc_eq]
  by_cases hs : s = []
  · subst hs; decide
  · obtain ⟨l, c, e⟩ : ∃ l c, s = l ++ [c] := ⟨s.dropLast, s.getLast hs, (List.dropLast_concat_getLast hs).symm⟩
    have h1 : trR 34 ([34] ++ s) = [34] ++ s := by
      rw [e, ← List.append_assoc]; exact trR_snoc_ne _ (h c (by rw [e]; simp))
    rw [h1]
    show trL 34 (34 :: s) = s
    unfold trL
    rw [List.dropWhile_cons, if_pos (by simp)]
    exact trL_noq h
theorem gP_fmt {k n : Int} {s : List UInt8} (h : validB k n s = true) : gP (fmtL k n s) = ⟨k, n, s⟩ := by
  rw [fmt_valid h]
  rcases valid_cases h with ⟨rfl, rfl, rfl⟩ | ⟨rfl, hn, rfl⟩ | ⟨hk, hn, rfl⟩ | ⟨rfl, rfl, hs⟩ | ⟨rfl, rfl, hs⟩
  · rfl
  · rcases hn with rfl | rfl <;> rfl
  · rcases hk with rfl | rfl
    · obtain ⟨h1, h2, h3, h4, h5, _⟩ := head_not (head_itoa n)
      show gP (Lib.itoa n) = _
      unfold gP atoiB atoiV
      rw [if_neg h1, if_neg (fun h => h.elim h2 h3), if_neg (by rw [h4]; simp), if_neg (by rw [h5]; simp), contains_mem, if_neg (by simpa using itoa_mem n), atoi_itoa hn]
      rfl
    · obtain ⟨h1, h2, h3, h4, h5, _⟩ := head_not (head_decF hn)
      show gP (decFz n) = _
      unfold gP
      rw [if_neg h1, if_neg (fun h => h.elim h2 h3), if_neg (by rw [h4]; simp), if_neg (by rw [h5]; simp), contains_mem, if_pos (by simpa using decF_mem hn), decP_decF hn]
  · show gP ([34] ++ s ++ [34]) = _
    have e1 : hasPfx ([34] ++ s ++ [34]) [64] = false := by unfold hasPfx; simp
    have e2 : hasPfx ([34] ++ s ++ [34]) [34] = true := by unfold hasPfx; simp
    unfold gP
    rw [if_neg (by intro h; injection h with h _; exact absurd h (by decide)), if_neg (fun h => h.elim (fun h => absurd (List.cons.inj h).1 (by decide)) (fun h => absurd (List.cons.inj h).1 (by decide))), if_neg (by rw [e1]; simp), if_pos e2, trim_quoted (text_noq hs)]
  · show gP ([64] ++ s) = _
    have e1 : hasPfx ([64] ++ s) [64] = true := by unfold hasPfx; simp
    unfold gP
    rw [if_neg (by intro h; injection h with h _; exact absurd h (by decide)), if_neg (fun h => h.elim (fun h => absurd (List.cons.inj h).1 (by decide)) (fun h => absurd (List.cons.inj h).1 (by decide))), if_pos e1]
    rfl
theorem fmt_ne {k n : Int} {s : List UInt8} (h : validB k n s = true) : fmtL k n s ≠ [] := by
  rw [fmt_valid h]
  rcases valid_cases h with ⟨rfl, rfl, rfl⟩ | ⟨rfl, hn, rfl⟩ | ⟨hk, hn, rfl⟩ | ⟨rfl, rfl, hs⟩ | ⟨rfl, rfl, hs⟩
  · decide
  · rcases hn with rfl | rfl <;> decide
  · rcases hk with rfl | rfl
    · obtain ⟨c, t, e, _⟩ := head_itoa n
      show Lib.itoa n ≠ []
      rw [e]; simp
    · obtain ⟨c, t, e, _⟩ := head_decF hn
      show decFz n ≠ []
      rw [e]; simp
  · show [34] ++ s ++ [34] ≠ []
    simp
  · show [64] ++ s ≠ []
    simp
theorem fmt_none {k n : Int} {s : List UInt8} (h : validB k n s = false) : fmtL k n s = [] := by unfold fmtL; rw [if_pos h]
theorem parse_fmt {k n : Int} {s : List UInt8} (h : validB k n s = true) : parseV (fmtL k n s) = (⟨k, n, s⟩, 0) := by
  unfold parseV endP
  rw [gP_fmt h, if_pos ⟨fmt_ne h, rfl⟩]
end Go.Abs

namespace Go.Abs
open Go.Proofs L8
theorem scan_one {l : List UInt8} {k : Int} (hp : piece l = (k, l.length, 0)) (h0 : k ≠ 0) (h1 : k ≠ -1) (hl : l ≠ []) (a : Nat) (adj : Bool) : scan l a adj = ([⟨k, txtOf l, a⟩], []) := by
  rw [scan_step hl, hp, List.drop_length, scan_nil]
  have h : tkOf l a = [⟨k, txtOf l, a⟩] := by unfold tkOf; rw [hp, if_pos ⟨h1, rfl, h0⟩]
  have h' : pbOf l a adj = [] := by unfold pbOf; rw [hp, if_neg h1, if_pos rfl]
  rw [h, h']; rfl
theorem txtOf_whole {l : List UInt8} {k e : Int} (hp : piece l = (k, l.length, e)) (h : k ≠ 4) : txtOf l = l := by
  unfold txtOf; rw [hp, if_neg h, List.take_length]
theorem tw_all {p : UInt8 → Bool} : ∀ {l : List UInt8}, l.all p = true → l.takeWhile p = l
  | [], _ => rfl
  | c :: t, h => by
    rw [List.all_cons, Bool.and_eq_true] at h
    rw [List.takeWhile_cons, if_pos h.1, tw_all h.2]
theorem piece_dig {c : UInt8} {t : List UInt8} (h : digitB c = true) : piece (c :: t) = numP (c :: t) := by
  rw [piece_eq]
  rw [digitB_iff] at h
  have e1 : blankB c = false := by
    simp only [blankB, Bool.or_eq_false_iff, beq_eq_false_iff_ne, ne_eq]
    refine ⟨⟨⟨?_, ?_⟩, ?_⟩, ?_⟩ <;> (rintro rfl; simp at h)
  have e2 : (c == 35) = false := by rw [beq_eq_false_iff_ne]; rintro rfl; simp at h
  have e3 : letterB c = false := by
    cases hl : letterB c with
    | false => rfl
    | true => simp only [letterB, decide_eq_true_eq] at hl; omega
  rw [e1, e2, e3, if_neg (by simp), if_neg (by simp), if_neg (by simp), if_pos (by rw [digitB_iff]; exact h)]
theorem piece_int {l : List UInt8} (hd : l.all digitB = true) (hn : l ≠ []) (hv : valL l ≤ 2 ^ 60) : piece l = (2, l.length, 0) := by
  obtain ⟨c, t, rfl, hc⟩ := head_dig hd hn
  rw [piece_dig hc]
  unfold numP
  rw [tw_all hd, List.drop_length, List.take_length]
  have : intErr (c :: t) = 0 := by unfold intErr; rw [if_neg (by omega)]
  simp only [this]
theorem piece_dec {a b : List UInt8} (ha : a.all digitB = true) (hn : a ≠ []) (hb : b.all digitB = true) (hb6 : b.length = 6) (hv : valL (a ++ b) ≤ 2 ^ 60) : piece (a ++ 46 :: b) = (3, (a ++ 46 :: b).length, 0) := by
  obtain ⟨c, t, rfl, hc⟩ := head_dig ha hn
  have h46 : digitB 46 = false := by decide
  have htw : ((c :: t) ++ 46 :: b).takeWhile digitB = c :: t := by rw [tw_app h46, tw_all ha]
  rw [List.cons_append, piece_dig hc, ← List.cons_append]
  unfold numP
  rw [htw, List.drop_left]
  simp only
  rw [tw_all hb, if_neg (by omega)]
  have hlen : ((c :: t) ++ 46 :: b).length = (c :: t).length + 1 + b.length := by simp; omega
  rw [← hlen, List.take_length]
  have : decErr ((c :: t) ++ 46 :: b) = 0 := by
    unfold decErr
    simp only [htw]
    have hd : ((c :: t) ++ 46 :: b).drop ((c :: t).length + 1) = b := by
      rw [← List.drop_drop, List.drop_left]; rfl
    rw [hd, if_neg (by omega), hb6, Nat.sub_self, Nat.pow_zero, Nat.mul_one, if_neg (by omega)]
  rw [this]
theorem piece_text {s : List UInt8} (h : textB s = true) : piece ([34] ++ s ++ [34]) = (4, ([34] ++ s ++ [34]).length, 0) ∧ txtOf ([34] ++ s ++ [34]) = s := by
  simp only [textB, Bool.and_eq_true, decide_eq_true_eq] at h
  obtain ⟨h64, hall⟩ := h
  have hp : ∀ c ∈ s, 32 ≤ c.toNat ∧ c.toNat ≤ 126 ∧ c.toNat ≠ 34 ∧ c.toNat ≠ 92 := fun c hc => by
    have := List.all_eq_true.1 hall c hc
    simp only [printB, Bool.and_eq_true, decide_eq_true_eq] at this
    exact ⟨this.1.1.1, this.1.1.2, this.1.2, this.2⟩
  have hlb : s.all lineB = true := List.all_eq_true.2 fun c hc => by
    have := hp c hc
    simp only [lineB, Bool.and_eq_true, bne_iff_ne, ne_eq]
    exact ⟨fun e => by subst e; simp at this, fun e => by subst e; simp at this⟩
  have htw : (s ++ [34]).takeWhile lineB = s := by rw [tw_app (by decide), tw_all hlb]
  have hq : quoP (s ++ [34]) = (4, s.length + 2, txtErr s) := by
    have := quoP_of (t := s ++ [34]) (r := []) (by rw [htw, List.drop_left])
    rw [this, htw]
  have hx : txtErr s = 0 := by
    unfold txtErr
    rw [if_neg (by omega), if_neg]
    intro ha
    obtain ⟨c, hc, hb⟩ := List.any_eq_true.1 ha
    have := hp c hc
    simp only [badB, Bool.or_eq_true, decide_eq_true_eq, beq_iff_eq] at hb
    rcases hb with (hb | hb) | hb
    · omega
    · omega
    · subst hb; simp at this
  have hpc : piece (34 :: (s ++ [34])) = (4, s.length + 2, 0) := by
    rw [piece_eq, hq, hx]; rfl
  have e : [34] ++ s ++ [34] = 34 :: (s ++ [34]) := by simp
  have hlen : (34 :: (s ++ [34])).length = s.length + 2 := by simp
  rw [e, hlen]
  refine ⟨hpc, ?_⟩
  unfold txtOf
  rw [hpc, if_pos rfl]
  simp only
  rw [← hlen, List.take_length, hlen, List.drop_succ_cons, List.drop_zero, Nat.add_sub_cancel, List.take_left]
/-- a sign ahead -/
theorem scan_minus (l : List UInt8) : scan (45 :: l) 0 false = (⟨5, [45], 0⟩ :: (scan l 1 false).1, (scan l 1 false).2) := by
  have hp : piece (45 :: l) = (5, 1, 0) := by rw [piece_eq]; rfl
  rw [scan_step (by simp), hp]
  have h : tkOf (45 :: l) 0 = [⟨5, [45], 0⟩] := by
    unfold tkOf txtOf; rw [hp]; simp
  have h' : pbOf (45 :: l) 0 false = [] := by unfold pbOf; rw [hp]; rfl
  have ha : adjOf (45 :: l) = false := by unfold adjOf; rw [hp]; rfl
  rw [h, h', ha]; rfl
end Go.Abs

namespace Go.Abs
open Go.Proofs L8
theorem decP_ok (s : List UInt8) : i64Ok (decP s).1 := by
  have e : (2 : Nat) ^ 60 = 1152921504606846976 := by decide
  unfold decP decR
  split
  · exact ⟨by decide, by decide⟩
  · split
    · exact ⟨by decide, by decide⟩
    · rename_i ds k _ _
      unfold decFin
      split
      · exact ⟨by decide, by decide⟩
      · rename_i h
        split
        · exact ⟨by simp only []; omega, by simp only []; omega⟩
        · exact ⟨by simp only []; omega, by simp only []; omega⟩
theorem atoiV_ok (s : List UInt8) : i64Ok (atoiV s) := by
  unfold atoiV
  split
  · rename_i v h
    unfold Lib.atoiAll at h
    split at h
    · cases h
    · simp only at h
      split at h
      · cases h
      · cases h
      · split at h
        · cases h
        · split at h
          · cases h
          · injection h with h
            rw [← h]
            split
            · exact ⟨by omega, by omega⟩
            · exact ⟨by omega, by omega⟩
  · unfold Lib.atoiSat
    split
    · exact ⟨by decide, by decide⟩
    · exact ⟨by decide, by decide⟩
  · exact ⟨by decide, by decide⟩
theorem str_nil : strOk [] := by show ([] : List UInt8).length ≤ _; simp
theorem gP_ok {s : List UInt8} (hs : strOk s) : strOk (gP s).s ∧ i64Ok (gP s).n := by
  have h0 : i64Ok 0 := ⟨by decide, by decide⟩
  have h1 : i64Ok 1 := ⟨by decide, by decide⟩
  have hs' : s.length ≤ 1000000 := hs
  unfold gP
  split
  · exact ⟨str_nil, h0⟩
  · split
    · refine ⟨str_nil, ?_⟩
      show i64Ok (if s = trueT then 1 else 0)
      split
      · exact h1
      · exact h0
    · split
      · exact ⟨by show (s.drop 1).length ≤ _; simp; omega, h0⟩
      · split
        · refine ⟨?_, h0⟩
          have a := trL_len 34 (trR 34 s)
          have b := trR_len 34 s
          show (trL 34 (trR 34 s)).length ≤ _
          omega
        · split
          · exact ⟨str_nil, decP_ok s⟩
          · split
            · exact ⟨str_nil, atoiV_ok s⟩
            · exact ⟨str_nil, h0⟩
theorem p10 (m : Int) (s : List UInt8) (hs : strOk s) : PureOk PP (G8 m) XT (tbl [(27, s27), (28, s28), (29, sContains), (8, s8), (30, s30), (6, s6)]) (itbl []) (a10 s) [] 10 [.str s] (.tup [aV (parseV s).1, .int .i64 (parseV s).2], []) := by
  have hs' : s.length ≤ 1000000 := hs
  obtain ⟨g1, g2⟩ := gP_ok hs
  have t1 : tbl [(27, s27), (28, s28), (29, sContains), (8, s8), (30, s30), (6, s6)] 28 [.str s, .str [34]] = some (.str (trL 34 (trR 34 s)), []) := by rw [tbl_miss (by decide), tbl_hit]; simp only [s28, hs, if_true]
  have t2 : tbl [(27, s27), (28, s28), (29, sContains), (8, s8), (30, s30), (6, s6)] 29 [.str s, .str [46]] = some (.bool (Lib.contains s [46]), []) := by rw [tbl_miss (by decide), tbl_miss (by decide), tbl_hit]; simp only [sContains]; rw [if_pos (by omega)]
  have t3 : tbl [(27, s27), (28, s28), (29, sContains), (8, s8), (30, s30), (6, s6)] 8 [.str s] = some (.tup [.int .i64 (decP s).1, .int .i64 (decP s).2], []) := by rw [tbl_miss (by decide), tbl_miss (by decide), tbl_miss (by decide), tbl_hit]; simp only [s8]; rw [if_pos hs']
  have t4 : tbl [(27, s27), (28, s28), (29, sContains), (8, s8), (30, s30), (6, s6)] 30 [.str s] = some (.tup [.int .i64 (atoiV s), if atoiB s = true then .lit .nilIface else .ifc], []) := by rw [tbl_miss (by decide), tbl_miss (by decide), tbl_miss (by decide), tbl_miss (by decide), tbl_hit]; simp only [s30, hs, if_true]
  have t5 : ∀ g : V3, strOk g.s → i64Ok g.n → tbl [(27, s27), (28, s28), (29, sContains), (8, s8), (30, s30), (6, s6)] 6 [.agg [.int .i64 g.k, .int .i64 g.n, .str g.s]] = some (.str (fmtL g.k g.n g.s), []) := fun g h1 h2 => by
    rw [tbl_miss (by decide), tbl_miss (by decide), tbl_miss (by decide), tbl_miss (by decide), tbl_miss (by decide), tbl_hit]; simp only [s6, sVal', h1, h2, and_self, if_true]
  constructor
  generalize hr : AV.tup [aV (parseV s).1, .int .i64 (parseV s).2] = r
  rw [w10]
  simp only [t1, t2, t3, t4, callIs_iff, Option.some.injEq, valsAre_iff, stIs_iff, retIs_iff, Prod.mk.injEq, AV.str.injEq, AV.int.injEq, AV.bool.injEq, AV.tup.injEq, List.cons.injEq, and_true, true_and, beq_iff_eq, beq_eq_false_iff_ne, ne_eq, Bool.not_eq_true', Bool.not_eq_false', true_imp_iff, St.mk.injEq, exists_eq_left', reduceCtorEq, false_imp_iff]
  have mk : ∀ (k n : Int) (t : List UInt8), gP s = ⟨k, n, t⟩ → ∃ y : V3, (k = y.k ∧ n = y.n ∧ t = y.s) ∧ y = gP s := fun k n t h => ⟨gP s, by rw [h]; exact ⟨rfl, rfl, rfl⟩, rfl⟩
  have hbool : ∀ {b : Bool}, b = false → ¬ b = true := fun {b} h => by rw [h]; simp
  refine ⟨⟨fun c1 => mk _ _ _ ?_, fun c1 => ⟨fun c2 => ⟨fun _ => mk _ _ _ ?_, fun h => absurd c2 h⟩, fun c2 => ⟨fun c3 => ⟨fun h => absurd h c2, fun _ => mk _ _ _ ?_⟩, fun c3 => ⟨fun c4 => ⟨by omega, ?_, mk _ _ _ ?_⟩, fun c4 => ⟨fun c5 => mk _ _ _ ?_, fun c5 => ⟨fun c6 => ⟨_, _, ⟨rfl, rfl⟩, mk _ _ _ ?_⟩, fun c6 => ?_⟩⟩⟩⟩⟩⟩, ?_⟩
  · unfold gP; rw [if_pos c1]; rfl
  · unfold gP; rw [if_neg c1, if_pos (.inl c2), if_pos c2]
  · unfold gP; rw [if_neg c1, if_pos (.inr c3), if_neg c2]
  · have : s.take 1 = [64] := by simpa [hasPfx] using c4
    have := congrArg List.length this
    rw [List.length_take] at this
    simp at this
    omega
  · unfold gP; rw [if_neg c1, if_neg (fun h => h.elim c2 c3), if_pos c4, List.take_length]
  · unfold gP; rw [if_neg c1, if_neg (fun h => h.elim c2 c3), if_neg (hbool c4), if_pos c5]
  · unfold gP; rw [if_neg c1, if_neg (fun h => h.elim c2 c3), if_neg (hbool c4), if_neg (hbool c5), if_pos c6]
  · have hg : gP s = if atoiB s = true then ⟨2, atoiV s, []⟩ else nullV := by
      unfold gP; rw [if_neg c1, if_neg (fun h => h.elim c2 c3), if_neg (hbool c4), if_neg (hbool c5), if_neg (hbool c6)]
    cases hA : atoiB s with
    | true =>
      rw [if_pos hA] at hg
      exact ⟨_, .inr ⟨⟨rfl, rfl⟩, mk _ _ _ hg⟩⟩
    | false =>
      rw [if_neg (hbool hA)] at hg
      refine ⟨_, .inl ⟨⟨rfl, rfl⟩, ?_⟩⟩
      rw [← hr]
      unfold parseV endP
      rw [hg, if_neg]
      · rfl
      · intro h
        exact c1 h.2.symm
  · rintro x rfl
    refine ⟨_, t5 _ g1 g2, fun h => ?_, fun h => ⟨fun h2 => ?_, fun h2 => ?_⟩⟩
    · rw [← hr]; unfold parseV endP; rw [if_neg (fun h3 => h h3.2)]; rfl
    · rw [← hr]; unfold parseV endP; rw [if_neg (fun h3 => h3.1 h2)]; rfl
    · rw [← hr]; unfold parseV endP; rw [if_pos ⟨h2, h⟩]; rfl
theorem o10 (m : Int) : SpecOk PP (G8 m) 10 s10 := spec_of (X := XT) (m := []) mixed8 (tbl_cons (o27 m) (tbl_cons (o28 m) (tbl_cons (o29 m) (tbl_cons (o8 m) (tbl_cons (o30z m) (tbl_cons (o6 m) tbl_nil)))))) itbl_nil fun args r h => by
  unfold s10 at h
  split at h
  · split at h
    · rename_i hs
      injection h with h; subst h; exact ⟨a10 _, p10 m _ hs⟩
    · cases h
  · cases h
end Go.Abs

namespace Go.Abs
open Go.Proofs L8
def shVal : Sh × Option TypeId := (.tup [.agg [.int .i64, .int .i64, .str], .one (.int .i64)], none)
def XV3 : Shapes := fun f => match f with
  | 4 | 5 | 11 => some shB
  | 6 => some (.val (.one .str), none)
  | 7 => some shToks
  | 8 => some shTI
  | 9 => some shTI1
  | 10 => some shVal
  | _ => none
/-- behind the test of decimals -/
def a3 (k n a : Int) (s t : List UInt8) (l : List TI) : Anns := ⟨fun q => match q with
  | 1000017 => some { α := Unit, slots := [1, 3, 4, 5, 8], nb := 2, vals := fun _ => [.ptr 0 0, .ptr 1 0, .str t, .sl 3 (tksL l) .no, .int .i64 (if k = 3 then 3 else 2)], sS := fun _ => ⟨[some [.int .i64 k, .int .i64 n, .str s], some [.int .i64 k, .int .i64 a, .str s]], []⟩, I := fun _ => True, μ := fun _ => 0 }
  | _ => none, nA⟩
theorem w3 (m k n a : Int) (s t : List UInt8) (l : List TI) : (pureW PP (G8 m) XV3 (tbl [(4, s4), (5, s5), (6, s6), (7, s7), (8, s8), (9, s9), (10, s10), (11, s11)]) (itbl []) (a3 k n a s t l) [] 3 [vA k n s] (.bool true, [])) =
(∃ (b : Bool),
  CallIs (some (AV.bool true, [])) (AV.bool b) [] ∧
    (b = true →
        (decide ((↑s.length : Int) > (100 : Int)) = true → RetIs (AV.bool true) [] (AV.bool true, [])) ∧
 (decide ((↑s.length : Int) > (100 : Int)) = false →
 ∃ (b : Bool),
 CallIs
 (tbl
 [(nat_lit 4, s4), (nat_lit 5, s5), (nat_lit 6, s6), (nat_lit 7, s7), (nat_lit 8, s8), (nat_lit 9, s9), (nat_lit 10, s10), (nat_lit 11, s11)]
 (nat_lit 5) [AV.agg [AV.int IntKind.i64 k, AV.int IntKind.i64 n, AV.str s]])
 (AV.bool b) [] ∧
 (b = true →
 (decide (k < (2 : Int)) = true → RetIs (AV.bool true) [] (AV.bool true, [])) ∧
 (decide (k < (2 : Int)) = false →
 (decide (k > (4 : Int)) = true → RetIs (AV.bool true) [] (AV.bool true, [])) ∧
 (decide (k > (4 : Int)) = false →
 ∃ (s_1 : List UInt8),
 CallIs
 (tbl
 [(nat_lit 4, s4), (nat_lit 5, s5), (nat_lit 6, s6), (nat_lit 7, s7), (nat_lit 8, s8), (nat_lit 9, s9), (nat_lit 10, s10),
 (nat_lit 11, s11)]
 (nat_lit 6) [AV.agg [AV.int IntKind.i64 k, AV.int IntKind.i64 (max n (IntKind.i64.wrap ((0 : Int) - n))), AV.str s]])
 (AV.str s_1) [] ∧
 s_1.length ≤ nat_lit 70368744177664 ∧
 ∃ (es : List AV),
 ∃ (es_1 : List AV),
 ∃ (n_1 : Int),
 CallIs
 (tbl
 [(nat_lit 4, s4), (nat_lit 5, s5), (nat_lit 6, s6), (nat_lit 7, s7), (nat_lit 8, s8), (nat_lit 9, s9),
 (nat_lit 10, s10), (nat_lit 11, s11)]
 (nat_lit 7) [AV.sl (nat_lit 1) (List.map (fun (c : UInt8) => AV.int IntKind.u8 (↑c.toNat : Int)) s_1) Own.no])
 (AV.tup [AV.sl (nat_lit 3) es Own.no, AV.sl (nat_lit 2) es_1 Own.no, AV.int IntKind.i64 n_1]) [] ∧
 ((n_1 != (0 : Int)) = true → RetIs (AV.bool false) [] (AV.bool true, [])) ∧
 ((n_1 != (0 : Int)) = false →
 (decide ((↑es_1.length : Int) > (0 : Int)) = true → RetIs (AV.bool false) [] (AV.bool true, [])) ∧
 (decide ((↑es_1.length : Int) > (0 : Int)) = false →
 (((↑es.length : Int) != (2 : Int)) = true → RetIs (AV.bool false) [] (AV.bool true, [])) ∧
 (((↑es.length : Int) != (2 : Int)) = false →
 ((0 : Int) ≤ (0 : Int) ∧ (0 : Int) < (↑es.length : Int)) ∧
 ∃ (n_2 : Int),
 takeAt PP (nat_lit 3) es (nat_lit 0) (nat_lit 2) = some (AV.int IntKind.i64 n_2) ∧
 ((n_2 != (0 : Int)) = true → RetIs (AV.bool false) [] (AV.bool true, [])) ∧
 ((n_2 != (0 : Int)) = false →
 (((k == (3 : Int)) = true →
 ((0 : Int) ≤ (0 : Int) ∧ (0 : Int) < (↑es.length : Int)) ∧
 ∃ (s_2 : List UInt8),
 takeAt PP (nat_lit 9) es (nat_lit 0) (nat_lit 1) = some (AV.str s_2) ∧
 ∃ (n_3 : Int),
 ∃ (n_4 : Int),
 CallIs
 (tbl
 [(nat_lit 4, s4), (nat_lit 5, s5), (nat_lit 6, s6), (nat_lit 7, s7),
 (nat_lit 8, s8), (nat_lit 9, s9), (nat_lit 10, s10), (nat_lit 11, s11)]
 (nat_lit 8) [AV.str s_2])
 (AV.tup [AV.int IntKind.i64 n_3, AV.int IntKind.i64 n_4]) [] ∧
 ((n_3 != max n (IntKind.i64.wrap ((0 : Int) - n))) = true →
 RetIs (AV.bool false) [] (AV.bool true, [])) ∧
 ((n_3 != max n (IntKind.i64.wrap ((0 : Int) - n))) = false →
 ((n_4 != (0 : Int)) = true →
 RetIs (AV.bool false) [] (AV.bool true, [])) ∧
 ((n_4 != (0 : Int)) = false →
 ∃ (_y : Unit),
 ValsAre
 [AV.ptr (nat_lit 0) (nat_lit 0), AV.ptr (nat_lit 1) (nat_lit 0),
 AV.str s_1, AV.sl (nat_lit 3) es Own.no,
 AV.int IntKind.i64 (3 : Int)]
 [AV.ptr (nat_lit 0) (nat_lit 0), AV.ptr (nat_lit 1) (nat_lit 0),
 AV.str t, AV.sl (nat_lit 3) (tksL l) Own.no,
 AV.int IntKind.i64
 (if k = (3 : Int) then (3 : Int) else (2 : Int))] ∧
 StIs
 { boxes := [some [AV.int IntKind.i64 k, AV.int IntKind.i64 n, AV.str s], some [AV.int IntKind.i64 k, AV.int IntKind.i64 (max n (IntKind.i64.wrap ((0 : Int) - n))), AV.str s]], live := [] }
 { boxes := [some [AV.int IntKind.i64 k, AV.int IntKind.i64 n, AV.str s], some [AV.int IntKind.i64 k, AV.int IntKind.i64 a, AV.str s]], live := [] } ∧
 True ∧ True))) ∧
 ((k == (3 : Int)) = false →
 ∃ (_y : Unit),
 ValsAre
 [AV.ptr (nat_lit 0) (nat_lit 0), AV.ptr (nat_lit 1) (nat_lit 0), AV.str s_1,
 AV.sl (nat_lit 3) es Own.no, AV.int IntKind.i64 (2 : Int)]
 [AV.ptr (nat_lit 0) (nat_lit 0), AV.ptr (nat_lit 1) (nat_lit 0), AV.str t,
 AV.sl (nat_lit 3) (tksL l) Own.no,
 AV.int IntKind.i64 (if k = (3 : Int) then (3 : Int) else (2 : Int))] ∧
 StIs
 { boxes := [some [AV.int IntKind.i64 k, AV.int IntKind.i64 n, AV.str s], some [AV.int IntKind.i64 k, AV.int IntKind.i64 (max n (IntKind.i64.wrap ((0 : Int) - n))), AV.str s]], live := [] }
 { boxes := [some [AV.int IntKind.i64 k, AV.int IntKind.i64 n, AV.str s], some [AV.int IntKind.i64 k, AV.int IntKind.i64 a, AV.str s]], live := [] } ∧
 True ∧ True)) ∧
 ∀ (_x : Unit),
 True →
 True →
 ((k == (4 : Int)) = true →
 ((0 : Int) ≤ (0 : Int) ∧ (0 : Int) < (↑(tksL l).length : Int)) ∧
 ∃ (n : Int),
 ∃ (s_2 : List UInt8),
 ∃ (n_3 : Int),
 takeAt PP (nat_lit 34) (tksL l) (nat_lit 0) (nat_lit 0) =
 some
 (AV.agg [AV.int IntKind.i64 n, AV.str s_2, AV.int IntKind.i64 n_3]) ∧
 ∃ (n_4 : Int),
 ∃ (s_3 : List UInt8),
 ∃ (n_5 : Int),
 CallIs
 (some
 (AV.agg
 [AV.int IntKind.i64
 ({ kind := (4 : Int), text := s, at_ := (0 : Int) } : TI).kind,
 AV.str
 ({ kind := (4 : Int), text := s, at_ := (0 : Int) } : TI).text,
 AV.int IntKind.i64
 ({ kind := (4 : Int), text := s, at_ := (0 : Int) } : TI).at_],
 []))
 (AV.agg
 [AV.int IntKind.i64 n_4, AV.str s_3, AV.int IntKind.i64 n_5])
 [] ∧
 ((n == n_4 && (s_2 == s_3 && (n_3 == n_5 && true))) = true →
 nat_lit 1 + s.length ≤ nat_lit 9223372036854775807 ∧
 ([(34 : UInt8)] ++ s).length + nat_lit 1 ≤
 nat_lit 9223372036854775807 ∧
 ((t == [(34 : UInt8)] ++ s ++ [(34 : UInt8)]) = true →
 RetIs (AV.bool true) [] (AV.bool true, [])) ∧
 ((t == [(34 : UInt8)] ++ s ++ [(34 : UInt8)]) = false →
 RetIs (AV.bool false) [] (AV.bool true, []))) ∧
 ((n == n_4 && (s_2 == s_3 && (n_3 == n_5 && true))) = false →
 RetIs (AV.bool false) [] (AV.bool true, []))) ∧
 ((k == (4 : Int)) = false →
 ((0 : Int) ≤ (0 : Int) ∧ (0 : Int) < (↑(tksL l).length : Int)) ∧
 ∃ (s_2 : List UInt8),
 takeAt PP (nat_lit 9) (tksL l) (nat_lit 0) (nat_lit 1) = some (AV.str s_2) ∧
 ∃ (n_3 : Int),
 ∃ (n_4 : Int),
 ∃ (s_3 : List UInt8),
 ∃ (n_5 : Int),
 CallIs
 (tbl
 [(nat_lit 4, s4), (nat_lit 5, s5), (nat_lit 6, s6),
 (nat_lit 7, s7), (nat_lit 8, s8), (nat_lit 9, s9),
 (nat_lit 10, s10), (nat_lit 11, s11)]
 (nat_lit 10) [AV.str s_2])
 (AV.tup
 [AV.agg
 [AV.int IntKind.i64 n_3, AV.int IntKind.i64 n_4,
 AV.str s_3],
 AV.int IntKind.i64 n_5])
 [] ∧
 ∃ (s_4 : List UInt8),
 CallIs
 (tbl
 [(nat_lit 4, s4), (nat_lit 5, s5), (nat_lit 6, s6),
 (nat_lit 7, s7), (nat_lit 8, s8), (nat_lit 9, s9),
 (nat_lit 10, s10), (nat_lit 11, s11)]
 (nat_lit 6)
 [AV.agg
 [AV.int IntKind.i64 k, AV.int IntKind.i64 n, AV.str s]])
 (AV.str s_4) [] ∧
 s_4.length ≤ nat_lit 70368744177664 ∧
 ∃ (es : List AV),
 ∃ (es_2 : List AV),
 ∃ (n_6 : Int),
 CallIs
 (tbl
 [(nat_lit 4, s4), (nat_lit 5, s5),
 (nat_lit 6, s6), (nat_lit 7, s7),
 (nat_lit 8, s8), (nat_lit 9, s9),
 (nat_lit 10, s10), (nat_lit 11, s11)]
 (nat_lit 7)
 [AV.sl (nat_lit 1)
 (List.map
 (fun (c : UInt8) =>
 AV.int IntKind.u8 (↑c.toNat : Int))
 s_4)
 Own.no])
 (AV.tup
 [AV.sl (nat_lit 3) es Own.no,
 AV.sl (nat_lit 2) es_2 Own.no,
 AV.int IntKind.i64 n_6])
 [] ∧
 ((0 : Int) ≤ (0 : Int) ∧
 (0 : Int) < (↑(tksL l).length : Int)) ∧
 ∃ (n_7 : Int),
 takeAt PP (nat_lit 3) (tksL l) (nat_lit 0)
 (nat_lit 0) =
 some (AV.int IntKind.i64 n_7) ∧
 ((n_7 !=
 if k = (3 : Int) then (3 : Int)
 else (2 : Int)) =
 true →
 RetIs (AV.bool false) []
 (AV.bool true, [])) ∧
 ((n_7 !=
 if k = (3 : Int) then (3 : Int)
 else (2 : Int)) =
 false →
 ((!(n_3 == k &&
 (n_4 == a &&
 (s_3 == s && true)))) =
 true →
 RetIs (AV.bool false) []
 (AV.bool true, [])) ∧
 ((!(n_3 == k &&
 (n_4 == a &&
 (s_3 == s && true)))) =
 false →
 ((n_5 != (0 : Int)) = true →
 RetIs (AV.bool false) []
 (AV.bool true, [])) ∧
 ((n_5 != (0 : Int)) = false →
 ((n_6 != (0 : Int)) = true →
 RetIs (AV.bool false) []
 (AV.bool true, [])) ∧
 ((n_6 != (0 : Int)) = false →
 (decide
 ((↑es_2.length : Int) >
 (0 : Int)) =
 true →
 RetIs (AV.bool false) []
 (AV.bool true, [])) ∧
 (decide
 ((↑es_2.length : Int) >
 (0 : Int)) =
 false →
 (decide (n ≥ (0 : Int)) =
 true →
 ∃ (b : Bool),
 CallIs
 (tbl
 [(nat_lit 4,
 s4),
 (nat_lit 5,
 s5),
 (nat_lit 6,
 s6),
 (nat_lit 7,
 s7),
 (nat_lit 8,
 s8),
 (nat_lit 9,
 s9),
 (nat_lit 10,
 s10),
 (nat_lit 11,
 s11)]
 (nat_lit 11)
 [AV.sl
 (nat_lit 3)
 (tksL l)
 Own.no,
 AV.sl
 (nat_lit 3)
 es Own.no,
 AV.bool true,
 AV.int
 IntKind.i64
 (0 : Int)])
 (AV.bool b) [] ∧
 (b = true →
 RetIs
 (AV.bool true)
 []
 (AV.bool true,
 [])) ∧
 (b = false →
 RetIs
 (AV.bool
 false)
 []
 (AV.bool true,
 []))) ∧
 (decide (n ≥ (0 : Int)) =
 false →
 (((↑es.length : Int) ==
 (3 : Int)) =
 true →
 ((0 : Int) ≤
 (0 : Int) ∧
 (0 : Int) <
 (↑es.length :
 Int)) ∧
 ∃ (n : Int),
 ∃ (s :
 List UInt8),
 ∃ (n_8 : Int),
 takeAt PP
 (nat_lit
 34)
 es
 (nat_lit
 0)
 (nat_lit
 0) =
 some
 (AV.agg
 [AV.int
 IntKind.i64
 n,
 AV.str
 s,
 AV.int
 IntKind.i64
 n_8]) ∧
 ∃ (n_9 :
 Int),
 ∃ (s_5 :
 List
 UInt8),
 ∃
 (n_10
 :
 Int),
 CallIs
 (some
 (AV.agg
 [AV.int
 IntKind.i64
 (5 :
 Int),
 AV.str
 [(45 :
 UInt8)],
 AV.int
 IntKind.i64
 (0 :
 Int)],
 []))
 (AV.agg
 [AV.int
 IntKind.i64
 n_9,
 AV.str
 s_5,
 AV.int
 IntKind.i64
 n_10])
 [] ∧
 ((n ==
 n_9 &&
 (s ==
 s_5 &&
 (n_8 ==
 n_10 &&
 true))) =
 true →
 (0 :
 Int) ≤
 (1 :
 Int) ∧
 (nat_lit
 1 ≤
 es.length ∧
 es.length ≤
 es.length) ∧
 (nat_lit
 3 =
 nat_lit
 3 ∨
 es =
 []) ∧
 ∃
 (b
 :
 Bool),
 CallIs
 (tbl
 [(nat_lit
 4,
 s4),
 (nat_lit
 5,
 s5),
 (nat_lit
 6,
 s6),
 (nat_lit
 7,
 s7),
 (nat_lit
 8,
 s8),
 (nat_lit
 9,
 s9),
 (nat_lit
 10,
 s10),
 (nat_lit
 11,
 s11)]
 (nat_lit
 11)
 [AV.sl
 (nat_lit
 3)
 (tksL
 l)
 Own.no,
 AV.sl
 (nat_lit
 3)
 (List.drop
 (nat_lit
 1)
 (List.take
 es.length
 es))
 Own.no,
 AV.bool
 true,
 AV.int
 IntKind.i64
 (1 :
 Int)])
 (AV.bool
 b)
 [] ∧
 (b =
 true →
 RetIs
 (AV.bool
 true)
 []
 (AV.bool
 true,
 [])) ∧
 (b =
 false →
 RetIs
 (AV.bool
 false)
 []
 (AV.bool
 true,
 []))) ∧
 ((n ==
 n_9 &&
 (s ==
 s_5 &&
 (n_8 ==
 n_10 &&
 true))) =
 false →
 RetIs
 (AV.bool
 false)
 []
 (AV.bool
 true,
 []))) ∧
 (((↑es.length :
 Int) ==
 (3 : Int)) =
 false →
 RetIs
 (AV.bool false) []
 (AV.bool true,
 [])))))))))))))))) ∧
 (b = false → RetIs (AV.bool true) [] (AV.bool true, [])))) ∧
      (b = false → RetIs (AV.bool false) [] (AV.bool true, []))) := by kernel_rfl
end Go.Abs

namespace Go.Abs
open Go.Proofs L8
theorem max_abs {n : Int} (h : numOk n) : max n (IntKind.i64.wrap (0 - n)) = (n.natAbs : Int) := by
  obtain ⟨h1, h2⟩ := h
  rw [wrap64_in (by omega) (by omega)]; omega
theorem numOk_abs {n : Int} (h : numOk n) : numOk (n.natAbs : Int) := by
  obtain ⟨h1, h2⟩ := h
  exact ⟨by omega, by omega⟩
theorem num_of {k n : Int} {s : List UInt8} (hv : validB k n s = true) : numOk n := by
  rcases valid_cases hv with ⟨rfl, rfl, rfl⟩ | ⟨rfl, hn, rfl⟩ | ⟨hk, hn, rfl⟩ | ⟨rfl, rfl, hs⟩ | ⟨rfl, rfl, hs⟩
  · exact ⟨by decide, by decide⟩
  · rcases hn with rfl | rfl <;> exact ⟨by decide, by decide⟩
  · exact hn
  · exact ⟨by decide, by decide⟩
  · exact ⟨by decide, by decide⟩
theorem valid_abs {k n : Int} {s : List UInt8} (hv : validB k n s = true) : validB k (n.natAbs : Int) s = true := by
  rcases valid_cases hv with ⟨rfl, rfl, rfl⟩ | ⟨rfl, hn, rfl⟩ | ⟨hk, hn, rfl⟩ | ⟨rfl, rfl, hs⟩ | ⟨rfl, rfl, hs⟩
  · exact hv
  · rcases hn with rfl | rfl <;> exact hv
  · have hi : inR (n.natAbs : Int) = true := by have := numOk_abs hn; simpa [inR, numOk] using this
    rcases hk with rfl | rfl <;> simp [validB, checkI, fieldsB, hi]
  · exact hv
  · exact hv
theorem signL_nat (n : Nat) : signL (n : Int) = [] := by unfold signL; rw [if_neg (by omega)]
/-- the text of a value of kind 2, 3 or 4 without its sign -/
structure Said (k : Int) (n : Int) (s t tx : List UInt8) : Prop where
  piece : piece t = (k, t.length, 0)
  ne : t ≠ []
  txt : txtOf t = tx
  num : k ≠ 4 → tx = t
  quo : k = 4 → tx = s ∧ t = [34] ++ s ++ [34]
  len : t.length ≤ 100
  fmt : fmtL k (n.natAbs : Int) s = t
  back : fmtL k n s = if n < 0 then 45 :: t else t
  dec : k = 3 → decP t = ((n.natAbs : Int), 0)
theorem said {k n : Int} {s : List UInt8} (hv : validB k n s = true) (h2 : 2 ≤ k) (h4 : k ≤ 4) : ∃ t tx, Said k n s t tx := by
  have hva := valid_abs hv
  have hp60 : (2 : Nat) ^ 60 = 1152921504606846976 := by decide
  rcases valid_cases hv with ⟨rfl, rfl, rfl⟩ | ⟨rfl, hn, rfl⟩ | ⟨hk, hn, rfl⟩ | ⟨rfl, rfl, hs⟩ | ⟨rfl, rfl, hs⟩
  · omega
  · omega
  · have hlt := natAbs20 hn.i64
    have hN : n.natAbs ≤ 2 ^ 60 := by rw [hp60]; obtain ⟨h1, h2⟩ := hn; omega
    rcases hk with rfl | rfl
    · have hb : fmtL 2 (n.natAbs : Int) [] = Lib.decDigits n.natAbs := by
        rw [fmt_valid hva]
        rw [if_neg (by decide), if_pos rfl]
        rw [itoa_eq, signL_nat]; simp
      have hp := piece_int (decD_all n.natAbs) (decD_ne _) (by rw [decD_val]; exact hN)
      refine ⟨_, _, hp, decD_ne _, txtOf_whole hp (by decide), fun _ => rfl, fun h => absurd h (by decide), ?_, hb, ?_, fun h => absurd h (by decide)⟩
      · have := nDig20 hlt; omega
      · rw [fmt_valid hv]
        rw [if_neg (by decide), if_pos rfl]
        rw [itoa_eq]; unfold signL; split <;> rfl
    · obtain ⟨a, b, he, hab, hne, hb6, hda, hdb⟩ := point_parts hlt
      have hb : fmtL 3 (n.natAbs : Int) [] = pointL (padD n.natAbs) := by
        rw [fmt_valid hva]
        rw [if_neg (by decide), if_neg (by decide), if_pos rfl]
        unfold decFz; rw [signL_nat]; simp
      have hp := piece_dec hda hne hdb hb6 (by rw [hab, padD_val]; exact hN)
      rw [← he] at hp
      refine ⟨_, _, hp, ?_, txtOf_whole hp (by decide), fun _ => rfl, fun h => absurd h (by decide), ?_, hb, ?_, fun _ => ?_⟩
      · rw [he]; simp
      · have hl := padD_len hlt
        rw [he]
        have := congrArg List.length hab
        simp at this ⊢; omega
      · rw [fmt_valid hv]
        rw [if_neg (by decide), if_neg (by decide), if_pos rfl]
        unfold decFz signL; split <;> rfl
      · have := decP_decF (numOk_abs hn)
        unfold decFz at this
        rw [signL_nat] at this
        simpa using this
  · obtain ⟨hp, ht⟩ := piece_text hs
    have hb : fmtL 4 0 s = [34] ++ s ++ [34] := by rw [fmt_valid hv, if_neg (by decide), if_neg (by decide), if_neg (by decide), if_pos rfl]
    have hl : s.length ≤ 64 := by simp only [textB, Bool.and_eq_true, decide_eq_true_eq] at hs; exact hs.1
    exact ⟨_, _, hp, by simp, ht, fun h => absurd rfl h, fun _ => ⟨rfl, rfl⟩, by simp; omega, hb, hb, fun h => absurd h (by decide)⟩
  · omega
theorem Said.toks {k n : Int} {s t tx : List UInt8} (h : Said k n s t tx) (h2 : 2 ≤ k) : toksI t = [⟨k, tx, 0⟩, ⟨6, [], t.length⟩] ∧ probsI t = [] := by
  have := scan_one h.piece (by omega) (by omega) h.ne 0 false
  refine ⟨?_, ?_⟩
  · simp only [toksI, toksL, this, h.txt]; rfl
  · simp only [probsI, probsL, this]; rfl
theorem Said.minus {k n : Int} {s t tx : List UInt8} (h : Said k n s t tx) (h2 : 2 ≤ k) : toksI (45 :: t) = [⟨5, [45], 0⟩, ⟨k, tx, 1⟩, ⟨6, [], (t.length + 1 : Nat)⟩] ∧ probsI (45 :: t) = [] := by
  have := scan_one h.piece (by omega) (by omega) h.ne 1 false
  refine ⟨?_, ?_⟩
  · simp only [toksI, toksL, scan_minus, this, h.txt]; rfl
  · simp only [probsI, probsL, scan_minus, this]; rfl
end Go.Abs

namespace Go.Abs
open Go.Proofs L8
abbrev T3 : List (FuncId × Spec) := [(4, s4), (5, s5), (6, s6), (7, s7), (8, s8), (9, s9), (10, s10), (11, s11)]
theorem t5 {k n : Int} {s : List UInt8} (h : strOk s) : tbl T3 5 [vA k n s] = some (.bool (validB k n s), []) := by
  rw [show ∀ a, tbl T3 5 a = s5 a from fun a => by simp [tbl]]
  simp only [s5, sVal]; rw [if_pos h]
theorem t6 {k n : Int} {s : List UInt8} (h : strOk s) (hn : i64Ok n) : tbl T3 6 [vA k n s] = some (.str (fmtL k n s), []) := by
  rw [show ∀ a, tbl T3 6 a = s6 a from fun a => by simp [tbl]]
  simp only [s6, sVal']; rw [if_pos ⟨h, hn⟩]
theorem t7 {t : List UInt8} {l : List TI} (h : t.length ≤ 16384) (hl : toksI t = l) (hp : probsI t = []) : tbl T3 7 [.sl 1 (t.map fun c => .int .u8 c.toNat) .no] = some (.tup [.sl 3 (tksL l) .no, .sl 2 [] .no, .int .i64 0], []) := by
  rw [show ∀ a, tbl T3 7 a = s7 a from fun a => by simp [tbl]]
  show s7 [bytesA t] = _
  rw [s12_ok h, hl, hp]; rfl
theorem t8 {t : List UInt8} {n : Int} (h : t.length ≤ 1000000) (hd : decP t = (n, 0)) : tbl T3 8 [.str t] = some (.tup [.int .i64 n, .int .i64 0], []) := by
  rw [show ∀ a, tbl T3 8 a = s8 a from fun a => by simp [tbl]]
  simp only [s8]; rw [if_pos h, hd]
theorem t10 {k n : Int} {s t : List UInt8} (h : strOk t) (hd : parseV t = (⟨k, n, s⟩, 0)) : tbl T3 10 [.str t] = some (.tup [vA k n s, .int .i64 0], []) := by
  rw [show ∀ a, tbl T3 10 a = s10 a from fun a => by simp [tbl]]
  simp only [s10]; rw [if_pos h, hd]; rfl
theorem t11 {l r : List TI} {more : Int} (h1 : l.length ≤ 1000000) (h2 : r.length ≤ 1000000) (h : all2B (sameT true more) l r = true) : tbl T3 11 [.sl 3 (tksL l) .no, .sl 3 (tksL r) .no, .bool true, .int .i64 more] = some (.bool true, []) := by
  rw [show ∀ a, tbl T3 11 a = s11 a from fun a => by simp [tbl]]
  rw [s14_ok h1 h2, h]
theorem ti_kind {a : TI} {l : List TI} : takeAt PP 3 (tksL (a :: l)) 0 0 = some (.int .i64 a.kind) := by kernel_rfl
theorem ti_at {a : TI} {l : List TI} : takeAt PP 3 (tksL (a :: l)) 0 2 = some (.int .i64 a.at_) := by kernel_rfl
theorem ti_text {a : TI} {l : List TI} : takeAt PP 9 (tksL (a :: l)) 0 1 = some (.str a.text) := by kernel_rfl
theorem ti_all {a : TI} {l : List TI} : takeAt PP 34 (tksL (a :: l)) 0 0 = some (.agg [.int .i64 a.kind, .str a.text, .int .i64 a.at_]) := by kernel_rfl
theorem pos2 {a : TI} {l : List TI} : (0 : Int) < ((tksL (a :: l)).length : Int) := by simp
theorem nope {p : Prop} {b c : Bool} (h : b = c) (hb : b = !c) : p := by subst h; cases b <;> cases hb
theorem p3v (m k n : Int) (s t tx : List UInt8) (hs : s.length ≤ 100) (hv : validB k n s = true) (h2 : 2 ≤ k) (h4 : k ≤ 4) (hx : Said k n s t tx) :
    PureOk PP (G8 m) XV3 (tbl T3) (itbl []) (a3 k n (n.natAbs : Int) s t [⟨k, tx, 0⟩, ⟨6, [], t.length⟩]) [] 3 [vA k n s] (.bool true, []) := by
  constructor
  rw [w3]
  have hso : strOk s := by unfold strOk; omega
  have hn := num_of hv
  have hto : strOk t := by have := hx.len; unfold strOk; omega
  have hlen := hx.len
  have hmax := max_abs hn
  have hc6 := t6 (k := k) hso (numOk_abs hn).i64
  rw [hx.fmt] at hc6
  obtain ⟨htk, hpb⟩ := hx.toks h2
  have hc7 := t7 (t := t) (by omega) htk hpb
  rw [hmax]
  have hsI : ∀ {S : St}, StIs S S := stIs_iff.2 rfl
  have hr : ∀ {r : AV}, RetIs r [] (r, []) := retIs_iff.2 rfl
  refine ⟨true, callIs_iff.2 rfl, fun _ => ⟨fun h => absurd (of_decide_eq_true h) (by omega), fun _ => ⟨true, callIs_iff.2 (by rw [t5 hso, hv]), fun _ => ⟨fun h => absurd (of_decide_eq_true h) (by omega), fun _ =>
    ⟨fun h => absurd (of_decide_eq_true h) (by omega), fun _ => ⟨t, callIs_iff.2 hc6, Nat.le_trans hlen (by decide), _, _, _, callIs_iff.2 hc7, fun h => absurd h (by decide), fun _ => ⟨fun h => absurd h (by decide), fun _ => ⟨fun h => (by simp at h), fun _ =>
    ⟨⟨Int.le_refl _, pos2⟩, _, ti_at, fun h => (by simp at h), fun _ => ⟨⟨fun hk => ?_, fun hk => ?_⟩, fun _ _ _ => ⟨fun hk => ?_, fun hk => ?_⟩⟩⟩⟩⟩⟩⟩⟩, fun h => nomatch h⟩⟩, fun h => nomatch h⟩
  · obtain rfl : k = 3 := by simpa using hk
    refine ⟨⟨Int.le_refl _, pos2⟩, _, ti_text, _, _, callIs_iff.2 (t8 (n := (n.natAbs : Int)) ?_ ?_), fun h => ?_, fun _ => ⟨fun h => absurd h (by decide), fun _ => ⟨(), valsAre_iff.2 rfl, hsI, trivial, trivial⟩⟩⟩
    · rw [hx.num (by decide)]; exact hto
    · rw [hx.num (by decide)]; exact hx.dec rfl
    · simp at h
  · have hk3 : k ≠ 3 := by simpa using hk
    exact ⟨(), valsAre_iff.2 (by rw [if_neg hk3]), hsI, trivial, trivial⟩
  · obtain rfl : k = 4 := by simpa using hk
    obtain ⟨rfl, ht⟩ := hx.quo rfl
    refine ⟨⟨Int.le_refl _, pos2⟩, _, _, _, ti_all, _, _, _, callIs_iff.2 rfl, fun _ => ⟨Nat.le_trans (Nat.add_le_add_left hs _) (by decide), Nat.le_trans (show _ ≤ 1000 by simp; omega) (by decide), fun _ => hr, fun h => ?_⟩, fun h => ?_⟩
    · simp [ht] at h
    · simp at h
  · have hk4 : k ≠ 4 := by simpa using hk
    have htx := (hx.num hk4).symm
    subst htx
    have hkk : (k != if k = 3 then (3 : Int) else 2) = false := by
      by_cases e : k = 3
      · subst e; rfl
      · rw [if_neg e]; have : k = 2 := by omega
        subst this; rfl
    have hpz := parse_fmt (valid_abs hv)
    rw [hx.fmt] at hpz
    have hc6' := t6 (k := k) hso hn.i64
    rw [hx.back] at hc6'
    by_cases hneg : n < 0
    · rw [if_pos hneg] at hc6'
      obtain ⟨htk', hpb'⟩ := hx.minus h2
      refine ⟨⟨Int.le_refl _, pos2⟩, _, ti_text, _, _, _, _, callIs_iff.2 (t10 hto hpz), _, callIs_iff.2 hc6', by simp; omega, _, _, _, callIs_iff.2 (t7 (by simp; omega) htk' hpb'), ⟨Int.le_refl _, pos2⟩, _, ti_kind, fun h => absurd h (by rw [hkk]; decide), fun _ => ⟨fun h => ?_, fun _ =>
        ⟨fun h => absurd h (by decide), fun _ => ⟨fun h => absurd h (by decide), fun _ => ⟨fun h => absurd h (by decide), fun _ => ⟨fun h => absurd (of_decide_eq_true h) (by omega), fun _ => ⟨fun _ =>
        ⟨⟨Int.le_refl _, pos2⟩, _, _, _, ti_all, _, _, _, callIs_iff.2 rfl, fun _ => ⟨by decide, ⟨by simp, Nat.le_refl _⟩, .inl rfl, true, callIs_iff.2 ?_, fun _ => hr, fun h => nomatch h⟩, fun h => (by simp at h)⟩, fun h => (by simp at h)⟩⟩⟩⟩⟩⟩⟩
      · simp at h
      · have e : List.drop 1 (List.take (tksL [⟨5, [45], 0⟩, ⟨k, t, 1⟩, ⟨6, [], (t.length + 1 : Nat)⟩]).length (tksL [⟨5, [45], 0⟩, ⟨k, t, 1⟩, ⟨6, [], (t.length + 1 : Nat)⟩])) = tksL [⟨k, t, 1⟩, ⟨6, [], (t.length + 1 : Nat)⟩] := by rw [List.take_length]; rfl
        rw [e]
        refine t11 (by simp) (by simp) ?_
        have w1 : IntKind.i64.wrap ((t.length : Int) + 1) = (t.length : Int) + 1 := wrap64_in (by omega) (by omega)
        simp only [all2B, sameT, w1]
        simp
        decide
    · rw [if_neg hneg] at hc6'
      refine ⟨⟨Int.le_refl _, pos2⟩, _, ti_text, _, _, _, _, callIs_iff.2 (t10 hto hpz), _, callIs_iff.2 hc6', Nat.le_trans hlen (by decide), _, _, _, callIs_iff.2 hc7, ⟨Int.le_refl _, pos2⟩, _, ti_kind, fun h => absurd h (by rw [hkk]; decide), fun _ => ⟨fun h => ?_, fun _ =>
        ⟨fun h => absurd h (by decide), fun _ => ⟨fun h => absurd h (by decide), fun _ => ⟨fun h => absurd h (by decide), fun _ => ⟨fun _ => ⟨true, callIs_iff.2 (t11 (by simp) (by simp) ?_), fun _ => hr, fun h => nomatch h⟩, fun h => absurd (by omega) (of_decide_eq_false h)⟩⟩⟩⟩⟩⟩
      · simp at h
      · rw [← htk]; exact same_refl hto
theorem p3 (m k n : Int) (s : List UInt8) : ∃ A, PureOk PP (G8 m) XV3 (tbl T3) (itbl []) A [] 3 [vA k n s] (.bool true, []) := by
  by_cases h : s.length ≤ 100 ∧ validB k n s = true ∧ 2 ≤ k ∧ k ≤ 4
  · obtain ⟨h1, hv, h2, h4⟩ := h
    obtain ⟨t, tx, hx⟩ := said hv h2 h4
    exact ⟨_, p3v m k n s t tx h1 hv h2 h4 hx⟩
  · refine ⟨a3 k n 0 s [] [], ⟨?_⟩⟩
    rw [w3]
    have hr : ∀ {r : AV}, RetIs r [] (r, []) := retIs_iff.2 rfl
    refine ⟨true, callIs_iff.2 rfl, fun _ => ⟨fun _ => hr, fun h1 => ⟨validB k n s, callIs_iff.2 (t5 (by have := of_decide_eq_false h1; unfold strOk; omega)), fun hv => ⟨fun _ => hr, fun h2 => ⟨fun _ => hr, fun h4 => ?_⟩⟩, fun _ => hr⟩⟩, fun h => nomatch h⟩
    have h1 := of_decide_eq_false h1
    have h2 := of_decide_eq_false h2
    have h4 := of_decide_eq_false h4
    exact absurd ⟨by omega, hv, by omega, by omega⟩ h
def s3 : Spec := fun args => match args with
  | [.agg [.int .i64 _, .int .i64 _, .str _]] => some (.bool true, [])
  | _ => none
theorem o3 (m : Int) : SpecOk PP (G8 m) 3 s3 := spec_of (X := XV3) (m := []) mixed8 (tbl_cons (o4 m) (tbl_cons (o5 m) (tbl_cons (o6 m) (tbl_cons (o7' m) (tbl_cons (o8 m) (tbl_cons (o9 m) (tbl_cons (o10 m) (tbl_cons (o11 m) tbl_nil)))))))) itbl_nil fun args r h => by
  unfold s3 at h
  split at h
  · injection h with h; subst h
    exact p3 m _ _ _
  · cases h
theorem s3_true (l : V3) (_h : i64Ok l.n) : s3 [aV l] = some (.bool true, []) := rfl
end Go.Abs

namespace Go.Abs
open Go.ChangeShapes Go.WideShapes Go.ChangeAt Go.RowKit Go.Deep Go.ChangeMaps
section
variable {H : Type} {enc : TypeId × Value → H} {P : Program} {W : World}
theorem rep_len {E : Env} {w : World} {sz : Nat} {es : List AV} {o : Own} {v : Value} (h : Rep E w (.sl sz es o) v) : es.length ≤ 9223372036854775807 := by
  cases h with | sl _ _ _ A cap u hcap hmax hA hsz hcl ho hr h1 => exact Nat.le_trans hcap hmax
/-- a package variable has the size of its type -/
theorem glob_size (hsh : W.ShapedOpen P) {g n : Nat} (hg : g < P.globals.size) (hz : (((begin P (fun _ _ => 0) default).world.heap[g]?).bind Obj.row?).map (fun x => x.1.size) = some n) : g < W.heap.size ∧ W.cell? ⟨g, n, none⟩ = none := by
  obtain ⟨h1, _⟩ := hsh
  cases hx : ((begin P (fun _ _ => 0) default).world.heap[g]?).bind Obj.row? with
  | none => rw [hx] at hz; cases hz
  | some x =>
    obtain ⟨zero, t⟩ := x
    rw [hx] at hz
    simp only [Option.map_some, Option.some.injEq] at hz
    obtain ⟨cs, hcs, hsz, _⟩ := h1 g zero t hg hx
    refine ⟨(Array.getElem?_eq_some_iff.1 hcs).1, ?_⟩
    unfold World.cell?
    simp only [hcs]
    have : cs[n]? = none := Array.getElem?_eq_none (by omega)
    simpa using this
/-- a cell that is a slice, in a struct -/
theorem cell_slA {t e : TypeId} {sz : Nat} {α : Type} [Inhabited α] {g : α → AV} (ht : P.underlying t = some (.slice e)) (hc : P.cellsOf e = sz) (hsz : 0 < sz) (hg : ∀ a, (g a).cells.length = sz ∧ (g a).closed1 = true) (hel : ElemOk P W enc e g)
    {n : Nat} {v : Value} {x : DataW H × List MemPlace} (h : DataW.trod enc P W 0 (fun _ => true) true n t [v] = some x) : ∃ l : List α, Rep (oldE W) W (.sl sz (l.map g) .no) v ∧ v.oneCell' = true := by
  have hs : ∃ A len cap, v = .slice A len cap := by
    rcases open_slice ht h with ⟨hcs, _⟩ | ⟨a', len', cap', m, n, D, Pl, hcs, _⟩
    · injection hcs with h1 _; exact ⟨_, _, _, h1⟩
    · injection hcs with h1 _; exact ⟨_, _, _, h1⟩
  obtain ⟨A, len, cap, rfl⟩ := hs
  obtain ⟨l, hl⟩ := open_slB ht hc hsz hg hel ⟨A, len, cap, rfl⟩ (d := x.1) (ps := x.2) ⟨n, by simpa [Value.cells] using h⟩
  exact ⟨l, hl, rfl⟩
theorem int_rng {n : Int} (h : (Lit.int .i64 n).wf = true) : -9223372036854775808 ≤ n ∧ n < 9223372036854775808 := by
  simp [Lit.wf, IntKind.min, IntKind.max, IntKind.signed, IntKind.bits] at h
  omega
theorem open_intA {t : TypeId} (ht : P.underlying t = some (.int .i64))
    {v : Value} {d : DataW H} {ps : List MemPlace} {b0 : Nat} (hv : Value.okWide P W .any b0 t v) (h : DataW.Trod enc P W 0 (fun _ => true) true t v d ps) : ∃ n : Int, Rep (oldE W) W (.int .i64 n) v ∧ -9223372036854775808 ≤ n ∧ n < 9223372036854775808 := by
  obtain ⟨n, rfl⟩ := okWide_int ht hv
  obtain ⟨fuel, h⟩ := h
  obtain ⟨k, e, _, hw⟩ := DataW.trod_int ht h
  simp [Value.cells] at e
  subst e
  exact ⟨n, .int _ _, int_rng hw⟩
end
end Go.Abs
