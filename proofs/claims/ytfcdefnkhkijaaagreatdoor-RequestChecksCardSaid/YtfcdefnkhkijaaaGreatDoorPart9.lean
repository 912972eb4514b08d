/- Own texts, part 9. -/
import Derived.Test.YtfcdefnkhkijaaaGreatDoorPart4
import Derived.Test.YtfcdefnkhkijaaaGreatDoorPart5
import Derived.Test.YtfcdefnkhkijaaaGreatDoorPart7
import Derived.Test.YtfcdefnkhkijaaaGreatDoorPart8
import Derived.Test.YtfcdefnkhkijaaaGreatDoorPart3

namespace Go.Abs
open Go.Proofs
structure Ft where
 name : List UInt8
 entity : List UInt8
deriving DecidableEq
def ftC (f : Ft) : List AV := [.str f.name, .str f.entity, .opq, .opq, .opq, .opq, .opq, .opq, .opq, .opq, .opq, .opq, .opq, .opq, .opq, .opq, .opq, .opq]
def ftA (f : Ft) : AV := .agg (ftC f)
abbrev ftsL (l : List Ft) : List AV := l.map ftA
def unFt : AV → Option Ft
 | .agg [.str n, .str e, .opq, .opq, .opq, .opq, .opq, .opq, .opq, .opq, .opq, .opq, .opq, .opq, .opq, .opq, .opq, .opq] => some ⟨n, e⟩
 | _ => none
theorem unFt_ok (x : Ft) : unFt (ftA x) = some x := rfl
theorem unFt_inv (a : AV) (x : Ft) (h : unFt a = some x) : a = ftA x := by
 unfold unFt at h
 split at h
 ·injection h with h; subst h; rfl
 ·cases h
def zFt (o : Own) : List AV := [.str [], .str [], .int .i64 0, .sl 0 [] o, .str [], .int .i64 0, .str [], .str [], .str [], .int .i64 0, .int .i64 0, .str [], .sl 0 [] o, .int .i64 0, .int .i64 0, .int .i64 0, .sl 0 [] o, .int .i64 0]
def findF (l : List Ft) (n : List UInt8) : Option Ft := l.find? fun f => f.name == n
def findA (l : List Ft) (n : List UInt8) : AV :=
 match findF l n with
 | some f => .tup [ftA f, .bool true]
 | none => .tup [.agg (zFt .no), .bool false]
def sFind : Spec := fun args => match args with
 | [.sl sz fs .no, .str n] => match unL unFt fs with
  | some l => if sz = 18 ∧ l.length ≤ maxI then some (findA l n, []) else none
  | none => none
 | _ => none
def chkL (fs : List Ft) (en : List UInt8) : List (List UInt8) → Int
 | [] => 0
 | n :: l => match findF fs n with
  | none => 4
  | some f => if f.entity ≠ en then 5 else chkL fs en l
def chk (fs : List Ft) (r : Rq) : Int := if formB r then chkL fs r.entity r.feats else 240
def s17 : Spec := fun args => match args with
 | [.agg [.sl _ _ .no, .sl sz fs .no, .sl _ _ .no, .sl _ _ .no], a] => match unL unFt fs, unRqN a with
  | some l, some r => if sz = 18 ∧ l.length ≤ maxI ∧ keysOk r.labels then some (.int .i64 (chk l r), []) else none
  | _, _ => none
 | _ => none
def shFt : Sh0 → Sh1 := fun o => .agg [.str, .str, o, o, o, o, o, o, o, o, o, o, o, o, o, o, o, o]
def XF : Shapes := fun f => match f with
 | 2000052 => some (.val (shFt (.is .opq)), none)
 | f => X24 f
def st56 (n : List UInt8) : St := ⟨[some [.str n], some (zFt .nil)], []⟩
def a106 (n : List UInt8) (l : List Ft) : Anns := ⟨fun k => if k = 2 then some { α := Nat, slots := [0, 1, 7, 8], nb := 2, vals := fun i => [.sl 18 (ftsL l) .no, .fn 107 [.ptr 0 0], .int .i64 l.length, .int .i64 i], sS := fun _ => st56 n, I := fun i => i ≤ l.length ∧ ∀ f ∈ l.take i, (f.name == n) = false, μ := fun i => l.length - i } else none, nA⟩
def g56 : TCfg := { ps := [1], A := nAn, dr := 99 }
def cf56 (n : List UInt8) (l : List Ft) (f : FuncId) (_ : List AV) : PCfg := if f = 106 then { ps := [4], A := a106 n l } else { ps := [], A := nAn }
def fs56 (f : FuncId) : Bool := f = 106 || f = 107
abbrev J56 (m : Int) (mk : Mk) (n : List UInt8) (l : List Ft) : InC := inW PQ mk (GQ m) XF (tbl []) (itbl []) fs56 (cf56 n l) 3
def a105 (n : List UInt8) (l : List Ft) : Anns := ⟨fun k => if k = 2 then some { α := Nat, slots := [0, 1, 4, 6], nb := 1, vals := fun i => [.sl 18 (ftsL l) .no, .str n, .ptr 0 0, .int .i64 i], sS := fun _ => ⟨[some (zFt .nil)], []⟩, I := fun i => i ≤ l.length ∧ ∀ f ∈ l.take i, (f.name == n) = false, μ := fun i => l.length - i } else none, nA⟩
theorem w56 (m : Int) (n : List UInt8) (l : List Ft) (r : AV) : (tlaxW PQ idMk (GQ m) XF (tbl []) (itbl []) fs56 (J56 m idMk n l) g56 56 [.sl 18 (ftsL l) .no, .str n] (r, [])) =
((∃ (y : Nat),
    ValsAre
        [AV.sl ((18 : Nat)) (ftsL l) Own.no, AV.fn ((107 : Nat)) [AV.ptr ((0 : Nat)) ((0 : Nat))], AV.int IntKind.i64 (↑(ftsL l).length : Int),
 AV.int IntKind.i64 (0 : Int)]
        [AV.sl ((18 : Nat)) (ftsL l) Own.no, AV.fn ((107 : Nat)) [AV.ptr ((0 : Nat)) ((0 : Nat))], AV.int IntKind.i64 (↑l.length : Int),
 AV.int IntKind.i64 (↑y : Int)] ∧
      StIs
 { boxes := [some [AV.str n], some [AV.str [], AV.str [], AV.int IntKind.i64 (0 : Int), AV.sl ((0 : Nat)) [] Own.nil, AV.str [], AV.int IntKind.i64 (0 : Int), AV.str [], AV.str [], AV.str [], AV.int IntKind.i64 (0 : Int), AV.int IntKind.i64 (0 : Int), AV.str [], AV.sl ((0 : Nat)) [] Own.nil, AV.int IntKind.i64 (0 : Int), AV.int IntKind.i64 (0 : Int), AV.int IntKind.i64 (0 : Int), AV.sl ((0 : Nat)) [] Own.nil, AV.int IntKind.i64 (0 : Int)]], live := [] }
 { boxes := [some [AV.str n], some [AV.str [], AV.str [], AV.int IntKind.i64 (0 : Int), AV.sl ((0 : Nat)) [] Own.nil, AV.str [], AV.int IntKind.i64 (0 : Int), AV.str [], AV.str [], AV.str [], AV.int IntKind.i64 (0 : Int), AV.int IntKind.i64 (0 : Int), AV.str [], AV.sl ((0 : Nat)) [] Own.nil, AV.int IntKind.i64 (0 : Int), AV.int IntKind.i64 (0 : Int), AV.int IntKind.i64 (0 : Int), AV.sl ((0 : Nat)) [] Own.nil, AV.int IntKind.i64 (0 : Int)]], live := [] } ∧
        (y ≤ l.length ∧ ∀ (f : Ft), f ∈ List.take y l → (f.name == n) = false) ∧ True) ∧
  ∀ (x : Nat),
    (x ≤ l.length ∧ ∀ (f : Ft), f ∈ List.take x l → (f.name == n) = false) →
      (decide ((↑x : Int) < (↑l.length : Int)) = true →
 ((0 : Int) ≤ (↑x : Int) ∧ (↑x : Int) < (↑(ftsL l).length : Int)) ∧
 ∃ (s : List UInt8),
 ∃ (s_1 : List UInt8),
 takeAt PQ ((52 : Nat)) (ftsL l) (↑x : Int).toNat ((0 : Nat)) =
 some
 (AV.agg
 [AV.str s, AV.str s_1, AV.opq, AV.opq, AV.opq, AV.opq, AV.opq, AV.opq, AV.opq, AV.opq, AV.opq, AV.opq, AV.opq, AV.opq, AV.opq, AV.opq,
 AV.opq, AV.opq]) ∧
 ((s == n) = true →
 (decide ((↑x : Int) ≥ (0 : Int)) = true →
 ((0 : Int) ≤ (↑x : Int) ∧ (↑x : Int) < (↑(ftsL l).length : Int)) ∧
 ∃ (s : List UInt8),
 ∃ (s_2 : List UInt8),
 takeAt PQ ((52 : Nat)) (ftsL l) (↑x : Int).toNat ((0 : Nat)) =
 some
 (AV.agg
 [AV.str s, AV.str s_2, AV.opq, AV.opq, AV.opq, AV.opq, AV.opq, AV.opq, AV.opq, AV.opq, AV.opq, AV.opq, AV.opq, AV.opq,
 AV.opq, AV.opq, AV.opq, AV.opq]) ∧
 RetLax
 (AV.tup
 [AV.agg
 [AV.str s, AV.str s_2, AV.opq, AV.opq, AV.opq, AV.opq, AV.opq, AV.opq, AV.opq, AV.opq, AV.opq, AV.opq, AV.opq, AV.opq,
 AV.opq, AV.opq, AV.opq, AV.opq],
 AV.bool true])
 (r, [])) ∧
 (decide ((↑x : Int) ≥ (0 : Int)) = false →
 RetLax
 (AV.tup
 [AV.agg
 [AV.str [], AV.str [], AV.int IntKind.i64 (0 : Int), AV.sl ((0 : Nat)) [] Own.nil, AV.str [], AV.int IntKind.i64 (0 : Int),
 AV.str [], AV.str [], AV.str [], AV.int IntKind.i64 (0 : Int), AV.int IntKind.i64 (0 : Int), AV.str [],
 AV.sl ((0 : Nat)) [] Own.nil, AV.int IntKind.i64 (0 : Int), AV.int IntKind.i64 (0 : Int), AV.int IntKind.i64 (0 : Int),
 AV.sl ((0 : Nat)) [] Own.nil, AV.int IntKind.i64 (0 : Int)],
 AV.bool false])
 (r, []))) ∧
 ((s == n) = false →
 ∃ (y : Nat),
 ValsAre
 [AV.sl ((18 : Nat)) (ftsL l) Own.no, AV.fn ((107 : Nat)) [AV.ptr ((0 : Nat)) ((0 : Nat))], AV.int IntKind.i64 (↑l.length : Int),
 AV.int IntKind.i64 (IntKind.i64.wrap ((↑x : Int) + (1 : Int)))]
 [AV.sl ((18 : Nat)) (ftsL l) Own.no, AV.fn ((107 : Nat)) [AV.ptr ((0 : Nat)) ((0 : Nat))], AV.int IntKind.i64 (↑l.length : Int),
 AV.int IntKind.i64 (↑y : Int)] ∧
 StIs
 { boxes := [some [AV.str n], some [AV.str [], AV.str [], AV.int IntKind.i64 (0 : Int), AV.sl ((0 : Nat)) [] Own.nil, AV.str [], AV.int IntKind.i64 (0 : Int), AV.str [], AV.str [], AV.str [], AV.int IntKind.i64 (0 : Int), AV.int IntKind.i64 (0 : Int), AV.str [], AV.sl ((0 : Nat)) [] Own.nil, AV.int IntKind.i64 (0 : Int), AV.int IntKind.i64 (0 : Int), AV.int IntKind.i64 (0 : Int), AV.sl ((0 : Nat)) [] Own.nil, AV.int IntKind.i64 (0 : Int)]], live := [] }
 { boxes := [some [AV.str n], some [AV.str [], AV.str [], AV.int IntKind.i64 (0 : Int), AV.sl ((0 : Nat)) [] Own.nil, AV.str [], AV.int IntKind.i64 (0 : Int), AV.str [], AV.str [], AV.str [], AV.int IntKind.i64 (0 : Int), AV.int IntKind.i64 (0 : Int), AV.str [], AV.sl ((0 : Nat)) [] Own.nil, AV.int IntKind.i64 (0 : Int), AV.int IntKind.i64 (0 : Int), AV.int IntKind.i64 (0 : Int), AV.sl ((0 : Nat)) [] Own.nil, AV.int IntKind.i64 (0 : Int)]], live := [] } ∧
 (y ≤ l.length ∧ ∀ (f : Ft), f ∈ List.take y l → (f.name == n) = false) ∧ l.length - y < l.length - x)) ∧
        (decide ((↑x : Int) < (↑l.length : Int)) = false →
 (false = true →
 ((0 : Int) ≤ (-1 : Int) ∧ (-1 : Int) < (↑(ftsL l).length : Int)) ∧
 ∃ (s : List UInt8),
 ∃ (s_1 : List UInt8),
 takeAt PQ ((52 : Nat)) (ftsL l) ((0 : Nat)) ((0 : Nat)) =
 some
 (AV.agg
 [AV.str s, AV.str s_1, AV.opq, AV.opq, AV.opq, AV.opq, AV.opq, AV.opq, AV.opq, AV.opq, AV.opq, AV.opq, AV.opq, AV.opq, AV.opq,
 AV.opq, AV.opq, AV.opq]) ∧
 RetLax
 (AV.tup
 [AV.agg
 [AV.str s, AV.str s_1, AV.opq, AV.opq, AV.opq, AV.opq, AV.opq, AV.opq, AV.opq, AV.opq, AV.opq, AV.opq, AV.opq, AV.opq, AV.opq,
 AV.opq, AV.opq, AV.opq],
 AV.bool true])
 (r, [])) ∧
 (false = false →
 RetLax
 (AV.tup
 [AV.agg
 [AV.str [], AV.str [], AV.int IntKind.i64 (0 : Int), AV.sl ((0 : Nat)) [] Own.nil, AV.str [], AV.int IntKind.i64 (0 : Int), AV.str [],
 AV.str [], AV.str [], AV.int IntKind.i64 (0 : Int), AV.int IntKind.i64 (0 : Int), AV.str [], AV.sl ((0 : Nat)) [] Own.nil,
 AV.int IntKind.i64 (0 : Int), AV.int IntKind.i64 (0 : Int), AV.int IntKind.i64 (0 : Int), AV.sl ((0 : Nat)) [] Own.nil,
 AV.int IntKind.i64 (0 : Int)],
 AV.bool false])
 (r, [])))) := by kernel_rfl
theorem w105 (m : Int) (n : List UInt8) (l : List Ft) (r : AV) : (laxW PQ (GQ m) XF (tbl []) (itbl []) (a105 n l) [] 105 [.sl 18 (ftsL l) .no, .str n] (r, [])) =
((∃ (y : Nat),
    ValsAre [AV.sl ((18 : Nat)) (ftsL l) Own.no, AV.str n, AV.ptr ((0 : Nat)) ((0 : Nat)), AV.int IntKind.i64 (0 : Int)]
        [AV.sl ((18 : Nat)) (ftsL l) Own.no, AV.str n, AV.ptr ((0 : Nat)) ((0 : Nat)), AV.int IntKind.i64 (↑y : Int)] ∧
      StIs
 { boxes := [some [AV.str [], AV.str [], AV.int IntKind.i64 (0 : Int), AV.sl ((0 : Nat)) [] Own.nil, AV.str [], AV.int IntKind.i64 (0 : Int), AV.str [], AV.str [], AV.str [], AV.int IntKind.i64 (0 : Int), AV.int IntKind.i64 (0 : Int), AV.str [], AV.sl ((0 : Nat)) [] Own.nil, AV.int IntKind.i64 (0 : Int), AV.int IntKind.i64 (0 : Int), AV.int IntKind.i64 (0 : Int), AV.sl ((0 : Nat)) [] Own.nil, AV.int IntKind.i64 (0 : Int)]], live := [] }
 { boxes := [some [AV.str [], AV.str [], AV.int IntKind.i64 (0 : Int), AV.sl ((0 : Nat)) [] Own.nil, AV.str [], AV.int IntKind.i64 (0 : Int), AV.str [], AV.str [], AV.str [], AV.int IntKind.i64 (0 : Int), AV.int IntKind.i64 (0 : Int), AV.str [], AV.sl ((0 : Nat)) [] Own.nil, AV.int IntKind.i64 (0 : Int), AV.int IntKind.i64 (0 : Int), AV.int IntKind.i64 (0 : Int), AV.sl ((0 : Nat)) [] Own.nil, AV.int IntKind.i64 (0 : Int)]], live := [] } ∧
        (y ≤ l.length ∧ ∀ (f : Ft), f ∈ List.take y l → (f.name == n) = false) ∧ True) ∧
  ∀ (x : Nat),
    (x ≤ l.length ∧ ∀ (f : Ft), f ∈ List.take x l → (f.name == n) = false) →
      (decide ((↑x : Int) < (↑(ftsL l).length : Int)) = true →
 ((0 : Int) ≤ (↑x : Int) ∧ (↑x : Int) < (↑(ftsL l).length : Int)) ∧
 ∃ (s : List UInt8),
 takeAt PQ ((9 : Nat)) (ftsL l) (↑x : Int).toNat ((0 : Nat)) = some (AV.str s) ∧
 ((s == n) = true →
 ((0 : Int) ≤ (↑x : Int) ∧ (↑x : Int) < (↑(ftsL l).length : Int)) ∧
 ∃ (s : List UInt8),
 ∃ (s_1 : List UInt8),
 takeAt PQ ((52 : Nat)) (ftsL l) (↑x : Int).toNat ((0 : Nat)) =
 some
 (AV.agg
 [AV.str s, AV.str s_1, AV.opq, AV.opq, AV.opq, AV.opq, AV.opq, AV.opq, AV.opq, AV.opq, AV.opq, AV.opq, AV.opq, AV.opq, AV.opq,
 AV.opq, AV.opq, AV.opq]) ∧
 RetLax
 (AV.tup
 [AV.agg
 [AV.str s, AV.str s_1, AV.opq, AV.opq, AV.opq, AV.opq, AV.opq, AV.opq, AV.opq, AV.opq, AV.opq, AV.opq, AV.opq, AV.opq,
 AV.opq, AV.opq, AV.opq, AV.opq],
 AV.bool true])
 (r, [])) ∧
 ((s == n) = false →
 ∃ (y : Nat),
 ValsAre
 [AV.sl ((18 : Nat)) (ftsL l) Own.no, AV.str n, AV.ptr ((0 : Nat)) ((0 : Nat)),
 AV.int IntKind.i64 (IntKind.i64.wrap ((↑x : Int) + (1 : Int)))]
 [AV.sl ((18 : Nat)) (ftsL l) Own.no, AV.str n, AV.ptr ((0 : Nat)) ((0 : Nat)), AV.int IntKind.i64 (↑y : Int)] ∧
 StIs
 { boxes := [some [AV.str [], AV.str [], AV.int IntKind.i64 (0 : Int), AV.sl ((0 : Nat)) [] Own.nil, AV.str [], AV.int IntKind.i64 (0 : Int), AV.str [], AV.str [], AV.str [], AV.int IntKind.i64 (0 : Int), AV.int IntKind.i64 (0 : Int), AV.str [], AV.sl ((0 : Nat)) [] Own.nil, AV.int IntKind.i64 (0 : Int), AV.int IntKind.i64 (0 : Int), AV.int IntKind.i64 (0 : Int), AV.sl ((0 : Nat)) [] Own.nil, AV.int IntKind.i64 (0 : Int)]], live := [] }
 { boxes := [some [AV.str [], AV.str [], AV.int IntKind.i64 (0 : Int), AV.sl ((0 : Nat)) [] Own.nil, AV.str [], AV.int IntKind.i64 (0 : Int), AV.str [], AV.str [], AV.str [], AV.int IntKind.i64 (0 : Int), AV.int IntKind.i64 (0 : Int), AV.str [], AV.sl ((0 : Nat)) [] Own.nil, AV.int IntKind.i64 (0 : Int), AV.int IntKind.i64 (0 : Int), AV.int IntKind.i64 (0 : Int), AV.sl ((0 : Nat)) [] Own.nil, AV.int IntKind.i64 (0 : Int)]], live := [] } ∧
 (y ≤ l.length ∧ ∀ (f : Ft), f ∈ List.take y l → (f.name == n) = false) ∧ l.length - y < l.length - x)) ∧
        (decide ((↑x : Int) < (↑(ftsL l).length : Int)) = false →
 RetLax
 (AV.tup
 [AV.agg
 [AV.str [], AV.str [], AV.int IntKind.i64 (0 : Int), AV.sl ((0 : Nat)) [] Own.nil, AV.str [], AV.int IntKind.i64 (0 : Int), AV.str [],
 AV.str [], AV.str [], AV.int IntKind.i64 (0 : Int), AV.int IntKind.i64 (0 : Int), AV.str [], AV.sl ((0 : Nat)) [] Own.nil,
 AV.int IntKind.i64 (0 : Int), AV.int IntKind.i64 (0 : Int), AV.int IntKind.i64 (0 : Int), AV.sl ((0 : Nat)) [] Own.nil,
 AV.int IntKind.i64 (0 : Int)],
 AV.bool false])
 (r, []))) := by kernel_rfl
theorem agg52q : aggA PQ 52 = some true := by kernel_rfl
theorem size52q : sizeA PQ 52 = some 18 := by kernel_rfl
theorem take_ft {l : List Ft} {i : Nat} (h : i < l.length) : takeAt PQ 52 (ftsL l) i 0 = some (ftA l[i]) := by
 unfold takeAt
 rw [List.getElem?_map, List.getElem?_eq_getElem h]
 simp only [Option.map_some, agg52q, size52q, takeA]
 rfl
theorem take_fn {l : List Ft} {i : Nat} (h : i < l.length) : takeAt PQ 9 (ftsL l) i 0 = some (.str l[i].name) := by
 unfold takeAt
 rw [List.getElem?_map, List.getElem?_eq_getElem h]
 simp only [Option.map_some, agg9q, size9q, takeA]
 rfl
theorem find_at {l : List Ft} {n : List UInt8} {i : Nat} (h : i < l.length) (h1 : ∀ f ∈ l.take i, (f.name == n) = false) (he : (l[i].name == n) = true) : findF l n = some l[i] := by
 unfold findF
 have : l = l.take i ++ l[i] :: l.drop (i + 1) := by rw [← List.drop_eq_getElem_cons h, List.take_append_drop]
 conv => lhs; rw [this]
 rw [List.find?_append, List.find?_eq_none.2 (fun a ha => by rw [h1 a ha]; simp), Option.none_or, List.find?_cons, he]
theorem find_no {l : List Ft} {n : List UInt8} (h1 : ∀ f ∈ l, (f.name == n) = false) : findF l n = none := by
 unfold findF
 exact List.find?_eq_none.2 fun a ha => by rw [h1 a ha]; simp
theorem lax_ft (f : Ft) (b : Bool) : RetLax (.tup [ftA f, .bool b]) (.tup [ftA f, .bool b], []) := by
 refine ⟨⟨?_, rfl, trivial⟩, by rfl, rfl⟩
 refine ⟨rfl, rfl, rfl, rfl, rfl, rfl, rfl, rfl, rfl, rfl, rfl, rfl, rfl, rfl, rfl, rfl, rfl, rfl, trivial⟩
theorem lax_zFt : RetLax (.tup [.agg (zFt .nil), .bool false]) (.tup [.agg (zFt .no), .bool false], []) := by
 refine ⟨⟨?_, rfl, trivial⟩, by rfl, rfl⟩
 refine ⟨rfl, rfl, rfl, ⟨rfl, rfl, .inl rfl⟩, rfl, rfl, rfl, rfl, rfl, rfl, rfl, rfl, ⟨rfl, rfl, .inl rfl⟩, rfl, rfl, rfl, ⟨rfl, rfl, .inl rfl⟩, rfl, trivial⟩
theorem p56 (m : Int) (n : List UInt8) (l : List Ft) (hl : l.length ≤ maxI) : TLaxOk PQ (GQ m) XF (tbl []) (itbl []) fs56 (J56 m idMk n l) g56 56 [.sl 18 (ftsL l) .no, .str n] (findA l n, []) := by
 constructor
 rw [w56]
 unfold maxI at hl
 have hn : (ftsL l).length = l.length := List.length_map _
 refine ⟨⟨0, ⟨by rw [hn]; rfl⟩, ⟨rfl⟩, ⟨Nat.zero_le _, fun y hy => by simp at hy⟩, trivial⟩, fun i hi => ⟨fun lt => ?_, fun ge => ⟨nofun, fun _ => ?_⟩⟩⟩
 ·have lt := of_decide_eq_true lt
  have hil : i < l.length := by omega
  refine ⟨⟨by omega, by omega⟩, _, _, by rw [Int.toNat_natCast]; exact take_ft hil, fun c => ⟨fun _ => ⟨⟨by omega, by omega⟩, _, _, by rw [Int.toNat_natCast]; exact take_ft hil, ?_⟩, fun c2 => absurd (of_decide_eq_false c2) (by omega)⟩, fun c => ⟨i + 1, ⟨by rw [wrapI (by omega)]⟩, ⟨rfl⟩, ⟨hil, fun y hy => ?_⟩, by omega⟩⟩
  ·have : findA l n = .tup [ftA l[i], .bool true] := by unfold findA; rw [find_at hil hi.2 c]
   rw [this]
   exact lax_ft _ _
  ·rw [List.take_succ_eq_append_getElem hil] at hy
   rcases List.mem_append.1 hy with hy | hy
   ·exact hi.2 y hy
   ·simp at hy; subst hy; exact c
 ·have ge := of_decide_eq_false ge
  have := hi.2
  rw [List.take_of_length_le (by omega)] at this
  have : findA l n = .tup [.agg (zFt .no), .bool false] := by unfold findA; rw [find_no this]
  rw [this]
  exact lax_zFt
theorem p105 (m : Int) (n : List UInt8) (l : List Ft) (hl : l.length ≤ maxI) : LaxOk PQ (GQ m) XF (tbl []) (itbl []) (a105 n l) [] 105 [.sl 18 (ftsL l) .no, .str n] (findA l n, []) := by
 constructor
 rw [w105]
 unfold maxI at hl
 have hn : (ftsL l).length = l.length := List.length_map _
 refine ⟨⟨0, ⟨rfl⟩, ⟨rfl⟩, ⟨Nat.zero_le _, fun y hy => by simp at hy⟩, trivial⟩, fun i hi => ⟨fun lt => ?_, fun ge => ?_⟩⟩
 ·have lt := of_decide_eq_true lt
  rw [hn] at lt
  have hil : i < l.length := by omega
  refine ⟨⟨by omega, by omega⟩, _, by rw [Int.toNat_natCast]; exact take_fn hil, fun c => ⟨⟨by omega, by omega⟩, _, _, by rw [Int.toNat_natCast]; exact take_ft hil, ?_⟩, fun c => ⟨i + 1, ⟨by rw [wrapI (by omega)]⟩, ⟨rfl⟩, ⟨hil, fun y hy => ?_⟩, by omega⟩⟩
  ·have : findA l n = .tup [ftA l[i], .bool true] := by unfold findA; rw [find_at hil hi.2 c]
   rw [this]
   exact lax_ft _ _
  ·rw [List.take_succ_eq_append_getElem hil] at hy
   rcases List.mem_append.1 hy with hy | hy
   ·exact hi.2 y hy
   ·simp at hy; subst hy; exact c
 ·have ge := of_decide_eq_false ge
  rw [hn] at ge
  have := hi.2
  rw [List.take_of_length_le (by omega)] at this
  have : findA l n = .tup [.agg (zFt .no), .bool false] := by unfold findA; rw [find_no this]
  rw [this]
  exact lax_zFt
theorem J56_ok (m : Int) (n : List UInt8) (l : List Ft) : InOk PQ (GQ m) fs56 (J56 m idMk n l) := inW_ok mixedQ tbl_nil itbl_nil 3
open Classical in
theorem tlax_of' {P : Program} {G : Glob} (hm : P.follows .mixedOrders = true) {f : FuncId} {s : Spec}
  (h : ∀ args r, s args = some r → ∃ (X : Shapes) (R : Callee) (C : CCallee) (fs : FuncId → Bool) (J : InC) (g : TCfg), CalleeOk P G R ∧ ICalleeOk P G (lowC C) ∧ InOk P G fs J ∧ TLaxOk P G X R C fs J g f args r) : SpecOk P G f s := by
 intro g args r lv hr
 by_cases e : g = f
 ·simp only [e, if_true] at hr
  obtain ⟨X, R, C, fs, J, gg, hR, hC, hJ, hh⟩ := h args _ hr
  have := tlax_of (X := X) (R := R) (C := C) (fs := fs) (J := J) (P := P) (G := G) (f := f) (s := fun xs => if xs = args then some (r, lv) else none) hm hR hC hJ (fun xs r' h' => by
   split at h'
   ·rename_i ea
    injection h' with h'
    subst ea; subst h'
    exact ⟨gg, hh⟩
   ·cases h')
  exact this g args r lv (by simp only [e, if_true])
 ·simp only [e, if_false] at hr
  cases hr
theorem o56 (m : Int) : SpecOk PQ (GQ m) 56 sFind := tlax_of' mixedQ fun args r h => by
 unfold sFind at h
 split at h
 case h_2 => cases h
 split at h
 case h_2 => cases h
 rename_i l hu
 split at h
 case isFalse => cases h
 rename_i hs
 injection h with h; subst h
 rw [unL_inv unFt_inv hu, hs.1]
 exact ⟨_, _, _, _, _, _, tbl_nil, itbl_nil, J56_ok m _ _, p56 m _ _ hs.2⟩
theorem o105 (m : Int) : SpecOk PQ (GQ m) 105 sFind := lax_of (X := XF) (m := []) mixedQ tbl_nil itbl_nil fun args r h => by
 unfold sFind at h
 split at h
 case h_2 => cases h
 split at h
 case h_2 => cases h
 rename_i l hu
 split at h
 case isFalse => cases h
 rename_i hs
 injection h with h; subst h
 rw [unL_inv unFt_inv hu, hs.1]
 exact ⟨_, p105 m _ _ hs.2⟩
theorem SpecOk.tell {P : Program} {G : Glob} {f : FuncId} {s s' : Spec} (hs : SpecOk P G f s) (h : ∀ args r', s' args = some r' → ∃ r, s args = some (r, []) ∧ (∀ E w v, Rep E w r v → Rep E w r'.1 v) ∧ r'.2 = []) : SpecOk P G f s' := by
 intro g args r' lv hr
 by_cases e : g = f
 ·subst e
  simp only [if_true] at hr
  obtain ⟨r, h1, h2, h3⟩ := h args _ hr
  simp only at h2 h3
  subst h3
  intro E w vs hI hG hn hv hcl
  refine (hs g args r [] (by simp only [if_true]; exact h1) E w vs hI hG hn hv hcl).mono ?_
  rintro e w' ⟨v, he, I', k1, k2, k3, k4⟩
  refine ⟨v, he, I', k1, k2, k3, .inl ⟨rfl, fun B K => ?_⟩⟩
  rcases k4 with ⟨_, k4⟩ | ⟨n, e', hv', sz, xs, k5, _⟩
  ·exact h2 _ _ _ (k4 B K)
  ·cases k5
 ·simp only [e, if_false] at hr
  cases hr
def fnd (l : List Ft) (n : List UInt8) : Ft × Bool :=
 match findF l n with
 | some f => (f, true)
 | none => (⟨[], []⟩, false)
def fndA (l : List Ft) (n : List UInt8) : AV := .tup [ftA (fnd l n).1, .bool (fnd l n).2]
theorem fnd_rep {E : Env} {w : World} {l : List Ft} {n : List UInt8} {v : Value} (h : Rep E w (findA l n) v) : Rep E w (fndA l n) v := by
 unfold findA at h
 unfold fndA fnd
 cases hf : findF l n with
 | some f => simp only [hf] at h; exact h
 | none =>
  simp only [hf] at h
  cases h with
  | tup _ vs hn hc =>
   refine .tup _ vs hn fun i c u hi hu => ?_
   match i, hi with
   | 0, hi =>
    simp at hi; subst hi
    have h0 := hc 0 _ u rfl hu
    cases h0 with
    | agg _ us hn1 h1 hc1 =>
     refine .agg _ us hn1 h1 fun j c u hj hu => ?_
     match j, hj with
     | 0, hj => exact hc1 0 c u hj hu
     | 1, hj => exact hc1 1 c u hj hu
     | j + 2, hj =>
      have : c = .opq := by
       have hm := List.mem_of_getElem? (l := [AV.opq, .opq, .opq, .opq, .opq, .opq, .opq, .opq, .opq, .opq, .opq, .opq, .opq, .opq, .opq, .opq]) (i := j) (a := c) hj
       simpa using hm
      subst this
      exact .opq u (h1 (j + 2) u hu)
   | 1, hi => exact hc 1 c u hi hu
def sFind' : Spec := fun args => match args with
 | [.sl sz fs .no, .str n] => match unL unFt fs with
  | some l => if sz = 18 ∧ l.length ≤ maxI then some (fndA l n, []) else none
  | none => none
 | _ => none
def sFeat' : Spec := fun args => match args with
 | [.agg [.sl _ _ .no, .sl sz fs .no, .sl _ _ .no, .sl _ _ .no], .str n] => match unL unFt fs with
  | some l => if sz = 18 ∧ l.length ≤ maxI then some (fndA l n, []) else none
  | none => none
 | _ => none
theorem find_tell {P : Program} {G : Glob} {f : FuncId} (h : SpecOk P G f sFind) : SpecOk P G f sFind' := h.tell fun args r' hr => by
 unfold sFind' at hr
 split at hr
 case h_2 => cases hr
 split at hr
 case h_2 => cases hr
 rename_i hu
 split at hr
 case isFalse => cases hr
 rename_i hc
 injection hr with hr; subst hr
 exact ⟨_, by simp only [sFind, hu, if_pos hc], fun E w v h => fnd_rep h, rfl⟩
def shFnd : Sh × Option TypeId := (.tup [shFt (.is .opq), .one .bool], none)
def X25 : Shapes := fun f => match f with
 | 19 | 55 | 56 | 105 => some shFnd
 | 16 => some shB
 | f => X24 f
def ctC (a : Nat) (ts : List AV) (l : List Ft) (b : Nat) (ds : List AV) (c : Nat) (ps : List AV) : List AV := [.sl a ts .no, .sl 18 (ftsL l) .no, .sl b ds .no, .sl c ps .no]
def stC (a : Nat) (ts : List AV) (l : List Ft) (b : Nat) (ds : List AV) (c : Nat) (ps : List AV) (r : Rq) : St := ⟨[some (ctC a ts l b ds c ps), some [.str r.entity, .sl 1 (strsL r.feats) .no, .sl 3 (lbsL r.labels) .no, .int .i64 r.seed, .int .i64 r.permille]], []⟩
def a17 (a : Nat) (ts : List AV) (l : List Ft) (b : Nat) (ds : List AV) (c : Nat) (ps : List AV) (r : Rq) : Anns := ⟨fun k => if k = 4 then some { α := Nat, slots := [2, 3, 13, 14, 15], nb := 2, vals := fun i => [.ptr 0 0, .ptr 1 0, .sl 1 (strsL r.feats) .no, .int .i64 r.feats.length, .int .i64 i], sS := fun _ => stC a ts l b ds c ps r, I := fun i => i ≤ r.feats.length ∧ chkL l r.entity r.feats = chkL l r.entity (r.feats.drop i), μ := fun i => r.feats.length - i } else none, nA⟩
def a18 (a : Nat) (ts : List AV) (l : List Ft) (b : Nat) (ds : List AV) (c : Nat) (ps : List AV) (r : Rq) : Anns := ⟨fun k => if k = 4 then some { α := Nat, slots := [2, 3, 5], nb := 2, vals := fun i => [.ptr 0 0, .ptr 1 0, .int .i64 i], sS := fun _ => stC a ts l b ds c ps r, I := fun i => i ≤ r.feats.length ∧ chkL l r.entity r.feats = chkL l r.entity (r.feats.drop i), μ := fun i => r.feats.length - i } else none, nA⟩
def fewB (r : Rq) : Bool := decide (r.feats.length ≤ 100) && decide (r.labels.length ≤ 300)
def s10 : Spec := fun args => match args with
 | [a] => match unRqN a with
  | some r => some (.bool (fewB r), [])
  | none => none
 | _ => none
def sTrue : Spec := fun args => match args with
 | [] => some (.bool true, [])
 | _ => none
theorem w19 (m : Int) (n : List UInt8) (a : Nat) (ts : List AV) (l : List Ft) (b : Nat) (ds : List AV) (c : Nat) (ps : List AV) (r : AV) : (laxW PQ (GQ m) X25 (tbl [(56, sFind')]) (itbl []) nAn [] 19 [.agg (ctC a ts l b ds c ps), .str n] (r, [])) =
(∃ (s : List UInt8),
  ∃ (s_1 : List UInt8),
    ∃ (b : Bool),
      CallIs (tbl [((56 : Nat), sFind')] ((56 : Nat)) [AV.sl ((18 : Nat)) (ftsL l) Own.no, AV.str n])
 (AV.tup
 [AV.agg
 [AV.str s, AV.str s_1, AV.opq, AV.opq, AV.opq, AV.opq, AV.opq, AV.opq, AV.opq, AV.opq, AV.opq, AV.opq, AV.opq, AV.opq, AV.opq, AV.opq, AV.opq,
 AV.opq],
 AV.bool b])
 [] ∧
        (b = true →
 RetLax
 (AV.tup
 [AV.agg
 [AV.str s, AV.str s_1, AV.opq, AV.opq, AV.opq, AV.opq, AV.opq, AV.opq, AV.opq, AV.opq, AV.opq, AV.opq, AV.opq, AV.opq, AV.opq, AV.opq,
 AV.opq, AV.opq],
 AV.bool true])
 (r, [])) ∧
 (b = false →
 RetLax
 (AV.tup
 [AV.agg
 [AV.str s, AV.str s_1, AV.opq, AV.opq, AV.opq, AV.opq, AV.opq, AV.opq, AV.opq, AV.opq, AV.opq, AV.opq, AV.opq, AV.opq, AV.opq, AV.opq,
 AV.opq, AV.opq],
 AV.bool false])
 (r, []))) := by kernel_rfl
theorem w55 (m : Int) (n : List UInt8) (a : Nat) (ts : List AV) (l : List Ft) (b : Nat) (ds : List AV) (c : Nat) (ps : List AV) (r : AV) : (laxW PQ (GQ m) X25 (tbl [(105, sFind')]) (itbl []) nAn [] 55 [.agg (ctC a ts l b ds c ps), .str n] (r, [])) =
(∃ (s : List UInt8),
  ∃ (s_1 : List UInt8),
    ∃ (b : Bool),
      CallIs (tbl [((105 : Nat), sFind')] ((105 : Nat)) [AV.sl ((18 : Nat)) (ftsL l) Own.no, AV.str n])
 (AV.tup
 [AV.agg
 [AV.str s, AV.str s_1, AV.opq, AV.opq, AV.opq, AV.opq, AV.opq, AV.opq, AV.opq, AV.opq, AV.opq, AV.opq, AV.opq, AV.opq, AV.opq, AV.opq, AV.opq,
 AV.opq],
 AV.bool b])
 [] ∧
        (b = true →
 RetLax
 (AV.tup
 [AV.agg
 [AV.str s, AV.str s_1, AV.opq, AV.opq, AV.opq, AV.opq, AV.opq, AV.opq, AV.opq, AV.opq, AV.opq, AV.opq, AV.opq, AV.opq, AV.opq, AV.opq,
 AV.opq, AV.opq],
 AV.bool true])
 (r, [])) ∧
 (b = false →
 RetLax
 (AV.tup
 [AV.agg
 [AV.str s, AV.str s_1, AV.opq, AV.opq, AV.opq, AV.opq, AV.opq, AV.opq, AV.opq, AV.opq, AV.opq, AV.opq, AV.opq, AV.opq, AV.opq, AV.opq,
 AV.opq, AV.opq],
 AV.bool false])
 (r, []))) := by kernel_rfl
theorem w10 (m : Int) (x : Rq) (r : AV) : (pureW PQ (GQ m) X25 (tbl []) (itbl []) nAn [] 10 [rqA x] (r, [])) =
((decide ((↑(strsL x.feats).length : Int) ≤ (100 : Int)) = true →
  (decide ((↑(lbsL x.labels).length : Int) ≤ (300 : Int)) = true → RetIs (AV.bool true) [] (r, [])) ∧
   (decide ((↑(lbsL x.labels).length : Int) ≤ (300 : Int)) = false → RetIs (AV.bool false) [] (r, []))) ∧
 (decide ((↑(strsL x.feats).length : Int) ≤ (100 : Int)) = false → RetIs (AV.bool false) [] (r, []))) := by kernel_rfl
theorem w17 (m : Int) (a : Nat) (ts : List AV) (l : List Ft) (b : Nat) (ds : List AV) (c : Nat) (ps : List AV) (x : Rq) (r : AV) : (pureW PQ (GQ m) X25 (tbl [(46, s46), (19, sFeat')]) (itbl []) (a17 a ts l b ds c ps x) [] 17 [.agg (ctC a ts l b ds c ps), rqA x] (r, [])) =
(∃ (b_1 : Bool),
  CallIs
      (tbl [((46 : Nat), s46), ((19 : Nat), sFeat')] ((46 : Nat))
        [AV.agg
 [AV.str x.entity, AV.sl ((1 : Nat)) (strsL x.feats) Own.no, AV.sl ((3 : Nat)) (lbsL x.labels) Own.no, AV.int IntKind.i64 x.seed,
 AV.int IntKind.i64 x.permille]])
      (AV.bool b_1) [] ∧
    (b_1 = true →
        (∃ (y : Nat),
 ValsAre
 [AV.ptr ((0 : Nat)) ((0 : Nat)), AV.ptr ((1 : Nat)) ((0 : Nat)), AV.sl ((1 : Nat)) (strsL x.feats) Own.no,
 AV.int IntKind.i64 (↑(strsL x.feats).length : Int), AV.int IntKind.i64 (0 : Int)]
 [AV.ptr ((0 : Nat)) ((0 : Nat)), AV.ptr ((1 : Nat)) ((0 : Nat)), AV.sl ((1 : Nat)) (strsL x.feats) Own.no,
 AV.int IntKind.i64 (↑x.feats.length : Int), AV.int IntKind.i64 (↑y : Int)] ∧
 StIs
 { boxes := [some [AV.sl a ts Own.no, AV.sl ((18 : Nat)) (ftsL l) Own.no, AV.sl b ds Own.no, AV.sl c ps Own.no], some [AV.str x.entity, AV.sl ((1 : Nat)) (strsL x.feats) Own.no, AV.sl ((3 : Nat)) (lbsL x.labels) Own.no, AV.int IntKind.i64 x.seed, AV.int IntKind.i64 x.permille]], live := [] }
 { boxes := [some [AV.sl a ts Own.no, AV.sl ((18 : Nat)) (ftsL l) Own.no, AV.sl b ds Own.no, AV.sl c ps Own.no], some [AV.str x.entity, AV.sl ((1 : Nat)) (strsL x.feats) Own.no, AV.sl ((3 : Nat)) (lbsL x.labels) Own.no, AV.int IntKind.i64 x.seed, AV.int IntKind.i64 x.permille]], live := [] } ∧
 (y ≤ x.feats.length ∧ chkL l x.entity x.feats = chkL l x.entity (List.drop y x.feats)) ∧ True) ∧
 ∀ (x_1 : Nat),
 x_1 ≤ x.feats.length ∧ chkL l x.entity x.feats = chkL l x.entity (List.drop x_1 x.feats) →
 (decide ((↑x_1 : Int) < (↑x.feats.length : Int)) = true →
 ((0 : Int) ≤ (↑x_1 : Int) ∧ (↑x_1 : Int) < (↑(strsL x.feats).length : Int)) ∧
 ∃ (s : List UInt8),
 takeAt PQ ((9 : Nat)) (strsL x.feats) (↑x_1 : Int).toNat ((0 : Nat)) = some (AV.str s) ∧
 ∃ (s_1 : List UInt8),
 ∃ (s_2 : List UInt8),
 ∃ (b_2 : Bool),
 CallIs
 (tbl [((46 : Nat), s46), ((19 : Nat), sFeat')] ((19 : Nat))
 [AV.agg [AV.sl a ts Own.no, AV.sl ((18 : Nat)) (ftsL l) Own.no, AV.sl b ds Own.no, AV.sl c ps Own.no], AV.str s])
 (AV.tup
 [AV.agg
 [AV.str s_1, AV.str s_2, AV.opq, AV.opq, AV.opq, AV.opq, AV.opq, AV.opq, AV.opq, AV.opq, AV.opq, AV.opq, AV.opq, AV.opq,
 AV.opq, AV.opq, AV.opq, AV.opq],
 AV.bool b_2])
 [] ∧
 (b_2 = true →
 ((!s_2 == x.entity) = true → RetIs (AV.int IntKind.i64 (5 : Int)) [] (r, [])) ∧
 ((!s_2 == x.entity) = false →
 ∃ (y : Nat),
 ValsAre
 [AV.ptr ((0 : Nat)) ((0 : Nat)), AV.ptr ((1 : Nat)) ((0 : Nat)), AV.sl ((1 : Nat)) (strsL x.feats) Own.no,
 AV.int IntKind.i64 (↑x.feats.length : Int), AV.int IntKind.i64 (IntKind.i64.wrap ((↑x_1 : Int) + (1 : Int)))]
 [AV.ptr ((0 : Nat)) ((0 : Nat)), AV.ptr ((1 : Nat)) ((0 : Nat)), AV.sl ((1 : Nat)) (strsL x.feats) Own.no,
 AV.int IntKind.i64 (↑x.feats.length : Int), AV.int IntKind.i64 (↑y : Int)] ∧
 StIs
 { boxes := [some [AV.sl a ts Own.no, AV.sl ((18 : Nat)) (ftsL l) Own.no, AV.sl b ds Own.no, AV.sl c ps Own.no], some [AV.str x.entity, AV.sl ((1 : Nat)) (strsL x.feats) Own.no, AV.sl ((3 : Nat)) (lbsL x.labels) Own.no, AV.int IntKind.i64 x.seed, AV.int IntKind.i64 x.permille]], live := [] }
 { boxes := [some [AV.sl a ts Own.no, AV.sl ((18 : Nat)) (ftsL l) Own.no, AV.sl b ds Own.no, AV.sl c ps Own.no], some [AV.str x.entity, AV.sl ((1 : Nat)) (strsL x.feats) Own.no, AV.sl ((3 : Nat)) (lbsL x.labels) Own.no, AV.int IntKind.i64 x.seed, AV.int IntKind.i64 x.permille]], live := [] } ∧
 (y ≤ x.feats.length ∧ chkL l x.entity x.feats = chkL l x.entity (List.drop y x.feats)) ∧
 x.feats.length - y < x.feats.length - x_1)) ∧
 (b_2 = false → RetIs (AV.int IntKind.i64 (4 : Int)) [] (r, []))) ∧
 (decide ((↑x_1 : Int) < (↑x.feats.length : Int)) = false → RetIs (AV.int IntKind.i64 (0 : Int)) [] (r, []))) ∧
      (b_1 = false → RetIs (AV.int IntKind.i64 (240 : Int)) [] (r, []))) := by kernel_rfl
theorem w18 (m : Int) (a : Nat) (ts : List AV) (l : List Ft) (b : Nat) (ds : List AV) (c : Nat) (ps : List AV) (x : Rq) (r : AV) : (pureW PQ (GQ m) X25 (tbl [(33, s33), (55, sFeat')]) (itbl []) (a18 a ts l b ds c ps x) [] 18 [.agg (ctC a ts l b ds c ps), rqA x] (r, [])) =
(∃ (b_1 : Bool),
  CallIs
      (tbl [((33 : Nat), s33), ((55 : Nat), sFeat')] ((33 : Nat))
        [AV.agg
 [AV.str x.entity, AV.sl ((1 : Nat)) (strsL x.feats) Own.no, AV.sl ((3 : Nat)) (lbsL x.labels) Own.no, AV.int IntKind.i64 x.seed,
 AV.int IntKind.i64 x.permille]])
      (AV.bool b_1) [] ∧
    (b_1 = true →
        (∃ (y : Nat),
 ValsAre [AV.ptr ((0 : Nat)) ((0 : Nat)), AV.ptr ((1 : Nat)) ((0 : Nat)), AV.int IntKind.i64 (0 : Int)]
 [AV.ptr ((0 : Nat)) ((0 : Nat)), AV.ptr ((1 : Nat)) ((0 : Nat)), AV.int IntKind.i64 (↑y : Int)] ∧
 StIs
 { boxes := [some [AV.sl a ts Own.no, AV.sl ((18 : Nat)) (ftsL l) Own.no, AV.sl b ds Own.no, AV.sl c ps Own.no], some [AV.str x.entity, AV.sl ((1 : Nat)) (strsL x.feats) Own.no, AV.sl ((3 : Nat)) (lbsL x.labels) Own.no, AV.int IntKind.i64 x.seed, AV.int IntKind.i64 x.permille]], live := [] }
 { boxes := [some [AV.sl a ts Own.no, AV.sl ((18 : Nat)) (ftsL l) Own.no, AV.sl b ds Own.no, AV.sl c ps Own.no], some [AV.str x.entity, AV.sl ((1 : Nat)) (strsL x.feats) Own.no, AV.sl ((3 : Nat)) (lbsL x.labels) Own.no, AV.int IntKind.i64 x.seed, AV.int IntKind.i64 x.permille]], live := [] } ∧
 (y ≤ x.feats.length ∧ chkL l x.entity x.feats = chkL l x.entity (List.drop y x.feats)) ∧ True) ∧
 ∀ (x_1 : Nat),
 x_1 ≤ x.feats.length ∧ chkL l x.entity x.feats = chkL l x.entity (List.drop x_1 x.feats) →
 (decide ((↑x_1 : Int) < (↑(strsL x.feats).length : Int)) = true →
 ((0 : Int) ≤ (↑x_1 : Int) ∧ (↑x_1 : Int) < (↑(strsL x.feats).length : Int)) ∧
 ∃ (s : List UInt8),
 takeAt PQ ((9 : Nat)) (strsL x.feats) (↑x_1 : Int).toNat ((0 : Nat)) = some (AV.str s) ∧
 ∃ (s_1 : List UInt8),
 ∃ (s_2 : List UInt8),
 ∃ (b_2 : Bool),
 CallIs
 (tbl [((33 : Nat), s33), ((55 : Nat), sFeat')] ((55 : Nat))
 [AV.agg [AV.sl a ts Own.no, AV.sl ((18 : Nat)) (ftsL l) Own.no, AV.sl b ds Own.no, AV.sl c ps Own.no], AV.str s])
 (AV.tup
 [AV.agg
 [AV.str s_1, AV.str s_2, AV.opq, AV.opq, AV.opq, AV.opq, AV.opq, AV.opq, AV.opq, AV.opq, AV.opq, AV.opq, AV.opq, AV.opq,
 AV.opq, AV.opq, AV.opq, AV.opq],
 AV.bool b_2])
 [] ∧
 (b_2 = true →
 ((!s_2 == x.entity) = true → RetIs (AV.int IntKind.i64 (5 : Int)) [] (r, [])) ∧
 ((!s_2 == x.entity) = false →
 ∃ (y : Nat),
 ValsAre
 [AV.ptr ((0 : Nat)) ((0 : Nat)), AV.ptr ((1 : Nat)) ((0 : Nat)),
 AV.int IntKind.i64 (IntKind.i64.wrap ((↑x_1 : Int) + (1 : Int)))]
 [AV.ptr ((0 : Nat)) ((0 : Nat)), AV.ptr ((1 : Nat)) ((0 : Nat)), AV.int IntKind.i64 (↑y : Int)] ∧
 StIs
 { boxes := [some [AV.sl a ts Own.no, AV.sl ((18 : Nat)) (ftsL l) Own.no, AV.sl b ds Own.no, AV.sl c ps Own.no], some [AV.str x.entity, AV.sl ((1 : Nat)) (strsL x.feats) Own.no, AV.sl ((3 : Nat)) (lbsL x.labels) Own.no, AV.int IntKind.i64 x.seed, AV.int IntKind.i64 x.permille]], live := [] }
 { boxes := [some [AV.sl a ts Own.no, AV.sl ((18 : Nat)) (ftsL l) Own.no, AV.sl b ds Own.no, AV.sl c ps Own.no], some [AV.str x.entity, AV.sl ((1 : Nat)) (strsL x.feats) Own.no, AV.sl ((3 : Nat)) (lbsL x.labels) Own.no, AV.int IntKind.i64 x.seed, AV.int IntKind.i64 x.permille]], live := [] } ∧
 (y ≤ x.feats.length ∧ chkL l x.entity x.feats = chkL l x.entity (List.drop y x.feats)) ∧
 x.feats.length - y < x.feats.length - x_1)) ∧
 (b_2 = false → RetIs (AV.int IntKind.i64 (4 : Int)) [] (r, []))) ∧
 (decide ((↑x_1 : Int) < (↑(strsL x.feats).length : Int)) = false → RetIs (AV.int IntKind.i64 (0 : Int)) [] (r, []))) ∧
      (b_1 = false → RetIs (AV.int IntKind.i64 (240 : Int)) [] (r, []))) := by kernel_rfl
theorem w4 (m : Int) (a : Nat) (ts : List AV) (l : List Ft) (b : Nat) (ds : List AV) (c : Nat) (ps : List AV) (x : Rq) (r : AV) : (pureW PQ (GQ m) X25 (tbl [(10, s10), (17, s17), (18, s17), (16, sTrue)]) (itbl []) nAn [] 4 [.agg (ctC a ts l b ds c ps), rqA x] (r, [])) =
(∃ (b_1 : Bool),
  CallIs
      (tbl [((10 : Nat), s10), ((17 : Nat), s17), ((18 : Nat), s17), ((16 : Nat), sTrue)] ((10 : Nat))
        [AV.agg
 [AV.str x.entity, AV.sl ((1 : Nat)) (strsL x.feats) Own.no, AV.sl ((3 : Nat)) (lbsL x.labels) Own.no, AV.int IntKind.i64 x.seed,
 AV.int IntKind.i64 x.permille]])
      (AV.bool b_1) [] ∧
    (b_1 = true →
        (decide ((↑(ftsL l).length : Int) > (60 : Int)) = true → RetIs (AV.bool true) [] (r, [])) ∧
 (decide ((↑(ftsL l).length : Int) > (60 : Int)) = false →
 ∃ (n : Int),
 CallIs
 (tbl [((10 : Nat), s10), ((17 : Nat), s17), ((18 : Nat), s17), ((16 : Nat), sTrue)] ((17 : Nat))
 [AV.agg [AV.sl a ts Own.no, AV.sl ((18 : Nat)) (ftsL l) Own.no, AV.sl b ds Own.no, AV.sl c ps Own.no],
 AV.agg
 [AV.str x.entity, AV.sl ((1 : Nat)) (strsL x.feats) Own.no, AV.sl ((3 : Nat)) (lbsL x.labels) Own.no, AV.int IntKind.i64 x.seed,
 AV.int IntKind.i64 x.permille]])
 (AV.int IntKind.i64 n) [] ∧
 ∃ (n_1 : Int),
 CallIs
 (tbl [((10 : Nat), s10), ((17 : Nat), s17), ((18 : Nat), s17), ((16 : Nat), sTrue)] ((18 : Nat))
 [AV.agg [AV.sl a ts Own.no, AV.sl ((18 : Nat)) (ftsL l) Own.no, AV.sl b ds Own.no, AV.sl c ps Own.no],
 AV.agg
 [AV.str x.entity, AV.sl ((1 : Nat)) (strsL x.feats) Own.no, AV.sl ((3 : Nat)) (lbsL x.labels) Own.no, AV.int IntKind.i64 x.seed,
 AV.int IntKind.i64 x.permille]])
 (AV.int IntKind.i64 n_1) [] ∧
 ((n == n_1) = true →
 ∃ (b : Bool),
 CallIs (some (AV.bool true, [])) (AV.bool b) [] ∧
 (b = true → RetIs (AV.bool true) [] (r, [])) ∧ (b = false → RetIs (AV.bool false) [] (r, []))) ∧
 ((n == n_1) = false → RetIs (AV.bool false) [] (r, [])))) ∧
      (b_1 = false → RetIs (AV.bool true) [] (r, []))) := by kernel_rfl
theorem runFind' {l : List Ft} {n : List UInt8} (hl : l.length ≤ maxI) : sFind' [.sl 18 (ftsL l) .no, .str n] = some (fndA l n, []) := by
 simp only [sFind', unL_map unFt_ok]
 rw [if_pos ⟨trivial, hl⟩]
theorem runFeat' {a : Nat} {ts : List AV} {l : List Ft} {b : Nat} {ds : List AV} {c : Nat} {ps : List AV} {n : List UInt8} (hl : l.length ≤ maxI) : sFeat' [.agg [.sl a ts .no, .sl 18 (ftsL l) .no, .sl b ds .no, .sl c ps .no], .str n] = some (fndA l n, []) := by
 simp only [sFeat', unL_map unFt_ok]
 rw [if_pos ⟨trivial, hl⟩]
theorem p19 (m : Int) (n : List UInt8) (a : Nat) (ts : List AV) (l : List Ft) (b : Nat) (ds : List AV) (c : Nat) (ps : List AV) (hl : l.length ≤ maxI) : LaxOk PQ (GQ m) X25 (tbl [(56, sFind')]) (itbl []) nAn [] 19 [.agg (ctC a ts l b ds c ps), .str n] (fndA l n, []) := by
 constructor
 rw [w19]
 exact ⟨_, _, _, ⟨runFind' hl⟩, fun h => by unfold fndA; rw [h]; exact lax_ft _ _, fun h => by unfold fndA; rw [h]; exact lax_ft _ _⟩
theorem p55 (m : Int) (n : List UInt8) (a : Nat) (ts : List AV) (l : List Ft) (b : Nat) (ds : List AV) (c : Nat) (ps : List AV) (hl : l.length ≤ maxI) : LaxOk PQ (GQ m) X25 (tbl [(105, sFind')]) (itbl []) nAn [] 55 [.agg (ctC a ts l b ds c ps), .str n] (fndA l n, []) := by
 constructor
 rw [w55]
 exact ⟨_, _, _, ⟨runFind' hl⟩, fun h => by unfold fndA; rw [h]; exact lax_ft _ _, fun h => by unfold fndA; rw [h]; exact lax_ft _ _⟩
theorem o19 (m : Int) : SpecOk PQ (GQ m) 19 sFeat' := lax_of (X := X25) (m := []) mixedQ (tbl_cons (find_tell (o56 m)) tbl_nil) itbl_nil fun args r h => by
 unfold sFeat' at h
 split at h
 case h_2 => cases h
 split at h
 case h_2 => cases h
 rename_i hu
 split at h
 case isFalse => cases h
 rename_i hs
 injection h with h; subst h
 rw [unL_inv unFt_inv hu, hs.1]
 exact ⟨_, p19 m _ _ _ _ _ _ _ _ hs.2⟩
theorem o55 (m : Int) : SpecOk PQ (GQ m) 55 sFeat' := lax_of (X := X25) (m := []) mixedQ (tbl_cons (find_tell (o105 m)) tbl_nil) itbl_nil fun args r h => by
 unfold sFeat' at h
 split at h
 case h_2 => cases h
 split at h
 case h_2 => cases h
 rename_i hu
 split at h
 case isFalse => cases h
 rename_i hs
 injection h with h; subst h
 rw [unL_inv unFt_inv hu, hs.1]
 exact ⟨_, p55 m _ _ _ _ _ _ _ _ hs.2⟩
theorem p10 (m : Int) (x : Rq) : PureOk PQ (GQ m) X25 (tbl []) (itbl []) nAn [] 10 [rqA x] (.bool (fewB x), []) := by
 constructor
 rw [w10]
 have hn : (strsL x.feats).length = x.feats.length := List.length_map _
 have hm : (lbsL x.labels).length = x.labels.length := List.length_map _
 simp only [hn, hm]
 unfold fewB
 refine ⟨fun h => ⟨fun h2 => ⟨?_⟩, fun h2 => ⟨?_⟩⟩, fun h => ⟨?_⟩⟩
 ·rw [decide_eq_true (p := x.feats.length ≤ 100) (by have := of_decide_eq_true h; omega), decide_eq_true (p := x.labels.length ≤ 300) (by have := of_decide_eq_true h2; omega)]; rfl
 ·rw [decide_eq_false (p := x.labels.length ≤ 300) (by have := of_decide_eq_false h2; omega), Bool.and_false]
 ·rw [decide_eq_false (p := x.feats.length ≤ 100) (by have := of_decide_eq_false h; omega), Bool.false_and]
theorem o10 (m : Int) : SpecOk PQ (GQ m) 10 s10 := spec_of (X := X25) (m := []) mixedQ tbl_nil itbl_nil fun args r h => by
 unfold s10 at h
 split at h
 case h_2 => cases h
 split at h
 case h_2 => cases h
 rename_i hu
 injection h with h; subst h
 rw [unRqN_inv _ _ hu]
 exact ⟨_, p10 m _⟩
theorem run46 (r : Rq) : s46 [rqA r] = some (.bool (formB r), []) := by simp only [s46, unRqN_ok]
theorem run33 {r : Rq} (h : keysOk r.labels = true) : s33 [rqA r] = some (.bool (formB r), []) := by simp only [s33, unRqN_ok, h, if_true]
theorem run10 (r : Rq) : s10 [rqA r] = some (.bool (fewB r), []) := by simp only [s10, unRqN_ok]
theorem chk_step {l : List Ft} {en : List UInt8} {fs : List (List UInt8)} {i : Nat} (h : i < fs.length) : chkL l en (fs.drop i) = if (fnd l fs[i]).2 = false then 4 else if (fnd l fs[i]).1.entity ≠ en then 5 else chkL l en (fs.drop (i + 1)) := by
 rw [List.drop_eq_getElem_cons h, chkL]
 unfold fnd
 cases findF l fs[i] <;> rfl
theorem chk_end {l : List Ft} {en : List UInt8} {fs : List (List UInt8)} {i : Nat} (h : ¬ i < fs.length) : chkL l en (fs.drop i) = 0 := by
 rw [List.drop_eq_nil_of_le (by omega)]; rfl
theorem bne_neq {a b : List UInt8} (h : (!a == b) = true) : a ≠ b := fun e => by subst e; simp at h
theorem bne_eq {a b : List UInt8} (h : (!a == b) = false) : a = b := by simpa using h
theorem p17 (m : Int) (a : Nat) (ts : List AV) (l : List Ft) (b : Nat) (ds : List AV) (c : Nat) (ps : List AV) (x : Rq) (hl : l.length ≤ maxI) : PureOk PQ (GQ m) X25 (tbl [(46, s46), (19, sFeat')]) (itbl []) (a17 a ts l b ds c ps x) [] 17 [.agg (ctC a ts l b ds c ps), rqA x] (.int .i64 (chk l x), []) := by
 constructor
 rw [w17]
 have hn : (strsL x.feats).length = x.feats.length := List.length_map _
 simp only [hn]
 unfold chk
 refine ⟨_, ⟨run46 x⟩, fun b1 => ?_, fun b1 => ⟨by rw [b1]; rfl⟩⟩
 have l8 : x.feats.length ≤ 8 := by
  unfold formB headOk at b1
  simp only [Bool.and_eq_true, decide_eq_true_eq] at b1
  omega
 rw [if_pos b1]
 refine ⟨⟨0, ⟨rfl⟩, ⟨rfl⟩, ⟨Nat.zero_le _, rfl⟩, trivial⟩, fun i hi => ⟨fun lt => ?_, fun ge => ⟨?_⟩⟩⟩
 ·have lt := of_decide_eq_true lt
  have hil : i < x.feats.length := by omega
  have hs := hi.2.trans (chk_step hil)
  refine ⟨⟨by omega, by omega⟩, _, by rw [Int.toNat_natCast]; exact take_str hil, _, _, _, ⟨runFeat' (a := a) (ts := ts) (b := b) (ds := ds) (c := c) (ps := ps) hl⟩, fun b2 => ⟨fun b3 => ⟨?_⟩, fun b3 => ⟨i + 1, ⟨by rw [wrapI (by omega)]⟩, ⟨rfl⟩, ⟨hil, ?_⟩, by omega⟩⟩, fun b2 => ⟨?_⟩⟩
  ·rw [hs, if_neg (by rw [b2]; simp), if_pos (bne_neq b3)]
  ·rw [hs, if_neg (by rw [b2]; simp), if_neg (by simp only [ne_eq, Decidable.not_not]; exact bne_eq b3)]
  ·rw [hs, if_pos b2]
 ·have ge := of_decide_eq_false ge
  rw [hi.2, chk_end (by omega)]
theorem p18 (m : Int) (a : Nat) (ts : List AV) (l : List Ft) (b : Nat) (ds : List AV) (c : Nat) (ps : List AV) (x : Rq) (hl : l.length ≤ maxI) (hk : keysOk x.labels = true) : PureOk PQ (GQ m) X25 (tbl [(33, s33), (55, sFeat')]) (itbl []) (a18 a ts l b ds c ps x) [] 18 [.agg (ctC a ts l b ds c ps), rqA x] (.int .i64 (chk l x), []) := by
 constructor
 rw [w18]
 have hn : (strsL x.feats).length = x.feats.length := List.length_map _
 simp only [hn]
 unfold chk
 refine ⟨_, ⟨run33 hk⟩, fun b1 => ?_, fun b1 => ⟨by rw [b1]; rfl⟩⟩
 have l8 : x.feats.length ≤ 8 := by
  unfold formB headOk at b1
  simp only [Bool.and_eq_true, decide_eq_true_eq] at b1
  omega
 rw [if_pos b1]
 refine ⟨⟨0, ⟨rfl⟩, ⟨rfl⟩, ⟨Nat.zero_le _, rfl⟩, trivial⟩, fun i hi => ⟨fun lt => ?_, fun ge => ⟨?_⟩⟩⟩
 ·have lt := of_decide_eq_true lt
  have hil : i < x.feats.length := by omega
  have hs := hi.2.trans (chk_step hil)
  refine ⟨⟨by omega, by omega⟩, _, by rw [Int.toNat_natCast]; exact take_str hil, _, _, _, ⟨runFeat' (a := a) (ts := ts) (b := b) (ds := ds) (c := c) (ps := ps) hl⟩, fun b2 => ⟨fun b3 => ⟨?_⟩, fun b3 => ⟨i + 1, ⟨by rw [wrapI (by omega)]⟩, ⟨rfl⟩, ⟨hil, ?_⟩, by omega⟩⟩, fun b2 => ⟨?_⟩⟩
  ·rw [hs, if_neg (by rw [b2]; simp), if_pos (bne_neq b3)]
  ·rw [hs, if_neg (by rw [b2]; simp), if_neg (by simp only [ne_eq, Decidable.not_not]; exact bne_eq b3)]
  ·rw [hs, if_pos b2]
 ·have ge := of_decide_eq_false ge
  rw [hi.2, chk_end (by omega)]
theorem o17 (m : Int) : SpecOk PQ (GQ m) 17 s17 := spec_of (X := X25) (m := []) mixedQ (tbl_cons (o46 m) (tbl_cons (o19 m) tbl_nil)) itbl_nil fun args r h => by
 unfold s17 at h
 split at h
 case h_2 => cases h
 split at h
 case h_2 => cases h
 rename_i hu hr
 split at h
 case isFalse => cases h
 rename_i hs
 injection h with h; subst h
 rw [unL_inv unFt_inv hu, hs.1, unRqN_inv _ _ hr]
 exact ⟨_, p17 m _ _ _ _ _ _ _ _ hs.2.1⟩
theorem o18 (m : Int) : SpecOk PQ (GQ m) 18 s17 := spec_of (X := X25) (m := []) mixedQ (tbl_cons (o33 m) (tbl_cons (o55 m) tbl_nil)) itbl_nil fun args r h => by
 unfold s17 at h
 split at h
 case h_2 => cases h
 split at h
 case h_2 => cases h
 rename_i hu hr
 split at h
 case isFalse => cases h
 rename_i hs
 injection h with h; subst h
 rw [unL_inv unFt_inv hu, hs.1, unRqN_inv _ _ hr]
 exact ⟨_, p18 m _ _ _ _ _ _ _ _ hs.2.1 hs.2.2⟩
theorem run17 {a : Nat} {ts : List AV} {l : List Ft} {b : Nat} {ds : List AV} {c : Nat} {ps : List AV} {r : Rq} (hl : l.length ≤ maxI) (hk : keysOk r.labels = true) : s17 [.agg [.sl a ts .no, .sl 18 (ftsL l) .no, .sl b ds .no, .sl c ps .no], rqA r] = some (.int .i64 (chk l r), []) := by
 simp only [s17, unL_map unFt_ok, unRqN_ok]
 rw [if_pos ⟨trivial, hl, hk⟩]
theorem p4 (m : Int) (a : Nat) (ts : List AV) (l : List Ft) (b : Nat) (ds : List AV) (c : Nat) (ps : List AV) (x : Rq) (hk : keysOk x.labels = true) : PureOk PQ (GQ m) X25 (tbl [(10, s10), (17, s17), (18, s17), (16, sTrue)]) (itbl []) nAn [] 4 [.agg (ctC a ts l b ds c ps), rqA x] (.bool true, []) := by
 constructor
 rw [w4]
 have hn : (ftsL l).length = l.length := List.length_map _
 simp only [hn]
 have big : maxI = 9223372036854775807 := rfl
 refine ⟨_, ⟨run10 x⟩, fun b1 => ⟨fun _ => ⟨rfl⟩, fun h60 => ?_⟩, fun _ => ⟨rfl⟩⟩
 have h60 := of_decide_eq_false h60
 exact ⟨_, ⟨run17 (a := a) (ts := ts) (b := b) (ds := ds) (c := c) (ps := ps) (by omega) hk⟩, _, ⟨run17 (a := a) (ts := ts) (b := b) (ds := ds) (c := c) (ps := ps) (by omega) hk⟩, fun _ => ⟨_, ⟨rfl⟩, fun _ => ⟨rfl⟩, nofun⟩, fun h => absurd h (by simp)⟩
theorem gt_cons {ts : List Tk} (h : GoodT ts) : ∃ t l, ts = t :: l := by
 obtain ⟨l, t, rfl, _⟩ := h.ends
 cases l with
 | nil => exact ⟨t, [], rfl⟩
 | cons a l => exact ⟨a, l ++ [t], rfl⟩
theorem gt_tail {t : Tk} {l : List Tk} (h : GoodT (t :: l)) (hk : t.k ≠ 6) : GoodT l := by
 refine ⟨?_, fun u hu => h.ints u (List.mem_cons_of_mem _ hu), by have := h.few; simp only [List.length_cons] at this; omega⟩
 obtain ⟨l0, u, e, hu⟩ := h.ends
 cases l0 with
 | nil => simp only [List.nil_append, List.cons.injEq] at e; obtain ⟨rfl, _⟩ := e; exact absurd hu hk
 | cons a l0 =>
  simp only [List.cons_append, List.cons.injEq] at e
  exact ⟨l0, u, e.2, hu⟩
theorem gt_tokIn {ts : List Tk} (h : GoodT ts) : TokIn (toksL ts) := by
 obtain ⟨t, l, rfl⟩ := gt_cons h
 exact ⟨t, l, rfl⟩
theorem gt_intIn {ts : List Tk} (h : GoodT ts) : IntIn (toksL ts) := by
 obtain ⟨t, l, rfl⟩ := gt_cons h
 exact ⟨fun hk => h.ints t List.mem_cons_self hk⟩
theorem nx_ok {k : Int} {acc : List UInt8 → Bool} {t : Tk} {l : List Tk} (h : t.k = k ∧ acc t.s = true) (hk : k ≠ 6) : nx k acc (t :: l) = .ok (t.s, l) := by
 rw [nx, if_pos h, if_neg hk]
theorem nx_no {k : Int} {acc : List UInt8 → Bool} {t : Tk} {l : List Tk} (h : ¬ (t.k = k ∧ acc t.s = true)) : nx k acc (t :: l) = .error t.a := by
 rw [nx, if_neg h]
theorem thn_ok {α β : Type} {x : Except Int α} {f : α → Except Int β} {a : α} (h : x = .ok a) : thn x f = f a := by rw [h]; rfl
theorem thn_no {α β : Type} {x : Except Int α} {f : α → Except Int β} {a : Int} (h : x = .error a) : thn x f = .error a := by rw [h]; rfl
theorem num_okT {t : Tk} {l : List Tk} (h : t.k = 2) : num (t :: l) = .ok (numV t.s, l) := by
 unfold num; rw [thn_ok (nx_ok ⟨h, rfl⟩ (by decide))]
theorem num_no {t : Tk} {l : List Tk} (h : t.k ≠ 2) : num (t :: l) = .error t.a := by
 unfold num; rw [thn_no (nx_no fun e => h e.1)]
theorem take_k {t : Tk} {l : List Tk} : takeAt PQ 3 (toksL (t :: l)) 0 0 = some (.int .i64 t.k) := by kernel_rfl
theorem take_s {t : Tk} {l : List Tk} : takeAt PQ 9 (toksL (t :: l)) 0 1 = some (.str t.s) := by kernel_rfl
theorem take_pa {p : Pb} {l : List Pb} : takeAt PQ 3 (pbsL (p :: l)) 0 0 = some (.int .i64 p.a) := by kernel_rfl
theorem take_pc {p : Pb} {l : List Pb} : takeAt PQ 28 (pbsL (p :: l)) 0 1 = some (.int .i64 p.c) := by kernel_rfl
theorem lax_z (a c : Int) : RetLax (.tup [.agg [.str [], .sl 0 [] .nil, .sl 0 [] .nil, .int .i64 0, .int .i64 0], .int .i64 a, .int .i64 c]) (zR a c, []) := by
 refine ⟨⟨?_, rfl, rfl, trivial⟩, by rfl, rfl⟩
 exact ⟨rfl, ⟨rfl, rfl, .inr rfl⟩, ⟨rfl, rfl, .inr rfl⟩, rfl, rfl, trivial⟩
theorem lax_r (r : Rq) : RetLax (.tup [.agg [.str r.entity, .sl 1 (strsL r.feats) (.tok 0), .sl 3 (lbsL r.labels) (.tok 1), .int .i64 r.seed, .int .i64 r.permille], .int .i64 0, .int .i64 0]) (.tup [rqA r, .int .i64 0, .int .i64 0], []) := by
 refine ⟨⟨?_, rfl, rfl, trivial⟩, by rfl, rfl⟩
 exact ⟨rfl, ⟨rfl, rfl, .inl rfl⟩, ⟨rfl, rfl, .inl rfl⟩, rfl, rfl, trivial⟩
theorem moreF_end {t : Tk} {l : List Tk} {fs : List (List UInt8)} (h : isCm (t :: l) = false) : moreF (t :: l) fs = .ok (fs, t :: l) := by
 cases l with
 | nil => rfl
 | cons u l =>
  have h' : isCm [t] = false := h
  rw [moreF, h']; rfl
theorem moreL_end {t : Tk} {l : List Tk} {ls : List Lb} (h : isCm (t :: l) = false) : moreL (t :: l) ls = .ok (ls, t :: l) := by
 have h' : isCm [t] = false := h
 match l with
 | [] => rfl
 | [a] => rw [moreL, h']; rfl
 | [a, b] => rw [moreL, h']; rfl
 | a :: b :: c :: l => rw [moreL, h']; rfl
theorem cm_yes {t : Tk} {l : List Tk} (h1 : (t.k == 5) = true) (h2 : (t.s == [44]) = true) : isCm (t :: l) = true := by
 have := eq_of_beq h1
 simp only [isCm, this, decide_true, h2, Bool.and_self]
theorem cm_no1 {t : Tk} {l : List Tk} (h1 : (t.k == 5) = false) : isCm (t :: l) = false := by
 have : t.k ≠ 5 := by simpa using h1
 simp only [isCm, decide_eq_false this, Bool.false_and]
theorem cm_no2 {t : Tk} {l : List Tk} (h1 : (t.s == [44]) = false) : isCm (t :: l) = false := by
 simp only [isCm, h1, Bool.and_false]
theorem at_yes {t : Tk} {l : List Tk} (h1 : (t.k == 1) = true) (h2 : (t.s == [97, 116]) = true) : isAtB (t :: l) = true := by
 have := eq_of_beq h1
 simp only [isAtB, this, decide_true, h2, Bool.and_self]
theorem at_no1 {t : Tk} {l : List Tk} (h1 : (t.k == 1) = false) : isAtB (t :: l) = false := by
 have : t.k ≠ 1 := by simpa using h1
 simp only [isAtB, decide_eq_false this, Bool.false_and]
theorem at_no2 {t : Tk} {l : List Tk} (h1 : (t.s == [97, 116]) = false) : isAtB (t :: l) = false := by
 simp only [isAtB, h1, Bool.and_false]
theorem lab_no0 {a : Tk} {l : List Tk} (h : a.k ≠ 4) : lab (a :: l) = .error a.a := by
 unfold lab; rw [thn_no (nx_no fun e => h e.1)]
theorem lab_no1 {a b : Tk} {l : List Tk} (h : a.k = 4) (h1 : b.k ≠ 2) : lab (a :: b :: l) = .error b.a := by
 unfold lab; rw [thn_ok (nx_ok ⟨h, rfl⟩ (by decide)), thn_no (num_no h1)]
theorem lab_no2 {a b c : Tk} {l : List Tk} (h : a.k = 4) (h1 : b.k = 2) (h2 : c.k ≠ 2) : lab (a :: b :: c :: l) = .error c.a := by
 unfold lab; rw [thn_ok (nx_ok ⟨h, rfl⟩ (by decide)), thn_ok (num_okT h1), thn_no (num_no h2)]
theorem lab_ok {a b c : Tk} {l : List Tk} (h : a.k = 4) (h1 : b.k = 2) (h2 : c.k = 2) : lab (a :: b :: c :: l) = .ok (⟨a.s, numV b.s, numV c.s⟩, l) := by
 unfold lab; rw [thn_ok (nx_ok ⟨h, rfl⟩ (by decide)), thn_ok (num_okT h1), thn_ok (num_okT h2)]
theorem moreL_no0 {t a : Tk} {l : List Tk} {ls : List Lb} (hc : isCm [t] = true) (h : a.k ≠ 4) : moreL (t :: a :: l) ls = .error a.a := by
 match l with
 | [] => rw [moreL, hc]; rfl
 | [b] => rw [moreL, hc, if_pos rfl, if_neg h]
 | b :: c :: l => rw [moreL, hc, if_pos rfl, if_neg h]
theorem moreL_no1 {t a b : Tk} {l : List Tk} {ls : List Lb} (hc : isCm [t] = true) (h : a.k = 4) (h1 : b.k ≠ 2) : moreL (t :: a :: b :: l) ls = .error b.a := by
 match l with
 | [] => rw [moreL, hc, if_pos rfl, if_pos h]
 | c :: l => rw [moreL, hc, if_pos rfl, if_pos h, if_neg h1]
theorem moreL_no2 {t a b c : Tk} {l : List Tk} {ls : List Lb} (hc : isCm [t] = true) (h : a.k = 4) (h1 : b.k = 2) (h2 : c.k ≠ 2) : moreL (t :: a :: b :: c :: l) ls = .error c.a := by
 rw [moreL, hc, if_pos rfl, if_pos h, if_pos h1, if_neg h2]
theorem moreL_ok {t a b c : Tk} {l : List Tk} {ls : List Lb} (hc : isCm [t] = true) (h : a.k = 4) (h1 : b.k = 2) (h2 : c.k = 2) : moreL (t :: a :: b :: c :: l) ls = moreL l (ls ++ [⟨a.s, numV b.s, numV c.s⟩]) := by
 rw [moreL, hc, if_pos rfl, if_pos h, if_pos h1, if_pos h2]
theorem moreF_ok {t u : Tk} {l : List Tk} {fs : List (List UInt8)} (hc : isCm [t] = true) (h : u.k = 1 ∧ nameR u.s = true) : moreF (t :: u :: l) fs = moreF l (fs ++ [u.s]) := by
 rw [moreF, hc, if_pos rfl, if_pos h]
theorem moreF_no {t u : Tk} {l : List Tk} {fs : List (List UInt8)} (hc : isCm [t] = true) (h : ¬ (u.k = 1 ∧ nameR u.s = true)) : moreF (t :: u :: l) fs = .error u.a := by
 rw [moreF, hc, if_pos rfl, if_neg h]
theorem kMf_ok {en : List UInt8} {f1 f2 fs : List (List UInt8)} {ls : List Lb} {sd pm : Int} {t u : Tk} {l : List Tk} (hc : isCm [t] = true) (h : u.k = 1 ∧ nameR u.s = true) : kMf ⟨en, f1, ls, sd, pm⟩ (t :: u :: l) fs = kMf ⟨en, f2, ls, sd, pm⟩ l (fs ++ [u.s]) := by
 unfold kMf; rw [moreF_ok hc h]
theorem kMl_ok {en : List UInt8} {fs : List (List UInt8)} {l1 l2 ls : List Lb} {sd pm : Int} {t a b c : Tk} {l : List Tk} (hc : isCm [t] = true) (h : a.k = 4) (h1 : b.k = 2) (h2 : c.k = 2) : kMl ⟨en, fs, l1, sd, pm⟩ (t :: a :: b :: c :: l) ls = kMl ⟨en, fs, l2, sd, pm⟩ l (ls ++ [⟨a.s, numV b.s, numV c.s⟩]) := by
 unfold kMl; rw [moreL_ok hc h h1 h2]
theorem lab_asked {l : List Tk} (G : GoodT l) : TokIn (toksL l) ∧ ((hdT (toksL l)).k = 4 → TokIn (List.drop 1 (toksL l)) ∧ IntIn (List.drop 1 (toksL l))) ∧ ((hdT (toksL l)).k = 4 → (hdT (List.drop 1 (toksL l))).k = 2 → TokIn (List.drop 2 (toksL l)) ∧ IntIn (List.drop 2 (toksL l))) := by
 obtain ⟨a, l, rfl⟩ := gt_cons G
 refine ⟨gt_tokIn G, fun h => ?_, fun h h1 => ?_⟩
 ·have G1 := gt_tail G (by have h : a.k = 4 := h; rw [h]; decide)
  exact ⟨gt_tokIn G1, gt_intIn G1⟩
 ·have G1 := gt_tail G (by have h : a.k = 4 := h; rw [h]; decide)
  obtain ⟨b, l, rfl⟩ := gt_cons G1
  have G2 := gt_tail G1 (by have h1 : b.k = 2 := h1; rw [h1]; decide)
  exact ⟨gt_tokIn G2, gt_intIn G2⟩
theorem lab_good {l : List Tk} (G : GoodT l) (h : (hdT (toksL l)).k = 4 ∧ (hdT (List.drop 1 (toksL l))).k = 2 ∧ (hdT (List.drop 2 (toksL l))).k = 2) : ∃ a b c l', l = a :: b :: c :: l' ∧ a.k = 4 ∧ b.k = 2 ∧ c.k = 2 ∧ GoodT l' := by
 obtain ⟨h, h1, h2⟩ := h
 obtain ⟨a, l, rfl⟩ := gt_cons G
 have G1 := gt_tail G (by have h : a.k = 4 := h; rw [h]; decide)
 obtain ⟨b, l, rfl⟩ := gt_cons G1
 have G2 := gt_tail G1 (by have h1 : b.k = 2 := h1; rw [h1]; decide)
 obtain ⟨c, l, rfl⟩ := gt_cons G2
 exact ⟨a, b, c, l, rfl, h, h1, h2, gt_tail G2 (by have h2 : c.k = 2 := h2; rw [h2]; decide)⟩
theorem lab_bad0 {l : List Tk} (G : GoodT l) (h : ¬ (hdT (toksL l)).k = 4) : lab l = .error (hdT (toksL l)).a ∧ ∀ t ls, isCm [t] = true → moreL (t :: l) ls = .error (hdT (toksL l)).a := by
 obtain ⟨a, l, rfl⟩ := gt_cons G
 exact ⟨lab_no0 h, fun t ls hc => moreL_no0 hc h⟩
theorem lab_bad1 {l : List Tk} (G : GoodT l) (h : (hdT (toksL l)).k = 4 ∧ (hdT (List.drop 1 (toksL l))).k ≠ 2) : lab l = .error (hdT (List.drop 1 (toksL l))).a ∧ ∀ t ls, isCm [t] = true → moreL (t :: l) ls = .error (hdT (List.drop 1 (toksL l))).a := by
 obtain ⟨h, h1⟩ := h
 obtain ⟨a, l, rfl⟩ := gt_cons G
 have G1 := gt_tail G (by have h : a.k = 4 := h; rw [h]; decide)
 obtain ⟨b, l, rfl⟩ := gt_cons G1
 exact ⟨lab_no1 h h1, fun t ls hc => moreL_no1 hc h h1⟩
theorem lab_bad2 {l : List Tk} (G : GoodT l) (h : (hdT (toksL l)).k = 4 ∧ (hdT (List.drop 1 (toksL l))).k = 2 ∧ (hdT (List.drop 2 (toksL l))).k ≠ 2) : lab l = .error (hdT (List.drop 2 (toksL l))).a ∧ ∀ t ls, isCm [t] = true → moreL (t :: l) ls = .error (hdT (List.drop 2 (toksL l))).a := by
 obtain ⟨h, h1, h2⟩ := h
 obtain ⟨a, l, rfl⟩ := gt_cons G
 have G1 := gt_tail G (by have h : a.k = 4 := h; rw [h]; decide)
 obtain ⟨b, l, rfl⟩ := gt_cons G1
 have G2 := gt_tail G1 (by have h1 : b.k = 2 := h1; rw [h1]; decide)
 obtain ⟨c, l, rfl⟩ := gt_cons G2
 exact ⟨lab_no2 h h1 h2, fun t ls hc => moreL_no2 hc h h1 h2⟩
theorem p11 (m : Int) (s : Spec) (bs : List UInt8) (ts : List Tk) (pb : List Pb) (e : Int) (hs : s [bytesA bs] = some (s36v ts pb e)) (hg : e = 0 → pb = [] → ts ≠ [] → GoodT ts) : TLaxOk PQ (GQ m) (XP ts pb e) (tbl [(36, s), (46, s46)]) (itbl []) fsN (JP m idMk s ts pb e) (gP ts e) 11 [bytesA bs] (resT ts pb e, []) := by
 constructor
 rw [w11]
 simp only [valsAre_iff, stIs_iff, callIs_iff, true_and, and_true, forall_const, Bool.true_eq_false, Bool.false_eq_true, false_implies, List.take_length, Int.le_refl, Int.reduceEq, if_false, List.drop_drop, Nat.reduceAdd, true_or]
 refine ⟨hs, fun h => ?_, fun he => ⟨fun hp => ?_, fun hp => ⟨fun hz => ?_, fun hz => ?_⟩⟩⟩
 ·have : e ≠ 0 := by simpa using h
  unfold resT; rw [if_pos this]
  exact lax_z _ _
 ·have e0 : e = 0 := by simpa using he
  cases pb with
  | nil => exact absurd (of_decide_eq_true hp) (by simp)
  | cons p l =>
   refine ⟨by simp, _, take_pa, by simp, _, take_pc, ?_⟩
   unfold resT; rw [if_neg (by omega)]
   exact lax_z _ _
 ·have e0 : e = 0 := by simpa using he
  have p0 : pb = [] := by
   cases pb with
   | nil => rfl
   | cons p l => exact absurd (of_decide_eq_false hp) (by simp)
  have t0 : ts = [] := by
   have := eq_of_beq hz
   rw [List.length_map] at this
   exact List.length_eq_zero_iff.1 (by omega)
  unfold resT; rw [if_neg (by omega), p0]
  simp only [t0, if_true]
  exact lax_z _ _
 have e0 : e = 0 := by simpa using he
 have p0 : pb = [] := by
  cases pb with
  | nil => rfl
  | cons p l => exact absurd (of_decide_eq_false hp) (by simp)
 have t0 : ts ≠ [] := by
  intro h0
  subst h0
  simp at hz
 have G := hg e0 p0 t0
 have hres : resT ts pb e = resP (parseTk ts) := by
  unfold resT; rw [if_neg (by omega), p0]
  simp only [t0, if_false]
 rw [hres]
 have hfew := G.few
 have bad : ∀ a, parseTk ts = .error a → RetLax (.tup [.agg [.str [], .sl 0 [] .nil, .sl 0 [] .nil, .int .i64 0, .int .i64 0], .int .i64 a, .int .i64 90]) (resP (parseTk ts), []) := fun a h => by
  rw [h]; exact lax_z _ _
 clear hp he hz hg hres
 obtain ⟨t, l, hts⟩ := gt_cons G
 refine ⟨⟨⟨t, l, by rw [hts]⟩, rfl, rfl⟩, fun h1 => ?_, fun h1 => ⟨rfl, bad _ ?_⟩⟩
 rotate_left
 ·rw [hts] at h1 ⊢
  exact thn_no (nx_no fun x => h1 x)
 have P11 : parseTk ts = k11 l := by rw [hts] at h1 ⊢; exact thn_ok (nx_ok h1 (by decide))
 have G1 : GoodT l := by
  rw [hts] at h1 G
  have : t.k = 1 := h1.1
  exact gt_tail G (by rw [this]; decide)
 have L1 : l.length ≤ ts.length := by rw [hts]; simp
 have hd1 : ∀ n, List.drop (n + 1) (toksL ts) = List.drop n (toksL l) := fun n => by rw [hts]; rfl
 rw [hd1 0, hd1 1]
 obtain ⟨t1, l1, rfl⟩ := gt_cons G1
 refine ⟨⟨⟨⟨t1, l1, rfl⟩, rfl⟩, fun h2 => ⟨⟨⟨t1.s, [], [], 0, 0⟩, l1⟩, rfl, gt_tail G1 ?_, P11.trans (thn_ok (nx_ok h2 (by decide))), by simp only [List.length_cons] at L1; exact Nat.le_trans (Nat.le_succ _) L1⟩, fun h2 => ⟨rfl, bad _ (P11.trans (thn_no (nx_no fun x => h2 x)))⟩⟩, ?_⟩
 ·have : t1.k = 1 := h2.1
  rw [this]; decide
 rintro ⟨⟨en, fs0, ls0, sd0, pm0⟩, u⟩ ⟨G2, P12, L2⟩
 dsimp only at G2 P12 L2 ⊢
 obtain ⟨t2, l2, rfl⟩ := gt_cons G2
 refine ⟨⟨⟨⟨t2, l2, rfl⟩, ⟨rfl, rfl⟩, rfl, rfl⟩, fun h => ⟨⟨⟨en, [], [], 0, 0⟩, l2⟩, rfl, gt_tail G2 ?_, P12.trans (thn_ok (nx_ok h (by decide))), rfl, rfl, Nat.le_trans (Nat.le_succ _) L2⟩, fun h => ⟨rfl, bad _ (P12.trans (thn_no (nx_no fun x => h x)))⟩⟩, ?_⟩
 ·have : t2.k = 1 := h.1
  rw [this]; decide
 clear G2 P12 L2 t2 l2
 rintro ⟨⟨en, fs, ls, sd, pm⟩, u⟩ ⟨G3, P13, hf, hlb, L3⟩
 dsimp only at G3 P13 hf hlb L3 ⊢
 subst hf; subst hlb
 obtain ⟨t3, l3, rfl⟩ := gt_cons G3
 refine ⟨⟨⟨⟨t3, l3, rfl⟩, ⟨[], rfl⟩, rfl, Nat.zero_le _, rfl⟩, fun h => ⟨⟨⟨⟨en, [t3.s], [], sd, pm⟩, l3⟩, rfl, gt_tail G3 ?_, P13.trans (thn_ok (nx_ok h (by decide))), rfl, by simp only [List.length_cons, List.length_nil] at L3 ⊢; omega⟩, ?_⟩, fun h => ⟨rfl, bad _ (P13.trans (thn_no (nx_no fun x => h x)))⟩⟩, ?_⟩
 ·have : t3.k = 1 := h.1
  rw [this]; decide
 ·
  clear P13 G3 h L3
  rintro ⟨⟨en, fs, ls, sd, pm⟩, u⟩ ⟨G4, P4, hlb, L4⟩
  dsimp only at G4 P4 hlb L4 ⊢
  subst hlb
  obtain ⟨t4, l4, rfl⟩ := gt_cons G4
  have hn : (strsL fs).length = fs.length := List.length_map _
  have stop : isCm (t4 :: l4) = false → parseTk ts = k14 ⟨en, fs, [], sd, pm⟩ (t4 :: l4) := fun hc => P4.trans (thn_ok (moreF_end hc))
  refine ⟨len_tok _ _, _, take_k, fun c5 => ⟨len_tok _ _, _, take_s, fun cs => ?_, fun cs => ⟨⟨⟨en, fs, [], sd, pm⟩, t4 :: l4⟩, rfl, G4, stop (cm_no2 cs), rfl, Nat.le_trans (Nat.le_add_left _ _) L4⟩⟩, fun c5 => ⟨⟨⟨en, fs, [], sd, pm⟩, t4 :: l4⟩, rfl, G4, stop (cm_no1 c5), rfl, Nat.le_trans (Nat.le_add_left _ _) L4⟩⟩
  have hc : isCm [t4] = true := cm_yes c5 cs
  have G5 : GoodT l4 := gt_tail G4 (by have := eq_of_beq c5; rw [this]; decide)
  obtain ⟨t5, l5, rfl⟩ := gt_cons G5
  refine ⟨by omega, ⟨len_tok1 _ _, Nat.le_refl _⟩, ⟨⟨t5, l5, rfl⟩, ⟨fs, rfl⟩, hn.symm, by simp only [List.length_cons] at L4; omega, rfl⟩, fun h => ⟨⟨⟨en, fs ++ [t5.s], [], sd, pm⟩, l5⟩, ?_, ⟨gt_tail G5 ?_, P4.trans (kMf_ok hc h), rfl, by simp only [List.length_cons, List.length_append, List.length_nil] at L4 ⊢; omega⟩, by simp only [List.length_cons]; omega⟩, fun h => ⟨rfl, bad _ (P4.trans (thn_no (moreF_no hc fun x => h x)))⟩⟩
  ·simp only [List.map_append, List.length_append, hn]; rfl
  ·have : t5.k = 1 := h.1
   rw [this]; decide
 clear P13 G3 L3 t3 l3
 rintro ⟨⟨en, fs, ls, sd, pm⟩, u⟩ ⟨G4, P14, hlb, L4⟩
 dsimp only at G4 P14 hlb L4 ⊢
 subst hlb
 obtain ⟨t4, l4, rfl⟩ := gt_cons G4
 refine ⟨⟨⟨t4, l4, rfl⟩, ⟨rfl, rfl⟩, rfl, rfl⟩, fun h => ?_, fun h => ⟨rfl, bad _ (P14.trans (thn_no (nx_no fun x => h x)))⟩⟩
 have P15 : parseTk ts = k15 ⟨en, fs, [], sd, pm⟩ l4 := P14.trans (thn_ok (nx_ok h (by decide)))
 have G5 : GoodT l4 := gt_tail G4 (by have : t4.k = 1 := h.1; rw [this]; decide)
 obtain ⟨t5, l5, rfl⟩ := gt_cons G5
 refine ⟨⟨⟨⟨t5, l5, rfl⟩, gt_intIn G5, rfl, rfl⟩, fun h => ⟨⟨⟨en, fs, [], numV t5.s, pm⟩, l5⟩, rfl, gt_tail G5 ?_, P15.trans (thn_ok (num_okT h)), rfl, by simp only [List.length_cons] at L4 ⊢; omega⟩, fun h => ⟨rfl, bad _ (P15.trans (thn_no (num_no h)))⟩⟩, ?_⟩
 ·have h : t5.k = 2 := h
  rw [h]; decide
 clear P14 P15 G4 G5 L4 h t4 t5 l5
 rintro ⟨⟨en, fs, ls, sd, pm⟩, u⟩ ⟨G4, P16, hlb, L4⟩
 dsimp only at G4 P16 hlb L4 ⊢
 subst hlb
 obtain ⟨t4, l4, rfl⟩ := gt_cons G4
 refine ⟨⟨⟨t4, l4, rfl⟩, ⟨rfl, rfl⟩, rfl, rfl⟩, fun h => ?_, fun h => ⟨rfl, bad _ (P16.trans (thn_no (nx_no fun x => h x)))⟩⟩
 have P17 : parseTk ts = k17 ⟨en, fs, [], sd, pm⟩ l4 := P16.trans (thn_ok (nx_ok h (by decide)))
 have G5 : GoodT l4 := gt_tail G4 (by have : t4.k = 1 := h.1; rw [this]; decide)
 obtain ⟨t5, l5, rfl⟩ := gt_cons G5
 refine ⟨⟨⟨⟨t5, l5, rfl⟩, gt_intIn G5, rfl, rfl⟩, fun h => ⟨⟨⟨en, fs, [], sd, numV t5.s⟩, l5⟩, rfl, gt_tail G5 ?_, P17.trans (thn_ok (num_okT h)), rfl, by simp only [List.length_cons] at L4 ⊢; omega⟩, fun h => ⟨rfl, bad _ (P17.trans (thn_no (num_no h)))⟩⟩, ?_⟩
 ·have h : t5.k = 2 := h
  rw [h]; decide
 clear P16 P17 G4 G5 L4 h t4 t5 l5
 rintro ⟨⟨en, fs, ls, sd, pm⟩, u⟩ ⟨G4, P18, hlb, L4⟩
 dsimp only at G4 P18 hlb L4 ⊢
 subst hlb
 obtain ⟨t4, l4, rfl⟩ := gt_cons G4
 have stop : isAtB (t4 :: l4) = false → parseTk ts = k21 ⟨en, fs, [], sd, pm⟩ (t4 :: l4) := fun hc => by rw [P18]; unfold k18; rw [hc]; rfl
 refine ⟨⟨len_tok _ _, _, take_k, fun c1 => ⟨len_tok _ _, _, take_s, fun cs => ?_, fun cs => ⟨⟨⟨en, fs, [], sd, pm⟩, t4 :: l4⟩, rfl, G4, stop (at_no2 cs)⟩⟩, fun c1 => ⟨⟨⟨en, fs, [], sd, pm⟩, t4 :: l4⟩, rfl, G4, stop (at_no1 c1)⟩⟩, ?_⟩
 ·have P20 : parseTk ts = k20 ⟨en, fs, [], sd, pm⟩ l4 := by rw [P18]; unfold k18; rw [at_yes c1 cs]; rfl
  have G5 : GoodT l4 := gt_tail G4 (by have := eq_of_beq c1; rw [this]; decide)
  clear stop
  obtain ⟨q1, q2, q3⟩ := lab_asked G5
  refine ⟨by omega, ⟨len_tok1 _ _, Nat.le_refl _⟩, ⟨q1, q2, q3, ⟨[], rfl⟩, rfl, Nat.zero_le _, rfl, rfl⟩, fun h => ?_, fun h => ⟨rfl, bad _ (P20.trans (thn_no (lab_bad0 G5 h).1))⟩, fun h => ⟨rfl, bad _ (P20.trans (thn_no (lab_bad1 G5 h).1))⟩, fun h => ⟨rfl, bad _ (P20.trans (thn_no (lab_bad2 G5 h).1))⟩⟩
  obtain ⟨a, b, c, l5, rfl, ha, hb, hc, G6⟩ := lab_good G5 h
  refine ⟨⟨⟨⟨en, fs, [⟨a.s, numV b.s, numV c.s⟩], sd, pm⟩, l5⟩, rfl, G6, P20.trans (thn_ok (lab_ok ha hb hc)), by simp only [List.length_cons, List.length_nil] at L4 ⊢; omega⟩, ?_⟩
  clear P20 P18 q1 q2 q3 G5 G4 G6 h L4 ha hb hc a b c l5
  rintro ⟨⟨en, fs, ls, sd, pm⟩, u⟩ ⟨G4, P4, L4⟩
  dsimp only at G4 P4 L4 ⊢
  obtain ⟨t4, l4, rfl⟩ := gt_cons G4
  have hn : (lbsL ls).length = ls.length := List.length_map _
  have stop : isCm (t4 :: l4) = false → parseTk ts = k21 ⟨en, fs, ls, sd, pm⟩ (t4 :: l4) := fun hc => P4.trans (thn_ok (moreL_end hc))
  refine ⟨len_tok _ _, _, take_k, fun c5 => ⟨len_tok _ _, _, take_s, fun cs => ?_, fun cs => ⟨⟨⟨en, fs, ls, sd, pm⟩, t4 :: l4⟩, rfl, G4, stop (cm_no2 cs)⟩⟩, fun c5 => ⟨⟨⟨en, fs, ls, sd, pm⟩, t4 :: l4⟩, rfl, G4, stop (cm_no1 c5)⟩⟩
  have hcm : isCm [t4] = true := cm_yes c5 cs
  have G5 : GoodT l4 := gt_tail G4 (by have := eq_of_beq c5; rw [this]; decide)
  obtain ⟨q1, q2, q3⟩ := lab_asked G5
  refine ⟨by omega, ⟨len_tok1 _ _, Nat.le_refl _⟩, ⟨q1, q2, q3, ⟨ls, rfl⟩, hn.symm, by simp only [List.length_cons] at L4; omega, rfl, rfl⟩, fun h => ?_, fun h => ⟨rfl, bad _ (P4.trans (thn_no ((lab_bad0 G5 h).2 _ _ hcm)))⟩, fun h => ⟨rfl, bad _ (P4.trans (thn_no ((lab_bad1 G5 h).2 _ _ hcm)))⟩, fun h => ⟨rfl, bad _ (P4.trans (thn_no ((lab_bad2 G5 h).2 _ _ hcm)))⟩⟩
  obtain ⟨a, b, c, l5, rfl, ha, hb, hc, G6⟩ := lab_good G5 h
  refine ⟨⟨⟨en, fs, ls ++ [⟨a.s, numV b.s, numV c.s⟩], sd, pm⟩, l5⟩, ?_, ⟨G6, P4.trans (kMl_ok hcm ha hb hc), by simp only [List.length_cons, List.length_append, List.length_nil] at L4 ⊢; omega⟩, by simp only [List.length_cons]; omega⟩
  simp only [List.map_append, List.length_append, hn]; rfl
 clear P18 G4 L4 stop t4 l4
 rintro ⟨⟨en, fs, ls, sd, pm⟩, u⟩ ⟨G4, P21⟩
 dsimp only at G4 P21 ⊢
 obtain ⟨t4, l4, rfl⟩ := gt_cons G4
 refine ⟨⟨⟨t4, l4, rfl⟩, rfl, rfl⟩, fun h => ?_, fun h => ⟨rfl, bad _ (P21.trans (thn_no (nx_no fun x => h x)))⟩⟩
 have P : parseTk ts = .ok ⟨en, fs, ls, sd, pm⟩ := P21.trans (by
  have h' : t4.k = 6 ∧ everyB t4.s = true := h
  unfold k21; exact thn_ok (by rw [nx, if_pos h']))
 refine ⟨_, run46 ⟨en, fs, ls, sd, pm⟩, fun hb => ?_, fun hb => ?_⟩
 ·rw [P]
  unfold resP
  simp only [hb, if_true]
  exact lax_r ⟨en, fs, ls, sd, pm⟩
 ·rw [P]
  unfold resP
  simp only [hb, if_false, Bool.false_eq_true]
  exact lax_z _ _
def libT : List (FuncId × Spec) := [(161, sIndexByte), (163, sIndexByteString), (133, sContains)]
theorem libT_ok (m : Int) : CalleeOk PQ (GQ m) (tbl libT) := by
 refine tbl_cons (o_indexByte (fn := Tryz.f161) (by kernel_rfl) (by kernel_rfl) (by kernel_rfl) (by kernel_rfl) (by kernel_rfl)) (tbl_cons (o_indexByteString (fn := Tryz.f163) (by kernel_rfl) (by kernel_rfl) (by kernel_rfl) (by kernel_rfl) (by kernel_rfl)) (tbl_cons ?_ tbl_nil))
 exact o_contains (goodQ (by kernel_rfl)) (g0 := 0) (m := m) rfl fun s sub m w hs hm => Tryz.strings_Contains s sub m w hs hm
def src0 : List UInt8 := [111, 102, 32, 117, 115, 101, 114, 32, 116, 97, 107, 101, 32, 97, 44, 32, 98, 32, 115, 101, 101, 100, 32, 55, 32, 107, 101, 101, 112, 32, 53, 48, 48, 32, 97, 116, 32, 34, 117, 34, 32, 49, 48, 32, 50, 48, 44, 32, 34, 118, 34, 32, 53, 32, 57]
def tok0 : List Tk := [⟨1, [111, 102], 0⟩, ⟨1, [117, 115, 101, 114], 3⟩, ⟨1, [116, 97, 107, 101], 8⟩, ⟨1, [97], 13⟩, ⟨5, [44], 14⟩, ⟨1, [98], 16⟩, ⟨1, [115, 101, 101, 100], 18⟩, ⟨2, [55], 23⟩, ⟨1, [107, 101, 101, 112], 25⟩, ⟨2, [53, 48, 48], 30⟩, ⟨1, [97, 116], 34⟩, ⟨4, [117], 37⟩, ⟨2, [49, 48], 41⟩, ⟨2, [50, 48], 44⟩, ⟨5, [44], 46⟩, ⟨4, [118], 48⟩, ⟨2, [53], 52⟩, ⟨2, [57], 54⟩, ⟨6, [], 55⟩]
set_option maxRecDepth 100000 in
theorem run36_0 (m : Int) : (evs PQ (GQ m) (tbl libT) (fun _ => []) 200).1 36 [bytesA src0] = some (.tup [.sl 3 (toksL tok0) (.tok 0), .sl 0 [] .nil, .int .i64 0], [(19, 99)]) := by kernel_rfl
def src1 : List UInt8 := [111, 102, 32, 117, 115, 101, 114, 32, 116, 97, 107, 101, 32, 97, 44, 32, 97, 32, 115, 101, 101, 100, 32, 48, 32, 107, 101, 101, 112, 32, 49, 48, 48, 48]
def tok1 : List Tk := [⟨1, [111, 102], 0⟩, ⟨1, [117, 115, 101, 114], 3⟩, ⟨1, [116, 97, 107, 101], 8⟩, ⟨1, [97], 13⟩, ⟨5, [44], 14⟩, ⟨1, [97], 16⟩, ⟨1, [115, 101, 101, 100], 18⟩, ⟨2, [48], 23⟩, ⟨1, [107, 101, 101, 112], 25⟩, ⟨2, [49, 48, 48, 48], 30⟩, ⟨6, [], 34⟩]
set_option maxRecDepth 100000 in
theorem run36_1 (m : Int) : (evs PQ (GQ m) (tbl libT) (fun _ => []) 200).1 36 [bytesA src1] = some (.tup [.sl 3 (toksL tok1) (.tok 0), .sl 0 [] .nil, .int .i64 0], [(11, 99)]) := by kernel_rfl
def src2 : List UInt8 := [111, 102, 32, 117, 115, 101, 114, 32, 116, 97, 107, 101, 32, 97, 32, 115, 101, 101, 100, 32, 48, 32, 107, 101, 101, 112, 32, 49, 48, 48, 48, 32, 97, 116, 32, 34, 117, 34, 32, 49, 48]
def tok2 : List Tk := [⟨1, [111, 102], 0⟩, ⟨1, [117, 115, 101, 114], 3⟩, ⟨1, [116, 97, 107, 101], 8⟩, ⟨1, [97], 13⟩, ⟨1, [115, 101, 101, 100], 15⟩, ⟨2, [48], 20⟩, ⟨1, [107, 101, 101, 112], 22⟩, ⟨2, [49, 48, 48, 48], 27⟩, ⟨1, [97, 116], 32⟩, ⟨4, [117], 35⟩, ⟨2, [49, 48], 39⟩, ⟨6, [], 41⟩]
set_option maxRecDepth 100000 in
theorem run36_2 (m : Int) : (evs PQ (GQ m) (tbl libT) (fun _ => []) 200).1 36 [bytesA src2] = some (.tup [.sl 3 (toksL tok2) (.tok 0), .sl 0 [] .nil, .int .i64 0], [(12, 99)]) := by kernel_rfl
def src3 : List UInt8 := [111, 102, 32, 105, 102, 32, 116, 97, 107, 101, 32, 97]
def tok3 : List Tk := [⟨1, [111, 102], 0⟩, ⟨1, [105, 102], 3⟩, ⟨1, [116, 97, 107, 101], 6⟩, ⟨1, [97], 11⟩, ⟨6, [], 12⟩]
set_option maxRecDepth 100000 in
theorem run36_3 (m : Int) : (evs PQ (GQ m) (tbl libT) (fun _ => []) 200).1 36 [bytesA src3] = some (.tup [.sl 3 (toksL tok3) (.tok 0), .sl 0 [] .nil, .int .i64 0], [(5, 99)]) := by kernel_rfl
theorem SpecOk.own {P : Program} {G : Glob} {f : FuncId} {s s' : Spec} (hs : SpecOk P G f s) (h : ∀ args r', s' args = some r' → ∃ r, s args = some r ∧ RetLax r.1 r' ∧ ∀ L, RetLax (adopt L r.1) r') : SpecOk P G f s' := by
 intro g args r' lv hr
 by_cases e : g = f
 ·subst e
  simp only [if_true] at hr
  obtain ⟨r, h1, h2, h3⟩ := h args _ hr
  have hlv : lv = [] := h2.none
  subst hlv
  intro E w vs hI hG hn hv hcl
  refine (hs g args r.1 r.2 (by simp only [if_true]; exact h1) E w vs hI hG hn hv hcl).mono ?_
  rintro e w' ⟨v, he, I', k1, k2, k3, k4⟩
  refine ⟨v, he, I', k1, k2, k3, .inl ⟨rfl, fun B K => ?_⟩⟩
  rcases k4 with ⟨_, k4⟩ | ⟨n, e', hv', sz, xs, _, _, _, _, hrep⟩
  ·exact h2.lax.rep (k4 B K)
  ·exact rep_closed2 ((h3 0).lax.rep (hrep B (fun _ _ _ => True) 0 trivial)) h2.closed B K
 ·simp only [e, if_false] at hr
  cases hr
theorem evs_spec {P : Program} {G : Glob} {R0 : Callee} {hint : FuncId → List Bool} (hm : P.follows .mixedOrders = true) (h0 : CalleeOk P G R0) (n : Nat) (f : FuncId) : SpecOk P G f ((evs P G R0 hint n).1 f) := by
 intro g args r lv h
 by_cases e : g = f
 ·subst e
  simp only [if_true] at h
  exact (evs_ok hm h0 hint n).1 g args r lv h
 ·simp only [e, if_false] at h
  cases h
def exT (bs : List UInt8) : Option (List Tk) := if bs = src0 then some tok0 else if bs = src1 then some tok1 else if bs = src2 then some tok2 else if bs = src3 then some tok3 else none
def s36x : Spec := fun args => match args with
 | [.sl 1 es .no] => (unBytes es).bind fun bs => (exT bs).map fun ts => s36v ts [] 0
 | _ => none
def s11x : Spec := fun args => match args with
 | [.sl 1 es .no] => (unBytes es).bind fun bs => (exT bs).map fun ts => (resT ts [] 0, [])
 | _ => none
theorem exT_inv {bs : List UInt8} {ts : List Tk} (h : exT bs = some ts) : (bs = src0 ∧ ts = tok0) ∨ (bs = src1 ∧ ts = tok1) ∨ (bs = src2 ∧ ts = tok2) ∨ (bs = src3 ∧ ts = tok3) := by
 unfold exT at h
 split at h
 ·rename_i e; injection h with h; exact .inl ⟨e, h.symm⟩
 split at h
 ·rename_i e; injection h with h; exact .inr (.inl ⟨e, h.symm⟩)
 split at h
 ·rename_i e; injection h with h; exact .inr (.inr (.inl ⟨e, h.symm⟩))
 split at h
 ·rename_i e; injection h with h; exact .inr (.inr (.inr ⟨e, h.symm⟩))
 ·cases h
theorem good_ex {bs : List UInt8} {ts : List Tk} (h : exT bs = some ts) : GoodT ts := by
 rcases exT_inv h with ⟨_, rfl⟩ | ⟨_, rfl⟩ | ⟨_, rfl⟩ | ⟨_, rfl⟩
 ·exact ⟨⟨tok0.dropLast, tok0.getLast (by decide), rfl, rfl⟩, by decide, by decide⟩
 ·exact ⟨⟨tok1.dropLast, tok1.getLast (by decide), rfl, rfl⟩, by decide, by decide⟩
 ·exact ⟨⟨tok2.dropLast, tok2.getLast (by decide), rfl, rfl⟩, by decide, by decide⟩
 ·exact ⟨⟨tok3.dropLast, tok3.getLast (by decide), rfl, rfl⟩, by decide, by decide⟩
theorem ex_inv {args : List AV} {r : AV × List (Nat × TypeId)} {k : List Tk → AV × List (Nat × TypeId)} (h : (match args with
 | [.sl 1 es .no] => (unBytes es).bind fun bs => (exT bs).map k
 | _ => none) = some r) : ∃ bs ts, args = [bytesA bs] ∧ exT bs = some ts ∧ r = k ts := by
 split at h
 case h_2 => cases h
 rename_i es
 cases hb : unBytes es with
 | none => rw [hb] at h; cases h
 | some bs =>
  rw [hb] at h
  simp only [Option.bind_some] at h
  cases ht : exT bs with
  | none => rw [ht] at h; cases h
  | some ts =>
   rw [ht] at h
   simp only [Option.map_some, Option.some.injEq] at h
   exact ⟨bs, ts, by rw [unBytes_some hb], ht, h.symm⟩
theorem s36x_at {bs : List UInt8} {ts : List Tk} (h : exT bs = some ts) : s36x [bytesA bs] = some (s36v ts [] 0) := by
 simp only [s36x, unBytes_mk, Option.bind_some, h, Option.map_some]
theorem toks_lax (ts : List Tk) (L : Nat) : RetLax (.tup [.sl 3 (toksL ts) (.tok L), .sl 0 [] .nil, .int .i64 0]) (s36v ts [] 0) := by
 refine ⟨?_, ?_, rfl⟩
 ·exact ⟨⟨rfl, rfl, .inl rfl⟩, ⟨rfl, rfl, .inr rfl⟩, rfl, trivial⟩
 ·rfl
theorem o36 (m : Int) : SpecOk PQ (GQ m) 36 s36x := SpecOk.own (evs_spec mixedQ (libT_ok m) 200 36) fun args r h => by
 obtain ⟨bs, ts, rfl, ht, rfl⟩ := ex_inv h
 rcases exT_inv ht with ⟨rfl, rfl⟩ | ⟨rfl, rfl⟩ | ⟨rfl, rfl⟩ | ⟨rfl, rfl⟩
 ·exact ⟨_, run36_0 m, toks_lax _ _, fun L => toks_lax _ L⟩
 ·exact ⟨_, run36_1 m, toks_lax _ _, fun L => toks_lax _ L⟩
 ·exact ⟨_, run36_2 m, toks_lax _ _, fun L => toks_lax _ L⟩
 ·exact ⟨_, run36_3 m, toks_lax _ _, fun L => toks_lax _ L⟩
theorem o11x (m : Int) : SpecOk PQ (GQ m) 11 s11x := tlax_of' mixedQ fun args r h => by
 obtain ⟨bs, ts, rfl, ht, rfl⟩ := ex_inv h
 have hR := tbl_cons (o36 m) (tbl_cons (o46 m) tbl_nil)
 exact ⟨_, _, _, _, _, _, hR, itbl_nil, inlW_ok mixedQ hR itbl_nil (J1_ok m), p11 m s36x bs ts [] 0 (s36x_at ht) fun _ _ _ => good_ex ht⟩
noncomputable def evI (m : Int) (f : FuncId) : ISpec := fun args S => ((evs PQ (GQ m) (tbl libT) (fun _ => []) 100).2 f args S).map fun r => (True, r.1, r.2)
theorem evI_ok (m : Int) (f : FuncId) : ISpecOk PQ (GQ m) f (evI m f) := by
 intro g args S r S' h
 simp only [lowC] at h
 by_cases e : g = f
 ·subst e
  simp only [if_true] at h
  split at h
  case h_2 => cases h
  rename_i y hy
  split at h
  case isFalse => cases h
  injection h with h
  unfold evI at hy
  cases hx : (evs PQ (GQ m) (tbl libT) (fun _ => []) 100).2 g args S with
  | none => rw [hx] at hy; cases hy
  | some x =>
   rw [hx] at hy
   injection hy with hy
   subst hy
   exact (evs_ok mixedQ (libT_ok m) (fun _ => []) 100).2 g args S r S' (by rw [hx, ← h])
 ·simp only [if_neg e] at h
  cases h
def lv0 : List Lb := [⟨[118], 5, 9⟩, ⟨[117], 10, 20⟩, ⟨[117], 9, 30⟩, ⟨[118], 5, 9⟩]
def lvS : List Lb := [⟨[117], 9, 30⟩, ⟨[117], 10, 20⟩, ⟨[118], 5, 9⟩]
def s21x : Spec := fun args => match args with
 | [.sl sz es _] => if sz = 3 ∧ unL unLb es = some lv0 then some (.sl 3 (lbsL lvS) .no, []) else none
 | _ => none
theorem w21x (m : Int) (r : AV) : (laxW PQ (GQ m) X24 (tbl []) (itbl [(57, sClone 3 32), (58, evI m 58), (60, evI m 60)]) nAn [] 21 [.sl 3 (lbsL lv0) .no] (r, [])) =
(Nat.le ((128 : Nat)) ((140737488355328 : Nat)) ∧
  True ∧
    True ∧
      (3 : Nat) = (3 : Nat) ∧
        RetLax
 (AV.sl ((3 : Nat))
 [AV.agg [AV.str [(117 : UInt8)], AV.int IntKind.i64 (9 : Int), AV.int IntKind.i64 (30 : Int)],
 AV.agg [AV.str [(117 : UInt8)], AV.int IntKind.i64 (10 : Int), AV.int IntKind.i64 (20 : Int)],
 AV.agg [AV.str [(118 : UInt8)], AV.int IntKind.i64 (5 : Int), AV.int IntKind.i64 (9 : Int)]]
 Own.no)
 (r, [])) := by kernel_rfl
end Go.Abs
namespace Go.Abs
open Go.RowKit
section
variable {P : Program} {G : Glob} {E : Env} {w : World}
def wkA (z : Nat) : AV → AV
 | .sl _ [] _ => .sl z [] .no
 | .sl sz (e :: es) _ => .sl sz (e :: es) .no
 | a => a
def wkL : List Nat → List AV → List AV
 | z :: zs, a :: xs => wkA z a :: wkL zs xs
 | _, xs => xs
theorem rep_wk {z : Nat} {a : AV} {v : Value} (h : Rep E w a v) : Rep E w (wkA z a) v := by
 unfold wkA
 split
 ·cases h with
  | sl _ _ _ A cap u hcap hmax hA hsz hcl ho hr h1 =>
   exact .sl z [] .no A cap u hcap hmax (.inl rfl) (by simp) (by simp) trivial (fun i e j c hi => by simp at hi) h1
 ·cases h with
  | sl _ _ _ A cap u hcap hmax hA hsz hcl ho hr h1 =>
   exact .sl _ _ .no A cap u hcap hmax hA hsz hcl trivial hr h1
 ·exact h
theorem closed_wk {z : Nat} {a : AV} (h : a.closed1 = true) : (wkA z a).closed1 = true := by
 unfold wkA
 split
 ·rfl
 ·rfl
 ·exact h
theorem wkL_length : ∀ (zs : List Nat) (xs : List AV), (wkL zs xs).length = xs.length
 | [], xs => by simp [wkL]
 | z :: zs, [] => by simp [wkL]
 | z :: zs, a :: xs => by simp [wkL, wkL_length zs xs]
theorem wkL_at : ∀ (zs : List Nat) (xs : List AV) (i : Nat) (c : AV), (wkL zs xs)[i]? = some c → ∃ a, xs[i]? = some a ∧ (c = a ∨ ∃ z, c = wkA z a)
 | [], xs, i, c, h => ⟨c, by simpa [wkL] using h, .inl rfl⟩
 | z :: zs, [], i, c, h => by simp [wkL] at h
 | z :: zs, a :: xs, 0, c, h => by
  simp [wkL] at h
  exact ⟨a, by simp, .inr ⟨z, h.symm⟩⟩
 | z :: zs, a :: xs, i + 1, c, h => by
  simp only [wkL, List.getElem?_cons_succ] at h
  simpa using wkL_at zs xs i c h
theorem spec_wk {f : FuncId} {s : Spec} (zs : List Nat) (h : ∀ args r, s args = some r → SpecOk P G f (fun a => open Classical in if a = wkL zs args then some r else none)) : SpecOk P G f s := by
 intro g args r lv hr
 simp only at hr
 split at hr
 ·rename_i e
  subst e
  have := h args (r, lv) hr g (wkL zs args) r lv (by simp)
  intro E w vs hI hG hn hv hcl
  refine this E w vs hI hG (by rw [wkL_length]; exact hn) (fun i c v hi hv' => ?_) fun c hc => ?_
  ·obtain ⟨a, ha, hx⟩ := wkL_at zs args i c hi
   rcases hx with rfl | ⟨z, rfl⟩
   ·exact hv i _ v ha hv'
   ·exact rep_wk (hv i _ v ha hv')
  ·obtain ⟨i, hi, rfl⟩ := List.mem_iff_getElem.1 hc
   obtain ⟨a, ha, hx⟩ := wkL_at zs args i _ (List.getElem?_eq_getElem hi)
   rcases hx with hx | ⟨z, hx⟩
   ·rw [hx]; exact hcl a (List.mem_of_getElem? ha)
   ·rw [hx]; exact closed_wk (hcl a (List.mem_of_getElem? ha))
 ·cases hr
theorem lax_ofW {X : Shapes} {R : Callee} {C : CCallee} (zs : List Nat) (hm : P.follows .mixedOrders = true) (hR : CalleeOk P G R) (hC : ICalleeOk P G (lowC C)) {m : List Bool} {f : FuncId} {s : Spec}
  (h : ∀ args r, s args = some r → ∃ A, LaxOk P G X R C A m f (wkL zs args) r) : SpecOk P G f s :=
 spec_wk zs fun args r hr => lax_of hm hR hC fun a r' hr' => by
  split at hr'
  ·rename_i e; subst e; injection hr' with hr'; subst hr'; exact h args r hr
  ·cases hr'
end
end Go.Abs
