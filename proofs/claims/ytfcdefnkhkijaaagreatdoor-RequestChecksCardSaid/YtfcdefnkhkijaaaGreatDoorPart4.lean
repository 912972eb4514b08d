/- Own texts, part 4. -/
import Derived.Test.YtfcdefnkhkijaaaGreatDoorPart3
import Derived.Test.YtfcdefnkhkijaaaGreatDoorProg
import Derived.Test.YtfcdefnkhkijaaaGreatDoorChecked
import Derived.Test.YtfcdefnkhkijaaaGreatDoorShelf
import Derived.KernelRfl
import Derived.Lib.DecodeNEq
import Derived.Lib.IndexMore
import Derived.Lib.IndexBytes
import Derived.Lib.AtoiAll
import Derived.Lib.AtoiErrMem
import Derived.Lib.AppendIntMem

namespace Go.Abs
open Go.Proofs
noncomputable abbrev PQ := Tryz.prog
def tensA : AV := .agg [.int .i64 1, .int .i64 10, .int .i64 100, .int .i64 1000, .int .i64 10000, .int .i64 100000, .int .i64 1000000]
def keptFirst : List AV := (List.range 256).map fun c => .int .u8 (Lib.firstT c)
def keptFirstA : AV := .agg keptFirst
def keptAcc : List AV := [.int .u8 128, .int .u8 191, .int .u8 160, .int .u8 191, .int .u8 128, .int .u8 159, .int .u8 144, .int .u8 191, .int .u8 128, .int .u8 143, .int .u8 0, .int .u8 0, .int .u8 0, .int .u8 0, .int .u8 0, .int .u8 0, .int .u8 0, .int .u8 0, .int .u8 0, .int .u8 0, .int .u8 0, .int .u8 0, .int .u8 0, .int .u8 0, .int .u8 0, .int .u8 0, .int .u8 0, .int .u8 0, .int .u8 0, .int .u8 0, .int .u8 0, .int .u8 0]
def keptAccA : AV := .agg keptAcc
def keptPows : List AV := (List.range 20).map fun i => .int .u64 ((10 ^ i : Nat) : Int)
def keptPowsA : AV := .agg keptPows
def GQ (m : Int) : Glob := fun g => match g with
 | 0 => some (.int .i64 m)
 | 1 => some tensA
 | 2 => some .ifc
 | 3 => some .ifc
 | 4 => some keptPowsA
 | 5 => some keptFirstA
 | 6 => some keptAccA
 | _ => none
def libQ : List (FuncId × Spec) := [(133, sContains)]
theorem mixedQ : PQ.follows .mixedOrders = true := Tryz.checked.mixed
theorem goodQ {f : FuncId} (h : (match PQ.funcs[f]? with | some fn => fn.body.isSome && !(fn.name == "runtime.NumGoroutine") | none => false) = true) : goodFn PQ f := by
 split at h
 ·rename_i fn hf
  simp only [Bool.and_eq_true, Bool.not_eq_true'] at h
  exact ⟨fn, hf, h.1, h.2⟩
 ·cases h
theorem libQ_ok (m : Int) : CalleeOk PQ (GQ m) (tbl libQ) := by
 refine tbl_cons ?_ tbl_nil
 exact o_contains (goodQ (by kernel_rfl)) (g0 := 0) (m := m) rfl fun s sub m w hs hm => Tryz.strings_Contains s sub m w hs hm
def shB : Sh × Option TypeId := (.val (.one .bool), none)
def shI : Sh × Option TypeId := (.val (.one (.int .i64)), none)
def X1 : Shapes := fun f => if f = 160 ∨ f = 140 then some shB else none
def letterB (c : UInt8) : Bool := decide (97 ≤ c.toNat ∧ c.toNat ≤ 122)
def digitB (c : UInt8) : Bool := decide (48 ≤ c.toNat ∧ c.toNat ≤ 57)
def s160 : Spec := fun args => match args with | [.int .u8 n] => some (.bool (decide (97 ≤ n ∧ n ≤ 122)), []) | _ => none
def s140 : Spec := fun args => match args with | [.int .u8 n] => some (.bool (decide (48 ≤ n ∧ n ≤ 57)), []) | _ => none
def innerB (c : UInt8) : Bool := letterB c || digitB c || c == 95
def wl : List UInt8 → Nat
 | [] => 0
 | c :: t => if letterB c then 1 + (t.takeWhile innerB).length else 0
def nA : Nat → Option Ann := fun _ => none
def a123 (bs : List UInt8) (i : Nat) : Anns := ⟨fun k => if k = 4 then some { α := Int, slots := [0,1,5], nb := 0, vals := fun n => [bytesA bs, .int .i64 i, .int .i64 n], sS := fun _ => ⟨[],[]⟩, I := fun n => ∃ k : Nat, n = k ∧ 1 ≤ k ∧ k ≤ wl (bs.drop i), μ := fun n => (bs.length - n).toNat } else none, nA⟩
def t33 : List (FuncId × Spec) := [(160, s160),(140, s140)]
def kwList : List (List UInt8) := [[116, 97, 98, 108, 101], [102, 101, 97, 116, 117, 114, 101], [111, 102], [107, 101, 101, 112], [98, 111, 111, 108], [116, 101, 120, 116], [107, 101, 121], [105, 110, 116], [100, 101, 99], [105, 102], [116, 104, 101, 110], [101, 108, 115, 101], [100, 101, 102, 97, 117, 108, 116], [111, 114], [97, 110, 100], [110, 111, 116], [116, 114, 117, 101], [102, 97, 108, 115, 101], [110, 117, 108, 108], [99, 111, 117, 110, 116], [115, 117, 109], [109, 101, 97, 110], [109, 105, 110], [109, 97, 120], [102, 105, 114, 115, 116], [108, 97, 115, 116], [100, 105, 115, 116, 105, 110, 99, 116], [113, 117, 97, 110, 116, 105, 108, 101], [100, 101, 99, 97, 121], [97, 108, 108], [115, 108, 105, 100, 105, 110, 103], [116, 117, 109, 98, 108, 105, 110, 103], [115, 101, 115, 115, 105, 111, 110], [119, 104, 101, 114, 101]]
def kwR (s : List UInt8) : Bool := kwList.contains s
def nameR (s : List UInt8) : Bool := decide (s ≠ []) && decide (s.length ≤ 24) && decide (wl s = s.length) && !kwR s
def s124 : Spec := fun args => match args with
 | [.str s] => some (.bool (kwR s), [])
 | _ => none
def s88 : Spec := fun args => match args with
 | [.str s] => if s.length ≤ 2000000 then some (.bool (kwR s), []) else none
 | _ => none
def s123' : Spec := fun args => match args with
 | [.sl sz es .no, .int .i64 n] => if sz = 1 then match unBytes es with
  | some bs => if 0 ≤ n ∧ n.toNat < bs.length ∧ bs.length < 2 ^ 60 then some (.int .i64 (wl (bs.drop n.toNat)), []) else none
  | none => none else none
 | _ => none
def XW : Shapes := fun f => match f with
 | 88 | 124 | 40 | 77 | 133 => some shB
 | 123 => some shI
 | _ => none
def nAn : Anns := ⟨nA, nA⟩
def a40 (s : List UInt8) : Anns := ⟨fun k => if k = 4 then some { α := Int, slots := [0, 17, 18], nb := 0, vals := fun n => [.str s, .int .i64 s.length, .int .i64 n], sS := fun _ => ⟨[],[]⟩, I := fun n => ∃ k : Nat, n = k ∧ k ≤ s.length ∧ (1 ≤ k → k ≤ wl s), μ := fun n => (s.length - n).toNat } else none, nA⟩
theorem w160 (m : Int) (n : Int) : (pureW PQ (GQ m) X1 (tbl []) (itbl []) ⟨nA, nA⟩ [] 160 [.int .u8 n] (.bool (decide (97 ≤ n ∧ n ≤ 122)), [])) =
((decide (n ≥ (97 : Int)) = true →
  (decide (n ≤ (122 : Int)) = true → RetIs (AV.bool true) [] (AV.bool (decide ((97 : Int) ≤ n ∧ n ≤ (122 : Int))), [])) ∧
   (decide (n ≤ (122 : Int)) = false → RetIs (AV.bool false) [] (AV.bool (decide ((97 : Int) ≤ n ∧ n ≤ (122 : Int))), []))) ∧
 (decide (n ≥ (97 : Int)) = false → RetIs (AV.bool false) [] (AV.bool (decide ((97 : Int) ≤ n ∧ n ≤ (122 : Int))), []))) := by kernel_rfl
theorem w123 (m : Int) (bs : List UInt8) (i : Nat) : (pureW PQ (GQ m) X1 (tbl t33) (itbl []) (a123 bs i) [] 123 [bytesA bs, .int .i64 i] (.int .i64 (wl (bs.drop i)), [])) =
(((0 : Int) ≤ (↑i : Int) ∧ (↑i : Int) < (↑(bytesL bs).length : Int)) ∧
  ∃ (n : Int),
    takeAt PQ ((5 : Nat)) (bytesL bs) (↑i : Int).toNat ((0 : Nat)) = some (AV.int IntKind.u8 n) ∧
      ∃ (b : Bool),
        CallIs (some (AV.bool (decide ((97 : Int) ≤ n ∧ n ≤ (122 : Int))), [])) (AV.bool b) [] ∧
 (b = true →
 (∃ (y : Int),
 ValsAre [AV.sl ((1 : Nat)) (bytesL bs) Own.no, AV.int IntKind.i64 (↑i : Int), AV.int IntKind.i64 (1 : Int)]
 [AV.sl ((1 : Nat)) (bytesL bs) Own.no, AV.int IntKind.i64 (↑i : Int), AV.int IntKind.i64 y] ∧
 StIs { boxes := [], live := [] } { boxes := [], live := [] } ∧
 (∃ (k : Nat), y = (↑k : Int) ∧ (1 : Nat) ≤ k ∧ k ≤ wl (List.drop i bs)) ∧ True) ∧
 ∀ (x : Int),
 (∃ (k : Nat), x = (↑k : Int) ∧ (1 : Nat) ≤ k ∧ k ≤ wl (List.drop i bs)) →
 (decide (IntKind.i64.wrap ((↑i : Int) + x) < (↑(bytesL bs).length : Int)) = true →
 ((0 : Int) ≤ IntKind.i64.wrap ((↑i : Int) + x) ∧ IntKind.i64.wrap ((↑i : Int) + x) < (↑(bytesL bs).length : Int)) ∧
 ∃ (n : Int),
 takeAt PQ ((5 : Nat)) (bytesL bs) (IntKind.i64.wrap ((↑i : Int) + x)).toNat ((0 : Nat)) = some (AV.int IntKind.u8 n) ∧
 ∃ (b : Bool),
 CallIs (some (AV.bool (decide ((97 : Int) ≤ n ∧ n ≤ (122 : Int))), [])) (AV.bool b) [] ∧
 (b = true →
 ∃ (y : Int),
 ValsAre
 [AV.sl ((1 : Nat)) (bytesL bs) Own.no, AV.int IntKind.i64 (↑i : Int),
 AV.int IntKind.i64 (IntKind.i64.wrap (x + (1 : Int)))]
 [AV.sl ((1 : Nat)) (bytesL bs) Own.no, AV.int IntKind.i64 (↑i : Int), AV.int IntKind.i64 y] ∧
 StIs { boxes := [], live := [] } { boxes := [], live := [] } ∧
 (∃ (k : Nat), y = (↑k : Int) ∧ (1 : Nat) ≤ k ∧ k ≤ wl (List.drop i bs)) ∧
 ((↑bs.length : Int) - y).toNat < ((↑bs.length : Int) - x).toNat) ∧
 (b = false →
 ((0 : Int) ≤ IntKind.i64.wrap ((↑i : Int) + x) ∧ IntKind.i64.wrap ((↑i : Int) + x) < (↑(bytesL bs).length : Int)) ∧
 ∃ (n : Int),
 takeAt PQ ((5 : Nat)) (bytesL bs) (IntKind.i64.wrap ((↑i : Int) + x)).toNat ((0 : Nat)) = some (AV.int IntKind.u8 n) ∧
 ∃ (b : Bool),
 CallIs (some (AV.bool (decide ((48 : Int) ≤ n ∧ n ≤ (57 : Int))), [])) (AV.bool b) [] ∧
 (b = true →
 ∃ (y : Int),
 ValsAre
 [AV.sl ((1 : Nat)) (bytesL bs) Own.no, AV.int IntKind.i64 (↑i : Int),
 AV.int IntKind.i64 (IntKind.i64.wrap (x + (1 : Int)))]
 [AV.sl ((1 : Nat)) (bytesL bs) Own.no, AV.int IntKind.i64 (↑i : Int), AV.int IntKind.i64 y] ∧
 StIs { boxes := [], live := [] } { boxes := [], live := [] } ∧
 (∃ (k : Nat), y = (↑k : Int) ∧ (1 : Nat) ≤ k ∧ k ≤ wl (List.drop i bs)) ∧
 ((↑bs.length : Int) - y).toNat < ((↑bs.length : Int) - x).toNat) ∧
 (b = false →
 ((0 : Int) ≤ IntKind.i64.wrap ((↑i : Int) + x) ∧
 IntKind.i64.wrap ((↑i : Int) + x) < (↑(bytesL bs).length : Int)) ∧
 ∃ (n : Int),
 takeAt PQ ((5 : Nat)) (bytesL bs) (IntKind.i64.wrap ((↑i : Int) + x)).toNat ((0 : Nat)) =
 some (AV.int IntKind.u8 n) ∧
 ((n == (95 : Int)) = true →
 ∃ (y : Int),
 ValsAre
 [AV.sl ((1 : Nat)) (bytesL bs) Own.no, AV.int IntKind.i64 (↑i : Int),
 AV.int IntKind.i64 (IntKind.i64.wrap (x + (1 : Int)))]
 [AV.sl ((1 : Nat)) (bytesL bs) Own.no, AV.int IntKind.i64 (↑i : Int),
 AV.int IntKind.i64 y] ∧
 StIs { boxes := [], live := [] } { boxes := [], live := [] } ∧
 (∃ (k : Nat), y = (↑k : Int) ∧ (1 : Nat) ≤ k ∧ k ≤ wl (List.drop i bs)) ∧
 ((↑bs.length : Int) - y).toNat < ((↑bs.length : Int) - x).toNat) ∧
 ((n == (95 : Int)) = false →
 RetIs (AV.int IntKind.i64 x) [] (AV.int IntKind.i64 (↑(wl (List.drop i bs)) : Int), []))))) ∧
 (decide (IntKind.i64.wrap ((↑i : Int) + x) < (↑(bytesL bs).length : Int)) = false →
 RetIs (AV.int IntKind.i64 x) [] (AV.int IntKind.i64 (↑(wl (List.drop i bs)) : Int), []))) ∧
 (b = false → RetIs (AV.int IntKind.i64 (0 : Int)) [] (AV.int IntKind.i64 (↑(wl (List.drop i bs)) : Int), []))) := by kernel_rfl
theorem w140 (m : Int) (n : Int) : (pureW PQ (GQ m) X1 (tbl []) (itbl []) ⟨nA, nA⟩ [] 140 [.int .u8 n] (.bool (decide (48 ≤ n ∧ n ≤ 57)), [])) =
((decide (n ≥ (48 : Int)) = true →
  (decide (n ≤ (57 : Int)) = true → RetIs (AV.bool true) [] (AV.bool (decide ((48 : Int) ≤ n ∧ n ≤ (57 : Int))), [])) ∧
   (decide (n ≤ (57 : Int)) = false → RetIs (AV.bool false) [] (AV.bool (decide ((48 : Int) ≤ n ∧ n ≤ (57 : Int))), []))) ∧
 (decide (n ≥ (48 : Int)) = false → RetIs (AV.bool false) [] (AV.bool (decide ((48 : Int) ≤ n ∧ n ≤ (57 : Int))), []))) := by kernel_rfl
theorem w88 (m : Int) (s : List UInt8) : (pureW PQ (GQ m) XW (tbl libQ) (itbl []) nAn [] 88 [.str s] (.bool (kwR s), [])) =
(((!s == []) = true →
    ∃ (b : Bool),
      CallIs (tbl [((133 : Nat), sContains)] ((133 : Nat)) [AV.str s, AV.str [(32 : UInt8)]]) (AV.bool b) [] ∧
        (b = true → RetIs (AV.bool false) [] (AV.bool (kwR s), [])) ∧
 (b = false →
 (1 : Nat) + s.length ≤ (9223372036854775807 : Nat) ∧
 ([(32 : UInt8)] ++ s).length + (1 : Nat) ≤ (9223372036854775807 : Nat) ∧
 ∃ (b : Bool),
 CallIs
 (some
 (AV.bool
 (Lib.contains
 [(32 : UInt8), (116 : UInt8), (97 : UInt8), (98 : UInt8), (108 : UInt8), (101 : UInt8), (32 : UInt8), (102 : UInt8),
 (101 : UInt8), (97 : UInt8), (116 : UInt8), (117 : UInt8), (114 : UInt8), (101 : UInt8), (32 : UInt8), (111 : UInt8),
 (102 : UInt8), (32 : UInt8), (107 : UInt8), (101 : UInt8), (101 : UInt8), (112 : UInt8), (32 : UInt8), (98 : UInt8),
 (111 : UInt8), (111 : UInt8), (108 : UInt8), (32 : UInt8), (116 : UInt8), (101 : UInt8), (120 : UInt8), (116 : UInt8),
 (32 : UInt8), (107 : UInt8), (101 : UInt8), (121 : UInt8), (32 : UInt8), (105 : UInt8), (110 : UInt8), (116 : UInt8),
 (32 : UInt8), (100 : UInt8), (101 : UInt8), (99 : UInt8), (32 : UInt8), (105 : UInt8), (102 : UInt8), (32 : UInt8),
 (116 : UInt8), (104 : UInt8), (101 : UInt8), (110 : UInt8), (32 : UInt8), (101 : UInt8), (108 : UInt8), (115 : UInt8),
 (101 : UInt8), (32 : UInt8), (100 : UInt8), (101 : UInt8), (102 : UInt8), (97 : UInt8), (117 : UInt8), (108 : UInt8),
 (116 : UInt8), (32 : UInt8), (111 : UInt8), (114 : UInt8), (32 : UInt8), (97 : UInt8), (110 : UInt8), (100 : UInt8),
 (32 : UInt8), (110 : UInt8), (111 : UInt8), (116 : UInt8), (32 : UInt8), (116 : UInt8), (114 : UInt8), (117 : UInt8),
 (101 : UInt8), (32 : UInt8), (102 : UInt8), (97 : UInt8), (108 : UInt8), (115 : UInt8), (101 : UInt8), (32 : UInt8),
 (110 : UInt8), (117 : UInt8), (108 : UInt8), (108 : UInt8), (32 : UInt8), (99 : UInt8), (111 : UInt8), (117 : UInt8),
 (110 : UInt8), (116 : UInt8), (32 : UInt8), (115 : UInt8), (117 : UInt8), (109 : UInt8), (32 : UInt8), (109 : UInt8),
 (101 : UInt8), (97 : UInt8), (110 : UInt8), (32 : UInt8), (109 : UInt8), (105 : UInt8), (110 : UInt8), (32 : UInt8),
 (109 : UInt8), (97 : UInt8), (120 : UInt8), (32 : UInt8), (102 : UInt8), (105 : UInt8), (114 : UInt8), (115 : UInt8),
 (116 : UInt8), (32 : UInt8), (108 : UInt8), (97 : UInt8), (115 : UInt8), (116 : UInt8), (32 : UInt8), (100 : UInt8),
 (105 : UInt8), (115 : UInt8), (116 : UInt8), (105 : UInt8), (110 : UInt8), (99 : UInt8), (116 : UInt8), (32 : UInt8),
 (113 : UInt8), (117 : UInt8), (97 : UInt8), (110 : UInt8), (116 : UInt8), (105 : UInt8), (108 : UInt8), (101 : UInt8),
 (32 : UInt8), (100 : UInt8), (101 : UInt8), (99 : UInt8), (97 : UInt8), (121 : UInt8), (32 : UInt8), (97 : UInt8),
 (108 : UInt8), (108 : UInt8), (32 : UInt8), (115 : UInt8), (108 : UInt8), (105 : UInt8), (100 : UInt8), (105 : UInt8),
 (110 : UInt8), (103 : UInt8), (32 : UInt8), (116 : UInt8), (117 : UInt8), (109 : UInt8), (98 : UInt8), (108 : UInt8),
 (105 : UInt8), (110 : UInt8), (103 : UInt8), (32 : UInt8), (115 : UInt8), (101 : UInt8), (115 : UInt8), (115 : UInt8),
 (105 : UInt8), (111 : UInt8), (110 : UInt8), (32 : UInt8), (119 : UInt8), (104 : UInt8), (101 : UInt8), (114 : UInt8),
 (101 : UInt8), (32 : UInt8)]
 ([(32 : UInt8)] ++ s ++ [(32 : UInt8)])),
 []))
 (AV.bool b) [] ∧
 (b = true → RetIs (AV.bool true) [] (AV.bool (kwR s), [])) ∧ (b = false → RetIs (AV.bool false) [] (AV.bool (kwR s), [])))) ∧
  ((!s == []) = false → RetIs (AV.bool false) [] (AV.bool (kwR s), []))) := by kernel_rfl
theorem w124 (m : Int) (s : List UInt8) : (pureW PQ (GQ m) XW (tbl []) (itbl []) nAn [] 124 [.str s] (.bool (kwR s), [])) =
(((s == [(116 : UInt8), (97 : UInt8), (98 : UInt8), (108 : UInt8), (101 : UInt8)]) = true → RetIs (AV.bool true) [] (AV.bool (kwR s), [])) ∧
  ((s == [(116 : UInt8), (97 : UInt8), (98 : UInt8), (108 : UInt8), (101 : UInt8)]) = false →
    ((s == [(102 : UInt8), (101 : UInt8), (97 : UInt8), (116 : UInt8), (117 : UInt8), (114 : UInt8), (101 : UInt8)]) = true →
        RetIs (AV.bool true) [] (AV.bool (kwR s), [])) ∧
      ((s == [(102 : UInt8), (101 : UInt8), (97 : UInt8), (116 : UInt8), (117 : UInt8), (114 : UInt8), (101 : UInt8)]) = false →
        ((s == [(111 : UInt8), (102 : UInt8)]) = true → RetIs (AV.bool true) [] (AV.bool (kwR s), [])) ∧
 ((s == [(111 : UInt8), (102 : UInt8)]) = false →
 ((s == [(107 : UInt8), (101 : UInt8), (101 : UInt8), (112 : UInt8)]) = true → RetIs (AV.bool true) [] (AV.bool (kwR s), [])) ∧
 ((s == [(107 : UInt8), (101 : UInt8), (101 : UInt8), (112 : UInt8)]) = false →
 ((s == [(98 : UInt8), (111 : UInt8), (111 : UInt8), (108 : UInt8)]) = true → RetIs (AV.bool true) [] (AV.bool (kwR s), [])) ∧
 ((s == [(98 : UInt8), (111 : UInt8), (111 : UInt8), (108 : UInt8)]) = false →
 ((s == [(116 : UInt8), (101 : UInt8), (120 : UInt8), (116 : UInt8)]) = true → RetIs (AV.bool true) [] (AV.bool (kwR s), [])) ∧
 ((s == [(116 : UInt8), (101 : UInt8), (120 : UInt8), (116 : UInt8)]) = false →
 ((s == [(107 : UInt8), (101 : UInt8), (121 : UInt8)]) = true → RetIs (AV.bool true) [] (AV.bool (kwR s), [])) ∧
 ((s == [(107 : UInt8), (101 : UInt8), (121 : UInt8)]) = false →
 ((s == [(105 : UInt8), (110 : UInt8), (116 : UInt8)]) = true → RetIs (AV.bool true) [] (AV.bool (kwR s), [])) ∧
 ((s == [(105 : UInt8), (110 : UInt8), (116 : UInt8)]) = false →
 ((s == [(100 : UInt8), (101 : UInt8), (99 : UInt8)]) = true → RetIs (AV.bool true) [] (AV.bool (kwR s), [])) ∧
 ((s == [(100 : UInt8), (101 : UInt8), (99 : UInt8)]) = false →
 ((s == [(105 : UInt8), (102 : UInt8)]) = true → RetIs (AV.bool true) [] (AV.bool (kwR s), [])) ∧
 ((s == [(105 : UInt8), (102 : UInt8)]) = false →
 ((s == [(116 : UInt8), (104 : UInt8), (101 : UInt8), (110 : UInt8)]) = true →
 RetIs (AV.bool true) [] (AV.bool (kwR s), [])) ∧
 ((s == [(116 : UInt8), (104 : UInt8), (101 : UInt8), (110 : UInt8)]) = false →
 ((s == [(101 : UInt8), (108 : UInt8), (115 : UInt8), (101 : UInt8)]) = true →
 RetIs (AV.bool true) [] (AV.bool (kwR s), [])) ∧
 ((s == [(101 : UInt8), (108 : UInt8), (115 : UInt8), (101 : UInt8)]) = false →
 ((s ==
 [(100 : UInt8), (101 : UInt8), (102 : UInt8), (97 : UInt8), (117 : UInt8), (108 : UInt8),
 (116 : UInt8)]) =
 true →
 RetIs (AV.bool true) [] (AV.bool (kwR s), [])) ∧
 ((s ==
 [(100 : UInt8), (101 : UInt8), (102 : UInt8), (97 : UInt8), (117 : UInt8), (108 : UInt8),
 (116 : UInt8)]) =
 false →
 ((s == [(111 : UInt8), (114 : UInt8)]) = true → RetIs (AV.bool true) [] (AV.bool (kwR s), [])) ∧
 ((s == [(111 : UInt8), (114 : UInt8)]) = false →
 ((s == [(97 : UInt8), (110 : UInt8), (100 : UInt8)]) = true →
 RetIs (AV.bool true) [] (AV.bool (kwR s), [])) ∧
 ((s == [(97 : UInt8), (110 : UInt8), (100 : UInt8)]) = false →
 ((s == [(110 : UInt8), (111 : UInt8), (116 : UInt8)]) = true →
 RetIs (AV.bool true) [] (AV.bool (kwR s), [])) ∧
 ((s == [(110 : UInt8), (111 : UInt8), (116 : UInt8)]) = false →
 ((s == [(116 : UInt8), (114 : UInt8), (117 : UInt8), (101 : UInt8)]) = true →
 RetIs (AV.bool true) [] (AV.bool (kwR s), [])) ∧
 ((s == [(116 : UInt8), (114 : UInt8), (117 : UInt8), (101 : UInt8)]) = false →
 ((s == [(102 : UInt8), (97 : UInt8), (108 : UInt8), (115 : UInt8), (101 : UInt8)]) = true →
 RetIs (AV.bool true) [] (AV.bool (kwR s), [])) ∧
 ((s == [(102 : UInt8), (97 : UInt8), (108 : UInt8), (115 : UInt8), (101 : UInt8)]) =
 false →
 ((s == [(110 : UInt8), (117 : UInt8), (108 : UInt8), (108 : UInt8)]) = true →
 RetIs (AV.bool true) [] (AV.bool (kwR s), [])) ∧
 ((s == [(110 : UInt8), (117 : UInt8), (108 : UInt8), (108 : UInt8)]) = false →
 ((s == [(99 : UInt8), (111 : UInt8), (117 : UInt8), (110 : UInt8), (116 : UInt8)]) =
 true →
 RetIs (AV.bool true) [] (AV.bool (kwR s), [])) ∧
 ((s ==
 [(99 : UInt8), (111 : UInt8), (117 : UInt8), (110 : UInt8),
 (116 : UInt8)]) =
 false →
 ((s == [(115 : UInt8), (117 : UInt8), (109 : UInt8)]) = true →
 RetIs (AV.bool true) [] (AV.bool (kwR s), [])) ∧
 ((s == [(115 : UInt8), (117 : UInt8), (109 : UInt8)]) = false →
 ((s == [(109 : UInt8), (101 : UInt8), (97 : UInt8), (110 : UInt8)]) = true →
 RetIs (AV.bool true) [] (AV.bool (kwR s), [])) ∧
 ((s == [(109 : UInt8), (101 : UInt8), (97 : UInt8), (110 : UInt8)]) =
 false →
 ((s == [(109 : UInt8), (105 : UInt8), (110 : UInt8)]) = true →
 RetIs (AV.bool true) [] (AV.bool (kwR s), [])) ∧
 ((s == [(109 : UInt8), (105 : UInt8), (110 : UInt8)]) = false →
 ((s == [(109 : UInt8), (97 : UInt8), (120 : UInt8)]) = true →
 RetIs (AV.bool true) [] (AV.bool (kwR s), [])) ∧
 ((s == [(109 : UInt8), (97 : UInt8), (120 : UInt8)]) = false →
 ((s ==
 [(102 : UInt8), (105 : UInt8), (114 : UInt8),
 (115 : UInt8), (116 : UInt8)]) =
 true →
 RetIs (AV.bool true) [] (AV.bool (kwR s), [])) ∧
 ((s ==
 [(102 : UInt8), (105 : UInt8), (114 : UInt8),
 (115 : UInt8), (116 : UInt8)]) =
 false →
 ((s ==
 [(108 : UInt8), (97 : UInt8), (115 : UInt8),
 (116 : UInt8)]) =
 true →
 RetIs (AV.bool true) [] (AV.bool (kwR s), [])) ∧
 ((s ==
 [(108 : UInt8), (97 : UInt8), (115 : UInt8),
 (116 : UInt8)]) =
 false →
 ((s ==
 [(100 : UInt8), (105 : UInt8), (115 : UInt8),
 (116 : UInt8), (105 : UInt8), (110 : UInt8),
 (99 : UInt8), (116 : UInt8)]) =
 true →
 RetIs (AV.bool true) [] (AV.bool (kwR s), [])) ∧
 ((s ==
 [(100 : UInt8), (105 : UInt8), (115 : UInt8),
 (116 : UInt8), (105 : UInt8), (110 : UInt8),
 (99 : UInt8), (116 : UInt8)]) =
 false →
 ((s ==
 [(113 : UInt8), (117 : UInt8), (97 : UInt8),
 (110 : UInt8), (116 : UInt8),
 (105 : UInt8), (108 : UInt8),
 (101 : UInt8)]) =
 true →
 RetIs (AV.bool true) [] (AV.bool (kwR s), [])) ∧
 ((s ==
 [(113 : UInt8), (117 : UInt8), (97 : UInt8),
 (110 : UInt8), (116 : UInt8),
 (105 : UInt8), (108 : UInt8),
 (101 : UInt8)]) =
 false →
 ((s ==
 [(100 : UInt8), (101 : UInt8),
 (99 : UInt8), (97 : UInt8),
 (121 : UInt8)]) =
 true →
 RetIs (AV.bool true) []
 (AV.bool (kwR s), [])) ∧
 ((s ==
 [(100 : UInt8), (101 : UInt8),
 (99 : UInt8), (97 : UInt8),
 (121 : UInt8)]) =
 false →
 ((s ==
 [(97 : UInt8), (108 : UInt8),
 (108 : UInt8)]) =
 true →
 RetIs (AV.bool true) []
 (AV.bool (kwR s), [])) ∧
 ((s ==
 [(97 : UInt8), (108 : UInt8),
 (108 : UInt8)]) =
 false →
 ((s ==
 [(115 : UInt8), (108 : UInt8),
 (105 : UInt8), (100 : UInt8),
 (105 : UInt8), (110 : UInt8),
 (103 : UInt8)]) =
 true →
 RetIs (AV.bool true) []
 (AV.bool (kwR s), [])) ∧
 ((s ==
 [(115 : UInt8), (108 : UInt8),
 (105 : UInt8), (100 : UInt8),
 (105 : UInt8), (110 : UInt8),
 (103 : UInt8)]) =
 false →
 ((s ==
 [(116 : UInt8),
 (117 : UInt8),
 (109 : UInt8),
 (98 : UInt8),
 (108 : UInt8),
 (105 : UInt8),
 (110 : UInt8),
 (103 : UInt8)]) =
 true →
 RetIs (AV.bool true) []
 (AV.bool (kwR s), [])) ∧
 ((s ==
 [(116 : UInt8),
 (117 : UInt8),
 (109 : UInt8),
 (98 : UInt8),
 (108 : UInt8),
 (105 : UInt8),
 (110 : UInt8),
 (103 : UInt8)]) =
 false →
 ((s ==
 [(115 : UInt8),
 (101 : UInt8),
 (115 : UInt8),
 (115 : UInt8),
 (105 : UInt8),
 (111 : UInt8),
 (110 : UInt8)]) =
 true →
 RetIs (AV.bool true) []
 (AV.bool (kwR s), [])) ∧
 ((s ==
 [(115 : UInt8),
 (101 : UInt8),
 (115 : UInt8),
 (115 : UInt8),
 (105 : UInt8),
 (111 : UInt8),
 (110 : UInt8)]) =
 false →
 ((s ==
 [(119 : UInt8),
 (104 : UInt8),
 (101 : UInt8),
 (114 : UInt8),
 (101 : UInt8)]) =
 true →
 RetIs (AV.bool true) []
 (AV.bool (kwR s),
 [])) ∧
 ((s ==
 [(119 : UInt8),
 (104 : UInt8),
 (101 : UInt8),
 (114 : UInt8),
 (101 : UInt8)]) =
 false →
 RetIs (AV.bool false) []
 (AV.bool (kwR s),
 [])))))))))))))))))))))))))))))))))))) := by kernel_rfl
theorem w40 (m : Int) (s : List UInt8) : (pureW PQ (GQ m) XW (tbl [(88, s88)]) (itbl []) (a40 s) [] 40 [.str s] (.bool (nameR s), [])) =
(((s == []) = true → RetIs (AV.bool false) [] (AV.bool (nameR s), [])) ∧
  ((s == []) = false →
    (decide ((↑s.length : Int) > (24 : Int)) = true → RetIs (AV.bool false) [] (AV.bool (nameR s), [])) ∧
      (decide ((↑s.length : Int) > (24 : Int)) = false →
        ∃ (b : Bool),
 CallIs (tbl [((88 : Nat), s88)] ((88 : Nat)) [AV.str s]) (AV.bool b) [] ∧
 (b = true → RetIs (AV.bool false) [] (AV.bool (nameR s), [])) ∧
 (b = false →
 (∃ (y : Int),
 ValsAre [AV.str s, AV.int IntKind.i64 (↑s.length : Int), AV.int IntKind.i64 (0 : Int)]
 [AV.str s, AV.int IntKind.i64 (↑s.length : Int), AV.int IntKind.i64 y] ∧
 StIs { boxes := [], live := [] } { boxes := [], live := [] } ∧
 (∃ (k : Nat), y = (↑k : Int) ∧ k ≤ s.length ∧ ((1 : Nat) ≤ k → k ≤ wl s)) ∧ True) ∧
 ∀ (x : Int),
 (∃ (k : Nat), x = (↑k : Int) ∧ k ≤ s.length ∧ ((1 : Nat) ≤ k → k ≤ wl s)) →
 (decide (x < (↑s.length : Int)) = true →
 (0 : Int) ≤ x ∧
 ∃ (c : UInt8),
 s[x.toNat]? = some c ∧
 (decide ((↑c.toNat : Int) ≥ (97 : Int)) = true →
 (decide ((↑c.toNat : Int) ≤ (122 : Int)) = true →
 ∃ (y : Int),
 ValsAre [AV.str s, AV.int IntKind.i64 (↑s.length : Int), AV.int IntKind.i64 (IntKind.i64.wrap (x + (1 : Int)))]
 [AV.str s, AV.int IntKind.i64 (↑s.length : Int), AV.int IntKind.i64 y] ∧
 StIs { boxes := [], live := [] } { boxes := [], live := [] } ∧
 (∃ (k : Nat), y = (↑k : Int) ∧ k ≤ s.length ∧ ((1 : Nat) ≤ k → k ≤ wl s)) ∧
 ((↑s.length : Int) - y).toNat < ((↑s.length : Int) - x).toNat) ∧
 (decide ((↑c.toNat : Int) ≤ (122 : Int)) = false →
 (decide (x > (0 : Int)) = true →
 (decide ((↑c.toNat : Int) ≥ (48 : Int)) = true →
 (decide ((↑c.toNat : Int) ≤ (57 : Int)) = true →
 ∃ (y : Int),
 ValsAre
 [AV.str s, AV.int IntKind.i64 (↑s.length : Int),
 AV.int IntKind.i64 (IntKind.i64.wrap (x + (1 : Int)))]
 [AV.str s, AV.int IntKind.i64 (↑s.length : Int), AV.int IntKind.i64 y] ∧
 StIs { boxes := [], live := [] } { boxes := [], live := [] } ∧
 (∃ (k : Nat), y = (↑k : Int) ∧ k ≤ s.length ∧ ((1 : Nat) ≤ k → k ≤ wl s)) ∧
 ((↑s.length : Int) - y).toNat < ((↑s.length : Int) - x).toNat) ∧
 (decide ((↑c.toNat : Int) ≤ (57 : Int)) = false →
 (((↑c.toNat : Int) == (95 : Int)) = true →
 ∃ (y : Int),
 ValsAre
 [AV.str s, AV.int IntKind.i64 (↑s.length : Int),
 AV.int IntKind.i64 (IntKind.i64.wrap (x + (1 : Int)))]
 [AV.str s, AV.int IntKind.i64 (↑s.length : Int), AV.int IntKind.i64 y] ∧
 StIs { boxes := [], live := [] } { boxes := [], live := [] } ∧
 (∃ (k : Nat), y = (↑k : Int) ∧ k ≤ s.length ∧ ((1 : Nat) ≤ k → k ≤ wl s)) ∧
 ((↑s.length : Int) - y).toNat < ((↑s.length : Int) - x).toNat) ∧
 (((↑c.toNat : Int) == (95 : Int)) = false → RetIs (AV.bool false) [] (AV.bool (nameR s), [])))) ∧
 (decide ((↑c.toNat : Int) ≥ (48 : Int)) = false →
 (((↑c.toNat : Int) == (95 : Int)) = true →
 ∃ (y : Int),
 ValsAre
 [AV.str s, AV.int IntKind.i64 (↑s.length : Int),
 AV.int IntKind.i64 (IntKind.i64.wrap (x + (1 : Int)))]
 [AV.str s, AV.int IntKind.i64 (↑s.length : Int), AV.int IntKind.i64 y] ∧
 StIs { boxes := [], live := [] } { boxes := [], live := [] } ∧
 (∃ (k : Nat), y = (↑k : Int) ∧ k ≤ s.length ∧ ((1 : Nat) ≤ k → k ≤ wl s)) ∧
 ((↑s.length : Int) - y).toNat < ((↑s.length : Int) - x).toNat) ∧
 (((↑c.toNat : Int) == (95 : Int)) = false → RetIs (AV.bool false) [] (AV.bool (nameR s), [])))) ∧
 (decide (x > (0 : Int)) = false → RetIs (AV.bool false) [] (AV.bool (nameR s), [])))) ∧
 (decide ((↑c.toNat : Int) ≥ (97 : Int)) = false →
 (decide (x > (0 : Int)) = true →
 (decide ((↑c.toNat : Int) ≥ (48 : Int)) = true →
 (decide ((↑c.toNat : Int) ≤ (57 : Int)) = true →
 ∃ (y : Int),
 ValsAre
 [AV.str s, AV.int IntKind.i64 (↑s.length : Int), AV.int IntKind.i64 (IntKind.i64.wrap (x + (1 : Int)))]
 [AV.str s, AV.int IntKind.i64 (↑s.length : Int), AV.int IntKind.i64 y] ∧
 StIs { boxes := [], live := [] } { boxes := [], live := [] } ∧
 (∃ (k : Nat), y = (↑k : Int) ∧ k ≤ s.length ∧ ((1 : Nat) ≤ k → k ≤ wl s)) ∧
 ((↑s.length : Int) - y).toNat < ((↑s.length : Int) - x).toNat) ∧
 (decide ((↑c.toNat : Int) ≤ (57 : Int)) = false →
 (((↑c.toNat : Int) == (95 : Int)) = true →
 ∃ (y : Int),
 ValsAre
 [AV.str s, AV.int IntKind.i64 (↑s.length : Int),
 AV.int IntKind.i64 (IntKind.i64.wrap (x + (1 : Int)))]
 [AV.str s, AV.int IntKind.i64 (↑s.length : Int), AV.int IntKind.i64 y] ∧
 StIs { boxes := [], live := [] } { boxes := [], live := [] } ∧
 (∃ (k : Nat), y = (↑k : Int) ∧ k ≤ s.length ∧ ((1 : Nat) ≤ k → k ≤ wl s)) ∧
 ((↑s.length : Int) - y).toNat < ((↑s.length : Int) - x).toNat) ∧
 (((↑c.toNat : Int) == (95 : Int)) = false → RetIs (AV.bool false) [] (AV.bool (nameR s), [])))) ∧
 (decide ((↑c.toNat : Int) ≥ (48 : Int)) = false →
 (((↑c.toNat : Int) == (95 : Int)) = true →
 ∃ (y : Int),
 ValsAre
 [AV.str s, AV.int IntKind.i64 (↑s.length : Int), AV.int IntKind.i64 (IntKind.i64.wrap (x + (1 : Int)))]
 [AV.str s, AV.int IntKind.i64 (↑s.length : Int), AV.int IntKind.i64 y] ∧
 StIs { boxes := [], live := [] } { boxes := [], live := [] } ∧
 (∃ (k : Nat), y = (↑k : Int) ∧ k ≤ s.length ∧ ((1 : Nat) ≤ k → k ≤ wl s)) ∧
 ((↑s.length : Int) - y).toNat < ((↑s.length : Int) - x).toNat) ∧
 (((↑c.toNat : Int) == (95 : Int)) = false → RetIs (AV.bool false) [] (AV.bool (nameR s), [])))) ∧
 (decide (x > (0 : Int)) = false → RetIs (AV.bool false) [] (AV.bool (nameR s), [])))) ∧
 (decide (x < (↑s.length : Int)) = false → RetIs (AV.bool true) [] (AV.bool (nameR s), [])))))) := by kernel_rfl
theorem w77 (m : Int) (s : List UInt8) : (pureW PQ (GQ m) XW (tbl [(124, s124), (123, s123')]) (itbl []) nAn [] 77 [.str s] (.bool (nameR s), [])) =
(((!s == []) = true →
    (decide ((↑s.length : Int) ≤ (24 : Int)) = true →
        s.length ≤ (70368744177664 : Nat) ∧
 ∃ (n : Int),
 CallIs
 (tbl [((124 : Nat), s124), ((123 : Nat), s123')] ((123 : Nat))
 [AV.sl ((1 : Nat)) (List.map (fun (c : UInt8) => AV.int IntKind.u8 (↑c.toNat : Int)) s) Own.no, AV.int IntKind.i64 (0 : Int)])
 (AV.int IntKind.i64 n) [] ∧
 ((n == (↑s.length : Int)) = true →
 ∃ (b : Bool),
 CallIs (some (AV.bool (kwR s), [])) (AV.bool b) [] ∧
 (b = true → RetIs (AV.bool false) [] (AV.bool (nameR s), [])) ∧ (b = false → RetIs (AV.bool true) [] (AV.bool (nameR s), []))) ∧
 ((n == (↑s.length : Int)) = false → RetIs (AV.bool false) [] (AV.bool (nameR s), []))) ∧
      (decide ((↑s.length : Int) ≤ (24 : Int)) = false → RetIs (AV.bool false) [] (AV.bool (nameR s), []))) ∧
  ((!s == []) = false → RetIs (AV.bool false) [] (AV.bool (nameR s), []))) := by kernel_rfl
theorem agg5 : aggA PQ 5 = some false := by kernel_rfl
theorem size5 : (sizeA PQ 5).isSome = true := by kernel_rfl
theorem wl_le (bs : List UInt8) : wl bs ≤ bs.length := by
 cases bs with
 | nil => simp [wl]
 | cons c t =>
  simp only [wl]
  split
  ·have := (List.takeWhile_prefix innerB (l := t)).length_le
   simp; omega
  ·simp
theorem wl_drop {bs : List UInt8} {i : Nat} (h : i < bs.length) : wl (bs.drop i) = if letterB (bs.getD i 0) then 1 + ((bs.drop (i + 1)).takeWhile innerB).length else 0 := by
 rw [List.drop_eq_getElem_cons h]
 simp [wl, h]
theorem getD_drop' {bs : List UInt8} {i k : Nat} : (bs.drop i).getD k 0 = bs.getD (i + k) 0 := by
 simp [List.getElem?_drop]
theorem wl_next {bs : List UInt8} {i k : Nat} (hk : k ≤ wl (bs.drop i)) (h1 : 1 ≤ k) (h : i + k < bs.length) (hp : innerB (bs.getD (i + k) 0) = true) : k + 1 ≤ wl (bs.drop i) := by
 rw [wl_drop (by omega)] at hk ⊢
 split at hk
 ·rename_i hc
  rw [if_pos hc]
  have := tw_next (p := innerB) (l := bs.drop (i + 1)) (k := k - 1) (by omega) (by rw [List.length_drop]; omega) (by rw [getD_drop', show i + 1 + (k - 1) = i + k by omega]; exact hp)
  omega
 ·omega
theorem wl_stop {bs : List UInt8} {i k : Nat} (hk : k ≤ wl (bs.drop i)) (h1 : 1 ≤ k) (hp : i + k < bs.length → innerB (bs.getD (i + k) 0) = false) : k = wl (bs.drop i) := by
 have hl := wl_le (bs.drop i)
 rw [List.length_drop] at hl
 have hi : i < bs.length := by omega
 rw [wl_drop hi] at hk ⊢
 split at hk
 ·rename_i hc
  rw [if_pos hc]
  have := tw_stop (p := innerB) (l := bs.drop (i + 1)) (k := k - 1) (by omega) (fun h => by rw [getD_drop', show i + 1 + (k - 1) = i + k by omega]; exact hp (by rw [List.length_drop] at h; omega))
  omega
 ·omega
theorem p123 (m : Int) (bs : List UInt8) (i : Nat) (hi : i < bs.length) (hb : bs.length < 2 ^ 60) : PureOk PQ (GQ m) X1 (tbl t33) (itbl []) (a123 bs i) [] 123 [bytesA bs, .int .i64 i] (.int .i64 (wl (bs.drop i)), []) := by
 constructor
 rw [w123]
 simp only [callIs_iff, valsAre_iff, stIs_iff, retIs_iff, take_u8_iff agg5 size5, Option.some.injEq, Prod.mk.injEq, AV.bool.injEq, AV.int.injEq, List.cons.injEq, and_true, true_and, exists_eq_left', and_assoc, exists_and_left, decide_eq_true_eq, decide_eq_false_iff_not, bytesL_length, Int.toNat_natCast]
 have hw := wl_drop hi
 have hl := wl_le (bs.drop i)
 rw [List.length_drop] at hl
 have hlet : letterB (bs.getD i 0) = decide (97 ≤ (bs.getD i 0).toNat ∧ (bs.getD i 0).toNat ≤ 122) := rfl
 refine ⟨by omega, by omega, hi, fun hA => ⟨⟨1, rfl, Nat.le_refl _, ?_⟩, ?_⟩, fun hA => ?_⟩
 ·rw [hw, if_pos (by rw [hlet]; exact decide_eq_true (by omega))]; omega
 ·rintro x ⟨k, rfl, h1, h2⟩
  rw [wrap64_in (n := (i : Int) + k) (by omega) (by omega), wrap64_in (n := (k : Int) + 1) (by omega) (by omega), show ((i : Int) + k).toNat = i + k by omega]
  have hin : innerB (bs.getD (i + k) 0) = (decide (97 ≤ (bs.getD (i + k) 0).toNat ∧ (bs.getD (i + k) 0).toNat ≤ 122) || decide (48 ≤ (bs.getD (i + k) 0).toNat ∧ (bs.getD (i + k) 0).toNat ≤ 57) || (bs.getD (i + k) 0) == 95) := rfl
  generalize hc : bs.getD (i + k) 0 = c at *
  have step : i + k < bs.length → innerB c = true → (∃ j : Nat, (k : Int) + 1 = j ∧ 1 ≤ j ∧ j ≤ wl (bs.drop i)) ∧ ((bs.length : Int) - (k + 1)).toNat < ((bs.length : Int) - k).toNat := fun hlt hp =>
   ⟨⟨k + 1, by omega, by omega, wl_next h2 h1 hlt (hc ▸ hp)⟩, by omega⟩
  refine ⟨fun hlt => ⟨by omega, by omega, by omega, fun hB => step (by omega) (by rw [hin]; simp; omega), fun hB => ⟨by omega, by omega, by omega, fun hC => step (by omega) (by rw [hin]; simp; omega), fun hC => ⟨by omega, by omega, by omega, fun hD => step (by omega) ?_, fun hD => ?_⟩⟩⟩, fun hge => ?_⟩
  ·rw [hin]
   have : c = 95 := by
    rw [← UInt8.toNat_inj]
    have : (c.toNat : Int) = 95 := by simpa using hD
    have h95 : (95 : UInt8).toNat = 95 := rfl
    omega
   simp [this]
  ·have := wl_stop (bs := bs) (i := i) (k := k) h2 h1 fun _ => by
    rw [hc, hin]
    have : c ≠ 95 := by
     intro e; subst e; simp at hD
    simp [this]
    omega
   omega
  ·have := wl_stop (bs := bs) (i := i) (k := k) h2 h1 fun h => by omega
   omega
 ·rw [hw, if_neg (by rw [hlet]; simp only [decide_eq_true_eq]; omega)]; rfl
theorem p124 (m : Int) (s : List UInt8) : PureOk PQ (GQ m) XW (tbl []) (itbl []) nAn [] 124 [.str s] (.bool (kwR s), []) := by
 constructor
 rw [w124]
 simp only [retIs_iff, Prod.mk.injEq, AV.bool.injEq, and_true, kwR, kwList, List.contains_cons, List.contains_nil, beq_iff_eq, beq_eq_false_iff_ne, ne_eq]
 repeat' (refine And.intro (fun h => ?_) (fun h => ?_))
 all_goals simp [*]
theorem p77 (m : Int) (s : List UInt8) : PureOk PQ (GQ m) XW (tbl [(124, s124), (123, s123')]) (itbl []) nAn [] 77 [.str s] (.bool (nameR s), []) := by
 constructor
 rw [w77]
 have hb := unBytes_mk s
 unfold bytesL at hb
 simp only [callIs_iff, retIs_iff, Prod.mk.injEq, AV.bool.injEq, Option.some.injEq, and_true, exists_eq_left', tbl, s123', hb, decide_eq_true_eq, decide_eq_false_iff_not]
 refine ⟨fun h1 => ⟨fun h2 => ⟨by omega, ?_⟩, fun h2 => ?_⟩, fun h1 => ?_⟩
 ·have hne : s ≠ [] := by simpa using h1
  have hp : 0 < s.length := List.length_pos_iff.2 hne
  refine ⟨wl s, ?_, fun h3 => ⟨fun h4 => ?_, fun h4 => ?_⟩, fun h3 => ?_⟩
  ·have hc : 0 ≤ (0 : Int) ∧ Int.toNat 0 < s.length ∧ s.length < 2 ^ 60 := ⟨by omega, by simpa using hp, by omega⟩
   simp [hc, hne]
  ·simp [nameR, h4]
  ·have h3' : wl s = s.length := by have := eq_of_beq h3; omega
   simp [nameR, h4, hne, h3']
   omega
  ·have h3' : wl s ≠ s.length := fun e => by rw [e] at h3; simp at h3
   simp [nameR, h3']
 ·simp [nameR]; intro _ h; omega
 ·have : s = [] := by simpa using h1
  simp [nameR, this]
theorem p40 (m : Int) (s : List UInt8) (hs : s.length ≤ 2000000) : PureOk PQ (GQ m) XW (tbl [(88, s88)]) (itbl []) (a40 s) [] 40 [.str s] (.bool (nameR s), []) := by
 constructor
 rw [w40]
 have t16 : tbl [(88, s88)] 88 [.str s] = some (.bool (kwR s), []) := by
  show s88 [.str s] = _
  simp [s88, hs]
 rw [t16]
 simp only [callIs_iff, valsAre_iff, stIs_iff, retIs_iff, Prod.mk.injEq, AV.bool.injEq, AV.int.injEq, Option.some.injEq, List.cons.injEq, and_true, true_and, exists_eq_left', decide_eq_true_eq, decide_eq_false_iff_not, beq_iff_eq, beq_eq_false_iff_ne, ne_eq]
 refine ⟨fun h => by simp [nameR, h], fun hne => ⟨fun h => ?_, fun hl => ⟨fun h => by simp [nameR, h], fun hk => ⟨⟨0, rfl, by omega, by omega⟩, ?_⟩⟩⟩⟩
 ·simp [nameR]; intro _ h2; omega
 ·rintro x ⟨k, rfl, hk1, hk2⟩
  rw [wrap64_in (n := (k : Int) + 1) (by omega) (by omega)]
  have hw := wl_le s
  refine ⟨fun hlt => ?_, fun hge => ?_⟩
  ·have hlt' : k < s.length := by omega
   refine ⟨by omega, s.getD k 0, by simp [hlt'], ?_⟩
   have hlet : letterB (s.getD k 0) = decide (97 ≤ (s.getD k 0).toNat ∧ (s.getD k 0).toNat ≤ 122) := rfl
   have h95 : (s.getD k 0).toNat = 95 ↔ s.getD k 0 = 95 := by
    rw [← UInt8.toNat_inj]; rfl
   have hin : innerB (s.getD k 0) = true ↔ (97 ≤ (s.getD k 0).toNat ∧ (s.getD k 0).toNat ≤ 122) ∨ (48 ≤ (s.getD k 0).toNat ∧ (s.getD k 0).toNat ≤ 57) ∨ (s.getD k 0).toNat = 95 := by
    rw [h95]
    simp only [innerB, letterB, digitB, Bool.or_eq_true, decide_eq_true_eq, beq_iff_eq, or_assoc]
   have hw0 := wl_drop (bs := s) (i := 0) (by omega)
   rw [List.drop_zero] at hw0
   have step : ((97 ≤ (s.getD k 0).toNat ∧ (s.getD k 0).toNat ≤ 122) ∨ (1 ≤ k ∧ ((48 ≤ (s.getD k 0).toNat ∧ (s.getD k 0).toNat ≤ 57) ∨ (s.getD k 0).toNat = 95))) →
     (∃ j : Nat, (k : Int) + 1 = j ∧ j ≤ s.length ∧ (1 ≤ j → j ≤ wl s)) ∧ ((s.length : Int) - (k + 1)).toNat < ((s.length : Int) - k).toNat := fun hp => by
    refine ⟨⟨k + 1, by omega, by omega, fun _ => ?_⟩, by omega⟩
    by_cases h0 : k = 0
    ·subst h0
     rw [hw0, if_pos (by rw [hlet]; exact decide_eq_true (by omega))]
     omega
    ·have := wl_next (bs := s) (i := 0) (k := k) (by rw [List.drop_zero]; exact hk2 (by omega)) (by omega) (by omega) (by rw [Nat.zero_add, hin]; omega)
     rw [List.drop_zero] at this
     omega
   have stop : ¬((97 ≤ (s.getD k 0).toNat ∧ (s.getD k 0).toNat ≤ 122) ∨ (1 ≤ k ∧ ((48 ≤ (s.getD k 0).toNat ∧ (s.getD k 0).toNat ≤ 57) ∨ (s.getD k 0).toNat = 95))) → false = nameR s := fun hp => by
    have hne : wl s ≠ s.length := by
     by_cases h0 : k = 0
     ·subst h0
      rw [hw0, if_neg (by rw [hlet]; simp only [decide_eq_true_eq]; omega)]
      omega
     ·have := wl_stop (bs := s) (i := 0) (k := k) (by rw [List.drop_zero]; exact hk2 (by omega)) (by omega) (fun _ => by
       rw [Nat.zero_add]
       cases hb : innerB (s.getD k 0) with
       | false => rfl
       | true => rw [hin] at hb; omega)
      rw [List.drop_zero] at this
      omega
    simp [nameR, hne]
   generalize (s.getD k 0).toNat = c at *
   repeat' (first | exact step (by omega) | exact stop (by omega) | refine And.intro (fun _ => ?_) (fun _ => ?_))
  ·have hk3 : k = s.length := by omega
   have hp : 0 < s.length := List.length_pos_iff.2 hne
   have : wl s = s.length := by have := hk2 (by omega); omega
   simp [nameR, hne, hk, this]
   omega
theorem contains_iff (t sub : List UInt8) : Lib.contains t sub = true ↔ ∃ i, i ≤ t.length ∧ Lib.occAt t sub i = true := by
 unfold Lib.contains
 rw [decide_eq_true_eq]
 constructor
 ·intro h
  by_cases hex : ∃ i, i ≤ t.length ∧ Lib.occAt t sub i = true
  ·exact hex
  ·have := Lib.index_none (s := t) (sub := sub) fun j hj => by
    cases hb : Lib.occAt t sub j with
    | false => rfl
    | true => exact absurd ⟨j, hj, hb⟩ hex
   omega
 ·intro h
  obtain ⟨n, ⟨hn, ho⟩, hmin⟩ := exists_least h
  have := Lib.index_first (s := t) (sub := sub) hn ho fun j hj => by
   cases hb : Lib.occAt t sub j with
   | false => rfl
   | true => have := hmin j ⟨by omega, hb⟩; omega
  omega
def txt (ws : List (List UInt8)) : List UInt8 := 32 :: ws.flatMap fun w => w ++ [32]
theorem txt_cons (w : List UInt8) (ws : List (List UInt8)) : txt (w :: ws) = 32 :: (w ++ txt ws) := by
 simp [txt]
theorem pre_word : ∀ {s w r q : List UInt8}, 32 ∉ s → 32 ∉ w → (s ++ 32 :: r = w ++ 32 :: q) → s = w
 | [], [], _, _, _, _, _ => rfl
 | [], c :: w, _, _, _, hw, h => by
  injection h with h1 _
  exact absurd (by rw [← h1]; exact List.mem_cons_self) hw
 | c :: s, [], _, _, hs, _, h => by
  injection h with h1 _
  exact absurd (by rw [h1]; exact List.mem_cons_self) hs
 | c :: s, d :: w, r, q, hs, hw, h => by
  simp only [List.cons_append, List.cons.injEq] at h
  rw [h.1, pre_word (fun hm => hs (List.mem_cons_of_mem _ hm)) (fun hm => hw (List.mem_cons_of_mem _ hm)) h.2]
theorem occ_txt {s : List UInt8} (hs : 32 ∉ s) (hne : s ≠ []) : ∀ (ws : List (List UInt8)), (∀ w ∈ ws, 32 ∉ w) → ((∃ i, ([32] ++ s ++ [32]) <+: (txt ws).drop i) ↔ s ∈ ws)
 | [], _ => by
  simp only [List.not_mem_nil, iff_false]
  rintro ⟨i, h⟩
  have := h.length_le
  have hp : 0 < s.length := List.length_pos_iff.2 hne
  simp [txt] at this
  omega
 | w :: ws, hw => by
  have ih := occ_txt hs hne ws fun x hx => hw x (List.mem_cons_of_mem _ hx)
  rw [txt_cons]
  constructor
  ·rintro ⟨i, h⟩
   match i with
   | 0 =>
    obtain ⟨r, hr⟩ := h
    simp only [List.drop_zero, List.cons_append, List.nil_append, List.append_assoc, List.cons.injEq, true_and, txt] at hr
    rw [pre_word hs (hw w List.mem_cons_self) hr]
    exact List.mem_cons_self
   | i + 1 =>
    simp only [List.drop_succ_cons] at h
    by_cases hi : i < w.length
    ·obtain ⟨r, hr⟩ := h
     rw [List.drop_append_of_le_length (by omega), List.drop_eq_getElem_cons hi] at hr
     simp only [List.cons_append, List.nil_append, List.cons.injEq] at hr
     exact absurd (hr.1 ▸ List.getElem_mem hi) (hw w List.mem_cons_self)
    ·have e : (w ++ txt ws).drop i = (txt ws).drop (i - w.length) := by
      rw [List.drop_append, List.drop_eq_nil_of_le (by omega), List.nil_append]
     rw [e] at h
     exact List.mem_cons_of_mem _ (ih.1 ⟨_, h⟩)
  ·intro h
   rcases List.mem_cons.1 h with rfl | h
   ·exact ⟨0, ⟨txt ws |>.tail, by simp [txt]⟩⟩
   ·obtain ⟨i, hi⟩ := ih.2 h
    refine ⟨i + w.length + 1, ?_⟩
    simp only [List.drop_succ_cons]
    rw [List.drop_append, List.drop_eq_nil_of_le (by omega), List.nil_append, show i + w.length - w.length = i by omega]
    exact hi
theorem contains_txt {s : List UInt8} (hs : 32 ∉ s) (hne : s ≠ []) (ws : List (List UInt8)) (hw : ∀ w ∈ ws, 32 ∉ w) : Lib.contains (txt ws) ([32] ++ s ++ [32]) = ws.contains s := by
 rw [Bool.eq_iff_iff, contains_iff, List.contains_iff_mem, ← occ_txt hs hne ws hw]
 constructor
 ·rintro ⟨i, _, h⟩
  exact ⟨i, List.isPrefixOf_iff_prefix.1 h⟩
 ·rintro ⟨i, h⟩
  refine ⟨i, ?_, List.isPrefixOf_iff_prefix.2 h⟩
  have := h.length_le
  simp only [List.length_append, List.length_drop, List.length_cons, List.length_nil] at this
  omega
theorem contains_one {s : List UInt8} : Lib.contains s [32] = true ↔ 32 ∈ s := by
 rw [contains_iff]
 constructor
 ·rintro ⟨i, hi, h⟩
  have := List.isPrefixOf_iff_prefix.1 h
  obtain ⟨r, hr⟩ := this
  exact List.mem_of_mem_drop (i := i) (by rw [← hr]; simp)
 ·intro h
  obtain ⟨i, hi, he⟩ := List.mem_iff_getElem.1 h
  refine ⟨i, by omega, List.isPrefixOf_iff_prefix.2 ⟨s.drop (i + 1), ?_⟩⟩
  rw [List.drop_eq_getElem_cons hi, he]
  rfl
theorem kw_no : ∀ w ∈ kwList, (32 : UInt8) ∉ w := by decide
theorem p88 (m : Int) (s : List UInt8) (hs : s.length ≤ 2000000) : PureOk PQ (GQ m) XW (tbl libQ) (itbl []) nAn [] 88 [.str s] (.bool (kwR s), []) := by
 constructor
 rw [w88]
 have hc : ∀ t : List UInt8, tbl [(133, sContains)] 133 [.str s, .str t] = some (.bool (Lib.contains s t), []) := fun t => by
  show sContains [.str s, .str t] = _
  simp only [sContains]
  rw [if_pos (by omega)]
 rw [hc]
 have ht : ∀ u, Lib.contains [32, 116, 97, 98, 108, 101, 32, 102, 101, 97, 116, 117, 114, 101, 32, 111, 102, 32, 107, 101, 101, 112, 32, 98, 111, 111, 108, 32, 116, 101, 120, 116, 32, 107, 101, 121, 32, 105, 110, 116, 32, 100, 101, 99, 32, 105, 102, 32, 116, 104, 101, 110, 32, 101, 108, 115, 101, 32, 100, 101, 102, 97, 117, 108, 116, 32, 111, 114, 32, 97, 110, 100, 32, 110, 111, 116, 32, 116, 114, 117, 101, 32, 102, 97, 108, 115, 101, 32, 110, 117, 108, 108, 32, 99, 111, 117, 110, 116, 32, 115, 117, 109, 32, 109, 101, 97, 110, 32, 109, 105, 110, 32, 109, 97, 120, 32, 102, 105, 114, 115, 116, 32, 108, 97, 115, 116, 32, 100, 105, 115, 116, 105, 110, 99, 116, 32, 113, 117, 97, 110, 116, 105, 108, 101, 32, 100, 101, 99, 97, 121, 32, 97, 108, 108, 32, 115, 108, 105, 100, 105, 110, 103, 32, 116, 117, 109, 98, 108, 105, 110, 103, 32, 115, 101, 115, 115, 105, 111, 110, 32, 119, 104, 101, 114, 101, 32] u = Lib.contains (txt kwList) u := fun u => rfl
 simp only [ht]
 simp only [callIs_iff, retIs_iff, Prod.mk.injEq, AV.bool.injEq, Option.some.injEq, and_true, exists_eq_left']
 refine ⟨fun h1 => ⟨fun h2 => ?_, fun h2 => ⟨by omega, by simp; omega, ?_⟩⟩, fun h1 => ?_⟩
 ·have hm := contains_one.1 h2
  cases hk : kwR s with
  | false => rfl
  | true => exact absurd hm (kw_no s (List.contains_iff_mem.1 hk))
 ·have hne : s ≠ [] := by simpa using h1
  have hm : 32 ∉ s := fun h => by rw [contains_one.2 h] at h2; cases h2
  rw [contains_txt hm hne kwList kw_no]
  exact ⟨fun h => h.symm, fun h => h.symm⟩
 ·have : s = [] := by simpa using h1
  subst this
  rfl
theorem p160 (m n : Int) : PureOk PQ (GQ m) X1 (tbl []) (itbl []) ⟨nA, nA⟩ [] 160 [.int .u8 n] (.bool (decide (97 ≤ n ∧ n ≤ 122)), []) := by
 constructor
 rw [w160]
 simp only [retIs_iff, Prod.mk.injEq, AV.bool.injEq, and_true, decide_eq_true_eq, decide_eq_false_iff_not]
 refine ⟨fun h1 => ⟨fun h2 => (decide_eq_true (by omega)).symm, fun h2 => (decide_eq_false (by omega)).symm⟩, fun h1 => (decide_eq_false (by omega)).symm⟩
theorem p140 (m n : Int) : PureOk PQ (GQ m) X1 (tbl []) (itbl []) ⟨nA, nA⟩ [] 140 [.int .u8 n] (.bool (decide (48 ≤ n ∧ n ≤ 57)), []) := by
 constructor
 rw [w140]
 simp only [retIs_iff, Prod.mk.injEq, AV.bool.injEq, and_true, decide_eq_true_eq, decide_eq_false_iff_not]
 refine ⟨fun h1 => ⟨fun h2 => (decide_eq_true (by omega)).symm, fun h2 => (decide_eq_false (by omega)).symm⟩, fun h1 => (decide_eq_false (by omega)).symm⟩
theorem o160 (m : Int) : SpecOk PQ (GQ m) 160 s160 := spec_of (X := X1) (m := []) mixedQ tbl_nil itbl_nil fun args r h => by
 unfold s160 at h
 split at h
 ·injection h with h; subst h; exact ⟨⟨nA, nA⟩, p160 m _⟩
 ·cases h
theorem o140 (m : Int) : SpecOk PQ (GQ m) 140 s140 := spec_of (X := X1) (m := []) mixedQ tbl_nil itbl_nil fun args r h => by
 unfold s140 at h
 split at h
 ·injection h with h; subst h; exact ⟨⟨nA, nA⟩, p140 m _⟩
 ·cases h
theorem o123 (m : Int) : SpecOk PQ (GQ m) 123 s123' := spec_of (X := X1) (m := []) mixedQ (tbl_cons (o160 m) (tbl_cons (o140 m) tbl_nil)) itbl_nil fun args r h => by
 unfold s123' at h
 split at h
 ·rename_i sz es n
  split at h
  ·rename_i hsz
   subst hsz
   split at h
   ·rename_i bs hb
    obtain rfl := unBytes_some hb
    split at h
    ·rename_i hc
     injection h with h
     subst h
     have := p123 m bs n.toNat hc.2.1 hc.2.2
     rw [Int.toNat_of_nonneg hc.1] at this
     exact ⟨a123 bs n.toNat, this⟩
    ·cases h
   ·cases h
  ·cases h
 ·cases h
theorem o124 (m : Int) : SpecOk PQ (GQ m) 124 s124 := spec_of (X := XW) (m := []) mixedQ tbl_nil itbl_nil fun args r h => by
 unfold s124 at h
 split at h
 ·injection h with h; subst h; exact ⟨nAn, p124 m _⟩
 ·cases h
theorem o88 (m : Int) : SpecOk PQ (GQ m) 88 s88 := spec_of (X := XW) (m := []) mixedQ (libQ_ok m) itbl_nil fun args r h => by
 unfold s88 at h
 split at h
 ·split at h
  ·rename_i hl
   injection h with h; subst h; exact ⟨nAn, p88 m _ hl⟩
  ·cases h
 ·cases h
def unL {α : Type} (f : AV → Option α) : List AV → Option (List α)
 | [] => some []
 | a :: l => match f a, unL f l with
  | some x, some xs => some (x :: xs)
  | _, _ => none
theorem unL_map {α : Type} {f : AV → Option α} {g : α → AV} (h : ∀ x, f (g x) = some x) : ∀ l : List α, unL f (l.map g) = some l
 | [] => rfl
 | x :: l => by simp only [List.map_cons, unL, h x, unL_map h l]
theorem unL_inv {α : Type} {f : AV → Option α} {g : α → AV} (h : ∀ a x, f a = some x → a = g x) : ∀ {es : List AV} {l : List α}, unL f es = some l → es = l.map g
 | [], l, e => by simp only [unL, Option.some.injEq] at e; subst e; rfl
 | a :: es, l, e => by
  simp only [unL] at e
  split at e
  ·rename_i x xs h1 h2
   simp only [Option.some.injEq] at e
   subst e
   rw [List.map_cons, ← h a x h1, ← unL_inv h h2]
  ·cases e
def unS : AV → Option (List UInt8)
 | .str s => some s
 | _ => none
theorem unS_ok (s : List UInt8) : unS (.str s) = some s := rfl
theorem unS_inv (a : AV) (x : List UInt8) (h : unS a = some x) : a = .str x := by
 unfold unS at h
 split at h
 ·injection h with h; subst h; rfl
 ·cases h
structure Lb where
 key : List UInt8
 event : Int
 know : Int
deriving DecidableEq
instance : Inhabited Lb := ⟨⟨[], 0, 0⟩⟩
def lbA (x : Lb) : AV := .agg [.str x.key, .int .i64 x.event, .int .i64 x.know]
def unLb : AV → Option Lb
 | .agg [.str k, .int .i64 a, .int .i64 b] => some ⟨k, a, b⟩
 | _ => none
theorem unLb_ok (x : Lb) : unLb (lbA x) = some x := rfl
theorem unLb_inv (a : AV) (x : Lb) (h : unLb a = some x) : a = lbA x := by
 unfold unLb at h
 split at h
 ·injection h with h; subst h; rfl
 ·cases h
abbrev strsL (l : List (List UInt8)) : List AV := l.map .str
abbrev lbsL (l : List Lb) : List AV := l.map lbA
structure Rq where
 entity : List UInt8
 feats : List (List UInt8)
 labels : List Lb
 seed : Int
 permille : Int
deriving DecidableEq
def rqA (r : Rq) : AV := .agg [.str r.entity, .sl 1 (strsL r.feats) .no, .sl 3 (lbsL r.labels) .no, .int .i64 r.seed, .int .i64 r.permille]
def unRqN : AV → Option Rq
 | .agg [.str e, .sl a fs .no, .sl b ls .no, .int .i64 s, .int .i64 p] => match unL unS fs, unL unLb ls with
  | some f, some l => if a = 1 ∧ b = 3 then some ⟨e, f, l, s, p⟩ else none
  | _, _ => none
 | _ => none
theorem unRqN_ok (r : Rq) : unRqN (rqA r) = some r := by
 simp only [unRqN, rqA, unL_map unS_ok, unL_map unLb_ok]; rfl
theorem unRqN_inv (a : AV) (x : Rq) (h : unRqN a = some x) : a = rqA x := by
 unfold unRqN at h
 split at h
 case h_2 => cases h
 split at h
 case h_2 => cases h
 rename_i h1 h2
 split at h
 case isFalse => cases h
 rename_i hh
 injection h with h; subst h
 rw [unL_inv unS_inv h1, unL_inv unLb_inv h2, hh.1, hh.2]; rfl
def tickB (n : Int) : Bool := decide (0 ≤ n) && decide (n ≤ 1099511627776)
def keyC (c : UInt8) : Bool := decide (33 ≤ c.toNat) && decide (c.toNat ≤ 126) && !(c.toNat == 34) && !(c.toNat == 92)
def keyB (s : List UInt8) : Bool := decide (s ≠ []) && decide (s.length ≤ 32) && s.all keyC
def keyErr (s : List UInt8) : Int := if 32 < s.length then 2 else if s = [] then 3 else if s.all keyC then 0 else 3
def lbOk (x : Lb) : Bool := keyB x.key && tickB x.event && tickB x.know
def featsOk : List (List UInt8) → List (List UInt8) → Bool
 | _, [] => true
 | seen, f :: l => nameR f && !seen.contains f && featsOk (seen ++ [f]) l
def headOk (r : Rq) : Bool := nameR r.entity && decide (1 ≤ r.feats.length) && decide (r.feats.length ≤ 8) && decide (r.labels.length ≤ 256) && tickB r.seed && decide (0 ≤ r.permille) && decide (r.permille ≤ 1000)
def formB (r : Rq) : Bool := headOk r && featsOk [] r.feats && r.labels.all lbOk
def maxI : Nat := 9223372036854775807
def s40u : Spec := fun args => match args with
 | [.str s] => some (.bool (nameR s), [])
 | _ => none
def sTick : Spec := fun args => match args with
 | [.int .i64 n] => some (.bool (tickB n), [])
 | _ => none
def s138 : Spec := fun args => match args with
 | [.agg [.int .i64 5, .int .i64 0, .str s]] => some (.int .i64 (keyErr s), [])
 | _ => none
def s94 : Spec := fun args => match args with
 | [.str s] => some (.bool (keyB s), [])
 | _ => none
def s125 : Spec := fun args => match args with
 | [.str s] => if s.length ≤ maxI then some (.bool (keyB s), []) else none
 | _ => none
def s93 : Spec := fun args => match args with
 | [.agg [.str k, .int .i64 a, .int .i64 b]] => some (.bool (!lbOk ⟨k, a, b⟩), [])
 | _ => none
def s79 : Spec := fun args => match args with
 | [.agg [.str k, .int .i64 a, .int .i64 b]] => if k.length ≤ maxI then some (.bool (lbOk ⟨k, a, b⟩), []) else none
 | _ => none
def sIn : Spec := fun args => match args with
 | [.sl sz fs .no, .str x] => match unL unS fs with
  | some l => if sz = 1 ∧ l.length ≤ maxI then some (.bool (l.contains x), []) else none
  | none => none
 | _ => none
def idxS (l : List (List UInt8)) (x : List UInt8) : Int := if x ∈ l then (l.takeWhile fun y => !(x == y)).length else -1
def s136 : Spec := fun args => match args with
 | [.sl sz fs .no, .str x] => match unL unS fs with
  | some l => if sz = 1 ∧ l.length ≤ maxI then some (.int .i64 (idxS l x), []) else none
  | none => none
 | _ => none
def idxP (l : List Lb) : Int := if l.all lbOk then -1 else (l.takeWhile lbOk).length
def s137 : Spec := fun args => match args with
 | [.sl sz ls .no, .fn 93 []] => match unL unLb ls with
  | some l => if sz = 3 ∧ l.length ≤ maxI then some (.int .i64 (idxP l), []) else none
  | none => none
 | _ => none
def s92 : Spec := fun args => match args with
 | [.sl sz ls .no, .fn 93 []] => match unL unLb ls with
  | some l => if sz = 3 ∧ l.length ≤ maxI then some (.bool (!l.all lbOk), []) else none
  | none => none
 | _ => none
def keysOk (l : List Lb) : Bool := l.all fun x => decide (x.key.length ≤ maxI)
def s46 : Spec := fun args => match args with
 | [a] => match unRqN a with
  | some r => some (.bool (formB r), [])
  | none => none
 | _ => none
def s33 : Spec := fun args => match args with
 | [a] => match unRqN a with
  | some r => if keysOk r.labels then some (.bool (formB r), []) else none
  | none => none
 | _ => none
def X24 : Shapes := fun f => match f with
 | 10 | 20 | 22 | 13 | 33 | 40 | 46 | 77 | 78 | 79 | 90 | 91 | 92 | 93 | 94 | 125 | 24 => some shB
 | 17 | 18 | 136 | 137 | 138 => some shI
 | _ => none
def a125 (s : List UInt8) : Anns := ⟨fun k => if k = 2 then some { α := Nat, slots := [0, 3], nb := 0, vals := fun i => [.str s, .int .i64 i], sS := fun _ => ⟨[], []⟩, I := fun i => i ≤ s.length ∧ (s.take i).all keyC = true, μ := fun i => s.length - i } else none, nA⟩
def cut1 (S : St) (sl : List Nat) (vs : List AV) (q : Prop) : Option Ann := some { α := Unit, slots := sl, nb := S.boxes.length, vals := fun _ => vs, sS := fun _ => S, I := fun _ => q, μ := fun _ => 0, keep := some 0 }
def st138 (s : List UInt8) : St := ⟨[some [.int .i64 5, .int .i64 0, .str s]], []⟩
def a138 (s : List UInt8) : Anns := ⟨fun k => match k with
 | 20 => some { α := Nat, slots := [1, 6, 88, 89], nb := 1, vals := fun i => [.ptr 0 0, .int .u8 33, .int .i64 s.length, .int .i64 i], sS := fun _ => st138 s, I := fun i => i ≤ s.length ∧ (s.take i).all keyC = true, μ := fun i => s.length - i }
 | 1000003 => cut1 (st138 s) [1, 3, 4] [.ptr 0 0, .bool false, .bool true] True
 | 1000010 => cut1 (st138 s) [1, 4] [.ptr 0 0, .bool true] True
 | 1000012 => cut1 (st138 s) [1, 4] [.ptr 0 0, .bool true] True
 | 1000015 => cut1 (st138 s) [1, 5, 6] [.ptr 0 0, .int .i64 32, .int .u8 33] True
 | 1000017 => cut1 (st138 s) [1, 6] [.ptr 0 0, .int .u8 33] (s.length ≤ 32)
 | 1000019 => cut1 (st138 s) [1, 6] [.ptr 0 0, .int .u8 33] (s.length ≤ 32 ∧ s ≠ [])
 | _ => none, nA⟩
def aIn (l : List (List UInt8)) (x : List UInt8) : Anns := ⟨fun k => if k = 2 then some { α := Nat, slots := [0, 1, 5], nb := 0, vals := fun i => [.sl 1 (strsL l) .no, .str x, .int .i64 i], sS := fun _ => ⟨[], []⟩, I := fun i => i ≤ l.length ∧ (l.take i).contains x = false, μ := fun i => l.length - i } else none, nA⟩
def a136 (l : List (List UInt8)) (x : List UInt8) : Anns := ⟨fun k => if k = 2 then some { α := Nat, slots := [0, 1, 7, 8], nb := 0, vals := fun i => [.sl 1 (strsL l) .no, .str x, .int .i64 l.length, .int .i64 i], sS := fun _ => ⟨[], []⟩, I := fun i => i ≤ l.length ∧ ∀ y ∈ l.take i, (x == y) = false, μ := fun i => l.length - i } else none, nA⟩
def a137 (l : List Lb) : Anns := ⟨fun k => if k = 2 then some { α := Nat, slots := [0, 1, 7, 8], nb := 0, vals := fun i => [.sl 3 (lbsL l) .no, .fn 93 [], .int .i64 l.length, .int .i64 i], sS := fun _ => ⟨[], []⟩, I := fun i => i ≤ l.length ∧ (l.take i).all lbOk = true, μ := fun i => l.length - i } else none, nA⟩
def stR (r : Rq) : St := ⟨[some [.str r.entity, .sl 1 (strsL r.feats) .no, .sl 3 (lbsL r.labels) .no, .int .i64 r.seed, .int .i64 r.permille]], []⟩
def a46 (r : Rq) : Anns := ⟨fun k => if k = 4 then some { α := Nat, slots := [1, 44, 45, 46], nb := 1, vals := fun i => [.ptr 0 0, .sl 1 (strsL r.feats) .no, .int .i64 r.feats.length, .int .i64 i], sS := fun _ => stR r, I := fun i => i ≤ r.feats.length ∧ featsOk [] r.feats = featsOk (r.feats.take i) (r.feats.drop i), μ := fun i => r.feats.length - i } else none, nA⟩
def a33 (r : Rq) : Anns := ⟨fun k => if k = 4 then some { α := Nat, slots := [1, 3], nb := 1, vals := fun i => [.ptr 0 0, .int .i64 i], sS := fun _ => stR r, I := fun i => i ≤ r.feats.length ∧ featsOk [] r.feats = featsOk (r.feats.take i) (r.feats.drop i), μ := fun i => r.feats.length - i }
 else if k = 9 then some { α := Nat, slots := [1, 4], nb := 1, vals := fun i => [.ptr 0 0, .int .i64 i], sS := fun _ => stR r, I := fun i => i ≤ r.labels.length ∧ featsOk [] r.feats = true ∧ (r.labels.take i).all lbOk = true, μ := fun i => r.labels.length - i } else none, nA⟩
def t46 : List (FuncId × Spec) := [(40, s40u), (90, sTick), (91, sIn), (92, s92)]
def t33q : List (FuncId × Spec) := [(77, s40u), (78, sTick), (20, sIn), (79, s79)]
theorem w90 (m : Int) (n : Int) (r : AV) : (pureW PQ (GQ m) X24 (tbl []) (itbl []) nAn [] 90 [.int .i64 n] (r, [])) =
((decide (n ≥ (0 : Int)) = true →
  (decide (n ≤ (1099511627776 : Int)) = true → RetIs (AV.bool true) [] (r, [])) ∧
   (decide (n ≤ (1099511627776 : Int)) = false → RetIs (AV.bool false) [] (r, []))) ∧
 (decide (n ≥ (0 : Int)) = false → RetIs (AV.bool false) [] (r, []))) := by kernel_rfl
theorem w78 (m : Int) (n : Int) (r : AV) : (pureW PQ (GQ m) X24 (tbl []) (itbl []) nAn [] 78 [.int .i64 n] (r, [])) =
((decide (n ≥ (0 : Int)) = true →
  (decide (n ≤ (1099511627776 : Int)) = true → RetIs (AV.bool true) [] (r, [])) ∧
   (decide (n ≤ (1099511627776 : Int)) = false → RetIs (AV.bool false) [] (r, []))) ∧
 (decide (n ≥ (0 : Int)) = false → RetIs (AV.bool false) [] (r, []))) := by kernel_rfl
theorem w94 (m : Int) (s : List UInt8) (r : AV) : (pureW PQ (GQ m) X24 (tbl [(138, s138)]) (itbl []) nAn [] 94 [.str s] (r, [])) =
(((!s == []) = true →
  ∃ (n : Int),
   CallIs (some (AV.int IntKind.i64 (keyErr s), [])) (AV.int IntKind.i64 n) [] ∧
    ((n == (0 : Int)) = true → RetIs (AV.bool true) [] (r, [])) ∧ ((n == (0 : Int)) = false → RetIs (AV.bool false) [] (r, []))) ∧
 ((!s == []) = false → RetIs (AV.bool false) [] (r, []))) := by kernel_rfl
theorem w125 (m : Int) (s : List UInt8) (r : AV) : (pureW PQ (GQ m) X24 (tbl []) (itbl []) (a125 s) [] 125 [.str s] (r, [])) =
((∃ (y : Nat),
    ValsAre [AV.str s, AV.int IntKind.i64 (0 : Int)] [AV.str s, AV.int IntKind.i64 (↑y : Int)] ∧
      StIs { boxes := [], live := [] } { boxes := [], live := [] } ∧ (y ≤ s.length ∧ (List.take y s).all keyC = true) ∧ True) ∧
  ∀ (x : Nat),
    x ≤ s.length ∧ (List.take x s).all keyC = true →
      (decide ((↑x : Int) < (↑s.length : Int)) = true →
 (0 : Int) ≤ (↑x : Int) ∧
 ∃ (c : UInt8),
 s[(↑x : Int).toNat]? = some c ∧
 (decide ((↑c.toNat : Int) < (33 : Int)) = true → RetIs (AV.bool false) [] (r, [])) ∧
 (decide ((↑c.toNat : Int) < (33 : Int)) = false →
 (0 : Int) ≤ (↑x : Int) ∧
 ∃ (c : UInt8),
 s[(↑x : Int).toNat]? = some c ∧
 (decide ((↑c.toNat : Int) > (126 : Int)) = true → RetIs (AV.bool false) [] (r, [])) ∧
 (decide ((↑c.toNat : Int) > (126 : Int)) = false →
 (0 : Int) ≤ (↑x : Int) ∧
 ∃ (c : UInt8),
 s[(↑x : Int).toNat]? = some c ∧
 (((↑c.toNat : Int) == (34 : Int)) = true → RetIs (AV.bool false) [] (r, [])) ∧
 (((↑c.toNat : Int) == (34 : Int)) = false →
 (0 : Int) ≤ (↑x : Int) ∧
 ∃ (c : UInt8),
 s[(↑x : Int).toNat]? = some c ∧
 (((↑c.toNat : Int) == (92 : Int)) = true → RetIs (AV.bool false) [] (r, [])) ∧
 (((↑c.toNat : Int) == (92 : Int)) = false →
 ∃ (y : Nat),
 ValsAre [AV.str s, AV.int IntKind.i64 (IntKind.i64.wrap ((↑x : Int) + (1 : Int)))]
 [AV.str s, AV.int IntKind.i64 (↑y : Int)] ∧
 StIs { boxes := [], live := [] } { boxes := [], live := [] } ∧
 (y ≤ s.length ∧ (List.take y s).all keyC = true) ∧ s.length - y < s.length - x))))) ∧
        (decide ((↑x : Int) < (↑s.length : Int)) = false →
 (decide ((↑s.length : Int) ≥ (1 : Int)) = true →
 (decide ((↑s.length : Int) ≤ (32 : Int)) = true → RetIs (AV.bool true) [] (r, [])) ∧
 (decide ((↑s.length : Int) ≤ (32 : Int)) = false → RetIs (AV.bool false) [] (r, []))) ∧
 (decide ((↑s.length : Int) ≥ (1 : Int)) = false → RetIs (AV.bool false) [] (r, [])))) := by kernel_rfl
theorem w93 (m : Int) (x : Lb) (r : AV) : (pureW PQ (GQ m) X24 (tbl [(94, s94), (90, sTick)]) (itbl []) nAn [] 93 [.agg [.str x.key, .int .i64 x.event, .int .i64 x.know]] (r, [])) =
(∃ (b : Bool),
  CallIs (some (AV.bool (keyB x.key), [])) (AV.bool b) [] ∧
    (b = true →
        ∃ (b : Bool),
 CallIs (some (AV.bool (tickB x.event), [])) (AV.bool b) [] ∧
 (b = true →
 ∃ (b : Bool),
 CallIs (some (AV.bool (tickB x.know), [])) (AV.bool b) [] ∧
 (b = true → RetIs (AV.bool false) [] (r, [])) ∧ (b = false → RetIs (AV.bool true) [] (r, []))) ∧
 (b = false → RetIs (AV.bool true) [] (r, []))) ∧
      (b = false → RetIs (AV.bool true) [] (r, []))) := by kernel_rfl
theorem w79 (m : Int) (x : Lb) (r : AV) : (pureW PQ (GQ m) X24 (tbl [(125, s125), (78, sTick)]) (itbl []) nAn [] 79 [.agg [.str x.key, .int .i64 x.event, .int .i64 x.know]] (r, [])) =
(∃ (b : Bool),
  CallIs (tbl [((125 : Nat), s125), ((78 : Nat), sTick)] ((125 : Nat)) [AV.str x.key]) (AV.bool b) [] ∧
    (b = true →
        ∃ (b : Bool),
 CallIs (some (AV.bool (tickB x.event), [])) (AV.bool b) [] ∧
 (b = true →
 ∃ (b : Bool),
 CallIs (some (AV.bool (tickB x.know), [])) (AV.bool b) [] ∧
 (b = true → RetIs (AV.bool true) [] (r, [])) ∧ (b = false → RetIs (AV.bool false) [] (r, []))) ∧
 (b = false → RetIs (AV.bool false) [] (r, []))) ∧
      (b = false → RetIs (AV.bool false) [] (r, []))) := by kernel_rfl
theorem w20 (m : Int) (l : List (List UInt8)) (x : List UInt8) (r : AV) : (pureW PQ (GQ m) X24 (tbl []) (itbl []) (aIn l x) [] 20 [.sl 1 (strsL l) .no, .str x] (r, [])) =
((∃ (y : Nat),
    ValsAre [AV.sl ((1 : Nat)) (strsL l) Own.no, AV.str x, AV.int IntKind.i64 (0 : Int)]
        [AV.sl ((1 : Nat)) (strsL l) Own.no, AV.str x, AV.int IntKind.i64 (↑y : Int)] ∧
      StIs { boxes := [], live := [] } { boxes := [], live := [] } ∧ (y ≤ l.length ∧ (List.take y l).contains x = false) ∧ True) ∧
  ∀ (x_1 : Nat),
    x_1 ≤ l.length ∧ (List.take x_1 l).contains x = false →
      (decide ((↑x_1 : Int) < (↑(strsL l).length : Int)) = true →
 ((0 : Int) ≤ (↑x_1 : Int) ∧ (↑x_1 : Int) < (↑(strsL l).length : Int)) ∧
 ∃ (s : List UInt8),
 takeAt PQ ((9 : Nat)) (strsL l) (↑x_1 : Int).toNat ((0 : Nat)) = some (AV.str s) ∧
 ((s == x) = true → RetIs (AV.bool true) [] (r, [])) ∧
 ((s == x) = false →
 ∃ (y : Nat),
 ValsAre [AV.sl ((1 : Nat)) (strsL l) Own.no, AV.str x, AV.int IntKind.i64 (IntKind.i64.wrap ((↑x_1 : Int) + (1 : Int)))]
 [AV.sl ((1 : Nat)) (strsL l) Own.no, AV.str x, AV.int IntKind.i64 (↑y : Int)] ∧
 StIs { boxes := [], live := [] } { boxes := [], live := [] } ∧
 (y ≤ l.length ∧ (List.take y l).contains x = false) ∧ l.length - y < l.length - x_1)) ∧
        (decide ((↑x_1 : Int) < (↑(strsL l).length : Int)) = false → RetIs (AV.bool false) [] (r, []))) := by kernel_rfl
theorem w136 (m : Int) (l : List (List UInt8)) (x : List UInt8) (r : AV) : (pureW PQ (GQ m) X24 (tbl []) (itbl []) (a136 l x) [] 136 [.sl 1 (strsL l) .no, .str x] (r, [])) =
((∃ (y : Nat),
    ValsAre [AV.sl ((1 : Nat)) (strsL l) Own.no, AV.str x, AV.int IntKind.i64 (↑(strsL l).length : Int), AV.int IntKind.i64 (0 : Int)]
        [AV.sl ((1 : Nat)) (strsL l) Own.no, AV.str x, AV.int IntKind.i64 (↑l.length : Int), AV.int IntKind.i64 (↑y : Int)] ∧
      StIs { boxes := [], live := [] } { boxes := [], live := [] } ∧ (y ≤ l.length ∧ ∀ (y_1 : List UInt8), y_1 ∈ List.take y l → (x == y_1) = false) ∧ True) ∧
  ∀ (x_1 : Nat),
    (x_1 ≤ l.length ∧ ∀ (y : List UInt8), y ∈ List.take x_1 l → (x == y) = false) →
      (decide ((↑x_1 : Int) < (↑l.length : Int)) = true →
 ((0 : Int) ≤ (↑x_1 : Int) ∧ (↑x_1 : Int) < (↑(strsL l).length : Int)) ∧
 ∃ (s : List UInt8),
 takeAt PQ ((9 : Nat)) (strsL l) (↑x_1 : Int).toNat ((0 : Nat)) = some (AV.str s) ∧
 ((x == s) = true → RetIs (AV.int IntKind.i64 (↑x_1 : Int)) [] (r, [])) ∧
 ((x == s) = false →
 ∃ (y : Nat),
 ValsAre
 [AV.sl ((1 : Nat)) (strsL l) Own.no, AV.str x, AV.int IntKind.i64 (↑l.length : Int),
 AV.int IntKind.i64 (IntKind.i64.wrap ((↑x_1 : Int) + (1 : Int)))]
 [AV.sl ((1 : Nat)) (strsL l) Own.no, AV.str x, AV.int IntKind.i64 (↑l.length : Int), AV.int IntKind.i64 (↑y : Int)] ∧
 StIs { boxes := [], live := [] } { boxes := [], live := [] } ∧
 (y ≤ l.length ∧ ∀ (y_1 : List UInt8), y_1 ∈ List.take y l → (x == y_1) = false) ∧ l.length - y < l.length - x_1)) ∧
        (decide ((↑x_1 : Int) < (↑l.length : Int)) = false → RetIs (AV.int IntKind.i64 (-1 : Int)) [] (r, []))) := by kernel_rfl
theorem w91 (m : Int) (l : List (List UInt8)) (x : List UInt8) (r : AV) : (pureW PQ (GQ m) X24 (tbl [(136, s136)]) (itbl []) nAn [] 91 [.sl 1 (strsL l) .no, .str x] (r, [])) =
(∃ (n : Int),
 CallIs (tbl [((136 : Nat), s136)] ((136 : Nat)) [AV.sl ((1 : Nat)) (strsL l) Own.no, AV.str x]) (AV.int IntKind.i64 n) [] ∧
  (decide (n ≥ (0 : Int)) = true → RetIs (AV.bool true) [] (r, [])) ∧ (decide (n ≥ (0 : Int)) = false → RetIs (AV.bool false) [] (r, []))) := by kernel_rfl
theorem w137 (m : Int) (l : List Lb) (r : AV) : (pureW PQ (GQ m) X24 (tbl [(93, s93)]) (itbl []) (a137 l) [] 137 [.sl 3 (lbsL l) .no, .fn 93 []] (r, [])) =
((∃ (y : Nat),
    ValsAre [AV.sl ((3 : Nat)) (lbsL l) Own.no, AV.fn ((93 : Nat)) [], AV.int IntKind.i64 (↑(lbsL l).length : Int), AV.int IntKind.i64 (0 : Int)]
        [AV.sl ((3 : Nat)) (lbsL l) Own.no, AV.fn ((93 : Nat)) [], AV.int IntKind.i64 (↑l.length : Int), AV.int IntKind.i64 (↑y : Int)] ∧
      StIs { boxes := [], live := [] } { boxes := [], live := [] } ∧ (y ≤ l.length ∧ (List.take y l).all lbOk = true) ∧ True) ∧
  ∀ (x : Nat),
    x ≤ l.length ∧ (List.take x l).all lbOk = true →
      (decide ((↑x : Int) < (↑l.length : Int)) = true →
 ((0 : Int) ≤ (↑x : Int) ∧ (↑x : Int) < (↑(lbsL l).length : Int)) ∧
 ∃ (s : List UInt8),
 ∃ (n : Int),
 ∃ (n_1 : Int),
 takeAt PQ ((65 : Nat)) (lbsL l) (↑x : Int).toNat ((0 : Nat)) = some (AV.agg [AV.str s, AV.int IntKind.i64 n, AV.int IntKind.i64 n_1]) ∧
 ∃ (b : Bool),
 CallIs (some (AV.bool !lbOk { key := s, event := n, know := n_1 }, [])) (AV.bool b) [] ∧
 (b = true → RetIs (AV.int IntKind.i64 (↑x : Int)) [] (r, [])) ∧
 (b = false →
 ∃ (y : Nat),
 ValsAre
 [AV.sl ((3 : Nat)) (lbsL l) Own.no, AV.fn ((93 : Nat)) [], AV.int IntKind.i64 (↑l.length : Int),
 AV.int IntKind.i64 (IntKind.i64.wrap ((↑x : Int) + (1 : Int)))]
 [AV.sl ((3 : Nat)) (lbsL l) Own.no, AV.fn ((93 : Nat)) [], AV.int IntKind.i64 (↑l.length : Int),
 AV.int IntKind.i64 (↑y : Int)] ∧
 StIs { boxes := [], live := [] } { boxes := [], live := [] } ∧
 (y ≤ l.length ∧ (List.take y l).all lbOk = true) ∧ l.length - y < l.length - x)) ∧
        (decide ((↑x : Int) < (↑l.length : Int)) = false → RetIs (AV.int IntKind.i64 (-1 : Int)) [] (r, []))) := by kernel_rfl
theorem w92 (m : Int) (l : List Lb) (r : AV) : (pureW PQ (GQ m) X24 (tbl [(137, s137)]) (itbl []) nAn [] 92 [.sl 3 (lbsL l) .no, .fn 93 []] (r, [])) =
(∃ (n : Int),
 CallIs (tbl [((137 : Nat), s137)] ((137 : Nat)) [AV.sl ((3 : Nat)) (lbsL l) Own.no, AV.fn ((93 : Nat)) []]) (AV.int IntKind.i64 n) [] ∧
  (decide (n ≥ (0 : Int)) = true → RetIs (AV.bool true) [] (r, [])) ∧ (decide (n ≥ (0 : Int)) = false → RetIs (AV.bool false) [] (r, []))) := by kernel_rfl
theorem w46 (m : Int) (x : Rq) (r : AV) : (pureW PQ (GQ m) X24 (tbl t46) (itbl []) (a46 x) [] 46 [rqA x] (r, [])) =
(∃ (b : Bool),
  CallIs (some (AV.bool (nameR x.entity), [])) (AV.bool b) [] ∧
    (b = true →
        (decide ((↑(strsL x.feats).length : Int) < (1 : Int)) = true → RetIs (AV.bool false) [] (r, [])) ∧
 (decide ((↑(strsL x.feats).length : Int) < (1 : Int)) = false →
 (decide ((↑(strsL x.feats).length : Int) > (8 : Int)) = true → RetIs (AV.bool false) [] (r, [])) ∧
 (decide ((↑(strsL x.feats).length : Int) > (8 : Int)) = false →
 (decide ((↑(lbsL x.labels).length : Int) > (256 : Int)) = true → RetIs (AV.bool false) [] (r, [])) ∧
 (decide ((↑(lbsL x.labels).length : Int) > (256 : Int)) = false →
 ∃ (b : Bool),
 CallIs (some (AV.bool (tickB x.seed), [])) (AV.bool b) [] ∧
 (b = true →
 (decide (x.permille < (0 : Int)) = true → RetIs (AV.bool false) [] (r, [])) ∧
 (decide (x.permille < (0 : Int)) = false →
 (decide (x.permille > (1000 : Int)) = true → RetIs (AV.bool false) [] (r, [])) ∧
 (decide (x.permille > (1000 : Int)) = false →
 (∃ (y : Nat),
 ValsAre
 [AV.ptr ((0 : Nat)) ((0 : Nat)), AV.sl ((1 : Nat)) (strsL x.feats) Own.no,
 AV.int IntKind.i64 (↑(strsL x.feats).length : Int), AV.int IntKind.i64 (0 : Int)]
 [AV.ptr ((0 : Nat)) ((0 : Nat)), AV.sl ((1 : Nat)) (strsL x.feats) Own.no,
 AV.int IntKind.i64 (↑x.feats.length : Int), AV.int IntKind.i64 (↑y : Int)] ∧
 StIs
 { boxes := [some [AV.str x.entity, AV.sl ((1 : Nat)) (strsL x.feats) Own.no, AV.sl ((3 : Nat)) (lbsL x.labels) Own.no, AV.int IntKind.i64 x.seed, AV.int IntKind.i64 x.permille]], live := [] }
 { boxes := [some [AV.str x.entity, AV.sl ((1 : Nat)) (strsL x.feats) Own.no, AV.sl ((3 : Nat)) (lbsL x.labels) Own.no, AV.int IntKind.i64 x.seed, AV.int IntKind.i64 x.permille]], live := [] } ∧
 (y ≤ x.feats.length ∧ featsOk [] x.feats = featsOk (List.take y x.feats) (List.drop y x.feats)) ∧ True) ∧
 ∀ (x_1 : Nat),
 x_1 ≤ x.feats.length ∧ featsOk [] x.feats = featsOk (List.take x_1 x.feats) (List.drop x_1 x.feats) →
 (decide ((↑x_1 : Int) < (↑x.feats.length : Int)) = true →
 ((0 : Int) ≤ (↑x_1 : Int) ∧ (↑x_1 : Int) < (↑(strsL x.feats).length : Int)) ∧
 ∃ (s : List UInt8),
 takeAt PQ ((9 : Nat)) (strsL x.feats) (↑x_1 : Int).toNat ((0 : Nat)) = some (AV.str s) ∧
 ∃ (b : Bool),
 CallIs (some (AV.bool (nameR s), [])) (AV.bool b) [] ∧
 (b = true →
 (0 : Int) ≤ (↑x_1 : Int) ∧
 ((0 : Nat) ≤ (↑x_1 : Int).toNat ∧ (↑x_1 : Int).toNat ≤ (strsL x.feats).length) ∧
 ((1 : Nat) = (1 : Nat) ∨ strsL x.feats = []) ∧
 ∃ (b : Bool),
 CallIs
 (tbl [((40 : Nat), s40u), ((90 : Nat), sTick), ((91 : Nat), sIn), ((92 : Nat), s92)]
 ((91 : Nat))
 [AV.sl ((1 : Nat))
 (List.drop ((0 : Nat)) (List.take (↑x_1 : Int).toNat (strsL x.feats))) Own.no,
 AV.str s])
 (AV.bool b) [] ∧
 (b = true → RetIs (AV.bool false) [] (r, [])) ∧
 (b = false →
 ∃ (y : Nat),
 ValsAre
 [AV.ptr ((0 : Nat)) ((0 : Nat)), AV.sl ((1 : Nat)) (strsL x.feats) Own.no,
 AV.int IntKind.i64 (↑x.feats.length : Int),
 AV.int IntKind.i64 (IntKind.i64.wrap ((↑x_1 : Int) + (1 : Int)))]
 [AV.ptr ((0 : Nat)) ((0 : Nat)), AV.sl ((1 : Nat)) (strsL x.feats) Own.no,
 AV.int IntKind.i64 (↑x.feats.length : Int), AV.int IntKind.i64 (↑y : Int)] ∧
 StIs
 { boxes := [some [AV.str x.entity, AV.sl ((1 : Nat)) (strsL x.feats) Own.no, AV.sl ((3 : Nat)) (lbsL x.labels) Own.no, AV.int IntKind.i64 x.seed, AV.int IntKind.i64 x.permille]], live := [] }
 { boxes := [some [AV.str x.entity, AV.sl ((1 : Nat)) (strsL x.feats) Own.no, AV.sl ((3 : Nat)) (lbsL x.labels) Own.no, AV.int IntKind.i64 x.seed, AV.int IntKind.i64 x.permille]], live := [] } ∧
 (y ≤ x.feats.length ∧
 featsOk [] x.feats = featsOk (List.take y x.feats) (List.drop y x.feats)) ∧
 x.feats.length - y < x.feats.length - x_1)) ∧
 (b = false → RetIs (AV.bool false) [] (r, []))) ∧
 (decide ((↑x_1 : Int) < (↑x.feats.length : Int)) = false →
 ∃ (b : Bool),
 CallIs
 (tbl [((40 : Nat), s40u), ((90 : Nat), sTick), ((91 : Nat), sIn), ((92 : Nat), s92)] ((92 : Nat))
 [AV.sl ((3 : Nat)) (lbsL x.labels) Own.no, AV.fn ((93 : Nat)) []])
 (AV.bool b) [] ∧
 (b = true → RetIs (AV.bool false) [] (r, [])) ∧ (b = false → RetIs (AV.bool true) [] (r, [])))))) ∧
 (b = false → RetIs (AV.bool false) [] (r, [])))))) ∧
      (b = false → RetIs (AV.bool false) [] (r, []))) := by kernel_rfl
theorem w33 (m : Int) (x : Rq) (r : AV) : (pureW PQ (GQ m) X24 (tbl t33q) (itbl []) (a33 x) [] 33 [rqA x] (r, [])) =
(∃ (b : Bool),
  CallIs (some (AV.bool (nameR x.entity), [])) (AV.bool b) [] ∧
    (b = true →
        (decide ((↑(strsL x.feats).length : Int) < (1 : Int)) = true → RetIs (AV.bool false) [] (r, [])) ∧
 (decide ((↑(strsL x.feats).length : Int) < (1 : Int)) = false →
 (decide ((↑(strsL x.feats).length : Int) > (8 : Int)) = true → RetIs (AV.bool false) [] (r, [])) ∧
 (decide ((↑(strsL x.feats).length : Int) > (8 : Int)) = false →
 (decide ((↑(lbsL x.labels).length : Int) > (256 : Int)) = true → RetIs (AV.bool false) [] (r, [])) ∧
 (decide ((↑(lbsL x.labels).length : Int) > (256 : Int)) = false →
 ∃ (b : Bool),
 CallIs (some (AV.bool (tickB x.seed), [])) (AV.bool b) [] ∧
 (b = true →
 (decide (x.permille < (0 : Int)) = true → RetIs (AV.bool false) [] (r, [])) ∧
 (decide (x.permille < (0 : Int)) = false →
 (decide (x.permille > (1000 : Int)) = true → RetIs (AV.bool false) [] (r, [])) ∧
 (decide (x.permille > (1000 : Int)) = false →
 (∃ (y : Nat),
 ValsAre [AV.ptr ((0 : Nat)) ((0 : Nat)), AV.int IntKind.i64 (0 : Int)]
 [AV.ptr ((0 : Nat)) ((0 : Nat)), AV.int IntKind.i64 (↑y : Int)] ∧
 StIs
 { boxes := [some [AV.str x.entity, AV.sl ((1 : Nat)) (strsL x.feats) Own.no, AV.sl ((3 : Nat)) (lbsL x.labels) Own.no, AV.int IntKind.i64 x.seed, AV.int IntKind.i64 x.permille]], live := [] }
 { boxes := [some [AV.str x.entity, AV.sl ((1 : Nat)) (strsL x.feats) Own.no, AV.sl ((3 : Nat)) (lbsL x.labels) Own.no, AV.int IntKind.i64 x.seed, AV.int IntKind.i64 x.permille]], live := [] } ∧
 (y ≤ x.feats.length ∧ featsOk [] x.feats = featsOk (List.take y x.feats) (List.drop y x.feats)) ∧ True) ∧
 ∀ (x_1 : Nat),
 x_1 ≤ x.feats.length ∧ featsOk [] x.feats = featsOk (List.take x_1 x.feats) (List.drop x_1 x.feats) →
 (decide ((↑x_1 : Int) < (↑(strsL x.feats).length : Int)) = true →
 ((0 : Int) ≤ (↑x_1 : Int) ∧ (↑x_1 : Int) < (↑(strsL x.feats).length : Int)) ∧
 ∃ (s : List UInt8),
 takeAt PQ ((9 : Nat)) (strsL x.feats) (↑x_1 : Int).toNat ((0 : Nat)) = some (AV.str s) ∧
 ∃ (b : Bool),
 CallIs (some (AV.bool (nameR s), [])) (AV.bool b) [] ∧
 (b = true →
 (0 : Int) ≤ (↑x_1 : Int) ∧
 ((0 : Nat) ≤ (↑x_1 : Int).toNat ∧ (↑x_1 : Int).toNat ≤ (strsL x.feats).length) ∧
 ((1 : Nat) = (1 : Nat) ∨ strsL x.feats = []) ∧
 ((0 : Int) ≤ (↑x_1 : Int) ∧ (↑x_1 : Int) < (↑(strsL x.feats).length : Int)) ∧
 ∃ (s : List UInt8),
 takeAt PQ ((9 : Nat)) (strsL x.feats) (↑x_1 : Int).toNat ((0 : Nat)) = some (AV.str s) ∧
 ∃ (b : Bool),
 CallIs
 (tbl
 [((77 : Nat), s40u), ((78 : Nat), sTick), ((20 : Nat), sIn), ((79 : Nat), s79)]
 ((20 : Nat))
 [AV.sl ((1 : Nat))
 (List.drop ((0 : Nat)) (List.take (↑x_1 : Int).toNat (strsL x.feats)))
 Own.no,
 AV.str s])
 (AV.bool b) [] ∧
 (b = true → RetIs (AV.bool false) [] (r, [])) ∧
 (b = false →
 ∃ (y : Nat),
 ValsAre
 [AV.ptr ((0 : Nat)) ((0 : Nat)),
 AV.int IntKind.i64 (IntKind.i64.wrap ((↑x_1 : Int) + (1 : Int)))]
 [AV.ptr ((0 : Nat)) ((0 : Nat)), AV.int IntKind.i64 (↑y : Int)] ∧
 StIs
 { boxes := [some [AV.str x.entity, AV.sl ((1 : Nat)) (strsL x.feats) Own.no, AV.sl ((3 : Nat)) (lbsL x.labels) Own.no, AV.int IntKind.i64 x.seed, AV.int IntKind.i64 x.permille]], live := [] }
 { boxes := [some [AV.str x.entity, AV.sl ((1 : Nat)) (strsL x.feats) Own.no, AV.sl ((3 : Nat)) (lbsL x.labels) Own.no, AV.int IntKind.i64 x.seed, AV.int IntKind.i64 x.permille]], live := [] } ∧
 (y ≤ x.feats.length ∧
 featsOk [] x.feats =
 featsOk (List.take y x.feats) (List.drop y x.feats)) ∧
 x.feats.length - y < x.feats.length - x_1)) ∧
 (b = false → RetIs (AV.bool false) [] (r, []))) ∧
 (decide ((↑x_1 : Int) < (↑(strsL x.feats).length : Int)) = false →
 (∃ (y : Nat),
 ValsAre [AV.ptr ((0 : Nat)) ((0 : Nat)), AV.int IntKind.i64 (0 : Int)]
 [AV.ptr ((0 : Nat)) ((0 : Nat)), AV.int IntKind.i64 (↑y : Int)] ∧
 StIs
 { boxes := [some [AV.str x.entity, AV.sl ((1 : Nat)) (strsL x.feats) Own.no, AV.sl ((3 : Nat)) (lbsL x.labels) Own.no, AV.int IntKind.i64 x.seed, AV.int IntKind.i64 x.permille]], live := [] }
 { boxes := [some [AV.str x.entity, AV.sl ((1 : Nat)) (strsL x.feats) Own.no, AV.sl ((3 : Nat)) (lbsL x.labels) Own.no, AV.int IntKind.i64 x.seed, AV.int IntKind.i64 x.permille]], live := [] } ∧
 (y ≤ x.labels.length ∧ featsOk [] x.feats = true ∧ (List.take y x.labels).all lbOk = true) ∧ True) ∧
 ∀ (x_2 : Nat),
 x_2 ≤ x.labels.length ∧ featsOk [] x.feats = true ∧ (List.take x_2 x.labels).all lbOk = true →
 (decide ((↑x_2 : Int) < (↑(lbsL x.labels).length : Int)) = true →
 ((0 : Int) ≤ (↑x_2 : Int) ∧ (↑x_2 : Int) < (↑(lbsL x.labels).length : Int)) ∧
 ∃ (s : List UInt8),
 ∃ (n : Int),
 ∃ (n_1 : Int),
 takeAt PQ ((65 : Nat)) (lbsL x.labels) (↑x_2 : Int).toNat ((0 : Nat)) =
 some (AV.agg [AV.str s, AV.int IntKind.i64 n, AV.int IntKind.i64 n_1]) ∧
 ∃ (b : Bool),
 CallIs
 (tbl [((77 : Nat), s40u), ((78 : Nat), sTick), ((20 : Nat), sIn), ((79 : Nat), s79)]
 ((79 : Nat)) [AV.agg [AV.str s, AV.int IntKind.i64 n, AV.int IntKind.i64 n_1]])
 (AV.bool b) [] ∧
 (b = true →
 ∃ (y : Nat),
 ValsAre
 [AV.ptr ((0 : Nat)) ((0 : Nat)),
 AV.int IntKind.i64 (IntKind.i64.wrap ((↑x_2 : Int) + (1 : Int)))]
 [AV.ptr ((0 : Nat)) ((0 : Nat)), AV.int IntKind.i64 (↑y : Int)] ∧
 StIs
 { boxes := [some [AV.str x.entity, AV.sl ((1 : Nat)) (strsL x.feats) Own.no, AV.sl ((3 : Nat)) (lbsL x.labels) Own.no, AV.int IntKind.i64 x.seed, AV.int IntKind.i64 x.permille]], live := [] }
 { boxes := [some [AV.str x.entity, AV.sl ((1 : Nat)) (strsL x.feats) Own.no, AV.sl ((3 : Nat)) (lbsL x.labels) Own.no, AV.int IntKind.i64 x.seed, AV.int IntKind.i64 x.permille]], live := [] } ∧
 (y ≤ x.labels.length ∧
 featsOk [] x.feats = true ∧ (List.take y x.labels).all lbOk = true) ∧
 x.labels.length - y < x.labels.length - x_2) ∧
 (b = false → RetIs (AV.bool false) [] (r, []))) ∧
 (decide ((↑x_2 : Int) < (↑(lbsL x.labels).length : Int)) = false → RetIs (AV.bool true) [] (r, [])))))) ∧
 (b = false → RetIs (AV.bool false) [] (r, [])))))) ∧
      (b = false → RetIs (AV.bool false) [] (r, []))) := by kernel_rfl
theorem w138 (m : Int) (s : List UInt8) (r : AV) : (pureW PQ (GQ m) X24 (tbl []) (itbl []) (a138 s) [] 138 [.agg [.int .i64 5, .int .i64 0, .str s]] (r, [])) =
((false = true →
    ((false = true →
 ∃ (_ : Unit),
 ValsAre [AV.ptr ((0 : Nat)) ((0 : Nat)), AV.bool true, AV.bool true] [AV.ptr ((0 : Nat)) ((0 : Nat)), AV.bool false, AV.bool true] ∧
 StIs { boxes := [some [AV.int IntKind.i64 (5 : Int), AV.int IntKind.i64 (0 : Int), AV.str s]], live := [] }
 { boxes := [some [AV.int IntKind.i64 (5 : Int), AV.int IntKind.i64 (0 : Int), AV.str s]], live := [] } ∧
 True ∧ True) ∧
        (false = false →
 (true = true →
 ∃ (_ : Unit),
 ValsAre [AV.ptr ((0 : Nat)) ((0 : Nat)), AV.bool true, AV.bool true] [AV.ptr ((0 : Nat)) ((0 : Nat)), AV.bool false, AV.bool true] ∧
 StIs { boxes := [some [AV.int IntKind.i64 (5 : Int), AV.int IntKind.i64 (0 : Int), AV.str s]], live := [] }
 { boxes := [some [AV.int IntKind.i64 (5 : Int), AV.int IntKind.i64 (0 : Int), AV.str s]], live := [] } ∧
 True ∧ True) ∧
 (true = false →
 ∃ (_ : Unit),
 ValsAre [AV.ptr ((0 : Nat)) ((0 : Nat)), AV.bool true, AV.bool false] [AV.ptr ((0 : Nat)) ((0 : Nat)), AV.bool false, AV.bool true] ∧
 StIs { boxes := [some [AV.int IntKind.i64 (5 : Int), AV.int IntKind.i64 (0 : Int), AV.str s]], live := [] }
 { boxes := [some [AV.int IntKind.i64 (5 : Int), AV.int IntKind.i64 (0 : Int), AV.str s]], live := [] } ∧
 True ∧ True))) ∧
      ∀ (_ : Unit),
        True →
 True →
 ((false = true → RetIs (AV.int IntKind.i64 (1 : Int)) [] (r, [])) ∧
 (false = false →
 (false = true → RetIs (AV.int IntKind.i64 (1 : Int)) [] (r, [])) ∧
 (false = false →
 (false = true →
 (true = true → RetIs (AV.int IntKind.i64 (1 : Int)) [] (r, [])) ∧
 (true = false →
 (true = true → RetIs (AV.int IntKind.i64 (1 : Int)) [] (r, [])) ∧
 (true = false →
 (false = true → RetIs (AV.int IntKind.i64 (2 : Int)) [] (r, [])) ∧
 (false = false →
 (false = true → RetIs (AV.int IntKind.i64 (2 : Int)) [] (r, [])) ∧
 (false = false →
 ∃ (_ : Unit),
 ValsAre [AV.ptr ((0 : Nat)) ((0 : Nat)), AV.bool true] [AV.ptr ((0 : Nat)) ((0 : Nat)), AV.bool true] ∧
 StIs { boxes := [some [AV.int IntKind.i64 (5 : Int), AV.int IntKind.i64 (0 : Int), AV.str s]], live := [] }
 { boxes := [some [AV.int IntKind.i64 (5 : Int), AV.int IntKind.i64 (0 : Int), AV.str s]], live := [] } ∧
 True ∧ True))))) ∧
 (false = false →
 (false = true → RetIs (AV.int IntKind.i64 (2 : Int)) [] (r, [])) ∧
 (false = false →
 (false = true → RetIs (AV.int IntKind.i64 (2 : Int)) [] (r, [])) ∧
 (false = false →
 ∃ (_ : Unit),
 ValsAre [AV.ptr ((0 : Nat)) ((0 : Nat)), AV.bool true] [AV.ptr ((0 : Nat)) ((0 : Nat)), AV.bool true] ∧
 StIs { boxes := [some [AV.int IntKind.i64 (5 : Int), AV.int IntKind.i64 (0 : Int), AV.str s]], live := [] }
 { boxes := [some [AV.int IntKind.i64 (5 : Int), AV.int IntKind.i64 (0 : Int), AV.str s]], live := [] } ∧
 True ∧ True)))))) ∧
 ∀ (_ : Unit),
 True →
 True →
 (∃ (_ : Unit),
 ValsAre [AV.ptr ((0 : Nat)) ((0 : Nat)), AV.bool true] [AV.ptr ((0 : Nat)) ((0 : Nat)), AV.bool true] ∧
 StIs { boxes := [some [AV.int IntKind.i64 (5 : Int), AV.int IntKind.i64 (0 : Int), AV.str s]], live := [] }
 { boxes := [some [AV.int IntKind.i64 (5 : Int), AV.int IntKind.i64 (0 : Int), AV.str s]], live := [] } ∧
 True ∧ True) ∧
 ∀ (_ : Unit),
 True →
 True →
 ((true = true →
 ∃ (_ : Unit),
 ValsAre [AV.ptr ((0 : Nat)) ((0 : Nat)), AV.int IntKind.i64 (32 : Int), AV.int IntKind.u8 (33 : Int)]
 [AV.ptr ((0 : Nat)) ((0 : Nat)), AV.int IntKind.i64 (32 : Int), AV.int IntKind.u8 (33 : Int)] ∧
 StIs { boxes := [some [AV.int IntKind.i64 (5 : Int), AV.int IntKind.i64 (0 : Int), AV.str s]], live := [] }
 { boxes := [some [AV.int IntKind.i64 (5 : Int), AV.int IntKind.i64 (0 : Int), AV.str s]], live := [] } ∧
 True ∧ True) ∧
 (true = false →
 ∃ (_ : Unit),
 ValsAre [AV.ptr ((0 : Nat)) ((0 : Nat)), AV.int IntKind.i64 (64 : Int), AV.int IntKind.u8 (32 : Int)]
 [AV.ptr ((0 : Nat)) ((0 : Nat)), AV.int IntKind.i64 (32 : Int), AV.int IntKind.u8 (33 : Int)] ∧
 StIs { boxes := [some [AV.int IntKind.i64 (5 : Int), AV.int IntKind.i64 (0 : Int), AV.str s]], live := [] }
 { boxes := [some [AV.int IntKind.i64 (5 : Int), AV.int IntKind.i64 (0 : Int), AV.str s]], live := [] } ∧
 True ∧ True)) ∧
 ∀ (_ : Unit),
 True →
 True →
 ((decide ((↑s.length : Int) > (32 : Int)) = true → RetIs (AV.int IntKind.i64 (2 : Int)) [] (r, [])) ∧
 (decide ((↑s.length : Int) > (32 : Int)) = false →
 ∃ (_ : Unit),
 ValsAre [AV.ptr ((0 : Nat)) ((0 : Nat)), AV.int IntKind.u8 (33 : Int)]
 [AV.ptr ((0 : Nat)) ((0 : Nat)), AV.int IntKind.u8 (33 : Int)] ∧
 StIs { boxes := [some [AV.int IntKind.i64 (5 : Int), AV.int IntKind.i64 (0 : Int), AV.str s]], live := [] }
 { boxes := [some [AV.int IntKind.i64 (5 : Int), AV.int IntKind.i64 (0 : Int), AV.str s]], live := [] } ∧
 s.length ≤ (32 : Nat) ∧ True)) ∧
 ∀ (_ : Unit),
 s.length ≤ (32 : Nat) →
 True →
 ((true = true →
 ((s == []) = true → RetIs (AV.int IntKind.i64 (3 : Int)) [] (r, [])) ∧
 ((s == []) = false →
 ∃ (_ : Unit),
 ValsAre [AV.ptr ((0 : Nat)) ((0 : Nat)), AV.int IntKind.u8 (33 : Int)]
 [AV.ptr ((0 : Nat)) ((0 : Nat)), AV.int IntKind.u8 (33 : Int)] ∧
 StIs
 { boxes := [some [AV.int IntKind.i64 (5 : Int), AV.int IntKind.i64 (0 : Int), AV.str s]], live := [] }
 { boxes := [some [AV.int IntKind.i64 (5 : Int), AV.int IntKind.i64 (0 : Int), AV.str s]], live := [] } ∧
 (s.length ≤ (32 : Nat) ∧ s ≠ []) ∧ True)) ∧
 (true = false →
 ∃ (_ : Unit),
 ValsAre [AV.ptr ((0 : Nat)) ((0 : Nat)), AV.int IntKind.u8 (33 : Int)]
 [AV.ptr ((0 : Nat)) ((0 : Nat)), AV.int IntKind.u8 (33 : Int)] ∧
 StIs
 { boxes := [some [AV.int IntKind.i64 (5 : Int), AV.int IntKind.i64 (0 : Int), AV.str s]], live := [] }
 { boxes := [some [AV.int IntKind.i64 (5 : Int), AV.int IntKind.i64 (0 : Int), AV.str s]], live := [] } ∧
 (s.length ≤ (32 : Nat) ∧ s ≠ []) ∧ True)) ∧
 ∀ (_ : Unit),
 s.length ≤ (32 : Nat) ∧ s ≠ [] →
 True →
 (∃ (y : Nat),
 ValsAre
 [AV.ptr ((0 : Nat)) ((0 : Nat)), AV.int IntKind.u8 (33 : Int), AV.int IntKind.i64 (↑s.length : Int),
 AV.int IntKind.i64 (0 : Int)]
 [AV.ptr ((0 : Nat)) ((0 : Nat)), AV.int IntKind.u8 (33 : Int), AV.int IntKind.i64 (↑s.length : Int),
 AV.int IntKind.i64 (↑y : Int)] ∧
 StIs
 { boxes := [some [AV.int IntKind.i64 (5 : Int), AV.int IntKind.i64 (0 : Int), AV.str s]], live := [] }
 { boxes := [some [AV.int IntKind.i64 (5 : Int), AV.int IntKind.i64 (0 : Int), AV.str s]], live := [] } ∧
 (y ≤ s.length ∧ (List.take y s).all keyC = true) ∧ True) ∧
 ∀ (x : Nat),
 x ≤ s.length ∧ (List.take x s).all keyC = true →
 (decide ((↑x : Int) < (↑s.length : Int)) = true →
 (0 : Int) ≤ (↑x : Int) ∧
 ∃ (c : UInt8),
 s[(↑x : Int).toNat]? = some c ∧
 (decide ((↑c.toNat : Int) < (33 : Int)) = true →
 RetIs (AV.int IntKind.i64 (3 : Int)) [] (r, [])) ∧
 (decide ((↑c.toNat : Int) < (33 : Int)) = false →
 (decide ((↑c.toNat : Int) > (126 : Int)) = true →
 RetIs (AV.int IntKind.i64 (3 : Int)) [] (r, [])) ∧
 (decide ((↑c.toNat : Int) > (126 : Int)) = false →
 (((↑c.toNat : Int) == (34 : Int)) = true →
 RetIs (AV.int IntKind.i64 (3 : Int)) [] (r, [])) ∧
 (((↑c.toNat : Int) == (34 : Int)) = false →
 (((↑c.toNat : Int) == (92 : Int)) = true →
 RetIs (AV.int IntKind.i64 (3 : Int)) [] (r, [])) ∧
 (((↑c.toNat : Int) == (92 : Int)) = false →
 ∃ (y : Nat),
 ValsAre
 [AV.ptr ((0 : Nat)) ((0 : Nat)), AV.int IntKind.u8 (33 : Int),
 AV.int IntKind.i64 (↑s.length : Int),
 AV.int IntKind.i64 (IntKind.i64.wrap ((↑x : Int) + (1 : Int)))]
 [AV.ptr ((0 : Nat)) ((0 : Nat)), AV.int IntKind.u8 (33 : Int),
 AV.int IntKind.i64 (↑s.length : Int),
 AV.int IntKind.i64 (↑y : Int)] ∧
 StIs
 { boxes := [some [AV.int IntKind.i64 (5 : Int), AV.int IntKind.i64 (0 : Int), AV.str s]], live := [] }
 { boxes := [some [AV.int IntKind.i64 (5 : Int), AV.int IntKind.i64 (0 : Int), AV.str s]], live := [] } ∧
 (y ≤ s.length ∧ (List.take y s).all keyC = true) ∧
 s.length - y < s.length - x))))) ∧
 (decide ((↑x : Int) < (↑s.length : Int)) = false →
 RetIs (AV.int IntKind.i64 (0 : Int)) [] (r, []))) ∧
  (false = false →
    (false = true →
        ((false = true →
 ∃ (_ : Unit),
 ValsAre [AV.ptr ((0 : Nat)) ((0 : Nat)), AV.bool true, AV.bool true] [AV.ptr ((0 : Nat)) ((0 : Nat)), AV.bool false, AV.bool true] ∧
 StIs { boxes := [some [AV.int IntKind.i64 (5 : Int), AV.int IntKind.i64 (0 : Int), AV.str s]], live := [] }
 { boxes := [some [AV.int IntKind.i64 (5 : Int), AV.int IntKind.i64 (0 : Int), AV.str s]], live := [] } ∧
 True ∧ True) ∧
 (false = false →
 (true = true →
 ∃ (_ : Unit),
 ValsAre [AV.ptr ((0 : Nat)) ((0 : Nat)), AV.bool true, AV.bool true] [AV.ptr ((0 : Nat)) ((0 : Nat)), AV.bool false, AV.bool true] ∧
 StIs { boxes := [some [AV.int IntKind.i64 (5 : Int), AV.int IntKind.i64 (0 : Int), AV.str s]], live := [] }
 { boxes := [some [AV.int IntKind.i64 (5 : Int), AV.int IntKind.i64 (0 : Int), AV.str s]], live := [] } ∧
 True ∧ True) ∧
 (true = false →
 ∃ (_ : Unit),
 ValsAre [AV.ptr ((0 : Nat)) ((0 : Nat)), AV.bool true, AV.bool false] [AV.ptr ((0 : Nat)) ((0 : Nat)), AV.bool false, AV.bool true] ∧
 StIs { boxes := [some [AV.int IntKind.i64 (5 : Int), AV.int IntKind.i64 (0 : Int), AV.str s]], live := [] }
 { boxes := [some [AV.int IntKind.i64 (5 : Int), AV.int IntKind.i64 (0 : Int), AV.str s]], live := [] } ∧
 True ∧ True))) ∧
 ∀ (_ : Unit),
 True →
 True →
 ((false = true → RetIs (AV.int IntKind.i64 (1 : Int)) [] (r, [])) ∧
 (false = false →
 (false = true → RetIs (AV.int IntKind.i64 (1 : Int)) [] (r, [])) ∧
 (false = false →
 (false = true →
 (true = true → RetIs (AV.int IntKind.i64 (1 : Int)) [] (r, [])) ∧
 (true = false →
 (true = true → RetIs (AV.int IntKind.i64 (1 : Int)) [] (r, [])) ∧
 (true = false →
 (false = true → RetIs (AV.int IntKind.i64 (2 : Int)) [] (r, [])) ∧
 (false = false →
 (false = true → RetIs (AV.int IntKind.i64 (2 : Int)) [] (r, [])) ∧
 (false = false →
 ∃ (_ : Unit),
 ValsAre [AV.ptr ((0 : Nat)) ((0 : Nat)), AV.bool true] [AV.ptr ((0 : Nat)) ((0 : Nat)), AV.bool true] ∧
 StIs { boxes := [some [AV.int IntKind.i64 (5 : Int), AV.int IntKind.i64 (0 : Int), AV.str s]], live := [] }
 { boxes := [some [AV.int IntKind.i64 (5 : Int), AV.int IntKind.i64 (0 : Int), AV.str s]], live := [] } ∧
 True ∧ True))))) ∧
 (false = false →
 (false = true → RetIs (AV.int IntKind.i64 (2 : Int)) [] (r, [])) ∧
 (false = false →
 (false = true → RetIs (AV.int IntKind.i64 (2 : Int)) [] (r, [])) ∧
 (false = false →
 ∃ (_ : Unit),
 ValsAre [AV.ptr ((0 : Nat)) ((0 : Nat)), AV.bool true] [AV.ptr ((0 : Nat)) ((0 : Nat)), AV.bool true] ∧
 StIs { boxes := [some [AV.int IntKind.i64 (5 : Int), AV.int IntKind.i64 (0 : Int), AV.str s]], live := [] }
 { boxes := [some [AV.int IntKind.i64 (5 : Int), AV.int IntKind.i64 (0 : Int), AV.str s]], live := [] } ∧
 True ∧ True)))))) ∧
 ∀ (_ : Unit),
 True →
 True →
 (∃ (_ : Unit),
 ValsAre [AV.ptr ((0 : Nat)) ((0 : Nat)), AV.bool true] [AV.ptr ((0 : Nat)) ((0 : Nat)), AV.bool true] ∧
 StIs { boxes := [some [AV.int IntKind.i64 (5 : Int), AV.int IntKind.i64 (0 : Int), AV.str s]], live := [] }
 { boxes := [some [AV.int IntKind.i64 (5 : Int), AV.int IntKind.i64 (0 : Int), AV.str s]], live := [] } ∧
 True ∧ True) ∧
 ∀ (_ : Unit),
 True →
 True →
 ((true = true →
 ∃ (_ : Unit),
 ValsAre [AV.ptr ((0 : Nat)) ((0 : Nat)), AV.int IntKind.i64 (32 : Int), AV.int IntKind.u8 (33 : Int)]
 [AV.ptr ((0 : Nat)) ((0 : Nat)), AV.int IntKind.i64 (32 : Int), AV.int IntKind.u8 (33 : Int)] ∧
 StIs { boxes := [some [AV.int IntKind.i64 (5 : Int), AV.int IntKind.i64 (0 : Int), AV.str s]], live := [] }
 { boxes := [some [AV.int IntKind.i64 (5 : Int), AV.int IntKind.i64 (0 : Int), AV.str s]], live := [] } ∧
 True ∧ True) ∧
 (true = false →
 ∃ (_ : Unit),
 ValsAre [AV.ptr ((0 : Nat)) ((0 : Nat)), AV.int IntKind.i64 (64 : Int), AV.int IntKind.u8 (32 : Int)]
 [AV.ptr ((0 : Nat)) ((0 : Nat)), AV.int IntKind.i64 (32 : Int), AV.int IntKind.u8 (33 : Int)] ∧
 StIs { boxes := [some [AV.int IntKind.i64 (5 : Int), AV.int IntKind.i64 (0 : Int), AV.str s]], live := [] }
 { boxes := [some [AV.int IntKind.i64 (5 : Int), AV.int IntKind.i64 (0 : Int), AV.str s]], live := [] } ∧
 True ∧ True)) ∧
 ∀ (_ : Unit),
 True →
 True →
 ((decide ((↑s.length : Int) > (32 : Int)) = true → RetIs (AV.int IntKind.i64 (2 : Int)) [] (r, [])) ∧
 (decide ((↑s.length : Int) > (32 : Int)) = false →
 ∃ (_ : Unit),
 ValsAre [AV.ptr ((0 : Nat)) ((0 : Nat)), AV.int IntKind.u8 (33 : Int)]
 [AV.ptr ((0 : Nat)) ((0 : Nat)), AV.int IntKind.u8 (33 : Int)] ∧
 StIs { boxes := [some [AV.int IntKind.i64 (5 : Int), AV.int IntKind.i64 (0 : Int), AV.str s]], live := [] }
 { boxes := [some [AV.int IntKind.i64 (5 : Int), AV.int IntKind.i64 (0 : Int), AV.str s]], live := [] } ∧
 s.length ≤ (32 : Nat) ∧ True)) ∧
 ∀ (_ : Unit),
 s.length ≤ (32 : Nat) →
 True →
 ((true = true →
 ((s == []) = true → RetIs (AV.int IntKind.i64 (3 : Int)) [] (r, [])) ∧
 ((s == []) = false →
 ∃ (_ : Unit),
 ValsAre [AV.ptr ((0 : Nat)) ((0 : Nat)), AV.int IntKind.u8 (33 : Int)]
 [AV.ptr ((0 : Nat)) ((0 : Nat)), AV.int IntKind.u8 (33 : Int)] ∧
 StIs
 { boxes := [some [AV.int IntKind.i64 (5 : Int), AV.int IntKind.i64 (0 : Int), AV.str s]], live := [] }
 { boxes := [some [AV.int IntKind.i64 (5 : Int), AV.int IntKind.i64 (0 : Int), AV.str s]], live := [] } ∧
 (s.length ≤ (32 : Nat) ∧ s ≠ []) ∧ True)) ∧
 (true = false →
 ∃ (_ : Unit),
 ValsAre [AV.ptr ((0 : Nat)) ((0 : Nat)), AV.int IntKind.u8 (33 : Int)]
 [AV.ptr ((0 : Nat)) ((0 : Nat)), AV.int IntKind.u8 (33 : Int)] ∧
 StIs
 { boxes := [some [AV.int IntKind.i64 (5 : Int), AV.int IntKind.i64 (0 : Int), AV.str s]], live := [] }
 { boxes := [some [AV.int IntKind.i64 (5 : Int), AV.int IntKind.i64 (0 : Int), AV.str s]], live := [] } ∧
 (s.length ≤ (32 : Nat) ∧ s ≠ []) ∧ True)) ∧
 ∀ (_ : Unit),
 s.length ≤ (32 : Nat) ∧ s ≠ [] →
 True →
 (∃ (y : Nat),
 ValsAre
 [AV.ptr ((0 : Nat)) ((0 : Nat)), AV.int IntKind.u8 (33 : Int),
 AV.int IntKind.i64 (↑s.length : Int), AV.int IntKind.i64 (0 : Int)]
 [AV.ptr ((0 : Nat)) ((0 : Nat)), AV.int IntKind.u8 (33 : Int),
 AV.int IntKind.i64 (↑s.length : Int), AV.int IntKind.i64 (↑y : Int)] ∧
 StIs
 { boxes := [some [AV.int IntKind.i64 (5 : Int), AV.int IntKind.i64 (0 : Int), AV.str s]], live := [] }
 { boxes := [some [AV.int IntKind.i64 (5 : Int), AV.int IntKind.i64 (0 : Int), AV.str s]], live := [] } ∧
 (y ≤ s.length ∧ (List.take y s).all keyC = true) ∧ True) ∧
 ∀ (x : Nat),
 x ≤ s.length ∧ (List.take x s).all keyC = true →
 (decide ((↑x : Int) < (↑s.length : Int)) = true →
 (0 : Int) ≤ (↑x : Int) ∧
 ∃ (c : UInt8),
 s[(↑x : Int).toNat]? = some c ∧
 (decide ((↑c.toNat : Int) < (33 : Int)) = true →
 RetIs (AV.int IntKind.i64 (3 : Int)) [] (r, [])) ∧
 (decide ((↑c.toNat : Int) < (33 : Int)) = false →
 (decide ((↑c.toNat : Int) > (126 : Int)) = true →
 RetIs (AV.int IntKind.i64 (3 : Int)) [] (r, [])) ∧
 (decide ((↑c.toNat : Int) > (126 : Int)) = false →
 (((↑c.toNat : Int) == (34 : Int)) = true →
 RetIs (AV.int IntKind.i64 (3 : Int)) [] (r, [])) ∧
 (((↑c.toNat : Int) == (34 : Int)) = false →
 (((↑c.toNat : Int) == (92 : Int)) = true →
 RetIs (AV.int IntKind.i64 (3 : Int)) [] (r, [])) ∧
 (((↑c.toNat : Int) == (92 : Int)) = false →
 ∃ (y : Nat),
 ValsAre
 [AV.ptr ((0 : Nat)) ((0 : Nat)), AV.int IntKind.u8 (33 : Int),
 AV.int IntKind.i64 (↑s.length : Int),
 AV.int IntKind.i64 (IntKind.i64.wrap ((↑x : Int) + (1 : Int)))]
 [AV.ptr ((0 : Nat)) ((0 : Nat)), AV.int IntKind.u8 (33 : Int),
 AV.int IntKind.i64 (↑s.length : Int),
 AV.int IntKind.i64 (↑y : Int)] ∧
 StIs
 { boxes := [some [AV.int IntKind.i64 (5 : Int), AV.int IntKind.i64 (0 : Int), AV.str s]], live := [] }
 { boxes := [some [AV.int IntKind.i64 (5 : Int), AV.int IntKind.i64 (0 : Int), AV.str s]], live := [] } ∧
 (y ≤ s.length ∧ (List.take y s).all keyC = true) ∧
 s.length - y < s.length - x))))) ∧
 (decide ((↑x : Int) < (↑s.length : Int)) = false →
 RetIs (AV.int IntKind.i64 (0 : Int)) [] (r, []))) ∧
      (false = false →
        ((false = true →
 ∃ (_ : Unit),
 ValsAre [AV.ptr ((0 : Nat)) ((0 : Nat)), AV.bool false, AV.bool true] [AV.ptr ((0 : Nat)) ((0 : Nat)), AV.bool false, AV.bool true] ∧
 StIs { boxes := [some [AV.int IntKind.i64 (5 : Int), AV.int IntKind.i64 (0 : Int), AV.str s]], live := [] }
 { boxes := [some [AV.int IntKind.i64 (5 : Int), AV.int IntKind.i64 (0 : Int), AV.str s]], live := [] } ∧
 True ∧ True) ∧
 (false = false →
 (true = true →
 ∃ (_ : Unit),
 ValsAre [AV.ptr ((0 : Nat)) ((0 : Nat)), AV.bool false, AV.bool true] [AV.ptr ((0 : Nat)) ((0 : Nat)), AV.bool false, AV.bool true] ∧
 StIs { boxes := [some [AV.int IntKind.i64 (5 : Int), AV.int IntKind.i64 (0 : Int), AV.str s]], live := [] }
 { boxes := [some [AV.int IntKind.i64 (5 : Int), AV.int IntKind.i64 (0 : Int), AV.str s]], live := [] } ∧
 True ∧ True) ∧
 (true = false →
 ∃ (_ : Unit),
 ValsAre [AV.ptr ((0 : Nat)) ((0 : Nat)), AV.bool false, AV.bool false] [AV.ptr ((0 : Nat)) ((0 : Nat)), AV.bool false, AV.bool true] ∧
 StIs { boxes := [some [AV.int IntKind.i64 (5 : Int), AV.int IntKind.i64 (0 : Int), AV.str s]], live := [] }
 { boxes := [some [AV.int IntKind.i64 (5 : Int), AV.int IntKind.i64 (0 : Int), AV.str s]], live := [] } ∧
 True ∧ True))) ∧
 ∀ (_ : Unit),
 True →
 True →
 ((false = true → RetIs (AV.int IntKind.i64 (1 : Int)) [] (r, [])) ∧
 (false = false →
 (false = true → RetIs (AV.int IntKind.i64 (1 : Int)) [] (r, [])) ∧
 (false = false →
 (false = true →
 (true = true → RetIs (AV.int IntKind.i64 (1 : Int)) [] (r, [])) ∧
 (true = false →
 (true = true → RetIs (AV.int IntKind.i64 (1 : Int)) [] (r, [])) ∧
 (true = false →
 (false = true → RetIs (AV.int IntKind.i64 (2 : Int)) [] (r, [])) ∧
 (false = false →
 (false = true → RetIs (AV.int IntKind.i64 (2 : Int)) [] (r, [])) ∧
 (false = false →
 ∃ (_ : Unit),
 ValsAre [AV.ptr ((0 : Nat)) ((0 : Nat)), AV.bool true] [AV.ptr ((0 : Nat)) ((0 : Nat)), AV.bool true] ∧
 StIs { boxes := [some [AV.int IntKind.i64 (5 : Int), AV.int IntKind.i64 (0 : Int), AV.str s]], live := [] }
 { boxes := [some [AV.int IntKind.i64 (5 : Int), AV.int IntKind.i64 (0 : Int), AV.str s]], live := [] } ∧
 True ∧ True))))) ∧
 (false = false →
 (false = true → RetIs (AV.int IntKind.i64 (2 : Int)) [] (r, [])) ∧
 (false = false →
 (false = true → RetIs (AV.int IntKind.i64 (2 : Int)) [] (r, [])) ∧
 (false = false →
 ∃ (_ : Unit),
 ValsAre [AV.ptr ((0 : Nat)) ((0 : Nat)), AV.bool true] [AV.ptr ((0 : Nat)) ((0 : Nat)), AV.bool true] ∧
 StIs { boxes := [some [AV.int IntKind.i64 (5 : Int), AV.int IntKind.i64 (0 : Int), AV.str s]], live := [] }
 { boxes := [some [AV.int IntKind.i64 (5 : Int), AV.int IntKind.i64 (0 : Int), AV.str s]], live := [] } ∧
 True ∧ True)))))) ∧
 ∀ (_ : Unit),
 True →
 True →
 (∃ (_ : Unit),
 ValsAre [AV.ptr ((0 : Nat)) ((0 : Nat)), AV.bool true] [AV.ptr ((0 : Nat)) ((0 : Nat)), AV.bool true] ∧
 StIs { boxes := [some [AV.int IntKind.i64 (5 : Int), AV.int IntKind.i64 (0 : Int), AV.str s]], live := [] }
 { boxes := [some [AV.int IntKind.i64 (5 : Int), AV.int IntKind.i64 (0 : Int), AV.str s]], live := [] } ∧
 True ∧ True) ∧
 ∀ (_ : Unit),
 True →
 True →
 ((true = true →
 ∃ (_ : Unit),
 ValsAre [AV.ptr ((0 : Nat)) ((0 : Nat)), AV.int IntKind.i64 (32 : Int), AV.int IntKind.u8 (33 : Int)]
 [AV.ptr ((0 : Nat)) ((0 : Nat)), AV.int IntKind.i64 (32 : Int), AV.int IntKind.u8 (33 : Int)] ∧
 StIs { boxes := [some [AV.int IntKind.i64 (5 : Int), AV.int IntKind.i64 (0 : Int), AV.str s]], live := [] }
 { boxes := [some [AV.int IntKind.i64 (5 : Int), AV.int IntKind.i64 (0 : Int), AV.str s]], live := [] } ∧
 True ∧ True) ∧
 (true = false →
 ∃ (_ : Unit),
 ValsAre [AV.ptr ((0 : Nat)) ((0 : Nat)), AV.int IntKind.i64 (64 : Int), AV.int IntKind.u8 (32 : Int)]
 [AV.ptr ((0 : Nat)) ((0 : Nat)), AV.int IntKind.i64 (32 : Int), AV.int IntKind.u8 (33 : Int)] ∧
 StIs { boxes := [some [AV.int IntKind.i64 (5 : Int), AV.int IntKind.i64 (0 : Int), AV.str s]], live := [] }
 { boxes := [some [AV.int IntKind.i64 (5 : Int), AV.int IntKind.i64 (0 : Int), AV.str s]], live := [] } ∧
 True ∧ True)) ∧
 ∀ (_ : Unit),
 True →
 True →
 ((decide ((↑s.length : Int) > (32 : Int)) = true → RetIs (AV.int IntKind.i64 (2 : Int)) [] (r, [])) ∧
 (decide ((↑s.length : Int) > (32 : Int)) = false →
 ∃ (_ : Unit),
 ValsAre [AV.ptr ((0 : Nat)) ((0 : Nat)), AV.int IntKind.u8 (33 : Int)]
 [AV.ptr ((0 : Nat)) ((0 : Nat)), AV.int IntKind.u8 (33 : Int)] ∧
 StIs { boxes := [some [AV.int IntKind.i64 (5 : Int), AV.int IntKind.i64 (0 : Int), AV.str s]], live := [] }
 { boxes := [some [AV.int IntKind.i64 (5 : Int), AV.int IntKind.i64 (0 : Int), AV.str s]], live := [] } ∧
 s.length ≤ (32 : Nat) ∧ True)) ∧
 ∀ (_ : Unit),
 s.length ≤ (32 : Nat) →
 True →
 ((true = true →
 ((s == []) = true → RetIs (AV.int IntKind.i64 (3 : Int)) [] (r, [])) ∧
 ((s == []) = false →
 ∃ (_ : Unit),
 ValsAre [AV.ptr ((0 : Nat)) ((0 : Nat)), AV.int IntKind.u8 (33 : Int)]
 [AV.ptr ((0 : Nat)) ((0 : Nat)), AV.int IntKind.u8 (33 : Int)] ∧
 StIs
 { boxes := [some [AV.int IntKind.i64 (5 : Int), AV.int IntKind.i64 (0 : Int), AV.str s]], live := [] }
 { boxes := [some [AV.int IntKind.i64 (5 : Int), AV.int IntKind.i64 (0 : Int), AV.str s]], live := [] } ∧
 (s.length ≤ (32 : Nat) ∧ s ≠ []) ∧ True)) ∧
 (true = false →
 ∃ (_ : Unit),
 ValsAre [AV.ptr ((0 : Nat)) ((0 : Nat)), AV.int IntKind.u8 (33 : Int)]
 [AV.ptr ((0 : Nat)) ((0 : Nat)), AV.int IntKind.u8 (33 : Int)] ∧
 StIs
 { boxes := [some [AV.int IntKind.i64 (5 : Int), AV.int IntKind.i64 (0 : Int), AV.str s]], live := [] }
 { boxes := [some [AV.int IntKind.i64 (5 : Int), AV.int IntKind.i64 (0 : Int), AV.str s]], live := [] } ∧
 (s.length ≤ (32 : Nat) ∧ s ≠ []) ∧ True)) ∧
 ∀ (_ : Unit),
 s.length ≤ (32 : Nat) ∧ s ≠ [] →
 True →
 (∃ (y : Nat),
 ValsAre
 [AV.ptr ((0 : Nat)) ((0 : Nat)), AV.int IntKind.u8 (33 : Int),
 AV.int IntKind.i64 (↑s.length : Int), AV.int IntKind.i64 (0 : Int)]
 [AV.ptr ((0 : Nat)) ((0 : Nat)), AV.int IntKind.u8 (33 : Int),
 AV.int IntKind.i64 (↑s.length : Int), AV.int IntKind.i64 (↑y : Int)] ∧
 StIs
 { boxes := [some [AV.int IntKind.i64 (5 : Int), AV.int IntKind.i64 (0 : Int), AV.str s]], live := [] }
 { boxes := [some [AV.int IntKind.i64 (5 : Int), AV.int IntKind.i64 (0 : Int), AV.str s]], live := [] } ∧
 (y ≤ s.length ∧ (List.take y s).all keyC = true) ∧ True) ∧
 ∀ (x : Nat),
 x ≤ s.length ∧ (List.take x s).all keyC = true →
 (decide ((↑x : Int) < (↑s.length : Int)) = true →
 (0 : Int) ≤ (↑x : Int) ∧
 ∃ (c : UInt8),
 s[(↑x : Int).toNat]? = some c ∧
 (decide ((↑c.toNat : Int) < (33 : Int)) = true →
 RetIs (AV.int IntKind.i64 (3 : Int)) [] (r, [])) ∧
 (decide ((↑c.toNat : Int) < (33 : Int)) = false →
 (decide ((↑c.toNat : Int) > (126 : Int)) = true →
 RetIs (AV.int IntKind.i64 (3 : Int)) [] (r, [])) ∧
 (decide ((↑c.toNat : Int) > (126 : Int)) = false →
 (((↑c.toNat : Int) == (34 : Int)) = true →
 RetIs (AV.int IntKind.i64 (3 : Int)) [] (r, [])) ∧
 (((↑c.toNat : Int) == (34 : Int)) = false →
 (((↑c.toNat : Int) == (92 : Int)) = true →
 RetIs (AV.int IntKind.i64 (3 : Int)) [] (r, [])) ∧
 (((↑c.toNat : Int) == (92 : Int)) = false →
 ∃ (y : Nat),
 ValsAre
 [AV.ptr ((0 : Nat)) ((0 : Nat)), AV.int IntKind.u8 (33 : Int),
 AV.int IntKind.i64 (↑s.length : Int),
 AV.int IntKind.i64 (IntKind.i64.wrap ((↑x : Int) + (1 : Int)))]
 [AV.ptr ((0 : Nat)) ((0 : Nat)), AV.int IntKind.u8 (33 : Int),
 AV.int IntKind.i64 (↑s.length : Int),
 AV.int IntKind.i64 (↑y : Int)] ∧
 StIs
 { boxes := [some [AV.int IntKind.i64 (5 : Int), AV.int IntKind.i64 (0 : Int), AV.str s]], live := [] }
 { boxes := [some [AV.int IntKind.i64 (5 : Int), AV.int IntKind.i64 (0 : Int), AV.str s]], live := [] } ∧
 (y ≤ s.length ∧ (List.take y s).all keyC = true) ∧
 s.length - y < s.length - x))))) ∧
 (decide ((↑x : Int) < (↑s.length : Int)) = false →
 RetIs (AV.int IntKind.i64 (0 : Int)) [] (r, []))))) := by kernel_rfl
theorem agg9q : aggA PQ 9 = some false := by kernel_rfl
theorem size9q : sizeA PQ 9 = some 1 := by kernel_rfl
theorem agg65q : aggA PQ 65 = some true := by kernel_rfl
theorem size65q : sizeA PQ 65 = some 3 := by kernel_rfl
theorem wrapI {i : Nat} (h : i + 1 ≤ 9223372036854775807) : IntKind.i64.wrap ((i : Int) + 1) = ((i + 1 : Nat) : Int) := by
 rw [wrap64_in (by omega) (by omega)]; omega
theorem take_str {l : List (List UInt8)} {i : Nat} (h : i < l.length) : takeAt PQ 9 (strsL l) i 0 = some (.str l[i]) := by
 unfold takeAt
 rw [List.getElem?_map, List.getElem?_eq_getElem h]
 simp only [Option.map_some, agg9q, size9q, takeA]
 rfl
theorem take_lb {l : List Lb} {i : Nat} (h : i < l.length) : takeAt PQ 65 (lbsL l) i 0 = some (.agg [.str l[i].key, .int .i64 l[i].event, .int .i64 l[i].know]) := by
 unfold takeAt
 rw [List.getElem?_map, List.getElem?_eq_getElem h]
 simp only [Option.map_some, agg65q, size65q, takeA]
 rfl
theorem all_notQ {α : Type} {p : α → Bool} {l : List α} {i : Nat} (h : i < l.length) (hp : p l[i] = false) : l.all p = false := by
 rw [← Bool.not_eq_true, List.all_eq_true]
 intro hh
 have := hh _ (List.getElem_mem h)
 rw [hp] at this; cases this
theorem all_succQ {α : Type} {p : α → Bool} {l : List α} {i : Nat} (h : i < l.length) (h1 : (l.take i).all p = true) (hp : p l[i] = true) : (l.take (i + 1)).all p = true := by
 rw [List.take_succ_eq_append_getElem h, List.all_append, h1]; simp [hp]
theorem all_take {α : Type} {p : α → Bool} {l : List α} {i : Nat} (h : ¬ i < l.length) (h1 : (l.take i).all p = true) : l.all p = true := by
 rwa [List.take_of_length_le (by omega)] at h1
theorem tick_lo {n : Int} (h : decide (n ≥ 0) = false) : tickB n = false := by
 have := of_decide_eq_false h
 unfold tickB
 rw [decide_eq_false (by omega)]; rfl
theorem tick_hi {n : Int} (h : decide (n ≤ 1099511627776) = false) : tickB n = false := by
 have := of_decide_eq_false h
 unfold tickB
 rw [decide_eq_false this, Bool.and_false]
theorem tick_ok {n : Int} (h : decide (n ≥ 0) = true) (h2 : decide (n ≤ 1099511627776) = true) : tickB n = true := by
 have := of_decide_eq_true h
 unfold tickB
 rw [decide_eq_true this, h2]; rfl
theorem p90 (m : Int) (n : Int) : PureOk PQ (GQ m) X24 (tbl []) (itbl []) nAn [] 90 [.int .i64 n] (.bool (tickB n), []) := by
 constructor
 rw [w90]
 exact ⟨fun h => ⟨fun h2 => ⟨by rw [tick_ok h h2]⟩, fun h2 => ⟨by rw [tick_hi h2]⟩⟩, fun h => ⟨by rw [tick_lo h]⟩⟩
theorem p78 (m : Int) (n : Int) : PureOk PQ (GQ m) X24 (tbl []) (itbl []) nAn [] 78 [.int .i64 n] (.bool (tickB n), []) := by
 constructor
 rw [w78]
 exact ⟨fun h => ⟨fun h2 => ⟨by rw [tick_ok h h2]⟩, fun h2 => ⟨by rw [tick_hi h2]⟩⟩, fun h => ⟨by rw [tick_lo h]⟩⟩
theorem o90 (m : Int) : SpecOk PQ (GQ m) 90 sTick := spec_of (X := X24) (m := []) mixedQ tbl_nil itbl_nil fun args r h => by
 unfold sTick at h
 split at h
 case h_2 => cases h
 injection h with h; subst h
 exact ⟨_, p90 m _⟩
theorem o78 (m : Int) : SpecOk PQ (GQ m) 78 sTick := spec_of (X := X24) (m := []) mixedQ tbl_nil itbl_nil fun args r h => by
 unfold sTick at h
 split at h
 case h_2 => cases h
 injection h with h; subst h
 exact ⟨_, p78 m _⟩
theorem keyC_bad {c : UInt8} (h : decide ((c.toNat : Int) < 33) = true ∨ decide ((c.toNat : Int) > 126) = true ∨ ((c.toNat : Int) == 34) = true ∨ ((c.toNat : Int) == 92) = true) : keyC c = false := by
 unfold keyC
 rcases h with h | h | h | h
 ·rw [decide_eq_false (by have := of_decide_eq_true h; omega)]; rfl
 ·rw [decide_eq_false (p := c.toNat ≤ 126) (by have := of_decide_eq_true h; omega), Bool.and_false]; rfl
 ·have : c.toNat = 34 := by have := eq_of_beq h; omega
  rw [this]; rfl
 ·have : c.toNat = 92 := by have := eq_of_beq h; omega
  rw [this]; rfl
theorem keyC_good {c : UInt8} (h1 : decide ((c.toNat : Int) < 33) = false) (h2 : decide ((c.toNat : Int) > 126) = false) (h3 : ((c.toNat : Int) == 34) = false) (h4 : ((c.toNat : Int) == 92) = false) : keyC c = true := by
 have a1 := of_decide_eq_false h1
 have a2 := of_decide_eq_false h2
 have a3 : c.toNat ≠ 34 := fun e => by rw [e] at h3; cases h3
 have a4 : c.toNat ≠ 92 := fun e => by rw [e] at h4; cases h4
 unfold keyC
 simp [a3, a4]; omega
theorem key_len {s : List UInt8} (h : 32 < s.length) : keyB s = false := by
 unfold keyB; rw [decide_eq_false (p := s.length ≤ 32) (by omega)]; simp
theorem key_bad {s : List UInt8} (h : s.all keyC = false) : keyB s = false := by
 unfold keyB; rw [h, Bool.and_false]
theorem p125 (m : Int) (s : List UInt8) (hs : s.length ≤ maxI) : PureOk PQ (GQ m) X24 (tbl []) (itbl []) (a125 s) [] 125 [.str s] (.bool (keyB s), []) := by
 constructor
 rw [w125]
 unfold maxI at hs
 refine ⟨⟨0, ⟨rfl⟩, ⟨rfl⟩, ⟨Nat.zero_le _, by rw [List.take_zero]; rfl⟩, trivial⟩, fun i hi => ⟨fun lt => ?_, fun ge => ⟨fun c => ⟨fun d => ?_, fun d => ?_⟩, fun c => ?_⟩⟩⟩
 ·have lt := of_decide_eq_true lt
  have hil : i < s.length := by omega
  have hg : s[(i : Int).toNat]? = some s[i] := by rw [Int.toNat_natCast]; exact List.getElem?_eq_getElem hil
  have no : keyC s[i] = false → RetIs (AV.bool false) [] (AV.bool (keyB s), []) := fun h => ⟨by rw [key_bad (all_notQ hil h)]⟩
  refine ⟨by omega, _, hg, fun c1 => no (keyC_bad (.inl c1)), fun c1 => ⟨by omega, _, hg, fun c2 => no (keyC_bad (.inr (.inl c2))), fun c2 => ⟨by omega, _, hg, fun c3 => no (keyC_bad (.inr (.inr (.inl c3)))), fun c3 => ⟨by omega, _, hg, fun c4 => no (keyC_bad (.inr (.inr (.inr c4)))), fun c4 => ?_⟩⟩⟩⟩
  exact ⟨i + 1, ⟨by rw [wrapI (by omega)]⟩, ⟨rfl⟩, ⟨hil, all_succQ hil hi.2 (keyC_good c1 c2 c3 c4)⟩, by omega⟩
 ·have ge := of_decide_eq_false ge
  have c := of_decide_eq_true c
  refine ⟨?_⟩
  unfold keyB
  rw [all_take (by omega) hi.2, decide_eq_true (p := s ≠ []) (by intro e; subst e; simp at c), decide_eq_true (p := s.length ≤ 32) (by have := of_decide_eq_true d; omega)]; rfl
 ·refine ⟨?_⟩
  rw [key_len (by have := of_decide_eq_false d; omega)]
 ·refine ⟨?_⟩
  have : s = [] := by
   have := of_decide_eq_false c
   exact List.length_eq_zero_iff.1 (by omega)
  subst this; rfl
theorem o125 (m : Int) : SpecOk PQ (GQ m) 125 s125 := spec_of (X := X24) (m := []) mixedQ tbl_nil itbl_nil fun args r h => by
 unfold s125 at h
 split at h
 case h_2 => cases h
 split at h
 case isFalse => cases h
 rename_i hs
 injection h with h; subst h
 exact ⟨_, p125 m _ hs⟩
theorem p138 (m : Int) (s : List UInt8) : PureOk PQ (GQ m) X24 (tbl []) (itbl []) (a138 s) [] 138 [.agg [.int .i64 5, .int .i64 0, .str s]] (.int .i64 (keyErr s), []) := by
 constructor
 rw [w138]
 simp only [valsAre_iff, stIs_iff, Bool.false_eq_true, Bool.true_eq_false, false_implies, forall_const, true_and, and_true, exists_const]
 refine ⟨⟨fun h => ⟨by rw [keyErr, if_pos (by have := of_decide_eq_true h; omega)]⟩, fun h => by have := of_decide_eq_false h; omega⟩, fun hl => ⟨⟨fun h => ⟨?_⟩, fun h => ⟨hl, fun e => by subst e; cases h⟩⟩, fun hh => ⟨⟨0, ⟨by rw [Int.natCast_zero], by omega, by rw [List.take_zero]; rfl⟩⟩, fun i hi => ⟨fun lt => ?_, fun ge => ⟨?_⟩⟩⟩⟩⟩
 ·have : s = [] := eq_of_beq h
  subst this; rfl
 ·have lt := of_decide_eq_true lt
  have hil : i < s.length := by omega
  have hg : s[(i : Int).toNat]? = some s[i] := by rw [Int.toNat_natCast]; exact List.getElem?_eq_getElem hil
  have no : keyC s[i] = false → RetIs (AV.int .i64 3) [] (AV.int .i64 (keyErr s), []) := fun h => ⟨by
   unfold keyErr
   rw [if_neg (by omega), if_neg hh.2, all_notQ hil h]; rfl⟩
  refine ⟨by omega, _, hg, fun c1 => no (keyC_bad (.inl c1)), fun c1 => ⟨fun c2 => no (keyC_bad (.inr (.inl c2))), fun c2 => ⟨fun c3 => no (keyC_bad (.inr (.inr (.inl c3)))), fun c3 => ⟨fun c4 => no (keyC_bad (.inr (.inr (.inr c4)))), fun c4 => ?_⟩⟩⟩⟩
  exact ⟨i + 1, by rw [wrapI (by omega)], ⟨hil, all_succQ hil hi.2 (keyC_good c1 c2 c3 c4)⟩, by omega⟩
 ·have ge := of_decide_eq_false ge
  unfold keyErr
  rw [if_neg (by omega), if_neg hh.2, all_take (by omega) hi.2]; rfl
theorem o138 (m : Int) : SpecOk PQ (GQ m) 138 s138 := spec_of (X := X24) (m := []) mixedQ tbl_nil itbl_nil fun args r h => by
 unfold s138 at h
 split at h
 case h_2 => cases h
 injection h with h; subst h
 exact ⟨_, p138 m _⟩
theorem keyErr_ok {s : List UInt8} (h : s ≠ []) : (keyErr s == 0) = keyB s := by
 unfold keyErr keyB
 by_cases h1 : 32 < s.length
 ·rw [if_pos h1, decide_eq_false (p := s.length ≤ 32) (by omega)]; simp
 ·rw [if_neg h1, if_neg h, decide_eq_true (p := s.length ≤ 32) (by omega), decide_eq_true h]
  cases s.all keyC <;> rfl
theorem p94 (m : Int) (s : List UInt8) : PureOk PQ (GQ m) X24 (tbl [(138, s138)]) (itbl []) nAn [] 94 [.str s] (.bool (keyB s), []) := by
 constructor
 rw [w94]
 refine ⟨fun h => ⟨_, ⟨rfl⟩, fun c => ⟨?_⟩, fun c => ⟨?_⟩⟩, fun h => ⟨?_⟩⟩
 ·have : s ≠ [] := fun e => by subst e; cases h
  rw [← keyErr_ok this, c]
 ·have : s ≠ [] := fun e => by subst e; cases h
  rw [← keyErr_ok this, c]
 ·have : s = [] := by
   cases s with
   | nil => rfl
   | cons a t => cases h
  subst this; rfl
theorem o94 (m : Int) : SpecOk PQ (GQ m) 94 s94 := spec_of (X := X24) (m := []) mixedQ (tbl_cons (o138 m) tbl_nil) itbl_nil fun args r h => by
 unfold s94 at h
 split at h
 case h_2 => cases h
 injection h with h; subst h
 exact ⟨_, p94 m _⟩
theorem p93 (m : Int) (x : Lb) : PureOk PQ (GQ m) X24 (tbl [(94, s94), (90, sTick)]) (itbl []) nAn [] 93 [lbA x] (.bool (!lbOk x), []) := by
 constructor
 show pureW _ _ _ _ _ _ _ _ [.agg [.str x.key, .int .i64 x.event, .int .i64 x.know]] _
 rw [w93]
 unfold lbOk
 refine ⟨_, ⟨rfl⟩, fun c1 => ⟨_, ⟨rfl⟩, fun c2 => ⟨_, ⟨rfl⟩, fun c3 => ⟨by rw [c1, c2, c3]; rfl⟩, fun c3 => ⟨by rw [c1, c2, c3]; rfl⟩⟩, fun c2 => ⟨by rw [c1, c2]; rfl⟩⟩, fun c1 => ⟨by rw [c1]; rfl⟩⟩
theorem o93 (m : Int) : SpecOk PQ (GQ m) 93 s93 := spec_of (X := X24) (m := []) mixedQ (tbl_cons (o94 m) (tbl_cons (o90 m) tbl_nil)) itbl_nil fun args r h => by
 unfold s93 at h
 split at h
 case h_2 => cases h
 injection h with h; subst h
 exact ⟨_, p93 m ⟨_, _, _⟩⟩
theorem p79 (m : Int) (x : Lb) (hs : x.key.length ≤ maxI) : PureOk PQ (GQ m) X24 (tbl [(125, s125), (78, sTick)]) (itbl []) nAn [] 79 [lbA x] (.bool (lbOk x), []) := by
 constructor
 show pureW _ _ _ _ _ _ _ _ [.agg [.str x.key, .int .i64 x.event, .int .i64 x.know]] _
 rw [w79]
 unfold lbOk
 have e : tbl [(125, s125), (78, sTick)] 125 [.str x.key] = some (.bool (keyB x.key), []) := by
  show (if x.key.length ≤ maxI then _ else _) = _
  rw [if_pos hs]
 refine ⟨_, ⟨e⟩, fun c1 => ⟨_, ⟨rfl⟩, fun c2 => ⟨_, ⟨rfl⟩, fun c3 => ⟨by rw [c1, c2, c3]; rfl⟩, fun c3 => ⟨by rw [c1, c2, c3]; rfl⟩⟩, fun c2 => ⟨by rw [c1, c2]; rfl⟩⟩, fun c1 => ⟨by rw [c1]; rfl⟩⟩
theorem o79 (m : Int) : SpecOk PQ (GQ m) 79 s79 := spec_of (X := X24) (m := []) mixedQ (tbl_cons (o125 m) (tbl_cons (o78 m) tbl_nil)) itbl_nil fun args r h => by
 unfold s79 at h
 split at h
 case h_2 => cases h
 split at h
 case isFalse => cases h
 rename_i hs
 injection h with h; subst h
 exact ⟨_, p79 m ⟨_, _, _⟩ hs⟩
theorem contains_succ {l : List (List UInt8)} {x : List UInt8} {i : Nat} (h : i < l.length) : (l.take (i + 1)).contains x = ((l.take i).contains x || x == l[i]) := by
 rw [List.take_succ_eq_append_getElem h, List.contains_eq_any_beq, List.any_append, List.contains_eq_any_beq]
 simp
theorem contains_of {l : List (List UInt8)} {x : List UInt8} {i : Nat} (h : i < l.length) (he : (l[i] == x) = true) : l.contains x = true := by
 have := eq_of_beq he
 subst this
 simp
theorem beq_flip {a b : List UInt8} (h : (a == b) = false) : (b == a) = false := by
 rw [beq_eq_false_iff_ne] at h ⊢
 exact fun e => h e.symm
theorem p20 (m : Int) (l : List (List UInt8)) (x : List UInt8) (hl : l.length ≤ maxI) : PureOk PQ (GQ m) X24 (tbl []) (itbl []) (aIn l x) [] 20 [.sl 1 (strsL l) .no, .str x] (.bool (l.contains x), []) := by
 constructor
 rw [w20]
 unfold maxI at hl
 have hn : (strsL l).length = l.length := List.length_map _
 refine ⟨⟨0, ⟨rfl⟩, ⟨rfl⟩, ⟨Nat.zero_le _, rfl⟩, trivial⟩, fun i hi => ⟨fun lt => ?_, fun ge => ⟨?_⟩⟩⟩
 ·have lt := of_decide_eq_true lt
  rw [hn] at lt
  have hil : i < l.length := by omega
  refine ⟨⟨by omega, by omega⟩, _, by rw [Int.toNat_natCast]; exact take_str hil, fun c => ⟨by rw [contains_of hil c]⟩, fun c => ⟨i + 1, ⟨by rw [wrapI (by omega)]⟩, ⟨rfl⟩, ⟨hil, by rw [contains_succ hil, hi.2, beq_flip c]; rfl⟩, by omega⟩⟩
 ·have ge := of_decide_eq_false ge
  rw [hn] at ge
  have := hi.2
  rw [List.take_of_length_le (by omega)] at this
  rw [this]
theorem idx_at {l : List (List UInt8)} {x : List UInt8} {i : Nat} (h : i < l.length) (h1 : ∀ y ∈ l.take i, (x == y) = false) (he : (x == l[i]) = true) : idxS l x = i := by
 have hx := eq_of_beq he
 have hm : x ∈ l := by rw [hx]; exact List.getElem_mem h
 unfold idxS
 rw [if_pos hm]
 have : l = l.take i ++ l[i] :: l.drop (i + 1) := by rw [← List.drop_eq_getElem_cons h, List.take_append_drop]
 have e : (l.takeWhile fun y => !(x == y)) = l.take i := by
  conv => lhs; rw [this]
  rw [List.takeWhile_append_of_pos (fun a ha => by rw [h1 a ha]; rfl), List.takeWhile_cons]
  simp [he]
 rw [e, List.length_take, Nat.min_eq_left (by omega)]
theorem idx_none {l : List (List UInt8)} {x : List UInt8} (h1 : ∀ y ∈ l, (x == y) = false) : idxS l x = -1 := by
 unfold idxS
 rw [if_neg]
 intro hm
 have := h1 x hm
 simp at this
theorem p136 (m : Int) (l : List (List UInt8)) (x : List UInt8) (hl : l.length ≤ maxI) : PureOk PQ (GQ m) X24 (tbl []) (itbl []) (a136 l x) [] 136 [.sl 1 (strsL l) .no, .str x] (.int .i64 (idxS l x), []) := by
 constructor
 rw [w136]
 unfold maxI at hl
 have hn : (strsL l).length = l.length := List.length_map _
 refine ⟨⟨0, ⟨by rw [hn]; rfl⟩, ⟨rfl⟩, ⟨Nat.zero_le _, fun y hy => by simp at hy⟩, trivial⟩, fun i hi => ⟨fun lt => ?_, fun ge => ⟨?_⟩⟩⟩
 ·have lt := of_decide_eq_true lt
  have hil : i < l.length := by omega
  refine ⟨⟨by omega, by omega⟩, _, by rw [Int.toNat_natCast]; exact take_str hil, fun c => ⟨by rw [idx_at hil hi.2 c]⟩, fun c => ⟨i + 1, ⟨by rw [wrapI (by omega)]⟩, ⟨rfl⟩, ⟨hil, fun y hy => ?_⟩, by omega⟩⟩
  rw [List.take_succ_eq_append_getElem hil] at hy
  rcases List.mem_append.1 hy with hy | hy
  ·exact hi.2 y hy
  ·simp at hy; subst hy; exact c
 ·have ge := of_decide_eq_false ge
  have := hi.2
  rw [List.take_of_length_le (by omega)] at this
  rw [idx_none this]
theorem idx_ge {l : List (List UInt8)} {x : List UInt8} : decide (idxS l x ≥ 0) = l.contains x := by
 unfold idxS
 by_cases h : x ∈ l
 ·rw [if_pos h]; simp [h]
 ·rw [if_neg h]; simp [h]
theorem run136 {l : List (List UInt8)} {x : List UInt8} (hl : l.length ≤ maxI) : s136 [.sl 1 (strsL l) .no, .str x] = some (.int .i64 (idxS l x), []) := by
 simp only [s136, unL_map unS_ok]
 rw [if_pos ⟨trivial, hl⟩]
theorem p91 (m : Int) (l : List (List UInt8)) (x : List UInt8) (hl : l.length ≤ maxI) : PureOk PQ (GQ m) X24 (tbl [(136, s136)]) (itbl []) nAn [] 91 [.sl 1 (strsL l) .no, .str x] (.bool (l.contains x), []) := by
 constructor
 rw [w91]
 exact ⟨_, ⟨run136 hl⟩, fun c => ⟨by rw [← idx_ge, c]⟩, fun c => ⟨by rw [← idx_ge, c]⟩⟩
theorem o20 (m : Int) : SpecOk PQ (GQ m) 20 sIn := spec_of (X := X24) (m := []) mixedQ tbl_nil itbl_nil fun args r h => by
 unfold sIn at h
 split at h
 case h_2 => cases h
 split at h
 case h_2 => cases h
 rename_i l hu
 split at h
 case isFalse => cases h
 rename_i hs
 injection h with h; subst h
 rw [unL_inv unS_inv hu, hs.1]
 exact ⟨_, p20 m _ _ hs.2⟩
theorem o136 (m : Int) : SpecOk PQ (GQ m) 136 s136 := spec_of (X := X24) (m := []) mixedQ tbl_nil itbl_nil fun args r h => by
 unfold s136 at h
 split at h
 case h_2 => cases h
 split at h
 case h_2 => cases h
 rename_i l hu
 split at h
 case isFalse => cases h
 rename_i hs
 injection h with h; subst h
 rw [unL_inv unS_inv hu, hs.1]
 exact ⟨_, p136 m _ _ hs.2⟩
theorem o91 (m : Int) : SpecOk PQ (GQ m) 91 sIn := spec_of (X := X24) (m := []) mixedQ (tbl_cons (o136 m) tbl_nil) itbl_nil fun args r h => by
 unfold sIn at h
 split at h
 case h_2 => cases h
 split at h
 case h_2 => cases h
 rename_i l hu
 split at h
 case isFalse => cases h
 rename_i hs
 injection h with h; subst h
 rw [unL_inv unS_inv hu, hs.1]
 exact ⟨_, p91 m _ _ hs.2⟩
theorem lb_eta (x : Lb) : (⟨x.key, x.event, x.know⟩ : Lb) = x := rfl
theorem idxP_at {l : List Lb} {i : Nat} (h : i < l.length) (h1 : (l.take i).all lbOk = true) (he : lbOk l[i] = false) : idxP l = i := by
 unfold idxP
 rw [all_notQ h he, if_neg (by simp)]
 have : l = l.take i ++ l[i] :: l.drop (i + 1) := by rw [← List.drop_eq_getElem_cons h, List.take_append_drop]
 have e : l.takeWhile lbOk = l.take i := by
  conv => lhs; rw [this]
  rw [List.takeWhile_append_of_pos (fun a ha => List.all_eq_true.1 h1 a ha), List.takeWhile_cons]
  simp [he]
 rw [e, List.length_take, Nat.min_eq_left (by omega)]
theorem p137 (m : Int) (l : List Lb) (hl : l.length ≤ maxI) : PureOk PQ (GQ m) X24 (tbl [(93, s93)]) (itbl []) (a137 l) [] 137 [.sl 3 (lbsL l) .no, .fn 93 []] (.int .i64 (idxP l), []) := by
 constructor
 rw [w137]
 unfold maxI at hl
 have hn : (lbsL l).length = l.length := List.length_map _
 refine ⟨⟨0, ⟨by rw [hn]; rfl⟩, ⟨rfl⟩, ⟨Nat.zero_le _, rfl⟩, trivial⟩, fun i hi => ⟨fun lt => ?_, fun ge => ⟨?_⟩⟩⟩
 ·have lt := of_decide_eq_true lt
  have hil : i < l.length := by omega
  refine ⟨⟨by omega, by omega⟩, _, _, _, by rw [Int.toNat_natCast]; exact take_lb hil, _, ⟨rfl⟩, fun c => ⟨?_⟩, fun c => ⟨i + 1, ⟨by rw [wrapI (by omega)]⟩, ⟨rfl⟩, ⟨hil, all_succQ hil hi.2 ?_⟩, by omega⟩⟩
  ·rw [lb_eta] at c
   rw [idxP_at hil hi.2 (by simpa using c)]
  ·rw [lb_eta] at c
   simpa using c
 ·have ge := of_decide_eq_false ge
  unfold idxP
  rw [all_take (by omega) hi.2, if_pos rfl]
theorem o137 (m : Int) : SpecOk PQ (GQ m) 137 s137 := spec_of (X := X24) (m := []) mixedQ (tbl_cons (o93 m) tbl_nil) itbl_nil fun args r h => by
 unfold s137 at h
 split at h
 case h_2 => cases h
 split at h
 case h_2 => cases h
 rename_i l hu
 split at h
 case isFalse => cases h
 rename_i hs
 injection h with h; subst h
 rw [unL_inv unLb_inv hu, hs.1]
 exact ⟨_, p137 m _ hs.2⟩
theorem idxP_ge {l : List Lb} : decide (idxP l ≥ 0) = !l.all lbOk := by
 unfold idxP
 cases h : l.all lbOk
 ·rw [if_neg (by simp)]; simp
 ·rw [if_pos rfl]; rfl
theorem run137 {l : List Lb} (hl : l.length ≤ maxI) : s137 [.sl 3 (lbsL l) .no, .fn 93 []] = some (.int .i64 (idxP l), []) := by
 simp only [s137, unL_map unLb_ok]
 rw [if_pos ⟨trivial, hl⟩]
theorem p92 (m : Int) (l : List Lb) (hl : l.length ≤ maxI) : PureOk PQ (GQ m) X24 (tbl [(137, s137)]) (itbl []) nAn [] 92 [.sl 3 (lbsL l) .no, .fn 93 []] (.bool (!l.all lbOk), []) := by
 constructor
 rw [w92]
 exact ⟨_, ⟨run137 hl⟩, fun c => ⟨by rw [← idxP_ge, c]⟩, fun c => ⟨by rw [← idxP_ge, c]⟩⟩
theorem o92 (m : Int) : SpecOk PQ (GQ m) 92 s92 := spec_of (X := X24) (m := []) mixedQ (tbl_cons (o137 m) tbl_nil) itbl_nil fun args r h => by
 unfold s92 at h
 split at h
 case h_2 => cases h
 split at h
 case h_2 => cases h
 rename_i l hu
 split at h
 case isFalse => cases h
 rename_i hs
 injection h with h; subst h
 rw [unL_inv unLb_inv hu, hs.1]
 exact ⟨_, p92 m _ hs.2⟩
/-! names, unbounded -/
theorem o77u (m : Int) : SpecOk PQ (GQ m) 77 s40u := spec_of (X := XW) (m := []) mixedQ (tbl_cons (o124 m) (tbl_cons (o123 m) tbl_nil)) itbl_nil fun args r h => by
 unfold s40u at h
 split at h
 case h_2 => cases h
 injection h with h; subst h
 exact ⟨nAn, p77 m _⟩
theorem p40u (m : Int) (s : List UInt8) (hs : ¬ s.length ≤ 2000000) : PureOk PQ (GQ m) XW (tbl [(88, s88)]) (itbl []) (a40 s) [] 40 [.str s] (.bool (nameR s), []) := by
 constructor
 rw [w40]
 simp only [retIs_iff, Prod.mk.injEq, AV.bool.injEq, and_true, decide_eq_true_eq, decide_eq_false_iff_not, beq_iff_eq, beq_eq_false_iff_ne, ne_eq]
 have hn : nameR s = false := by
  unfold nameR
  rw [decide_eq_false (p := s.length ≤ 24) (by omega)]; simp
 exact ⟨fun h => by rw [hn], fun hne => ⟨fun h => by rw [hn], fun hl => absurd hl (by omega)⟩⟩
theorem o40u (m : Int) : SpecOk PQ (GQ m) 40 s40u := spec_of (X := XW) (m := []) mixedQ (tbl_cons (o88 m) tbl_nil) itbl_nil fun args r h => by
 unfold s40u at h
 split at h
 case h_2 => cases h
 injection h with h; subst h
 by_cases hs : (by assumption : List UInt8).length ≤ 2000000
 ·exact ⟨_, p40 m _ hs⟩
 ·exact ⟨_, p40u m _ hs⟩
theorem hd1 {r : Rq} (h : nameR r.entity = false) : formB r = false := by unfold formB headOk; rw [h]; rfl
theorem hd2 {r : Rq} (h : decide ((r.feats.length : Int) < 1) = true) : formB r = false := by
 unfold formB headOk; rw [decide_eq_false (p := 1 ≤ r.feats.length) (by have := of_decide_eq_true h; omega)]; simp
theorem hd3 {r : Rq} (h : decide ((r.feats.length : Int) > 8) = true) : formB r = false := by
 unfold formB headOk; rw [decide_eq_false (p := r.feats.length ≤ 8) (by have := of_decide_eq_true h; omega)]; simp
theorem hd4 {r : Rq} (h : decide ((r.labels.length : Int) > 256) = true) : formB r = false := by
 unfold formB headOk; rw [decide_eq_false (p := r.labels.length ≤ 256) (by have := of_decide_eq_true h; omega)]; simp
theorem hd5 {r : Rq} (h : tickB r.seed = false) : formB r = false := by unfold formB headOk; rw [h]; simp
theorem hd6 {r : Rq} (h : decide (r.permille < 0) = true) : formB r = false := by
 unfold formB headOk; rw [decide_eq_false (p := 0 ≤ r.permille) (by have := of_decide_eq_true h; omega)]; simp
theorem hd7 {r : Rq} (h : decide (r.permille > 1000) = true) : formB r = false := by
 unfold formB headOk; rw [decide_eq_false (p := r.permille ≤ 1000) (by have := of_decide_eq_true h; omega)]; simp
theorem hdOk {r : Rq} (h1 : nameR r.entity = true) (h2 : decide ((r.feats.length : Int) < 1) = false) (h3 : decide ((r.feats.length : Int) > 8) = false) (h4 : decide ((r.labels.length : Int) > 256) = false) (h5 : tickB r.seed = true) (h6 : decide (r.permille < 0) = false) (h7 : decide (r.permille > 1000) = false) : headOk r = true := by
 unfold headOk
 have := of_decide_eq_false h2
 have := of_decide_eq_false h3
 have := of_decide_eq_false h4
 have := of_decide_eq_false h6
 have := of_decide_eq_false h7
 rw [h1, h5, decide_eq_true (p := 1 ≤ r.feats.length) (by omega), decide_eq_true (p := r.feats.length ≤ 8) (by omega), decide_eq_true (p := r.labels.length ≤ 256) (by omega), decide_eq_true (p := 0 ≤ r.permille) (by omega), decide_eq_true (p := r.permille ≤ 1000) (by omega)]
 rfl
theorem form_feats {r : Rq} (h : featsOk [] r.feats = false) : formB r = false := by unfold formB; rw [h]; simp
theorem form_labels {r : Rq} (h : r.labels.all lbOk = false) : formB r = false := by unfold formB; rw [h]; simp
theorem feats_step {l : List (List UInt8)} {i : Nat} (h : i < l.length) : featsOk (l.take i) (l.drop i) = (nameR l[i] && !(l.take i).contains l[i] && featsOk (l.take (i + 1)) (l.drop (i + 1))) := by
 rw [List.drop_eq_getElem_cons h, featsOk, List.take_succ_eq_append_getElem h]
theorem feats_end {l : List (List UInt8)} {i : Nat} (h : ¬ i < l.length) : featsOk (l.take i) (l.drop i) = true := by
 rw [List.drop_eq_nil_of_le (by omega)]; rfl
theorem runIn {l : List (List UInt8)} {x : List UInt8} {i : Nat} (hl : l.length ≤ maxI) : sIn [.sl 1 (List.drop 0 (List.take (i : Int).toNat (strsL l))) .no, .str x] = some (.bool ((l.take i).contains x), []) := by
 rw [Int.toNat_natCast, List.drop_zero, ← List.map_take]
 simp only [sIn, unL_map unS_ok]
 rw [if_pos ⟨trivial, by rw [List.length_take]; omega⟩]
theorem run92 {l : List Lb} (hl : l.length ≤ maxI) : s92 [.sl 3 (lbsL l) .no, .fn 93 []] = some (.bool (!l.all lbOk), []) := by
 simp only [s92, unL_map unLb_ok]
 rw [if_pos ⟨trivial, hl⟩]
theorem p46 (m : Int) (x : Rq) : PureOk PQ (GQ m) X24 (tbl t46) (itbl []) (a46 x) [] 46 [rqA x] (.bool (formB x), []) := by
 constructor
 rw [w46]
 have hn : (strsL x.feats).length = x.feats.length := List.length_map _
 have hm : (lbsL x.labels).length = x.labels.length := List.length_map _
 simp only [hn, hm]
 refine ⟨_, ⟨rfl⟩, fun c1 => ⟨fun c2 => ⟨by rw [hd2 c2]⟩, fun c2 => ⟨fun c3 => ⟨by rw [hd3 c3]⟩, fun c3 => ⟨fun c4 => ⟨by rw [hd4 c4]⟩, fun c4 => ⟨_, ⟨rfl⟩, fun c5 => ⟨fun c6 => ⟨by rw [hd6 c6]⟩, fun c6 => ⟨fun c7 => ⟨by rw [hd7 c7]⟩, fun c7 => ?_⟩⟩, fun c5 => ⟨by rw [hd5 c5]⟩⟩⟩⟩⟩, fun c1 => ⟨by rw [hd1 c1]⟩⟩
 have hd := hdOk c1 c2 c3 c4 c5 c6 c7
 have l8 := of_decide_eq_false c3
 have l256 := of_decide_eq_false c4
 have big : maxI = 9223372036854775807 := rfl
 refine ⟨⟨0, ⟨rfl⟩, ⟨rfl⟩, ⟨Nat.zero_le _, rfl⟩, trivial⟩, fun i hi => ⟨fun lt => ?_, fun ge => ?_⟩⟩
 ·have lt := of_decide_eq_true lt
  have hil : i < x.feats.length := by omega
  have hs := hi.2.trans (feats_step hil)
  refine ⟨⟨by omega, by omega⟩, _, by rw [Int.toNat_natCast]; exact take_str hil, _, ⟨rfl⟩, fun b1 => ⟨by omega, ⟨by omega, by omega⟩, .inl trivial, _, ⟨runIn (by omega)⟩, fun b2 => ⟨?_⟩, fun b2 => ⟨i + 1, ⟨by rw [wrapI (by omega)]⟩, ⟨rfl⟩, ⟨hil, ?_⟩, by omega⟩⟩, fun b1 => ⟨?_⟩⟩
  ·rw [form_feats (by rw [hs, b2]; simp)]
  ·rw [hs, b1, b2]; rfl
  ·rw [form_feats (by rw [hs, b1]; rfl)]
 ·have ge := of_decide_eq_false ge
  have hf := hi.2.trans (feats_end (by omega))
  refine ⟨_, ⟨run92 (by omega)⟩, fun b => ⟨?_⟩, fun b => ⟨?_⟩⟩
  ·rw [form_labels (by simpa using b)]
  ·have b : x.labels.all lbOk = true := by simpa using b
   unfold formB; rw [hd, hf, b]; rfl
theorem o46 (m : Int) : SpecOk PQ (GQ m) 46 s46 := spec_of (X := X24) (m := []) mixedQ (tbl_cons (o40u m) (tbl_cons (o90 m) (tbl_cons (o91 m) (tbl_cons (o92 m) tbl_nil)))) itbl_nil fun args r h => by
 unfold s46 at h
 split at h
 case h_2 => cases h
 split at h
 case h_2 => cases h
 rename_i hu
 injection h with h; subst h
 rw [unRqN_inv _ _ hu]
 exact ⟨_, p46 m _⟩
theorem p33 (m : Int) (x : Rq) (hk : keysOk x.labels = true) : PureOk PQ (GQ m) X24 (tbl t33q) (itbl []) (a33 x) [] 33 [rqA x] (.bool (formB x), []) := by
 constructor
 rw [w33]
 have hn : (strsL x.feats).length = x.feats.length := List.length_map _
 have hm : (lbsL x.labels).length = x.labels.length := List.length_map _
 simp only [hn, hm]
 refine ⟨_, ⟨rfl⟩, fun c1 => ⟨fun c2 => ⟨by rw [hd2 c2]⟩, fun c2 => ⟨fun c3 => ⟨by rw [hd3 c3]⟩, fun c3 => ⟨fun c4 => ⟨by rw [hd4 c4]⟩, fun c4 => ⟨_, ⟨rfl⟩, fun c5 => ⟨fun c6 => ⟨by rw [hd6 c6]⟩, fun c6 => ⟨fun c7 => ⟨by rw [hd7 c7]⟩, fun c7 => ?_⟩⟩, fun c5 => ⟨by rw [hd5 c5]⟩⟩⟩⟩⟩, fun c1 => ⟨by rw [hd1 c1]⟩⟩
 have hd := hdOk c1 c2 c3 c4 c5 c6 c7
 have l8 := of_decide_eq_false c3
 have l256 := of_decide_eq_false c4
 have big : maxI = 9223372036854775807 := rfl
 refine ⟨⟨0, ⟨rfl⟩, ⟨rfl⟩, ⟨Nat.zero_le _, rfl⟩, trivial⟩, fun i hi => ⟨fun lt => ?_, fun ge => ?_⟩⟩
 ·have lt := of_decide_eq_true lt
  have hil : i < x.feats.length := by omega
  have hs := hi.2.trans (feats_step hil)
  refine ⟨⟨by omega, by omega⟩, _, by rw [Int.toNat_natCast]; exact take_str hil, _, ⟨rfl⟩, fun b1 => ⟨by omega, ⟨by omega, by omega⟩, .inl trivial, ⟨by omega, by omega⟩, _, by rw [Int.toNat_natCast]; exact take_str hil, _, ⟨runIn (by omega)⟩, fun b2 => ⟨?_⟩, fun b2 => ⟨i + 1, ⟨by rw [wrapI (by omega)]⟩, ⟨rfl⟩, ⟨hil, ?_⟩, by omega⟩⟩, fun b1 => ⟨?_⟩⟩
  ·rw [form_feats (by rw [hs, b2]; simp)]
  ·rw [hs, b1, b2]; rfl
  ·rw [form_feats (by rw [hs, b1]; rfl)]
 ·have ge := of_decide_eq_false ge
  have hf := hi.2.trans (feats_end (by omega))
  refine ⟨⟨0, ⟨rfl⟩, ⟨rfl⟩, ⟨Nat.zero_le _, hf, rfl⟩, trivial⟩, fun j hj => ⟨fun lt => ?_, fun ge => ⟨?_⟩⟩⟩
  ·have lt := of_decide_eq_true lt
   have hjl : j < x.labels.length := by omega
   have hkk : x.labels[j].key.length ≤ maxI := of_decide_eq_true (List.all_eq_true.1 hk _ (List.getElem_mem hjl))
   have e : s79 [.agg [.str x.labels[j].key, .int .i64 x.labels[j].event, .int .i64 x.labels[j].know]] = some (.bool (lbOk x.labels[j]), []) := by
    unfold s79
    simp only
    rw [if_pos hkk]
   refine ⟨⟨by omega, by omega⟩, _, _, _, by rw [Int.toNat_natCast]; exact take_lb hjl, _, ⟨e⟩, fun b => ⟨j + 1, ⟨by rw [wrapI (by omega)]⟩, ⟨rfl⟩, ⟨hjl, hj.2.1, all_succQ hjl hj.2.2 b⟩, by omega⟩, fun b => ⟨?_⟩⟩
   rw [form_labels (all_notQ hjl b)]
  ·have ge := of_decide_eq_false ge
   unfold formB; rw [hd, hf, all_take (by omega) hj.2.2]; rfl
theorem o33 (m : Int) : SpecOk PQ (GQ m) 33 s33 := spec_of (X := X24) (m := []) mixedQ (tbl_cons (o77u m) (tbl_cons (o78 m) (tbl_cons (o20 m) (tbl_cons (o79 m) tbl_nil)))) itbl_nil fun args r h => by
 unfold s33 at h
 split at h
 case h_2 => cases h
 split at h
 case h_2 => cases h
 rename_i hu
 split at h
 case isFalse => cases h
 rename_i hk
 injection h with h; subst h
 rw [unRqN_inv _ _ hu]
 exact ⟨_, p33 m _ hk⟩
end Go.Abs
namespace Go.Abs
open Go.Proofs Go.RowKit
def valL (s : List UInt8) : Nat := s.foldl (fun n c => 10 * n + (c.toNat - 48)) 0
def intB (l : List UInt8) : Bool := decide (l ≠ []) && l.all digitB
def valF (n : Nat) (l : List UInt8) : Nat := l.foldl (fun n c => 10 * n + (c.toNat - 48)) n
theorem valL_eq (l : List UInt8) : valL l = valF 0 l := rfl
theorem valF_ge : ∀ (l : List UInt8) (n : Nat), n ≤ valF n l
 | [], n => Nat.le_refl _
 | c :: l, n => by
  have := valF_ge l (10 * n + (c.toNat - 48))
  simp only [valF, List.foldl_cons] at this ⊢
  omega
theorem digitB_iff {c : UInt8} : digitB c = true ↔ 48 ≤ c.toNat ∧ c.toNat ≤ 57 := by simp [digitB]
theorem parse_digits : ∀ (l : List UInt8) (n : Nat), l.all digitB = true → n < 18446744073709551616 →
  Lib.parseUint10 n l = if valF n l < 18446744073709551616 then .ok (valF n l) else .range
 | [], n, _, hn => by simp [Lib.parseUint10, valF, hn]
 | c :: l, n, hd, hn => by
  simp only [List.all_cons, Bool.and_eq_true, digitB_iff] at hd
  have hv : valF n (c :: l) = valF (10 * n + (c.toNat - 48)) l := rfl
  have hge := valF_ge l (10 * n + (c.toNat - 48))
  simp only [Lib.parseUint10]
  rw [if_pos hd.1, hv]
  by_cases h1 : 1844674407370955162 ≤ n
  ·rw [if_pos h1, if_neg (by omega)]
  ·rw [if_neg h1]
   by_cases h2 : 18446744073709551616 ≤ n * 10 + (c.toNat - 48)
   ·rw [if_pos h2, if_neg (by omega)]
   ·rw [if_neg h2, Nat.mul_comm n 10]
    exact parse_digits l _ hd.2 (by omega)
theorem atoi_digits {l : List UInt8} (h : intB l = true) : Lib.atoiAll l = if valL l ≤ 9223372036854775807 then .ok (valL l : Int) else .range := by
 simp only [intB, Bool.and_eq_true, decide_eq_true_eq] at h
 obtain ⟨h1, h2⟩ := h
 cases l with
 | nil => exact absurd rfl h1
 | cons c r =>
  have hc : 48 ≤ c.toNat ∧ c.toNat ≤ 57 := by
   simp only [List.all_cons, Bool.and_eq_true, digitB_iff] at h2; exact h2.1
  have hp := parse_digits (c :: r) 0 h2 (by omega)
  simp only [Lib.atoiAll, Lib.parseMag]
  rw [if_neg (show ¬ (c.toNat = 43 ∨ c.toNat = 45) by omega), if_neg (by simp), hp, valL_eq]
  by_cases h3 : valF 0 (c :: r) < 18446744073709551616
  ·rw [if_pos h3]
   simp only
   by_cases h4 : valF 0 (c :: r) ≤ 9223372036854775807
   ·rw [if_pos h4, if_neg (by omega), if_neg (by omega), if_neg (by omega)]
   ·rw [if_neg h4, if_pos (by omega)]
  ·rw [if_neg h3, if_neg (by omega)]
section
variable {P : Program} {G : Glob} {E : Env} {w w' : World}
theorem glob_ifc {g : Nat} (hG : GlobOk G E w) (h : G g = some .ifc) : ∃ t x, w.cell? ⟨g, 0, none⟩ = some (.iface t x) := by
 have := (hG g _ h).2.1
 generalize hv : Value.pointer (some ⟨g, 0, none⟩) = v at this
 cases this with | elt _ _ _ _ b off u hcl hA hr h1 =>
 injection hv with hv
 injection hv with hv
 injection hv with h2 h3
 subst h2
 obtain ⟨_, h4⟩ := hA 0 _ 0 _ rfl rfl
 obtain ⟨t, x, h5⟩ := rep_ifc (hr 0 _ 0 _ rfl rfl)
 refine ⟨t, x, ?_⟩
 rw [← h5, ← h4]
 congr 2
theorem rep_tup2 {a b : AV} {u v : Value} (h1 : Rep E w a u) (h2 : Rep E w b v) : Rep E w (.tup [a, b]) (.tuple #[u, v]) := by
 refine .tup _ _ rfl fun i c x hc hx => ?_
 match i, hc, hx with
 | 0, hc, hx => simp at hc hx; subst hc; subst hx; exact h1
 | 1, hc, hx => simp at hc hx; subst hc; subst hx; exact h2
 | i + 2, hc, hx => simp at hc
theorem vs_one' {vs : Array Value} (h : vs.size = 1) : ∃ a, vs = #[a] := vs_one h
end
section
variable {P : Program} {G : Glob} {E : Env} {w w' : World}
theorem glob_tab {g : Nat} {k : IntKind} {zs : List Int} (hG : GlobOk G E w) (h : G g = some (.agg (zs.map fun z => .int k z))) (hz : zs ≠ []) : w.heap[g]?.bind (fun o => match o with | .cells cs _ _ => some cs | _ => none) = some (zs.map fun z => Value.int k z).toArray := by
 obtain ⟨_, h1, _, h2⟩ := hG g _ h
 have hcell : ∀ j (hj : j < zs.length), w.cell? ⟨g, j, none⟩ = some (.int k zs[j]) := by
  generalize hv : Value.pointer (some ⟨g, 0, none⟩) = v at h1
  cases h1 with | elt _ _ _ _ b off u hcl hA hr h1 =>
  injection hv with hv
  injection hv with hv
  injection hv with h3 h4
  subst h3
  intro j hj
  have hc : (AV.agg (zs.map fun z => .int k z)).cells[j]? = some (.int k zs[j]) := by simp [AV.cells, hj]
  obtain ⟨_, h5⟩ := hA 0 _ j _ rfl hc
  have h6 := rep_int (hr 0 _ j _ rfl hc)
  rw [← h6, ← h5]
  congr 2
  omega
 have h0 := hcell 0 (List.length_pos_iff.2 hz)
 unfold World.cell? at hcell h0 h2
 simp only at hcell h0 h2
 cases ho : w.heap[g]? with
 | none => rw [ho] at h0; cases h0
 | some o =>
  rw [ho] at h0
  rw [ho] at hcell h2
  cases o with
  | cells cs e f =>
   simp only [Option.isSome_none, Bool.false_eq_true, if_false] at hcell h2
   simp only [Option.bind_some, Option.some.injEq]
   have hn : (AV.agg (zs.map fun z => .int k z)).cells.length = zs.length := by simp [AV.cells]
   rw [hn] at h2
   have hsz : cs.size ≤ zs.length := by
    apply Classical.byContradiction
    intro hlt
    rw [Array.getElem?_eq_getElem (by omega)] at h2
    cases h2
   apply Array.ext_getElem?
   intro i
   by_cases hi : i < zs.length
   ·rw [hcell i hi]; simp [hi]
   ·have e1 : cs[i]? = none := Array.getElem?_eq_none (by omega)
    rw [e1, List.getElem?_toArray, List.getElem?_map, List.getElem?_eq_none (by omega)]; rfl
  | _ => simp at h0
end
def s89 : Spec := fun args => match args with
 | [.str l] => if l.length ≤ 1000000 ∧ intB l = true then some (if valL l ≤ 9223372036854775807 then (.tup [.int .i64 (valL l), .lit .nilIface], []) else (.tup [.int .i64 9223372036854775807, .ifc], [])) else none
 | _ => none
theorem o89 (m : Int) : SpecOk PQ (GQ m) 89 s89 := by
 intro g args r lv h E w vs hI hG hn' hv hcl
 simp only at h
 split at h
 case isFalse => cases h
 case isTrue e =>
 subst e
 unfold s89 at h
 split at h
 case h_2 => cases h
 case h_1 l =>
 split at h
 case isFalse => cases h
 case isTrue hl =>
 obtain ⟨hl, hi⟩ := hl
 obtain ⟨a, rfl⟩ := vs_one' hn'
 obtain ⟨s, rfl, hs⟩ := rep_str (hv 0 _ _ rfl rfl)
 have hsz : s.size = l.length := by rw [size_data, hs]
 have ha := atoi_digits hi
 by_cases h63 : valL l ≤ 9223372036854775807
 ·rw [if_pos h63] at h ha
  simp only [Option.some.injEq, Prod.mk.injEq] at h
  obtain ⟨rfl, rfl⟩ := h
  refine .inl ⟨goodQ (by kernel_rfl), (Tryz.strconv_Atoi_ok s (by omega) (valL l) (by rw [hs]; exact ha) w).mono fun e w' ⟨he, hw⟩ => ⟨_, he, ?_⟩⟩
  have hb : Below w.heap.size w w' := by
   rcases hw with rfl | ⟨t, rfl⟩
   ·exact Below.refl _ _
   ·exact Lib.bytesWorld_below _ _ _
  exact res_below hb fun B K => rep_tup2 (.int _ _) (.lit _ rfl)
 ·rw [if_neg h63] at h ha
  simp only [Option.some.injEq, Prod.mk.injEq] at h
  obtain ⟨rfl, rfl⟩ := h
  obtain ⟨t, x, hx⟩ := glob_ifc (g := 3) hG rfl
  refine .inl ⟨goodQ (by kernel_rfl), (Tryz.strconv_Atoi_range s (by omega) (by rw [hs]; exact ha) _ w hx (.inr ⟨t, x, rfl⟩)).mono fun e w' ⟨N, he, _, _, hb⟩ => ⟨_, he, ?_⟩⟩
  have hsat : Lib.atoiSat s.data.toList = 9223372036854775807 := by
   rw [hs, Lib.atoiSat, if_neg]
   cases l with
   | nil => simp
   | cons c t =>
    simp only [intB, Bool.and_eq_true, List.all_cons, digitB_iff] at hi
    simp
    omega
  rw [hsat]
  exact res_below hb fun B K => rep_tup2 (.int _ _) (.ifc _ _)
def s52 : Spec := fun args => match args with
 | [.int .i64 n] => if -9223372036854775808 ≤ n ∧ n ≤ 9223372036854775807 then some (.str (Lib.itoa n), []) else none
 | _ => none
theorem o52 (m : Int) : SpecOk PQ (GQ m) 52 s52 := by
 intro g args r lv h E w vs hI hG hn' hv hcl
 simp only at h
 split at h
 case isFalse => cases h
 case isTrue e =>
 subst e
 unfold s52 at h
 split at h
 case h_2 => cases h
 case h_1 n =>
 split at h
 case isFalse => cases h
 case isTrue hl =>
 simp only [Option.some.injEq, Prod.mk.injEq] at h
 obtain ⟨rfl, rfl⟩ := h
 obtain ⟨a, rfl⟩ := vs_one hn'
 obtain rfl := rep_int (hv 0 _ _ rfl rfl)
 have htab : Lib.TabIs PQ w "internal/strconv.uint64pow10" .u64 Lib.pow10Tab := by
  have hg : PQ.globalNamed "internal/strconv.uint64pow10" = some 4 := by kernel_rfl
  have hk : GQ m 4 = some (.agg (Lib.pow10Tab.map fun z => .int .u64 z)) := by
   show some keptPowsA = _
   unfold keptPowsA keptPows Lib.pow10Tab
   rw [List.map_map]; rfl
  have := glob_tab hG hk (by unfold Lib.pow10Tab; simp)
  unfold Lib.TabIs World.var?
  rw [hg]
  cases ho : w.heap[4]? with
  | none => rw [ho] at this; cases this
  | some o => rw [ho] at this; cases o <;> simp_all
 refine .inl ⟨goodQ (by kernel_rfl), (Tryz.strconv_Itoa n hl.1 (hl.2) w htab).mono fun e w' ⟨he, k, os, hw⟩ => ⟨_, he, ?_⟩⟩
 subst hw
 exact res_below (Lib.below_grow _ _ (Nat.le_refl _) _ _) fun B K => .str _ _ rfl
end Go.Abs
