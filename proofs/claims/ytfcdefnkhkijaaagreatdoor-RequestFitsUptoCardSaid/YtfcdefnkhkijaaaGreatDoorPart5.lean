/- Own texts, part 5. -/
import Derived.Test.YtfcdefnkhkijaaaGreatDoorPart4
import Derived.Test.YtfcdefnkhkijaaaGreatDoorProg
import Derived.Test.YtfcdefnkhkijaaaGreatDoorChecked
import Derived.Test.YtfcdefnkhkijaaaGreatDoorShelf
import Derived.KernelRfl
import Derived.Lib.DecodeNEq
import Derived.Lib.IndexMore
import Derived.Lib.IndexBytes
import Derived.Lib.AtoiAll
import Derived.Lib.AtoiErrMem
import Derived.Lib.AppendIntMem
import Derived.WalkLawsBesides
import Derived.Test.YtfcdefnkhkijaaaGreatDoorPart3
import Derived.Lib.Hide
import Derived.Lib.AppendStr

namespace Go.Abs
open Go.Proofs
noncomputable abbrev PQ := Tryz.prog
def tensA : AV := .agg [.int .i64 1, .int .i64 10, .int .i64 100, .int .i64 1000, .int .i64 10000, .int .i64 100000, .int .i64 1000000]
def keptFirst : List AV := (List.range 256).map fun c => .int .u8 (Lib.firstT c)
def keptFirstA : AV := .agg keptFirst
def keptAcc : List AV := [.int .u8 128, .int .u8 191, .int .u8 160, .int .u8 191, .int .u8 128, .int .u8 159, .int .u8 144, .int .u8 191, .int .u8 128, .int .u8 143, .int .u8 0, .int .u8 0, .int .u8 0, .int .u8 0, .int .u8 0, .int .u8 0, .int .u8 0, .int .u8 0, .int .u8 0, .int .u8 0, .int .u8 0, .int .u8 0, .int .u8 0, .int .u8 0, .int .u8 0, .int .u8 0, .int .u8 0, .int .u8 0, .int .u8 0, .int .u8 0, .int .u8 0, .int .u8 0]
def keptAccA : AV := .agg keptAcc
def keptPows : List AV := (List.range 20).map fun i => .int .u64 ((10 ^ i : Nat) : Int)
def keptPowsA : AV := .agg keptPows
def GQ (m : Int) : Glob := fun g => match g with
 | 0 => some (.int .i64 m)
 | 1 => some tensA
 | 2 => some .ifc
 | 3 => some .ifc
 | 4 => some keptPowsA
 | 5 => some keptFirstA
 | 6 => some keptAccA
 | _ => none
def libQ : List (FuncId × Spec) := [(133, sContains)]
theorem mixedQ : PQ.follows .mixedOrders = true := Tryz.checked.mixed
theorem goodQ {f : FuncId} (h : (match PQ.funcs[f]? with | some fn => fn.body.isSome && !(fn.name == "runtime.NumGoroutine") | none => false) = true) : goodFn PQ f := by
 split at h
 ·rename_i fn hf
  simp only [Bool.and_eq_true, Bool.not_eq_true'] at h
  exact ⟨fn, hf, h.1, h.2⟩
 ·cases h
theorem libQ_ok (m : Int) : CalleeOk PQ (GQ m) (tbl libQ) := by
 refine tbl_cons ?_ tbl_nil
 exact o_contains (goodQ (by kernel_rfl)) (g0 := 0) (m := m) rfl fun s sub m w hs hm => Tryz.strings_Contains s sub m w hs hm
def shB : Sh × Option TypeId := (.val (.one .bool), none)
def shI : Sh × Option TypeId := (.val (.one (.int .i64)), none)
def X1 : Shapes := fun f => if f = 160 ∨ f = 140 then some shB else none
def letterB (c : UInt8) : Bool := decide (97 ≤ c.toNat ∧ c.toNat ≤ 122)
def digitB (c : UInt8) : Bool := decide (48 ≤ c.toNat ∧ c.toNat ≤ 57)
def innerB (c : UInt8) : Bool := letterB c || digitB c || c == 95
def wl : List UInt8 → Nat
 | [] => 0
 | c :: t => if letterB c then 1 + (t.takeWhile innerB).length else 0
def nA : Nat → Option Ann := fun _ => none
def kwList : List (List UInt8) := [[116, 97, 98, 108, 101], [102, 101, 97, 116, 117, 114, 101], [111, 102], [107, 101, 101, 112], [98, 111, 111, 108], [116, 101, 120, 116], [107, 101, 121], [105, 110, 116], [100, 101, 99], [105, 102], [116, 104, 101, 110], [101, 108, 115, 101], [100, 101, 102, 97, 117, 108, 116], [111, 114], [97, 110, 100], [110, 111, 116], [116, 114, 117, 101], [102, 97, 108, 115, 101], [110, 117, 108, 108], [99, 111, 117, 110, 116], [115, 117, 109], [109, 101, 97, 110], [109, 105, 110], [109, 97, 120], [102, 105, 114, 115, 116], [108, 97, 115, 116], [100, 105, 115, 116, 105, 110, 99, 116], [113, 117, 97, 110, 116, 105, 108, 101], [100, 101, 99, 97, 121], [97, 108, 108], [115, 108, 105, 100, 105, 110, 103], [116, 117, 109, 98, 108, 105, 110, 103], [115, 101, 115, 115, 105, 111, 110], [119, 104, 101, 114, 101]]
def kwR (s : List UInt8) : Bool := kwList.contains s
def nameR (s : List UInt8) : Bool := decide (s ≠ []) && decide (s.length ≤ 24) && decide (wl s = s.length) && !kwR s
def s88 : Spec := fun args => match args with
 | [.str s] => if s.length ≤ 2000000 then some (.bool (kwR s), []) else none
 | _ => none
def XW : Shapes := fun f => match f with
 | 88 | 124 | 40 | 77 | 133 => some shB
 | 123 => some shI
 | _ => none
def nAn : Anns := ⟨nA, nA⟩
def a40 (s : List UInt8) : Anns := ⟨fun k => if k = 4 then some { α := Int, slots := [0, 17, 18], nb := 0, vals := fun n => [.str s, .int .i64 s.length, .int .i64 n], sS := fun _ => ⟨[],[]⟩, I := fun n => ∃ k : Nat, n = k ∧ k ≤ s.length ∧ (1 ≤ k → k ≤ wl s), μ := fun n => (s.length - n).toNat } else none, nA⟩
theorem w88 (m : Int) (s : List UInt8) : (pureW PQ (GQ m) XW (tbl libQ) (itbl []) nAn [] 88 [.str s] (.bool (kwR s), [])) =
(((!s == []) = true →
    ∃ (b : Bool),
      CallIs (tbl [((133 : Nat), sContains)] ((133 : Nat)) [AV.str s, AV.str [(32 : UInt8)]]) (AV.bool b) [] ∧
        (b = true → RetIs (AV.bool false) [] (AV.bool (kwR s), [])) ∧
 (b = false →
 (1 : Nat) + s.length ≤ (9223372036854775807 : Nat) ∧
 ([(32 : UInt8)] ++ s).length + (1 : Nat) ≤ (9223372036854775807 : Nat) ∧
 ∃ (b : Bool),
 CallIs
 (some
 (AV.bool
 (Lib.contains
 [(32 : UInt8), (116 : UInt8), (97 : UInt8), (98 : UInt8), (108 : UInt8), (101 : UInt8), (32 : UInt8), (102 : UInt8),
 (101 : UInt8), (97 : UInt8), (116 : UInt8), (117 : UInt8), (114 : UInt8), (101 : UInt8), (32 : UInt8), (111 : UInt8),
 (102 : UInt8), (32 : UInt8), (107 : UInt8), (101 : UInt8), (101 : UInt8), (112 : UInt8), (32 : UInt8), (98 : UInt8),
 (111 : UInt8), (111 : UInt8), (108 : UInt8), (32 : UInt8), (116 : UInt8), (101 : UInt8), (120 : UInt8), (116 : UInt8),
 (32 : UInt8), (107 : UInt8), (101 : UInt8), (121 : UInt8), (32 : UInt8), (105 : UInt8), (110 : UInt8), (116 : UInt8),
 (32 : UInt8), (100 : UInt8), (101 : UInt8), (99 : UInt8), (32 : UInt8), (105 : UInt8), (102 : UInt8), (32 : UInt8),
 (116 : UInt8), (104 : UInt8), (101 : UInt8), (110 : UInt8), (32 : UInt8), (101 : UInt8), (108 : UInt8), (115 : UInt8),
 (101 : UInt8), (32 : UInt8), (100 : UInt8), (101 : UInt8), (102 : UInt8), (97 : UInt8), (117 : UInt8), (108 : UInt8),
 (116 : UInt8), (32 : UInt8), (111 : UInt8), (114 : UInt8), (32 : UInt8), (97 : UInt8), (110 : UInt8), (100 : UInt8),
 (32 : UInt8), (110 : UInt8), (111 : UInt8), (116 : UInt8), (32 : UInt8), (116 : UInt8), (114 : UInt8), (117 : UInt8),
 (101 : UInt8), (32 : UInt8), (102 : UInt8), (97 : UInt8), (108 : UInt8), (115 : UInt8), (101 : UInt8), (32 : UInt8),
 (110 : UInt8), (117 : UInt8), (108 : UInt8), (108 : UInt8), (32 : UInt8), (99 : UInt8), (111 : UInt8), (117 : UInt8),
 (110 : UInt8), (116 : UInt8), (32 : UInt8), (115 : UInt8), (117 : UInt8), (109 : UInt8), (32 : UInt8), (109 : UInt8),
 (101 : UInt8), (97 : UInt8), (110 : UInt8), (32 : UInt8), (109 : UInt8), (105 : UInt8), (110 : UInt8), (32 : UInt8),
 (109 : UInt8), (97 : UInt8), (120 : UInt8), (32 : UInt8), (102 : UInt8), (105 : UInt8), (114 : UInt8), (115 : UInt8),
 (116 : UInt8), (32 : UInt8), (108 : UInt8), (97 : UInt8), (115 : UInt8), (116 : UInt8), (32 : UInt8), (100 : UInt8),
 (105 : UInt8), (115 : UInt8), (116 : UInt8), (105 : UInt8), (110 : UInt8), (99 : UInt8), (116 : UInt8), (32 : UInt8),
 (113 : UInt8), (117 : UInt8), (97 : UInt8), (110 : UInt8), (116 : UInt8), (105 : UInt8), (108 : UInt8), (101 : UInt8),
 (32 : UInt8), (100 : UInt8), (101 : UInt8), (99 : UInt8), (97 : UInt8), (121 : UInt8), (32 : UInt8), (97 : UInt8),
 (108 : UInt8), (108 : UInt8), (32 : UInt8), (115 : UInt8), (108 : UInt8), (105 : UInt8), (100 : UInt8), (105 : UInt8),
 (110 : UInt8), (103 : UInt8), (32 : UInt8), (116 : UInt8), (117 : UInt8), (109 : UInt8), (98 : UInt8), (108 : UInt8),
 (105 : UInt8), (110 : UInt8), (103 : UInt8), (32 : UInt8), (115 : UInt8), (101 : UInt8), (115 : UInt8), (115 : UInt8),
 (105 : UInt8), (111 : UInt8), (110 : UInt8), (32 : UInt8), (119 : UInt8), (104 : UInt8), (101 : UInt8), (114 : UInt8),
 (101 : UInt8), (32 : UInt8)]
 ([(32 : UInt8)] ++ s ++ [(32 : UInt8)])),
 []))
 (AV.bool b) [] ∧
 (b = true → RetIs (AV.bool true) [] (AV.bool (kwR s), [])) ∧ (b = false → RetIs (AV.bool false) [] (AV.bool (kwR s), [])))) ∧
  ((!s == []) = false → RetIs (AV.bool false) [] (AV.bool (kwR s), []))) := by kernel_rfl
theorem w40 (m : Int) (s : List UInt8) : (pureW PQ (GQ m) XW (tbl [(88, s88)]) (itbl []) (a40 s) [] 40 [.str s] (.bool (nameR s), [])) =
(((s == []) = true → RetIs (AV.bool false) [] (AV.bool (nameR s), [])) ∧
  ((s == []) = false →
    (decide ((↑s.length : Int) > (24 : Int)) = true → RetIs (AV.bool false) [] (AV.bool (nameR s), [])) ∧
      (decide ((↑s.length : Int) > (24 : Int)) = false →
        ∃ (b : Bool),
 CallIs (tbl [((88 : Nat), s88)] ((88 : Nat)) [AV.str s]) (AV.bool b) [] ∧
 (b = true → RetIs (AV.bool false) [] (AV.bool (nameR s), [])) ∧
 (b = false →
 (∃ (y : Int),
 ValsAre [AV.str s, AV.int IntKind.i64 (↑s.length : Int), AV.int IntKind.i64 (0 : Int)]
 [AV.str s, AV.int IntKind.i64 (↑s.length : Int), AV.int IntKind.i64 y] ∧
 StIs { boxes := [], live := [] } { boxes := [], live := [] } ∧
 (∃ (k : Nat), y = (↑k : Int) ∧ k ≤ s.length ∧ ((1 : Nat) ≤ k → k ≤ wl s)) ∧ True) ∧
 ∀ (x : Int),
 (∃ (k : Nat), x = (↑k : Int) ∧ k ≤ s.length ∧ ((1 : Nat) ≤ k → k ≤ wl s)) →
 (decide (x < (↑s.length : Int)) = true →
 (0 : Int) ≤ x ∧
 ∃ (c : UInt8),
 s[x.toNat]? = some c ∧
 (decide ((↑c.toNat : Int) ≥ (97 : Int)) = true →
 (decide ((↑c.toNat : Int) ≤ (122 : Int)) = true →
 ∃ (y : Int),
 ValsAre [AV.str s, AV.int IntKind.i64 (↑s.length : Int), AV.int IntKind.i64 (IntKind.i64.wrap (x + (1 : Int)))]
 [AV.str s, AV.int IntKind.i64 (↑s.length : Int), AV.int IntKind.i64 y] ∧
 StIs { boxes := [], live := [] } { boxes := [], live := [] } ∧
 (∃ (k : Nat), y = (↑k : Int) ∧ k ≤ s.length ∧ ((1 : Nat) ≤ k → k ≤ wl s)) ∧
 ((↑s.length : Int) - y).toNat < ((↑s.length : Int) - x).toNat) ∧
 (decide ((↑c.toNat : Int) ≤ (122 : Int)) = false →
 (decide (x > (0 : Int)) = true →
 (decide ((↑c.toNat : Int) ≥ (48 : Int)) = true →
 (decide ((↑c.toNat : Int) ≤ (57 : Int)) = true →
 ∃ (y : Int),
 ValsAre
 [AV.str s, AV.int IntKind.i64 (↑s.length : Int),
 AV.int IntKind.i64 (IntKind.i64.wrap (x + (1 : Int)))]
 [AV.str s, AV.int IntKind.i64 (↑s.length : Int), AV.int IntKind.i64 y] ∧
 StIs { boxes := [], live := [] } { boxes := [], live := [] } ∧
 (∃ (k : Nat), y = (↑k : Int) ∧ k ≤ s.length ∧ ((1 : Nat) ≤ k → k ≤ wl s)) ∧
 ((↑s.length : Int) - y).toNat < ((↑s.length : Int) - x).toNat) ∧
 (decide ((↑c.toNat : Int) ≤ (57 : Int)) = false →
 (((↑c.toNat : Int) == (95 : Int)) = true →
 ∃ (y : Int),
 ValsAre
 [AV.str s, AV.int IntKind.i64 (↑s.length : Int),
 AV.int IntKind.i64 (IntKind.i64.wrap (x + (1 : Int)))]
 [AV.str s, AV.int IntKind.i64 (↑s.length : Int), AV.int IntKind.i64 y] ∧
 StIs { boxes := [], live := [] } { boxes := [], live := [] } ∧
 (∃ (k : Nat), y = (↑k : Int) ∧ k ≤ s.length ∧ ((1 : Nat) ≤ k → k ≤ wl s)) ∧
 ((↑s.length : Int) - y).toNat < ((↑s.length : Int) - x).toNat) ∧
 (((↑c.toNat : Int) == (95 : Int)) = false → RetIs (AV.bool false) [] (AV.bool (nameR s), [])))) ∧
 (decide ((↑c.toNat : Int) ≥ (48 : Int)) = false →
 (((↑c.toNat : Int) == (95 : Int)) = true →
 ∃ (y : Int),
 ValsAre
 [AV.str s, AV.int IntKind.i64 (↑s.length : Int),
 AV.int IntKind.i64 (IntKind.i64.wrap (x + (1 : Int)))]
 [AV.str s, AV.int IntKind.i64 (↑s.length : Int), AV.int IntKind.i64 y] ∧
 StIs { boxes := [], live := [] } { boxes := [], live := [] } ∧
 (∃ (k : Nat), y = (↑k : Int) ∧ k ≤ s.length ∧ ((1 : Nat) ≤ k → k ≤ wl s)) ∧
 ((↑s.length : Int) - y).toNat < ((↑s.length : Int) - x).toNat) ∧
 (((↑c.toNat : Int) == (95 : Int)) = false → RetIs (AV.bool false) [] (AV.bool (nameR s), [])))) ∧
 (decide (x > (0 : Int)) = false → RetIs (AV.bool false) [] (AV.bool (nameR s), [])))) ∧
 (decide ((↑c.toNat : Int) ≥ (97 : Int)) = false →
 (decide (x > (0 : Int)) = true →
 (decide ((↑c.toNat : Int) ≥ (48 : Int)) = true →
 (decide ((↑c.toNat : Int) ≤ (57 : Int)) = true →
 ∃ (y : Int),
 ValsAre
 [AV.str s, AV.int IntKind.i64 (↑s.length : Int), AV.int IntKind.i64 (IntKind.i64.wrap (x + (1 : Int)))]
 [AV.str s, AV.int IntKind.i64 (↑s.length : Int), AV.int IntKind.i64 y] ∧
 StIs { boxes := [], live := [] } { boxes := [], live := [] } ∧
 (∃ (k : Nat), y = (↑k : Int) ∧ k ≤ s.length ∧ ((1 : Nat) ≤ k → k ≤ wl s)) ∧
 ((↑s.length : Int) - y).toNat < ((↑s.length : Int) - x).toNat) ∧
 (decide ((↑c.toNat : Int) ≤ (57 : Int)) = false →
 (((↑c.toNat : Int) == (95 : Int)) = true →
 ∃ (y : Int),
 ValsAre
 [AV.str s, AV.int IntKind.i64 (↑s.length : Int),
 AV.int IntKind.i64 (IntKind.i64.wrap (x + (1 : Int)))]
 [AV.str s, AV.int IntKind.i64 (↑s.length : Int), AV.int IntKind.i64 y] ∧
 StIs { boxes := [], live := [] } { boxes := [], live := [] } ∧
 (∃ (k : Nat), y = (↑k : Int) ∧ k ≤ s.length ∧ ((1 : Nat) ≤ k → k ≤ wl s)) ∧
 ((↑s.length : Int) - y).toNat < ((↑s.length : Int) - x).toNat) ∧
 (((↑c.toNat : Int) == (95 : Int)) = false → RetIs (AV.bool false) [] (AV.bool (nameR s), [])))) ∧
 (decide ((↑c.toNat : Int) ≥ (48 : Int)) = false →
 (((↑c.toNat : Int) == (95 : Int)) = true →
 ∃ (y : Int),
 ValsAre
 [AV.str s, AV.int IntKind.i64 (↑s.length : Int), AV.int IntKind.i64 (IntKind.i64.wrap (x + (1 : Int)))]
 [AV.str s, AV.int IntKind.i64 (↑s.length : Int), AV.int IntKind.i64 y] ∧
 StIs { boxes := [], live := [] } { boxes := [], live := [] } ∧
 (∃ (k : Nat), y = (↑k : Int) ∧ k ≤ s.length ∧ ((1 : Nat) ≤ k → k ≤ wl s)) ∧
 ((↑s.length : Int) - y).toNat < ((↑s.length : Int) - x).toNat) ∧
 (((↑c.toNat : Int) == (95 : Int)) = false → RetIs (AV.bool false) [] (AV.bool (nameR s), [])))) ∧
 (decide (x > (0 : Int)) = false → RetIs (AV.bool false) [] (AV.bool (nameR s), [])))) ∧
 (decide (x < (↑s.length : Int)) = false → RetIs (AV.bool true) [] (AV.bool (nameR s), [])))))) := by kernel_rfl
theorem wl_le (bs : List UInt8) : wl bs ≤ bs.length := by
 cases bs with
 | nil => simp [wl]
 | cons c t =>
  simp only [wl]
  split
  ·have := (List.takeWhile_prefix innerB (l := t)).length_le
   simp; omega
  ·simp
theorem wl_drop {bs : List UInt8} {i : Nat} (h : i < bs.length) : wl (bs.drop i) = if letterB (bs.getD i 0) then 1 + ((bs.drop (i + 1)).takeWhile innerB).length else 0 := by
 rw [List.drop_eq_getElem_cons h]
 simp [wl, h]
theorem getD_drop' {bs : List UInt8} {i k : Nat} : (bs.drop i).getD k 0 = bs.getD (i + k) 0 := by
 simp [List.getElem?_drop]
theorem wl_next {bs : List UInt8} {i k : Nat} (hk : k ≤ wl (bs.drop i)) (h1 : 1 ≤ k) (h : i + k < bs.length) (hp : innerB (bs.getD (i + k) 0) = true) : k + 1 ≤ wl (bs.drop i) := by
 rw [wl_drop (by omega)] at hk ⊢
 split at hk
 ·rename_i hc
  rw [if_pos hc]
  have := tw_next (p := innerB) (l := bs.drop (i + 1)) (k := k - 1) (by omega) (by rw [List.length_drop]; omega) (by rw [getD_drop', show i + 1 + (k - 1) = i + k by omega]; exact hp)
  omega
 ·omega
theorem wl_stop {bs : List UInt8} {i k : Nat} (hk : k ≤ wl (bs.drop i)) (h1 : 1 ≤ k) (hp : i + k < bs.length → innerB (bs.getD (i + k) 0) = false) : k = wl (bs.drop i) := by
 have hl := wl_le (bs.drop i)
 rw [List.length_drop] at hl
 have hi : i < bs.length := by omega
 rw [wl_drop hi] at hk ⊢
 split at hk
 ·rename_i hc
  rw [if_pos hc]
  have := tw_stop (p := innerB) (l := bs.drop (i + 1)) (k := k - 1) (by omega) (fun h => by rw [getD_drop', show i + 1 + (k - 1) = i + k by omega]; exact hp (by rw [List.length_drop] at h; omega))
  omega
 ·omega
theorem p40 (m : Int) (s : List UInt8) (hs : s.length ≤ 2000000) : PureOk PQ (GQ m) XW (tbl [(88, s88)]) (itbl []) (a40 s) [] 40 [.str s] (.bool (nameR s), []) := by
 constructor
 rw [w40]
 have t16 : tbl [(88, s88)] 88 [.str s] = some (.bool (kwR s), []) := by
  show s88 [.str s] = _
  simp [s88, hs]
 rw [t16]
 simp only [callIs_iff, valsAre_iff, stIs_iff, retIs_iff, Prod.mk.injEq, AV.bool.injEq, AV.int.injEq, Option.some.injEq, List.cons.injEq, and_true, true_and, exists_eq_left', decide_eq_true_eq, decide_eq_false_iff_not, beq_iff_eq, beq_eq_false_iff_ne, ne_eq]
 refine ⟨fun h => by simp [nameR, h], fun hne => ⟨fun h => ?_, fun hl => ⟨fun h => by simp [nameR, h], fun hk => ⟨⟨0, rfl, by omega, by omega⟩, ?_⟩⟩⟩⟩
 ·simp [nameR]; intro _ h2; omega
 ·rintro x ⟨k, rfl, hk1, hk2⟩
  rw [wrap64_in (n := (k : Int) + 1) (by omega) (by omega)]
  have hw := wl_le s
  refine ⟨fun hlt => ?_, fun hge => ?_⟩
  ·have hlt' : k < s.length := by omega
   refine ⟨by omega, s.getD k 0, by simp [hlt'], ?_⟩
   have hlet : letterB (s.getD k 0) = decide (97 ≤ (s.getD k 0).toNat ∧ (s.getD k 0).toNat ≤ 122) := rfl
   have h95 : (s.getD k 0).toNat = 95 ↔ s.getD k 0 = 95 := by
    rw [← UInt8.toNat_inj]; rfl
   have hin : innerB (s.getD k 0) = true ↔ (97 ≤ (s.getD k 0).toNat ∧ (s.getD k 0).toNat ≤ 122) ∨ (48 ≤ (s.getD k 0).toNat ∧ (s.getD k 0).toNat ≤ 57) ∨ (s.getD k 0).toNat = 95 := by
    rw [h95]
    simp only [innerB, letterB, digitB, Bool.or_eq_true, decide_eq_true_eq, beq_iff_eq, or_assoc]
   have hw0 := wl_drop (bs := s) (i := 0) (by omega)
   rw [List.drop_zero] at hw0
   have step : ((97 ≤ (s.getD k 0).toNat ∧ (s.getD k 0).toNat ≤ 122) ∨ (1 ≤ k ∧ ((48 ≤ (s.getD k 0).toNat ∧ (s.getD k 0).toNat ≤ 57) ∨ (s.getD k 0).toNat = 95))) →
     (∃ j : Nat, (k : Int) + 1 = j ∧ j ≤ s.length ∧ (1 ≤ j → j ≤ wl s)) ∧ ((s.length : Int) - (k + 1)).toNat < ((s.length : Int) - k).toNat := fun hp => by
    refine ⟨⟨k + 1, by omega, by omega, fun _ => ?_⟩, by omega⟩
    by_cases h0 : k = 0
    ·subst h0
     rw [hw0, if_pos (by rw [hlet]; exact decide_eq_true (by omega))]
     omega
    ·have := wl_next (bs := s) (i := 0) (k := k) (by rw [List.drop_zero]; exact hk2 (by omega)) (by omega) (by omega) (by rw [Nat.zero_add, hin]; omega)
     rw [List.drop_zero] at this
     omega
   have stop : ¬((97 ≤ (s.getD k 0).toNat ∧ (s.getD k 0).toNat ≤ 122) ∨ (1 ≤ k ∧ ((48 ≤ (s.getD k 0).toNat ∧ (s.getD k 0).toNat ≤ 57) ∨ (s.getD k 0).toNat = 95))) → false = nameR s := fun hp => by
    have hne : wl s ≠ s.length := by
     by_cases h0 : k = 0
     ·subst h0
      rw [hw0, if_neg (by rw [hlet]; simp only [decide_eq_true_eq]; omega)]
      omega
     ·have := wl_stop (bs := s) (i := 0) (k := k) (by rw [List.drop_zero]; exact hk2 (by omega)) (by omega) (fun _ => by
       rw [Nat.zero_add]
       cases hb : innerB (s.getD k 0) with
       | false => rfl
       | true => rw [hin] at hb; omega)
      rw [List.drop_zero] at this
      omega
    simp [nameR, hne]
   generalize (s.getD k 0).toNat = c at *
   repeat' (first | exact step (by omega) | exact stop (by omega) | refine And.intro (fun _ => ?_) (fun _ => ?_))
  ·have hk3 : k = s.length := by omega
   have hp : 0 < s.length := List.length_pos_iff.2 hne
   have : wl s = s.length := by have := hk2 (by omega); omega
   simp [nameR, hne, hk, this]
   omega
theorem contains_iff (t sub : List UInt8) : Lib.contains t sub = true ↔ ∃ i, i ≤ t.length ∧ Lib.occAt t sub i = true := by
 unfold Lib.contains
 rw [decide_eq_true_eq]
 constructor
 ·intro h
  by_cases hex : ∃ i, i ≤ t.length ∧ Lib.occAt t sub i = true
  ·exact hex
  ·have := Lib.index_none (s := t) (sub := sub) fun j hj => by
    cases hb : Lib.occAt t sub j with
    | false => rfl
    | true => exact absurd ⟨j, hj, hb⟩ hex
   omega
 ·intro h
  obtain ⟨n, ⟨hn, ho⟩, hmin⟩ := exists_least h
  have := Lib.index_first (s := t) (sub := sub) hn ho fun j hj => by
   cases hb : Lib.occAt t sub j with
   | false => rfl
   | true => have := hmin j ⟨by omega, hb⟩; omega
  omega
def txt (ws : List (List UInt8)) : List UInt8 := 32 :: ws.flatMap fun w => w ++ [32]
theorem txt_cons (w : List UInt8) (ws : List (List UInt8)) : txt (w :: ws) = 32 :: (w ++ txt ws) := by
 simp [txt]
theorem pre_word : ∀ {s w r q : List UInt8}, 32 ∉ s → 32 ∉ w → (s ++ 32 :: r = w ++ 32 :: q) → s = w
 | [], [], _, _, _, _, _ => rfl
 | [], c :: w, _, _, _, hw, h => by
  injection h with h1 _
  exact absurd (by rw [← h1]; exact List.mem_cons_self) hw
 | c :: s, [], _, _, hs, _, h => by
  injection h with h1 _
  exact absurd (by rw [h1]; exact List.mem_cons_self) hs
 | c :: s, d :: w, r, q, hs, hw, h => by
  simp only [List.cons_append, List.cons.injEq] at h
  rw [h.1, pre_word (fun hm => hs (List.mem_cons_of_mem _ hm)) (fun hm => hw (List.mem_cons_of_mem _ hm)) h.2]
theorem occ_txt {s : List UInt8} (hs : 32 ∉ s) (hne : s ≠ []) : ∀ (ws : List (List UInt8)), (∀ w ∈ ws, 32 ∉ w) → ((∃ i, ([32] ++ s ++ [32]) <+: (txt ws).drop i) ↔ s ∈ ws)
 | [], _ => by
  simp only [List.not_mem_nil, iff_false]
  rintro ⟨i, h⟩
  have := h.length_le
  have hp : 0 < s.length := List.length_pos_iff.2 hne
  simp [txt] at this
  omega
 | w :: ws, hw => by
  have ih := occ_txt hs hne ws fun x hx => hw x (List.mem_cons_of_mem _ hx)
  rw [txt_cons]
  constructor
  ·rintro ⟨i, h⟩
   match i with
   | 0 =>
    obtain ⟨r, hr⟩ := h
    simp only [List.drop_zero, List.cons_append, List.nil_append, List.append_assoc, List.cons.injEq, true_and, txt] at hr
    rw [pre_word hs (hw w List.mem_cons_self) hr]
    exact List.mem_cons_self
   | i + 1 =>
    simp only [List.drop_succ_cons] at h
    by_cases hi : i < w.length
    ·obtain ⟨r, hr⟩ := h
     rw [List.drop_append_of_le_length (by omega), List.drop_eq_getElem_cons hi] at hr
     simp only [List.cons_append, List.nil_append, List.cons.injEq] at hr
     exact absurd (hr.1 ▸ List.getElem_mem hi) (hw w List.mem_cons_self)
    ·have e : (w ++ txt ws).drop i = (txt ws).drop (i - w.length) := by
      rw [List.drop_append, List.drop_eq_nil_of_le (by omega), List.nil_append]
     rw [e] at h
     exact List.mem_cons_of_mem _ (ih.1 ⟨_, h⟩)
  ·intro h
   rcases List.mem_cons.1 h with rfl | h
   ·exact ⟨0, ⟨txt ws |>.tail, by simp [txt]⟩⟩
   ·obtain ⟨i, hi⟩ := ih.2 h
    refine ⟨i + w.length + 1, ?_⟩
    simp only [List.drop_succ_cons]
    rw [List.drop_append, List.drop_eq_nil_of_le (by omega), List.nil_append, show i + w.length - w.length = i by omega]
    exact hi
theorem contains_txt {s : List UInt8} (hs : 32 ∉ s) (hne : s ≠ []) (ws : List (List UInt8)) (hw : ∀ w ∈ ws, 32 ∉ w) : Lib.contains (txt ws) ([32] ++ s ++ [32]) = ws.contains s := by
 rw [Bool.eq_iff_iff, contains_iff, List.contains_iff_mem, ← occ_txt hs hne ws hw]
 constructor
 ·rintro ⟨i, _, h⟩
  exact ⟨i, List.isPrefixOf_iff_prefix.1 h⟩
 ·rintro ⟨i, h⟩
  refine ⟨i, ?_, List.isPrefixOf_iff_prefix.2 h⟩
  have := h.length_le
  simp only [List.length_append, List.length_drop, List.length_cons, List.length_nil] at this
  omega
theorem contains_one {s : List UInt8} : Lib.contains s [32] = true ↔ 32 ∈ s := by
 rw [contains_iff]
 constructor
 ·rintro ⟨i, hi, h⟩
  have := List.isPrefixOf_iff_prefix.1 h
  obtain ⟨r, hr⟩ := this
  exact List.mem_of_mem_drop (i := i) (by rw [← hr]; simp)
 ·intro h
  obtain ⟨i, hi, he⟩ := List.mem_iff_getElem.1 h
  refine ⟨i, by omega, List.isPrefixOf_iff_prefix.2 ⟨s.drop (i + 1), ?_⟩⟩
  rw [List.drop_eq_getElem_cons hi, he]
  rfl
theorem kw_no : ∀ w ∈ kwList, (32 : UInt8) ∉ w := by decide
theorem p88 (m : Int) (s : List UInt8) (hs : s.length ≤ 2000000) : PureOk PQ (GQ m) XW (tbl libQ) (itbl []) nAn [] 88 [.str s] (.bool (kwR s), []) := by
 constructor
 rw [w88]
 have hc : ∀ t : List UInt8, tbl [(133, sContains)] 133 [.str s, .str t] = some (.bool (Lib.contains s t), []) := fun t => by
  show sContains [.str s, .str t] = _
  simp only [sContains]
  rw [if_pos (by omega)]
 rw [hc]
 have ht : ∀ u, Lib.contains [32, 116, 97, 98, 108, 101, 32, 102, 101, 97, 116, 117, 114, 101, 32, 111, 102, 32, 107, 101, 101, 112, 32, 98, 111, 111, 108, 32, 116, 101, 120, 116, 32, 107, 101, 121, 32, 105, 110, 116, 32, 100, 101, 99, 32, 105, 102, 32, 116, 104, 101, 110, 32, 101, 108, 115, 101, 32, 100, 101, 102, 97, 117, 108, 116, 32, 111, 114, 32, 97, 110, 100, 32, 110, 111, 116, 32, 116, 114, 117, 101, 32, 102, 97, 108, 115, 101, 32, 110, 117, 108, 108, 32, 99, 111, 117, 110, 116, 32, 115, 117, 109, 32, 109, 101, 97, 110, 32, 109, 105, 110, 32, 109, 97, 120, 32, 102, 105, 114, 115, 116, 32, 108, 97, 115, 116, 32, 100, 105, 115, 116, 105, 110, 99, 116, 32, 113, 117, 97, 110, 116, 105, 108, 101, 32, 100, 101, 99, 97, 121, 32, 97, 108, 108, 32, 115, 108, 105, 100, 105, 110, 103, 32, 116, 117, 109, 98, 108, 105, 110, 103, 32, 115, 101, 115, 115, 105, 111, 110, 32, 119, 104, 101, 114, 101, 32] u = Lib.contains (txt kwList) u := fun u => rfl
 simp only [ht]
 simp only [callIs_iff, retIs_iff, Prod.mk.injEq, AV.bool.injEq, Option.some.injEq, and_true, exists_eq_left']
 refine ⟨fun h1 => ⟨fun h2 => ?_, fun h2 => ⟨by omega, by simp; omega, ?_⟩⟩, fun h1 => ?_⟩
 ·have hm := contains_one.1 h2
  cases hk : kwR s with
  | false => rfl
  | true => exact absurd hm (kw_no s (List.contains_iff_mem.1 hk))
 ·have hne : s ≠ [] := by simpa using h1
  have hm : 32 ∉ s := fun h => by rw [contains_one.2 h] at h2; cases h2
  rw [contains_txt hm hne kwList kw_no]
  exact ⟨fun h => h.symm, fun h => h.symm⟩
 ·have : s = [] := by simpa using h1
  subst this
  rfl
theorem o88 (m : Int) : SpecOk PQ (GQ m) 88 s88 := spec_of (X := XW) (m := []) mixedQ (libQ_ok m) itbl_nil fun args r h => by
 unfold s88 at h
 split at h
 ·split at h
  ·rename_i hl
   injection h with h; subst h; exact ⟨nAn, p88 m _ hl⟩
  ·cases h
 ·cases h
def unL {α : Type} (f : AV → Option α) : List AV → Option (List α)
 | [] => some []
 | a :: l => match f a, unL f l with
  | some x, some xs => some (x :: xs)
  | _, _ => none
theorem unL_map {α : Type} {f : AV → Option α} {g : α → AV} (h : ∀ x, f (g x) = some x) : ∀ l : List α, unL f (l.map g) = some l
 | [] => rfl
 | x :: l => by simp only [List.map_cons, unL, h x, unL_map h l]
theorem unL_inv {α : Type} {f : AV → Option α} {g : α → AV} (h : ∀ a x, f a = some x → a = g x) : ∀ {es : List AV} {l : List α}, unL f es = some l → es = l.map g
 | [], l, e => by simp only [unL, Option.some.injEq] at e; subst e; rfl
 | a :: es, l, e => by
  simp only [unL] at e
  split at e
  ·rename_i x xs h1 h2
   simp only [Option.some.injEq] at e
   subst e
   rw [List.map_cons, ← h a x h1, ← unL_inv h h2]
  ·cases e
def unS : AV → Option (List UInt8)
 | .str s => some s
 | _ => none
theorem unS_ok (s : List UInt8) : unS (.str s) = some s := rfl
theorem unS_inv (a : AV) (x : List UInt8) (h : unS a = some x) : a = .str x := by
 unfold unS at h
 split at h
 ·injection h with h; subst h; rfl
 ·cases h
structure Lb where
 key : List UInt8
 event : Int
 know : Int
deriving DecidableEq
instance : Inhabited Lb := ⟨⟨[], 0, 0⟩⟩
def lbA (x : Lb) : AV := .agg [.str x.key, .int .i64 x.event, .int .i64 x.know]
def unLb : AV → Option Lb
 | .agg [.str k, .int .i64 a, .int .i64 b] => some ⟨k, a, b⟩
 | _ => none
theorem unLb_ok (x : Lb) : unLb (lbA x) = some x := rfl
theorem unLb_inv (a : AV) (x : Lb) (h : unLb a = some x) : a = lbA x := by
 unfold unLb at h
 split at h
 ·injection h with h; subst h; rfl
 ·cases h
abbrev strsL (l : List (List UInt8)) : List AV := l.map .str
abbrev lbsL (l : List Lb) : List AV := l.map lbA
structure Rq where
 entity : List UInt8
 feats : List (List UInt8)
 labels : List Lb
 seed : Int
 permille : Int
deriving DecidableEq
def rqA (r : Rq) : AV := .agg [.str r.entity, .sl 1 (strsL r.feats) .no, .sl 3 (lbsL r.labels) .no, .int .i64 r.seed, .int .i64 r.permille]
def unRqN : AV → Option Rq
 | .agg [.str e, .sl a fs .no, .sl b ls .no, .int .i64 s, .int .i64 p] => match unL unS fs, unL unLb ls with
  | some f, some l => if a = 1 ∧ b = 3 then some ⟨e, f, l, s, p⟩ else none
  | _, _ => none
 | _ => none
theorem unRqN_ok (r : Rq) : unRqN (rqA r) = some r := by
 simp only [unRqN, rqA, unL_map unS_ok, unL_map unLb_ok]; rfl
theorem unRqN_inv (a : AV) (x : Rq) (h : unRqN a = some x) : a = rqA x := by
 unfold unRqN at h
 split at h
 case h_2 => cases h
 split at h
 case h_2 => cases h
 rename_i h1 h2
 split at h
 case isFalse => cases h
 rename_i hh
 injection h with h; subst h
 rw [unL_inv unS_inv h1, unL_inv unLb_inv h2, hh.1, hh.2]; rfl
def tickB (n : Int) : Bool := decide (0 ≤ n) && decide (n ≤ 1099511627776)
def keyC (c : UInt8) : Bool := decide (33 ≤ c.toNat) && decide (c.toNat ≤ 126) && !(c.toNat == 34) && !(c.toNat == 92)
def keyB (s : List UInt8) : Bool := decide (s ≠ []) && decide (s.length ≤ 32) && s.all keyC
def keyErr (s : List UInt8) : Int := if 32 < s.length then 2 else if s = [] then 3 else if s.all keyC then 0 else 3
def lbOk (x : Lb) : Bool := keyB x.key && tickB x.event && tickB x.know
def featsOk : List (List UInt8) → List (List UInt8) → Bool
 | _, [] => true
 | seen, f :: l => nameR f && !seen.contains f && featsOk (seen ++ [f]) l
def headOk (r : Rq) : Bool := nameR r.entity && decide (1 ≤ r.feats.length) && decide (r.feats.length ≤ 8) && decide (r.labels.length ≤ 256) && tickB r.seed && decide (0 ≤ r.permille) && decide (r.permille ≤ 1000)
def formB (r : Rq) : Bool := headOk r && featsOk [] r.feats && r.labels.all lbOk
def maxI : Nat := 9223372036854775807
def s40u : Spec := fun args => match args with
 | [.str s] => some (.bool (nameR s), [])
 | _ => none
def sTick : Spec := fun args => match args with
 | [.int .i64 n] => some (.bool (tickB n), [])
 | _ => none
def s138 : Spec := fun args => match args with
 | [.agg [.int .i64 5, .int .i64 0, .str s]] => some (.int .i64 (keyErr s), [])
 | _ => none
def s94 : Spec := fun args => match args with
 | [.str s] => some (.bool (keyB s), [])
 | _ => none
def s93 : Spec := fun args => match args with
 | [.agg [.str k, .int .i64 a, .int .i64 b]] => some (.bool (!lbOk ⟨k, a, b⟩), [])
 | _ => none
def sIn : Spec := fun args => match args with
 | [.sl sz fs .no, .str x] => match unL unS fs with
  | some l => if sz = 1 ∧ l.length ≤ maxI then some (.bool (l.contains x), []) else none
  | none => none
 | _ => none
def idxS (l : List (List UInt8)) (x : List UInt8) : Int := if x ∈ l then (l.takeWhile fun y => !(x == y)).length else -1
def s136 : Spec := fun args => match args with
 | [.sl sz fs .no, .str x] => match unL unS fs with
  | some l => if sz = 1 ∧ l.length ≤ maxI then some (.int .i64 (idxS l x), []) else none
  | none => none
 | _ => none
def idxP (l : List Lb) : Int := if l.all lbOk then -1 else (l.takeWhile lbOk).length
def s137 : Spec := fun args => match args with
 | [.sl sz ls .no, .fn 93 []] => match unL unLb ls with
  | some l => if sz = 3 ∧ l.length ≤ maxI then some (.int .i64 (idxP l), []) else none
  | none => none
 | _ => none
def s92 : Spec := fun args => match args with
 | [.sl sz ls .no, .fn 93 []] => match unL unLb ls with
  | some l => if sz = 3 ∧ l.length ≤ maxI then some (.bool (!l.all lbOk), []) else none
  | none => none
 | _ => none
def keysOk (l : List Lb) : Bool := l.all fun x => decide (x.key.length ≤ maxI)
def s46 : Spec := fun args => match args with
 | [a] => match unRqN a with
  | some r => some (.bool (formB r), [])
  | none => none
 | _ => none
def X24 : Shapes := fun f => match f with
 | 10 | 20 | 22 | 13 | 33 | 40 | 46 | 77 | 78 | 79 | 90 | 91 | 92 | 93 | 94 | 125 | 24 => some shB
 | 17 | 18 | 136 | 137 | 138 => some shI
 | _ => none
def cut1 (S : St) (sl : List Nat) (vs : List AV) (q : Prop) : Option Ann := some { α := Unit, slots := sl, nb := S.boxes.length, vals := fun _ => vs, sS := fun _ => S, I := fun _ => q, μ := fun _ => 0, keep := some 0 }
def st138 (s : List UInt8) : St := ⟨[some [.int .i64 5, .int .i64 0, .str s]], []⟩
def a138 (s : List UInt8) : Anns := ⟨fun k => match k with
 | 20 => some { α := Nat, slots := [1, 6, 88, 89], nb := 1, vals := fun i => [.ptr 0 0, .int .u8 33, .int .i64 s.length, .int .i64 i], sS := fun _ => st138 s, I := fun i => i ≤ s.length ∧ (s.take i).all keyC = true, μ := fun i => s.length - i }
 | 1000003 => cut1 (st138 s) [1, 3, 4] [.ptr 0 0, .bool false, .bool true] True
 | 1000010 => cut1 (st138 s) [1, 4] [.ptr 0 0, .bool true] True
 | 1000012 => cut1 (st138 s) [1, 4] [.ptr 0 0, .bool true] True
 | 1000015 => cut1 (st138 s) [1, 5, 6] [.ptr 0 0, .int .i64 32, .int .u8 33] True
 | 1000017 => cut1 (st138 s) [1, 6] [.ptr 0 0, .int .u8 33] (s.length ≤ 32)
 | 1000019 => cut1 (st138 s) [1, 6] [.ptr 0 0, .int .u8 33] (s.length ≤ 32 ∧ s ≠ [])
 | _ => none, nA⟩
def aIn (l : List (List UInt8)) (x : List UInt8) : Anns := ⟨fun k => if k = 2 then some { α := Nat, slots := [0, 1, 5], nb := 0, vals := fun i => [.sl 1 (strsL l) .no, .str x, .int .i64 i], sS := fun _ => ⟨[], []⟩, I := fun i => i ≤ l.length ∧ (l.take i).contains x = false, μ := fun i => l.length - i } else none, nA⟩
def a136 (l : List (List UInt8)) (x : List UInt8) : Anns := ⟨fun k => if k = 2 then some { α := Nat, slots := [0, 1, 7, 8], nb := 0, vals := fun i => [.sl 1 (strsL l) .no, .str x, .int .i64 l.length, .int .i64 i], sS := fun _ => ⟨[], []⟩, I := fun i => i ≤ l.length ∧ ∀ y ∈ l.take i, (x == y) = false, μ := fun i => l.length - i } else none, nA⟩
def a137 (l : List Lb) : Anns := ⟨fun k => if k = 2 then some { α := Nat, slots := [0, 1, 7, 8], nb := 0, vals := fun i => [.sl 3 (lbsL l) .no, .fn 93 [], .int .i64 l.length, .int .i64 i], sS := fun _ => ⟨[], []⟩, I := fun i => i ≤ l.length ∧ (l.take i).all lbOk = true, μ := fun i => l.length - i } else none, nA⟩
def stR (r : Rq) : St := ⟨[some [.str r.entity, .sl 1 (strsL r.feats) .no, .sl 3 (lbsL r.labels) .no, .int .i64 r.seed, .int .i64 r.permille]], []⟩
def a46 (r : Rq) : Anns := ⟨fun k => if k = 4 then some { α := Nat, slots := [1, 44, 45, 46], nb := 1, vals := fun i => [.ptr 0 0, .sl 1 (strsL r.feats) .no, .int .i64 r.feats.length, .int .i64 i], sS := fun _ => stR r, I := fun i => i ≤ r.feats.length ∧ featsOk [] r.feats = featsOk (r.feats.take i) (r.feats.drop i), μ := fun i => r.feats.length - i } else none, nA⟩
def t46 : List (FuncId × Spec) := [(40, s40u), (90, sTick), (91, sIn), (92, s92)]
theorem w90 (m : Int) (n : Int) (r : AV) : (pureW PQ (GQ m) X24 (tbl []) (itbl []) nAn [] 90 [.int .i64 n] (r, [])) =
((decide (n ≥ (0 : Int)) = true →
  (decide (n ≤ (1099511627776 : Int)) = true → RetIs (AV.bool true) [] (r, [])) ∧
   (decide (n ≤ (1099511627776 : Int)) = false → RetIs (AV.bool false) [] (r, []))) ∧
 (decide (n ≥ (0 : Int)) = false → RetIs (AV.bool false) [] (r, []))) := by kernel_rfl
theorem w94 (m : Int) (s : List UInt8) (r : AV) : (pureW PQ (GQ m) X24 (tbl [(138, s138)]) (itbl []) nAn [] 94 [.str s] (r, [])) =
(((!s == []) = true →
  ∃ (n : Int),
   CallIs (some (AV.int IntKind.i64 (keyErr s), [])) (AV.int IntKind.i64 n) [] ∧
    ((n == (0 : Int)) = true → RetIs (AV.bool true) [] (r, [])) ∧ ((n == (0 : Int)) = false → RetIs (AV.bool false) [] (r, []))) ∧
 ((!s == []) = false → RetIs (AV.bool false) [] (r, []))) := by kernel_rfl
theorem w93 (m : Int) (x : Lb) (r : AV) : (pureW PQ (GQ m) X24 (tbl [(94, s94), (90, sTick)]) (itbl []) nAn [] 93 [.agg [.str x.key, .int .i64 x.event, .int .i64 x.know]] (r, [])) =
(∃ (b : Bool),
  CallIs (some (AV.bool (keyB x.key), [])) (AV.bool b) [] ∧
    (b = true →
        ∃ (b : Bool),
 CallIs (some (AV.bool (tickB x.event), [])) (AV.bool b) [] ∧
 (b = true →
 ∃ (b : Bool),
 CallIs (some (AV.bool (tickB x.know), [])) (AV.bool b) [] ∧
 (b = true → RetIs (AV.bool false) [] (r, [])) ∧ (b = false → RetIs (AV.bool true) [] (r, []))) ∧
 (b = false → RetIs (AV.bool true) [] (r, []))) ∧
      (b = false → RetIs (AV.bool true) [] (r, []))) := by kernel_rfl
theorem w20 (m : Int) (l : List (List UInt8)) (x : List UInt8) (r : AV) : (pureW PQ (GQ m) X24 (tbl []) (itbl []) (aIn l x) [] 20 [.sl 1 (strsL l) .no, .str x] (r, [])) =
((∃ (y : Nat),
    ValsAre [AV.sl ((1 : Nat)) (strsL l) Own.no, AV.str x, AV.int IntKind.i64 (0 : Int)]
        [AV.sl ((1 : Nat)) (strsL l) Own.no, AV.str x, AV.int IntKind.i64 (↑y : Int)] ∧
      StIs { boxes := [], live := [] } { boxes := [], live := [] } ∧ (y ≤ l.length ∧ (List.take y l).contains x = false) ∧ True) ∧
  ∀ (x_1 : Nat),
    x_1 ≤ l.length ∧ (List.take x_1 l).contains x = false →
      (decide ((↑x_1 : Int) < (↑(strsL l).length : Int)) = true →
 ((0 : Int) ≤ (↑x_1 : Int) ∧ (↑x_1 : Int) < (↑(strsL l).length : Int)) ∧
 ∃ (s : List UInt8),
 takeAt PQ ((9 : Nat)) (strsL l) (↑x_1 : Int).toNat ((0 : Nat)) = some (AV.str s) ∧
 ((s == x) = true → RetIs (AV.bool true) [] (r, [])) ∧
 ((s == x) = false →
 ∃ (y : Nat),
 ValsAre [AV.sl ((1 : Nat)) (strsL l) Own.no, AV.str x, AV.int IntKind.i64 (IntKind.i64.wrap ((↑x_1 : Int) + (1 : Int)))]
 [AV.sl ((1 : Nat)) (strsL l) Own.no, AV.str x, AV.int IntKind.i64 (↑y : Int)] ∧
 StIs { boxes := [], live := [] } { boxes := [], live := [] } ∧
 (y ≤ l.length ∧ (List.take y l).contains x = false) ∧ l.length - y < l.length - x_1)) ∧
        (decide ((↑x_1 : Int) < (↑(strsL l).length : Int)) = false → RetIs (AV.bool false) [] (r, []))) := by kernel_rfl
theorem w136 (m : Int) (l : List (List UInt8)) (x : List UInt8) (r : AV) : (pureW PQ (GQ m) X24 (tbl []) (itbl []) (a136 l x) [] 136 [.sl 1 (strsL l) .no, .str x] (r, [])) =
((∃ (y : Nat),
    ValsAre [AV.sl ((1 : Nat)) (strsL l) Own.no, AV.str x, AV.int IntKind.i64 (↑(strsL l).length : Int), AV.int IntKind.i64 (0 : Int)]
        [AV.sl ((1 : Nat)) (strsL l) Own.no, AV.str x, AV.int IntKind.i64 (↑l.length : Int), AV.int IntKind.i64 (↑y : Int)] ∧
      StIs { boxes := [], live := [] } { boxes := [], live := [] } ∧ (y ≤ l.length ∧ ∀ (y_1 : List UInt8), y_1 ∈ List.take y l → (x == y_1) = false) ∧ True) ∧
  ∀ (x_1 : Nat),
    (x_1 ≤ l.length ∧ ∀ (y : List UInt8), y ∈ List.take x_1 l → (x == y) = false) →
      (decide ((↑x_1 : Int) < (↑l.length : Int)) = true →
 ((0 : Int) ≤ (↑x_1 : Int) ∧ (↑x_1 : Int) < (↑(strsL l).length : Int)) ∧
 ∃ (s : List UInt8),
 takeAt PQ ((9 : Nat)) (strsL l) (↑x_1 : Int).toNat ((0 : Nat)) = some (AV.str s) ∧
 ((x == s) = true → RetIs (AV.int IntKind.i64 (↑x_1 : Int)) [] (r, [])) ∧
 ((x == s) = false →
 ∃ (y : Nat),
 ValsAre
 [AV.sl ((1 : Nat)) (strsL l) Own.no, AV.str x, AV.int IntKind.i64 (↑l.length : Int),
 AV.int IntKind.i64 (IntKind.i64.wrap ((↑x_1 : Int) + (1 : Int)))]
 [AV.sl ((1 : Nat)) (strsL l) Own.no, AV.str x, AV.int IntKind.i64 (↑l.length : Int), AV.int IntKind.i64 (↑y : Int)] ∧
 StIs { boxes := [], live := [] } { boxes := [], live := [] } ∧
 (y ≤ l.length ∧ ∀ (y_1 : List UInt8), y_1 ∈ List.take y l → (x == y_1) = false) ∧ l.length - y < l.length - x_1)) ∧
        (decide ((↑x_1 : Int) < (↑l.length : Int)) = false → RetIs (AV.int IntKind.i64 (-1 : Int)) [] (r, []))) := by kernel_rfl
theorem w91 (m : Int) (l : List (List UInt8)) (x : List UInt8) (r : AV) : (pureW PQ (GQ m) X24 (tbl [(136, s136)]) (itbl []) nAn [] 91 [.sl 1 (strsL l) .no, .str x] (r, [])) =
(∃ (n : Int),
 CallIs (tbl [((136 : Nat), s136)] ((136 : Nat)) [AV.sl ((1 : Nat)) (strsL l) Own.no, AV.str x]) (AV.int IntKind.i64 n) [] ∧
  (decide (n ≥ (0 : Int)) = true → RetIs (AV.bool true) [] (r, [])) ∧ (decide (n ≥ (0 : Int)) = false → RetIs (AV.bool false) [] (r, []))) := by kernel_rfl
theorem w137 (m : Int) (l : List Lb) (r : AV) : (pureW PQ (GQ m) X24 (tbl [(93, s93)]) (itbl []) (a137 l) [] 137 [.sl 3 (lbsL l) .no, .fn 93 []] (r, [])) =
((∃ (y : Nat),
    ValsAre [AV.sl ((3 : Nat)) (lbsL l) Own.no, AV.fn ((93 : Nat)) [], AV.int IntKind.i64 (↑(lbsL l).length : Int), AV.int IntKind.i64 (0 : Int)]
        [AV.sl ((3 : Nat)) (lbsL l) Own.no, AV.fn ((93 : Nat)) [], AV.int IntKind.i64 (↑l.length : Int), AV.int IntKind.i64 (↑y : Int)] ∧
      StIs { boxes := [], live := [] } { boxes := [], live := [] } ∧ (y ≤ l.length ∧ (List.take y l).all lbOk = true) ∧ True) ∧
  ∀ (x : Nat),
    x ≤ l.length ∧ (List.take x l).all lbOk = true →
      (decide ((↑x : Int) < (↑l.length : Int)) = true →
 ((0 : Int) ≤ (↑x : Int) ∧ (↑x : Int) < (↑(lbsL l).length : Int)) ∧
 ∃ (s : List UInt8),
 ∃ (n : Int),
 ∃ (n_1 : Int),
 takeAt PQ ((65 : Nat)) (lbsL l) (↑x : Int).toNat ((0 : Nat)) = some (AV.agg [AV.str s, AV.int IntKind.i64 n, AV.int IntKind.i64 n_1]) ∧
 ∃ (b : Bool),
 CallIs (some (AV.bool !lbOk { key := s, event := n, know := n_1 }, [])) (AV.bool b) [] ∧
 (b = true → RetIs (AV.int IntKind.i64 (↑x : Int)) [] (r, [])) ∧
 (b = false →
 ∃ (y : Nat),
 ValsAre
 [AV.sl ((3 : Nat)) (lbsL l) Own.no, AV.fn ((93 : Nat)) [], AV.int IntKind.i64 (↑l.length : Int),
 AV.int IntKind.i64 (IntKind.i64.wrap ((↑x : Int) + (1 : Int)))]
 [AV.sl ((3 : Nat)) (lbsL l) Own.no, AV.fn ((93 : Nat)) [], AV.int IntKind.i64 (↑l.length : Int),
 AV.int IntKind.i64 (↑y : Int)] ∧
 StIs { boxes := [], live := [] } { boxes := [], live := [] } ∧
 (y ≤ l.length ∧ (List.take y l).all lbOk = true) ∧ l.length - y < l.length - x)) ∧
        (decide ((↑x : Int) < (↑l.length : Int)) = false → RetIs (AV.int IntKind.i64 (-1 : Int)) [] (r, []))) := by kernel_rfl
theorem w92 (m : Int) (l : List Lb) (r : AV) : (pureW PQ (GQ m) X24 (tbl [(137, s137)]) (itbl []) nAn [] 92 [.sl 3 (lbsL l) .no, .fn 93 []] (r, [])) =
(∃ (n : Int),
 CallIs (tbl [((137 : Nat), s137)] ((137 : Nat)) [AV.sl ((3 : Nat)) (lbsL l) Own.no, AV.fn ((93 : Nat)) []]) (AV.int IntKind.i64 n) [] ∧
  (decide (n ≥ (0 : Int)) = true → RetIs (AV.bool true) [] (r, [])) ∧ (decide (n ≥ (0 : Int)) = false → RetIs (AV.bool false) [] (r, []))) := by kernel_rfl
theorem w46 (m : Int) (x : Rq) (r : AV) : (pureW PQ (GQ m) X24 (tbl t46) (itbl []) (a46 x) [] 46 [rqA x] (r, [])) =
(∃ (b : Bool),
  CallIs (some (AV.bool (nameR x.entity), [])) (AV.bool b) [] ∧
    (b = true →
        (decide ((↑(strsL x.feats).length : Int) < (1 : Int)) = true → RetIs (AV.bool false) [] (r, [])) ∧
 (decide ((↑(strsL x.feats).length : Int) < (1 : Int)) = false →
 (decide ((↑(strsL x.feats).length : Int) > (8 : Int)) = true → RetIs (AV.bool false) [] (r, [])) ∧
 (decide ((↑(strsL x.feats).length : Int) > (8 : Int)) = false →
 (decide ((↑(lbsL x.labels).length : Int) > (256 : Int)) = true → RetIs (AV.bool false) [] (r, [])) ∧
 (decide ((↑(lbsL x.labels).length : Int) > (256 : Int)) = false →
 ∃ (b : Bool),
 CallIs (some (AV.bool (tickB x.seed), [])) (AV.bool b) [] ∧
 (b = true →
 (decide (x.permille < (0 : Int)) = true → RetIs (AV.bool false) [] (r, [])) ∧
 (decide (x.permille < (0 : Int)) = false →
 (decide (x.permille > (1000 : Int)) = true → RetIs (AV.bool false) [] (r, [])) ∧
 (decide (x.permille > (1000 : Int)) = false →
 (∃ (y : Nat),
 ValsAre
 [AV.ptr ((0 : Nat)) ((0 : Nat)), AV.sl ((1 : Nat)) (strsL x.feats) Own.no,
 AV.int IntKind.i64 (↑(strsL x.feats).length : Int), AV.int IntKind.i64 (0 : Int)]
 [AV.ptr ((0 : Nat)) ((0 : Nat)), AV.sl ((1 : Nat)) (strsL x.feats) Own.no,
 AV.int IntKind.i64 (↑x.feats.length : Int), AV.int IntKind.i64 (↑y : Int)] ∧
 StIs
 { boxes := [some [AV.str x.entity, AV.sl ((1 : Nat)) (strsL x.feats) Own.no, AV.sl ((3 : Nat)) (lbsL x.labels) Own.no, AV.int IntKind.i64 x.seed, AV.int IntKind.i64 x.permille]], live := [] }
 { boxes := [some [AV.str x.entity, AV.sl ((1 : Nat)) (strsL x.feats) Own.no, AV.sl ((3 : Nat)) (lbsL x.labels) Own.no, AV.int IntKind.i64 x.seed, AV.int IntKind.i64 x.permille]], live := [] } ∧
 (y ≤ x.feats.length ∧ featsOk [] x.feats = featsOk (List.take y x.feats) (List.drop y x.feats)) ∧ True) ∧
 ∀ (x_1 : Nat),
 x_1 ≤ x.feats.length ∧ featsOk [] x.feats = featsOk (List.take x_1 x.feats) (List.drop x_1 x.feats) →
 (decide ((↑x_1 : Int) < (↑x.feats.length : Int)) = true →
 ((0 : Int) ≤ (↑x_1 : Int) ∧ (↑x_1 : Int) < (↑(strsL x.feats).length : Int)) ∧
 ∃ (s : List UInt8),
 takeAt PQ ((9 : Nat)) (strsL x.feats) (↑x_1 : Int).toNat ((0 : Nat)) = some (AV.str s) ∧
 ∃ (b : Bool),
 CallIs (some (AV.bool (nameR s), [])) (AV.bool b) [] ∧
 (b = true →
 (0 : Int) ≤ (↑x_1 : Int) ∧
 ((0 : Nat) ≤ (↑x_1 : Int).toNat ∧ (↑x_1 : Int).toNat ≤ (strsL x.feats).length) ∧
 ((1 : Nat) = (1 : Nat) ∨ strsL x.feats = []) ∧
 ∃ (b : Bool),
 CallIs
 (tbl [((40 : Nat), s40u), ((90 : Nat), sTick), ((91 : Nat), sIn), ((92 : Nat), s92)]
 ((91 : Nat))
 [AV.sl ((1 : Nat))
 (List.drop ((0 : Nat)) (List.take (↑x_1 : Int).toNat (strsL x.feats))) Own.no,
 AV.str s])
 (AV.bool b) [] ∧
 (b = true → RetIs (AV.bool false) [] (r, [])) ∧
 (b = false →
 ∃ (y : Nat),
 ValsAre
 [AV.ptr ((0 : Nat)) ((0 : Nat)), AV.sl ((1 : Nat)) (strsL x.feats) Own.no,
 AV.int IntKind.i64 (↑x.feats.length : Int),
 AV.int IntKind.i64 (IntKind.i64.wrap ((↑x_1 : Int) + (1 : Int)))]
 [AV.ptr ((0 : Nat)) ((0 : Nat)), AV.sl ((1 : Nat)) (strsL x.feats) Own.no,
 AV.int IntKind.i64 (↑x.feats.length : Int), AV.int IntKind.i64 (↑y : Int)] ∧
 StIs
 { boxes := [some [AV.str x.entity, AV.sl ((1 : Nat)) (strsL x.feats) Own.no, AV.sl ((3 : Nat)) (lbsL x.labels) Own.no, AV.int IntKind.i64 x.seed, AV.int IntKind.i64 x.permille]], live := [] }
 { boxes := [some [AV.str x.entity, AV.sl ((1 : Nat)) (strsL x.feats) Own.no, AV.sl ((3 : Nat)) (lbsL x.labels) Own.no, AV.int IntKind.i64 x.seed, AV.int IntKind.i64 x.permille]], live := [] } ∧
 (y ≤ x.feats.length ∧
 featsOk [] x.feats = featsOk (List.take y x.feats) (List.drop y x.feats)) ∧
 x.feats.length - y < x.feats.length - x_1)) ∧
 (b = false → RetIs (AV.bool false) [] (r, []))) ∧
 (decide ((↑x_1 : Int) < (↑x.feats.length : Int)) = false →
 ∃ (b : Bool),
 CallIs
 (tbl [((40 : Nat), s40u), ((90 : Nat), sTick), ((91 : Nat), sIn), ((92 : Nat), s92)] ((92 : Nat))
 [AV.sl ((3 : Nat)) (lbsL x.labels) Own.no, AV.fn ((93 : Nat)) []])
 (AV.bool b) [] ∧
 (b = true → RetIs (AV.bool false) [] (r, [])) ∧ (b = false → RetIs (AV.bool true) [] (r, [])))))) ∧
 (b = false → RetIs (AV.bool false) [] (r, [])))))) ∧
      (b = false → RetIs (AV.bool false) [] (r, []))) := by kernel_rfl
theorem w138 (m : Int) (s : List UInt8) (r : AV) : (pureW PQ (GQ m) X24 (tbl []) (itbl []) (a138 s) [] 138 [.agg [.int .i64 5, .int .i64 0, .str s]] (r, [])) =
((false = true →
    ((false = true →
 ∃ (_y : Unit),
 ValsAre [AV.ptr ((0 : Nat)) ((0 : Nat)), AV.bool true, AV.bool true] [AV.ptr ((0 : Nat)) ((0 : Nat)), AV.bool false, AV.bool true] ∧
 StIs { boxes := [some [AV.int IntKind.i64 (5 : Int), AV.int IntKind.i64 (0 : Int), AV.str s]], live := [] }
 { boxes := [some [AV.int IntKind.i64 (5 : Int), AV.int IntKind.i64 (0 : Int), AV.str s]], live := [] } ∧
 True ∧ True) ∧
        (false = false →
 (true = true →
 ∃ (_y : Unit),
 ValsAre [AV.ptr ((0 : Nat)) ((0 : Nat)), AV.bool true, AV.bool true] [AV.ptr ((0 : Nat)) ((0 : Nat)), AV.bool false, AV.bool true] ∧
 StIs { boxes := [some [AV.int IntKind.i64 (5 : Int), AV.int IntKind.i64 (0 : Int), AV.str s]], live := [] }
 { boxes := [some [AV.int IntKind.i64 (5 : Int), AV.int IntKind.i64 (0 : Int), AV.str s]], live := [] } ∧
 True ∧ True) ∧
 (true = false →
 ∃ (_y : Unit),
 ValsAre [AV.ptr ((0 : Nat)) ((0 : Nat)), AV.bool true, AV.bool false] [AV.ptr ((0 : Nat)) ((0 : Nat)), AV.bool false, AV.bool true] ∧
 StIs { boxes := [some [AV.int IntKind.i64 (5 : Int), AV.int IntKind.i64 (0 : Int), AV.str s]], live := [] }
 { boxes := [some [AV.int IntKind.i64 (5 : Int), AV.int IntKind.i64 (0 : Int), AV.str s]], live := [] } ∧
 True ∧ True))) ∧
      ∀ (_x : Unit),
        True →
 True →
 ((false = true → RetIs (AV.int IntKind.i64 (1 : Int)) [] (r, [])) ∧
 (false = false →
 (false = true → RetIs (AV.int IntKind.i64 (1 : Int)) [] (r, [])) ∧
 (false = false →
 (false = true →
 (true = true → RetIs (AV.int IntKind.i64 (1 : Int)) [] (r, [])) ∧
 (true = false →
 (true = true → RetIs (AV.int IntKind.i64 (1 : Int)) [] (r, [])) ∧
 (true = false →
 (false = true → RetIs (AV.int IntKind.i64 (2 : Int)) [] (r, [])) ∧
 (false = false →
 (false = true → RetIs (AV.int IntKind.i64 (2 : Int)) [] (r, [])) ∧
 (false = false →
 ∃ (_y : Unit),
 ValsAre [AV.ptr ((0 : Nat)) ((0 : Nat)), AV.bool true] [AV.ptr ((0 : Nat)) ((0 : Nat)), AV.bool true] ∧
 StIs { boxes := [some [AV.int IntKind.i64 (5 : Int), AV.int IntKind.i64 (0 : Int), AV.str s]], live := [] }
 { boxes := [some [AV.int IntKind.i64 (5 : Int), AV.int IntKind.i64 (0 : Int), AV.str s]], live := [] } ∧
 True ∧ True))))) ∧
 (false = false →
 (false = true → RetIs (AV.int IntKind.i64 (2 : Int)) [] (r, [])) ∧
 (false = false →
 (false = true → RetIs (AV.int IntKind.i64 (2 : Int)) [] (r, [])) ∧
 (false = false →
 ∃ (_y : Unit),
 ValsAre [AV.ptr ((0 : Nat)) ((0 : Nat)), AV.bool true] [AV.ptr ((0 : Nat)) ((0 : Nat)), AV.bool true] ∧
 StIs { boxes := [some [AV.int IntKind.i64 (5 : Int), AV.int IntKind.i64 (0 : Int), AV.str s]], live := [] }
 { boxes := [some [AV.int IntKind.i64 (5 : Int), AV.int IntKind.i64 (0 : Int), AV.str s]], live := [] } ∧
 True ∧ True)))))) ∧
 ∀ (_x : Unit),
 True →
 True →
 (∃ (_y : Unit),
 ValsAre [AV.ptr ((0 : Nat)) ((0 : Nat)), AV.bool true] [AV.ptr ((0 : Nat)) ((0 : Nat)), AV.bool true] ∧
 StIs { boxes := [some [AV.int IntKind.i64 (5 : Int), AV.int IntKind.i64 (0 : Int), AV.str s]], live := [] }
 { boxes := [some [AV.int IntKind.i64 (5 : Int), AV.int IntKind.i64 (0 : Int), AV.str s]], live := [] } ∧
 True ∧ True) ∧
 ∀ (_x : Unit),
 True →
 True →
 ((true = true →
 ∃ (_y : Unit),
 ValsAre [AV.ptr ((0 : Nat)) ((0 : Nat)), AV.int IntKind.i64 (32 : Int), AV.int IntKind.u8 (33 : Int)]
 [AV.ptr ((0 : Nat)) ((0 : Nat)), AV.int IntKind.i64 (32 : Int), AV.int IntKind.u8 (33 : Int)] ∧
 StIs { boxes := [some [AV.int IntKind.i64 (5 : Int), AV.int IntKind.i64 (0 : Int), AV.str s]], live := [] }
 { boxes := [some [AV.int IntKind.i64 (5 : Int), AV.int IntKind.i64 (0 : Int), AV.str s]], live := [] } ∧
 True ∧ True) ∧
 (true = false →
 ∃ (_y : Unit),
 ValsAre [AV.ptr ((0 : Nat)) ((0 : Nat)), AV.int IntKind.i64 (64 : Int), AV.int IntKind.u8 (32 : Int)]
 [AV.ptr ((0 : Nat)) ((0 : Nat)), AV.int IntKind.i64 (32 : Int), AV.int IntKind.u8 (33 : Int)] ∧
 StIs { boxes := [some [AV.int IntKind.i64 (5 : Int), AV.int IntKind.i64 (0 : Int), AV.str s]], live := [] }
 { boxes := [some [AV.int IntKind.i64 (5 : Int), AV.int IntKind.i64 (0 : Int), AV.str s]], live := [] } ∧
 True ∧ True)) ∧
 ∀ (_x : Unit),
 True →
 True →
 ((decide ((↑s.length : Int) > (32 : Int)) = true → RetIs (AV.int IntKind.i64 (2 : Int)) [] (r, [])) ∧
 (decide ((↑s.length : Int) > (32 : Int)) = false →
 ∃ (_y : Unit),
 ValsAre [AV.ptr ((0 : Nat)) ((0 : Nat)), AV.int IntKind.u8 (33 : Int)]
 [AV.ptr ((0 : Nat)) ((0 : Nat)), AV.int IntKind.u8 (33 : Int)] ∧
 StIs { boxes := [some [AV.int IntKind.i64 (5 : Int), AV.int IntKind.i64 (0 : Int), AV.str s]], live := [] }
 { boxes := [some [AV.int IntKind.i64 (5 : Int), AV.int IntKind.i64 (0 : Int), AV.str s]], live := [] } ∧
 s.length ≤ (32 : Nat) ∧ True)) ∧
 ∀ (_x : Unit),
 s.length ≤ (32 : Nat) →
 True →
 ((true = true →
 ((s == []) = true → RetIs (AV.int IntKind.i64 (3 : Int)) [] (r, [])) ∧
 ((s == []) = false →
 ∃ (_y : Unit),
 ValsAre [AV.ptr ((0 : Nat)) ((0 : Nat)), AV.int IntKind.u8 (33 : Int)]
 [AV.ptr ((0 : Nat)) ((0 : Nat)), AV.int IntKind.u8 (33 : Int)] ∧
 StIs
 { boxes := [some [AV.int IntKind.i64 (5 : Int), AV.int IntKind.i64 (0 : Int), AV.str s]], live := [] }
 { boxes := [some [AV.int IntKind.i64 (5 : Int), AV.int IntKind.i64 (0 : Int), AV.str s]], live := [] } ∧
 (s.length ≤ (32 : Nat) ∧ s ≠ []) ∧ True)) ∧
 (true = false →
 ∃ (_y : Unit),
 ValsAre [AV.ptr ((0 : Nat)) ((0 : Nat)), AV.int IntKind.u8 (33 : Int)]
 [AV.ptr ((0 : Nat)) ((0 : Nat)), AV.int IntKind.u8 (33 : Int)] ∧
 StIs
 { boxes := [some [AV.int IntKind.i64 (5 : Int), AV.int IntKind.i64 (0 : Int), AV.str s]], live := [] }
 { boxes := [some [AV.int IntKind.i64 (5 : Int), AV.int IntKind.i64 (0 : Int), AV.str s]], live := [] } ∧
 (s.length ≤ (32 : Nat) ∧ s ≠ []) ∧ True)) ∧
 ∀ (_x : Unit),
 s.length ≤ (32 : Nat) ∧ s ≠ [] →
 True →
 (∃ (y : Nat),
 ValsAre
 [AV.ptr ((0 : Nat)) ((0 : Nat)), AV.int IntKind.u8 (33 : Int), AV.int IntKind.i64 (↑s.length : Int),
 AV.int IntKind.i64 (0 : Int)]
 [AV.ptr ((0 : Nat)) ((0 : Nat)), AV.int IntKind.u8 (33 : Int), AV.int IntKind.i64 (↑s.length : Int),
 AV.int IntKind.i64 (↑y : Int)] ∧
 StIs
 { boxes := [some [AV.int IntKind.i64 (5 : Int), AV.int IntKind.i64 (0 : Int), AV.str s]], live := [] }
 { boxes := [some [AV.int IntKind.i64 (5 : Int), AV.int IntKind.i64 (0 : Int), AV.str s]], live := [] } ∧
 (y ≤ s.length ∧ (List.take y s).all keyC = true) ∧ True) ∧
 ∀ (x : Nat),
 x ≤ s.length ∧ (List.take x s).all keyC = true →
 (decide ((↑x : Int) < (↑s.length : Int)) = true →
 (0 : Int) ≤ (↑x : Int) ∧
 ∃ (c : UInt8),
 s[(↑x : Int).toNat]? = some c ∧
 (decide ((↑c.toNat : Int) < (33 : Int)) = true →
 RetIs (AV.int IntKind.i64 (3 : Int)) [] (r, [])) ∧
 (decide ((↑c.toNat : Int) < (33 : Int)) = false →
 (decide ((↑c.toNat : Int) > (126 : Int)) = true →
 RetIs (AV.int IntKind.i64 (3 : Int)) [] (r, [])) ∧
 (decide ((↑c.toNat : Int) > (126 : Int)) = false →
 (((↑c.toNat : Int) == (34 : Int)) = true →
 RetIs (AV.int IntKind.i64 (3 : Int)) [] (r, [])) ∧
 (((↑c.toNat : Int) == (34 : Int)) = false →
 (((↑c.toNat : Int) == (92 : Int)) = true →
 RetIs (AV.int IntKind.i64 (3 : Int)) [] (r, [])) ∧
 (((↑c.toNat : Int) == (92 : Int)) = false →
 ∃ (y : Nat),
 ValsAre
 [AV.ptr ((0 : Nat)) ((0 : Nat)), AV.int IntKind.u8 (33 : Int),
 AV.int IntKind.i64 (↑s.length : Int),
 AV.int IntKind.i64 (IntKind.i64.wrap ((↑x : Int) + (1 : Int)))]
 [AV.ptr ((0 : Nat)) ((0 : Nat)), AV.int IntKind.u8 (33 : Int),
 AV.int IntKind.i64 (↑s.length : Int),
 AV.int IntKind.i64 (↑y : Int)] ∧
 StIs
 { boxes := [some [AV.int IntKind.i64 (5 : Int), AV.int IntKind.i64 (0 : Int), AV.str s]], live := [] }
 { boxes := [some [AV.int IntKind.i64 (5 : Int), AV.int IntKind.i64 (0 : Int), AV.str s]], live := [] } ∧
 (y ≤ s.length ∧ (List.take y s).all keyC = true) ∧
 s.length - y < s.length - x))))) ∧
 (decide ((↑x : Int) < (↑s.length : Int)) = false →
 RetIs (AV.int IntKind.i64 (0 : Int)) [] (r, []))) ∧
  (false = false →
    (false = true →
        ((false = true →
 ∃ (_y : Unit),
 ValsAre [AV.ptr ((0 : Nat)) ((0 : Nat)), AV.bool true, AV.bool true] [AV.ptr ((0 : Nat)) ((0 : Nat)), AV.bool false, AV.bool true] ∧
 StIs { boxes := [some [AV.int IntKind.i64 (5 : Int), AV.int IntKind.i64 (0 : Int), AV.str s]], live := [] }
 { boxes := [some [AV.int IntKind.i64 (5 : Int), AV.int IntKind.i64 (0 : Int), AV.str s]], live := [] } ∧
 True ∧ True) ∧
 (false = false →
 (true = true →
 ∃ (_y : Unit),
 ValsAre [AV.ptr ((0 : Nat)) ((0 : Nat)), AV.bool true, AV.bool true] [AV.ptr ((0 : Nat)) ((0 : Nat)), AV.bool false, AV.bool true] ∧
 StIs { boxes := [some [AV.int IntKind.i64 (5 : Int), AV.int IntKind.i64 (0 : Int), AV.str s]], live := [] }
 { boxes := [some [AV.int IntKind.i64 (5 : Int), AV.int IntKind.i64 (0 : Int), AV.str s]], live := [] } ∧
 True ∧ True) ∧
 (true = false →
 ∃ (_y : Unit),
 ValsAre [AV.ptr ((0 : Nat)) ((0 : Nat)), AV.bool true, AV.bool false] [AV.ptr ((0 : Nat)) ((0 : Nat)), AV.bool false, AV.bool true] ∧
 StIs { boxes := [some [AV.int IntKind.i64 (5 : Int), AV.int IntKind.i64 (0 : Int), AV.str s]], live := [] }
 { boxes := [some [AV.int IntKind.i64 (5 : Int), AV.int IntKind.i64 (0 : Int), AV.str s]], live := [] } ∧
 True ∧ True))) ∧
 ∀ (_x : Unit),
 True →
 True →
 ((false = true → RetIs (AV.int IntKind.i64 (1 : Int)) [] (r, [])) ∧
 (false = false →
 (false = true → RetIs (AV.int IntKind.i64 (1 : Int)) [] (r, [])) ∧
 (false = false →
 (false = true →
 (true = true → RetIs (AV.int IntKind.i64 (1 : Int)) [] (r, [])) ∧
 (true = false →
 (true = true → RetIs (AV.int IntKind.i64 (1 : Int)) [] (r, [])) ∧
 (true = false →
 (false = true → RetIs (AV.int IntKind.i64 (2 : Int)) [] (r, [])) ∧
 (false = false →
 (false = true → RetIs (AV.int IntKind.i64 (2 : Int)) [] (r, [])) ∧
 (false = false →
 ∃ (_y : Unit),
 ValsAre [AV.ptr ((0 : Nat)) ((0 : Nat)), AV.bool true] [AV.ptr ((0 : Nat)) ((0 : Nat)), AV.bool true] ∧
 StIs { boxes := [some [AV.int IntKind.i64 (5 : Int), AV.int IntKind.i64 (0 : Int), AV.str s]], live := [] }
 { boxes := [some [AV.int IntKind.i64 (5 : Int), AV.int IntKind.i64 (0 : Int), AV.str s]], live := [] } ∧
 True ∧ True))))) ∧
 (false = false →
 (false = true → RetIs (AV.int IntKind.i64 (2 : Int)) [] (r, [])) ∧
 (false = false →
 (false = true → RetIs (AV.int IntKind.i64 (2 : Int)) [] (r, [])) ∧
 (false = false →
 ∃ (_y : Unit),
 ValsAre [AV.ptr ((0 : Nat)) ((0 : Nat)), AV.bool true] [AV.ptr ((0 : Nat)) ((0 : Nat)), AV.bool true] ∧
 StIs { boxes := [some [AV.int IntKind.i64 (5 : Int), AV.int IntKind.i64 (0 : Int), AV.str s]], live := [] }
 { boxes := [some [AV.int IntKind.i64 (5 : Int), AV.int IntKind.i64 (0 : Int), AV.str s]], live := [] } ∧
 True ∧ True)))))) ∧
 ∀ (_x : Unit),
 True →
 True →
 (∃ (_y : Unit),
 ValsAre [AV.ptr ((0 : Nat)) ((0 : Nat)), AV.bool true] [AV.ptr ((0 : Nat)) ((0 : Nat)), AV.bool true] ∧
 StIs { boxes := [some [AV.int IntKind.i64 (5 : Int), AV.int IntKind.i64 (0 : Int), AV.str s]], live := [] }
 { boxes := [some [AV.int IntKind.i64 (5 : Int), AV.int IntKind.i64 (0 : Int), AV.str s]], live := [] } ∧
 True ∧ True) ∧
 ∀ (_x : Unit),
 True →
 True →
 ((true = true →
 ∃ (_y : Unit),
 ValsAre [AV.ptr ((0 : Nat)) ((0 : Nat)), AV.int IntKind.i64 (32 : Int), AV.int IntKind.u8 (33 : Int)]
 [AV.ptr ((0 : Nat)) ((0 : Nat)), AV.int IntKind.i64 (32 : Int), AV.int IntKind.u8 (33 : Int)] ∧
 StIs { boxes := [some [AV.int IntKind.i64 (5 : Int), AV.int IntKind.i64 (0 : Int), AV.str s]], live := [] }
 { boxes := [some [AV.int IntKind.i64 (5 : Int), AV.int IntKind.i64 (0 : Int), AV.str s]], live := [] } ∧
 True ∧ True) ∧
 (true = false →
 ∃ (_y : Unit),
 ValsAre [AV.ptr ((0 : Nat)) ((0 : Nat)), AV.int IntKind.i64 (64 : Int), AV.int IntKind.u8 (32 : Int)]
 [AV.ptr ((0 : Nat)) ((0 : Nat)), AV.int IntKind.i64 (32 : Int), AV.int IntKind.u8 (33 : Int)] ∧
 StIs { boxes := [some [AV.int IntKind.i64 (5 : Int), AV.int IntKind.i64 (0 : Int), AV.str s]], live := [] }
 { boxes := [some [AV.int IntKind.i64 (5 : Int), AV.int IntKind.i64 (0 : Int), AV.str s]], live := [] } ∧
 True ∧ True)) ∧
 ∀ (_x : Unit),
 True →
 True →
 ((decide ((↑s.length : Int) > (32 : Int)) = true → RetIs (AV.int IntKind.i64 (2 : Int)) [] (r, [])) ∧
 (decide ((↑s.length : Int) > (32 : Int)) = false →
 ∃ (_y : Unit),
 ValsAre [AV.ptr ((0 : Nat)) ((0 : Nat)), AV.int IntKind.u8 (33 : Int)]
 [AV.ptr ((0 : Nat)) ((0 : Nat)), AV.int IntKind.u8 (33 : Int)] ∧
 StIs { boxes := [some [AV.int IntKind.i64 (5 : Int), AV.int IntKind.i64 (0 : Int), AV.str s]], live := [] }
 { boxes := [some [AV.int IntKind.i64 (5 : Int), AV.int IntKind.i64 (0 : Int), AV.str s]], live := [] } ∧
 s.length ≤ (32 : Nat) ∧ True)) ∧
 ∀ (_x : Unit),
 s.length ≤ (32 : Nat) →
 True →
 ((true = true →
 ((s == []) = true → RetIs (AV.int IntKind.i64 (3 : Int)) [] (r, [])) ∧
 ((s == []) = false →
 ∃ (_y : Unit),
 ValsAre [AV.ptr ((0 : Nat)) ((0 : Nat)), AV.int IntKind.u8 (33 : Int)]
 [AV.ptr ((0 : Nat)) ((0 : Nat)), AV.int IntKind.u8 (33 : Int)] ∧
 StIs
 { boxes := [some [AV.int IntKind.i64 (5 : Int), AV.int IntKind.i64 (0 : Int), AV.str s]], live := [] }
 { boxes := [some [AV.int IntKind.i64 (5 : Int), AV.int IntKind.i64 (0 : Int), AV.str s]], live := [] } ∧
 (s.length ≤ (32 : Nat) ∧ s ≠ []) ∧ True)) ∧
 (true = false →
 ∃ (_y : Unit),
 ValsAre [AV.ptr ((0 : Nat)) ((0 : Nat)), AV.int IntKind.u8 (33 : Int)]
 [AV.ptr ((0 : Nat)) ((0 : Nat)), AV.int IntKind.u8 (33 : Int)] ∧
 StIs
 { boxes := [some [AV.int IntKind.i64 (5 : Int), AV.int IntKind.i64 (0 : Int), AV.str s]], live := [] }
 { boxes := [some [AV.int IntKind.i64 (5 : Int), AV.int IntKind.i64 (0 : Int), AV.str s]], live := [] } ∧
 (s.length ≤ (32 : Nat) ∧ s ≠ []) ∧ True)) ∧
 ∀ (_x : Unit),
 s.length ≤ (32 : Nat) ∧ s ≠ [] →
 True →
 (∃ (y : Nat),
 ValsAre
 [AV.ptr ((0 : Nat)) ((0 : Nat)), AV.int IntKind.u8 (33 : Int),
 AV.int IntKind.i64 (↑s.length : Int), AV.int IntKind.i64 (0 : Int)]
 [AV.ptr ((0 : Nat)) ((0 : Nat)), AV.int IntKind.u8 (33 : Int),
 AV.int IntKind.i64 (↑s.length : Int), AV.int IntKind.i64 (↑y : Int)] ∧
 StIs
 { boxes := [some [AV.int IntKind.i64 (5 : Int), AV.int IntKind.i64 (0 : Int), AV.str s]], live := [] }
 { boxes := [some [AV.int IntKind.i64 (5 : Int), AV.int IntKind.i64 (0 : Int), AV.str s]], live := [] } ∧
 (y ≤ s.length ∧ (List.take y s).all keyC = true) ∧ True) ∧
 ∀ (x : Nat),
 x ≤ s.length ∧ (List.take x s).all keyC = true →
 (decide ((↑x : Int) < (↑s.length : Int)) = true →
 (0 : Int) ≤ (↑x : Int) ∧
 ∃ (c : UInt8),
 s[(↑x : Int).toNat]? = some c ∧
 (decide ((↑c.toNat : Int) < (33 : Int)) = true →
 RetIs (AV.int IntKind.i64 (3 : Int)) [] (r, [])) ∧
 (decide ((↑c.toNat : Int) < (33 : Int)) = false →
 (decide ((↑c.toNat : Int) > (126 : Int)) = true →
 RetIs (AV.int IntKind.i64 (3 : Int)) [] (r, [])) ∧
 (decide ((↑c.toNat : Int) > (126 : Int)) = false →
 (((↑c.toNat : Int) == (34 : Int)) = true →
 RetIs (AV.int IntKind.i64 (3 : Int)) [] (r, [])) ∧
 (((↑c.toNat : Int) == (34 : Int)) = false →
 (((↑c.toNat : Int) == (92 : Int)) = true →
 RetIs (AV.int IntKind.i64 (3 : Int)) [] (r, [])) ∧
 (((↑c.toNat : Int) == (92 : Int)) = false →
 ∃ (y : Nat),
 ValsAre
 [AV.ptr ((0 : Nat)) ((0 : Nat)), AV.int IntKind.u8 (33 : Int),
 AV.int IntKind.i64 (↑s.length : Int),
 AV.int IntKind.i64 (IntKind.i64.wrap ((↑x : Int) + (1 : Int)))]
 [AV.ptr ((0 : Nat)) ((0 : Nat)), AV.int IntKind.u8 (33 : Int),
 AV.int IntKind.i64 (↑s.length : Int),
 AV.int IntKind.i64 (↑y : Int)] ∧
 StIs
 { boxes := [some [AV.int IntKind.i64 (5 : Int), AV.int IntKind.i64 (0 : Int), AV.str s]], live := [] }
 { boxes := [some [AV.int IntKind.i64 (5 : Int), AV.int IntKind.i64 (0 : Int), AV.str s]], live := [] } ∧
 (y ≤ s.length ∧ (List.take y s).all keyC = true) ∧
 s.length - y < s.length - x))))) ∧
 (decide ((↑x : Int) < (↑s.length : Int)) = false →
 RetIs (AV.int IntKind.i64 (0 : Int)) [] (r, []))) ∧
      (false = false →
        ((false = true →
 ∃ (_y : Unit),
 ValsAre [AV.ptr ((0 : Nat)) ((0 : Nat)), AV.bool false, AV.bool true] [AV.ptr ((0 : Nat)) ((0 : Nat)), AV.bool false, AV.bool true] ∧
 StIs { boxes := [some [AV.int IntKind.i64 (5 : Int), AV.int IntKind.i64 (0 : Int), AV.str s]], live := [] }
 { boxes := [some [AV.int IntKind.i64 (5 : Int), AV.int IntKind.i64 (0 : Int), AV.str s]], live := [] } ∧
 True ∧ True) ∧
 (false = false →
 (true = true →
 ∃ (_y : Unit),
 ValsAre [AV.ptr ((0 : Nat)) ((0 : Nat)), AV.bool false, AV.bool true] [AV.ptr ((0 : Nat)) ((0 : Nat)), AV.bool false, AV.bool true] ∧
 StIs { boxes := [some [AV.int IntKind.i64 (5 : Int), AV.int IntKind.i64 (0 : Int), AV.str s]], live := [] }
 { boxes := [some [AV.int IntKind.i64 (5 : Int), AV.int IntKind.i64 (0 : Int), AV.str s]], live := [] } ∧
 True ∧ True) ∧
 (true = false →
 ∃ (_y : Unit),
 ValsAre [AV.ptr ((0 : Nat)) ((0 : Nat)), AV.bool false, AV.bool false] [AV.ptr ((0 : Nat)) ((0 : Nat)), AV.bool false, AV.bool true] ∧
 StIs { boxes := [some [AV.int IntKind.i64 (5 : Int), AV.int IntKind.i64 (0 : Int), AV.str s]], live := [] }
 { boxes := [some [AV.int IntKind.i64 (5 : Int), AV.int IntKind.i64 (0 : Int), AV.str s]], live := [] } ∧
 True ∧ True))) ∧
 ∀ (_x : Unit),
 True →
 True →
 ((false = true → RetIs (AV.int IntKind.i64 (1 : Int)) [] (r, [])) ∧
 (false = false →
 (false = true → RetIs (AV.int IntKind.i64 (1 : Int)) [] (r, [])) ∧
 (false = false →
 (false = true →
 (true = true → RetIs (AV.int IntKind.i64 (1 : Int)) [] (r, [])) ∧
 (true = false →
 (true = true → RetIs (AV.int IntKind.i64 (1 : Int)) [] (r, [])) ∧
 (true = false →
 (false = true → RetIs (AV.int IntKind.i64 (2 : Int)) [] (r, [])) ∧
 (false = false →
 (false = true → RetIs (AV.int IntKind.i64 (2 : Int)) [] (r, [])) ∧
 (false = false →
 ∃ (_y : Unit),
 ValsAre [AV.ptr ((0 : Nat)) ((0 : Nat)), AV.bool true] [AV.ptr ((0 : Nat)) ((0 : Nat)), AV.bool true] ∧
 StIs { boxes := [some [AV.int IntKind.i64 (5 : Int), AV.int IntKind.i64 (0 : Int), AV.str s]], live := [] }
 { boxes := [some [AV.int IntKind.i64 (5 : Int), AV.int IntKind.i64 (0 : Int), AV.str s]], live := [] } ∧
 True ∧ True))))) ∧
 (false = false →
 (false = true → RetIs (AV.int IntKind.i64 (2 : Int)) [] (r, [])) ∧
 (false = false →
 (false = true → RetIs (AV.int IntKind.i64 (2 : Int)) [] (r, [])) ∧
 (false = false →
 ∃ (_y : Unit),
 ValsAre [AV.ptr ((0 : Nat)) ((0 : Nat)), AV.bool true] [AV.ptr ((0 : Nat)) ((0 : Nat)), AV.bool true] ∧
 StIs { boxes := [some [AV.int IntKind.i64 (5 : Int), AV.int IntKind.i64 (0 : Int), AV.str s]], live := [] }
 { boxes := [some [AV.int IntKind.i64 (5 : Int), AV.int IntKind.i64 (0 : Int), AV.str s]], live := [] } ∧
 True ∧ True)))))) ∧
 ∀ (_x : Unit),
 True →
 True →
 (∃ (_y : Unit),
 ValsAre [AV.ptr ((0 : Nat)) ((0 : Nat)), AV.bool true] [AV.ptr ((0 : Nat)) ((0 : Nat)), AV.bool true] ∧
 StIs { boxes := [some [AV.int IntKind.i64 (5 : Int), AV.int IntKind.i64 (0 : Int), AV.str s]], live := [] }
 { boxes := [some [AV.int IntKind.i64 (5 : Int), AV.int IntKind.i64 (0 : Int), AV.str s]], live := [] } ∧
 True ∧ True) ∧
 ∀ (_x : Unit),
 True →
 True →
 ((true = true →
 ∃ (_y : Unit),
 ValsAre [AV.ptr ((0 : Nat)) ((0 : Nat)), AV.int IntKind.i64 (32 : Int), AV.int IntKind.u8 (33 : Int)]
 [AV.ptr ((0 : Nat)) ((0 : Nat)), AV.int IntKind.i64 (32 : Int), AV.int IntKind.u8 (33 : Int)] ∧
 StIs { boxes := [some [AV.int IntKind.i64 (5 : Int), AV.int IntKind.i64 (0 : Int), AV.str s]], live := [] }
 { boxes := [some [AV.int IntKind.i64 (5 : Int), AV.int IntKind.i64 (0 : Int), AV.str s]], live := [] } ∧
 True ∧ True) ∧
 (true = false →
 ∃ (_y : Unit),
 ValsAre [AV.ptr ((0 : Nat)) ((0 : Nat)), AV.int IntKind.i64 (64 : Int), AV.int IntKind.u8 (32 : Int)]
 [AV.ptr ((0 : Nat)) ((0 : Nat)), AV.int IntKind.i64 (32 : Int), AV.int IntKind.u8 (33 : Int)] ∧
 StIs { boxes := [some [AV.int IntKind.i64 (5 : Int), AV.int IntKind.i64 (0 : Int), AV.str s]], live := [] }
 { boxes := [some [AV.int IntKind.i64 (5 : Int), AV.int IntKind.i64 (0 : Int), AV.str s]], live := [] } ∧
 True ∧ True)) ∧
 ∀ (_x : Unit),
 True →
 True →
 ((decide ((↑s.length : Int) > (32 : Int)) = true → RetIs (AV.int IntKind.i64 (2 : Int)) [] (r, [])) ∧
 (decide ((↑s.length : Int) > (32 : Int)) = false →
 ∃ (_y : Unit),
 ValsAre [AV.ptr ((0 : Nat)) ((0 : Nat)), AV.int IntKind.u8 (33 : Int)]
 [AV.ptr ((0 : Nat)) ((0 : Nat)), AV.int IntKind.u8 (33 : Int)] ∧
 StIs { boxes := [some [AV.int IntKind.i64 (5 : Int), AV.int IntKind.i64 (0 : Int), AV.str s]], live := [] }
 { boxes := [some [AV.int IntKind.i64 (5 : Int), AV.int IntKind.i64 (0 : Int), AV.str s]], live := [] } ∧
 s.length ≤ (32 : Nat) ∧ True)) ∧
 ∀ (_x : Unit),
 s.length ≤ (32 : Nat) →
 True →
 ((true = true →
 ((s == []) = true → RetIs (AV.int IntKind.i64 (3 : Int)) [] (r, [])) ∧
 ((s == []) = false →
 ∃ (_y : Unit),
 ValsAre [AV.ptr ((0 : Nat)) ((0 : Nat)), AV.int IntKind.u8 (33 : Int)]
 [AV.ptr ((0 : Nat)) ((0 : Nat)), AV.int IntKind.u8 (33 : Int)] ∧
 StIs
 { boxes := [some [AV.int IntKind.i64 (5 : Int), AV.int IntKind.i64 (0 : Int), AV.str s]], live := [] }
 { boxes := [some [AV.int IntKind.i64 (5 : Int), AV.int IntKind.i64 (0 : Int), AV.str s]], live := [] } ∧
 (s.length ≤ (32 : Nat) ∧ s ≠ []) ∧ True)) ∧
 (true = false →
 ∃ (_y : Unit),
 ValsAre [AV.ptr ((0 : Nat)) ((0 : Nat)), AV.int IntKind.u8 (33 : Int)]
 [AV.ptr ((0 : Nat)) ((0 : Nat)), AV.int IntKind.u8 (33 : Int)] ∧
 StIs
 { boxes := [some [AV.int IntKind.i64 (5 : Int), AV.int IntKind.i64 (0 : Int), AV.str s]], live := [] }
 { boxes := [some [AV.int IntKind.i64 (5 : Int), AV.int IntKind.i64 (0 : Int), AV.str s]], live := [] } ∧
 (s.length ≤ (32 : Nat) ∧ s ≠ []) ∧ True)) ∧
 ∀ (_x : Unit),
 s.length ≤ (32 : Nat) ∧ s ≠ [] →
 True →
 (∃ (y : Nat),
 ValsAre
 [AV.ptr ((0 : Nat)) ((0 : Nat)), AV.int IntKind.u8 (33 : Int),
 AV.int IntKind.i64 (↑s.length : Int), AV.int IntKind.i64 (0 : Int)]
 [AV.ptr ((0 : Nat)) ((0 : Nat)), AV.int IntKind.u8 (33 : Int),
 AV.int IntKind.i64 (↑s.length : Int), AV.int IntKind.i64 (↑y : Int)] ∧
 StIs
 { boxes := [some [AV.int IntKind.i64 (5 : Int), AV.int IntKind.i64 (0 : Int), AV.str s]], live := [] }
 { boxes := [some [AV.int IntKind.i64 (5 : Int), AV.int IntKind.i64 (0 : Int), AV.str s]], live := [] } ∧
 (y ≤ s.length ∧ (List.take y s).all keyC = true) ∧ True) ∧
 ∀ (x : Nat),
 x ≤ s.length ∧ (List.take x s).all keyC = true →
 (decide ((↑x : Int) < (↑s.length : Int)) = true →
 (0 : Int) ≤ (↑x : Int) ∧
 ∃ (c : UInt8),
 s[(↑x : Int).toNat]? = some c ∧
 (decide ((↑c.toNat : Int) < (33 : Int)) = true →
 RetIs (AV.int IntKind.i64 (3 : Int)) [] (r, [])) ∧
 (decide ((↑c.toNat : Int) < (33 : Int)) = false →
 (decide ((↑c.toNat : Int) > (126 : Int)) = true →
 RetIs (AV.int IntKind.i64 (3 : Int)) [] (r, [])) ∧
 (decide ((↑c.toNat : Int) > (126 : Int)) = false →
 (((↑c.toNat : Int) == (34 : Int)) = true →
 RetIs (AV.int IntKind.i64 (3 : Int)) [] (r, [])) ∧
 (((↑c.toNat : Int) == (34 : Int)) = false →
 (((↑c.toNat : Int) == (92 : Int)) = true →
 RetIs (AV.int IntKind.i64 (3 : Int)) [] (r, [])) ∧
 (((↑c.toNat : Int) == (92 : Int)) = false →
 ∃ (y : Nat),
 ValsAre
 [AV.ptr ((0 : Nat)) ((0 : Nat)), AV.int IntKind.u8 (33 : Int),
 AV.int IntKind.i64 (↑s.length : Int),
 AV.int IntKind.i64 (IntKind.i64.wrap ((↑x : Int) + (1 : Int)))]
 [AV.ptr ((0 : Nat)) ((0 : Nat)), AV.int IntKind.u8 (33 : Int),
 AV.int IntKind.i64 (↑s.length : Int),
 AV.int IntKind.i64 (↑y : Int)] ∧
 StIs
 { boxes := [some [AV.int IntKind.i64 (5 : Int), AV.int IntKind.i64 (0 : Int), AV.str s]], live := [] }
 { boxes := [some [AV.int IntKind.i64 (5 : Int), AV.int IntKind.i64 (0 : Int), AV.str s]], live := [] } ∧
 (y ≤ s.length ∧ (List.take y s).all keyC = true) ∧
 s.length - y < s.length - x))))) ∧
 (decide ((↑x : Int) < (↑s.length : Int)) = false →
 RetIs (AV.int IntKind.i64 (0 : Int)) [] (r, []))))) := by kernel_rfl
theorem agg9q : aggA PQ 9 = some false := by kernel_rfl
theorem size9q : sizeA PQ 9 = some 1 := by kernel_rfl
theorem agg65q : aggA PQ 65 = some true := by kernel_rfl
theorem size65q : sizeA PQ 65 = some 3 := by kernel_rfl
theorem wrapI {i : Nat} (h : i + 1 ≤ 9223372036854775807) : IntKind.i64.wrap ((i : Int) + 1) = ((i + 1 : Nat) : Int) := by
 rw [wrap64_in (by omega) (by omega)]; omega
theorem take_str {l : List (List UInt8)} {i : Nat} (h : i < l.length) : takeAt PQ 9 (strsL l) i 0 = some (.str l[i]) := by
 unfold takeAt
 rw [List.getElem?_map, List.getElem?_eq_getElem h]
 simp only [Option.map_some, agg9q, size9q, takeA]
 rfl
theorem take_lb {l : List Lb} {i : Nat} (h : i < l.length) : takeAt PQ 65 (lbsL l) i 0 = some (.agg [.str l[i].key, .int .i64 l[i].event, .int .i64 l[i].know]) := by
 unfold takeAt
 rw [List.getElem?_map, List.getElem?_eq_getElem h]
 simp only [Option.map_some, agg65q, size65q, takeA]
 rfl
theorem all_notQ {α : Type} {p : α → Bool} {l : List α} {i : Nat} (h : i < l.length) (hp : p l[i] = false) : l.all p = false := by
 rw [← Bool.not_eq_true, List.all_eq_true]
 intro hh
 have := hh _ (List.getElem_mem h)
 rw [hp] at this; cases this
theorem all_succQ {α : Type} {p : α → Bool} {l : List α} {i : Nat} (h : i < l.length) (h1 : (l.take i).all p = true) (hp : p l[i] = true) : (l.take (i + 1)).all p = true := by
 rw [List.take_succ_eq_append_getElem h, List.all_append, h1]; simp [hp]
theorem all_take {α : Type} {p : α → Bool} {l : List α} {i : Nat} (h : ¬ i < l.length) (h1 : (l.take i).all p = true) : l.all p = true := by
 rwa [List.take_of_length_le (by omega)] at h1
theorem tick_lo {n : Int} (h : decide (n ≥ 0) = false) : tickB n = false := by
 have := of_decide_eq_false h
 unfold tickB
 rw [decide_eq_false (by omega)]; rfl
theorem tick_hi {n : Int} (h : decide (n ≤ 1099511627776) = false) : tickB n = false := by
 have := of_decide_eq_false h
 unfold tickB
 rw [decide_eq_false this, Bool.and_false]
theorem tick_ok {n : Int} (h : decide (n ≥ 0) = true) (h2 : decide (n ≤ 1099511627776) = true) : tickB n = true := by
 have := of_decide_eq_true h
 unfold tickB
 rw [decide_eq_true this, h2]; rfl
theorem p90 (m : Int) (n : Int) : PureOk PQ (GQ m) X24 (tbl []) (itbl []) nAn [] 90 [.int .i64 n] (.bool (tickB n), []) := by
 constructor
 rw [w90]
 exact ⟨fun h => ⟨fun h2 => ⟨by rw [tick_ok h h2]⟩, fun h2 => ⟨by rw [tick_hi h2]⟩⟩, fun h => ⟨by rw [tick_lo h]⟩⟩
theorem o90 (m : Int) : SpecOk PQ (GQ m) 90 sTick := spec_of (X := X24) (m := []) mixedQ tbl_nil itbl_nil fun args r h => by
 unfold sTick at h
 split at h
 case h_2 => cases h
 injection h with h; subst h
 exact ⟨_, p90 m _⟩
theorem keyC_bad {c : UInt8} (h : decide ((c.toNat : Int) < 33) = true ∨ decide ((c.toNat : Int) > 126) = true ∨ ((c.toNat : Int) == 34) = true ∨ ((c.toNat : Int) == 92) = true) : keyC c = false := by
 unfold keyC
 rcases h with h | h | h | h
 ·rw [decide_eq_false (by have := of_decide_eq_true h; omega)]; rfl
 ·rw [decide_eq_false (p := c.toNat ≤ 126) (by have := of_decide_eq_true h; omega), Bool.and_false]; rfl
 ·have : c.toNat = 34 := by have := eq_of_beq h; omega
  rw [this]; rfl
 ·have : c.toNat = 92 := by have := eq_of_beq h; omega
  rw [this]; rfl
theorem keyC_good {c : UInt8} (h1 : decide ((c.toNat : Int) < 33) = false) (h2 : decide ((c.toNat : Int) > 126) = false) (h3 : ((c.toNat : Int) == 34) = false) (h4 : ((c.toNat : Int) == 92) = false) : keyC c = true := by
 have a1 := of_decide_eq_false h1
 have a2 := of_decide_eq_false h2
 have a3 : c.toNat ≠ 34 := fun e => by rw [e] at h3; cases h3
 have a4 : c.toNat ≠ 92 := fun e => by rw [e] at h4; cases h4
 unfold keyC
 simp [a3, a4]; omega
theorem p138 (m : Int) (s : List UInt8) : PureOk PQ (GQ m) X24 (tbl []) (itbl []) (a138 s) [] 138 [.agg [.int .i64 5, .int .i64 0, .str s]] (.int .i64 (keyErr s), []) := by
 constructor
 rw [w138]
 simp only [valsAre_iff, stIs_iff, Bool.false_eq_true, Bool.true_eq_false, false_implies, forall_const, true_and, and_true, exists_const]
 refine ⟨⟨fun h => ⟨by rw [keyErr, if_pos (by have := of_decide_eq_true h; omega)]⟩, fun h => by have := of_decide_eq_false h; omega⟩, fun hl => ⟨⟨fun h => ⟨?_⟩, fun h => ⟨hl, fun e => by subst e; cases h⟩⟩, fun hh => ⟨⟨0, ⟨by rw [Int.natCast_zero], by omega, by rw [List.take_zero]; rfl⟩⟩, fun i hi => ⟨fun lt => ?_, fun ge => ⟨?_⟩⟩⟩⟩⟩
 ·have : s = [] := eq_of_beq h
  subst this; rfl
 ·have lt := of_decide_eq_true lt
  have hil : i < s.length := by omega
  have hg : s[(i : Int).toNat]? = some s[i] := by rw [Int.toNat_natCast]; exact List.getElem?_eq_getElem hil
  have no : keyC s[i] = false → RetIs (AV.int .i64 3) [] (AV.int .i64 (keyErr s), []) := fun h => ⟨by
   unfold keyErr
   rw [if_neg (by omega), if_neg hh.2, all_notQ hil h]; rfl⟩
  refine ⟨by omega, _, hg, fun c1 => no (keyC_bad (.inl c1)), fun c1 => ⟨fun c2 => no (keyC_bad (.inr (.inl c2))), fun c2 => ⟨fun c3 => no (keyC_bad (.inr (.inr (.inl c3)))), fun c3 => ⟨fun c4 => no (keyC_bad (.inr (.inr (.inr c4)))), fun c4 => ?_⟩⟩⟩⟩
  exact ⟨i + 1, by rw [wrapI (by omega)], ⟨hil, all_succQ hil hi.2 (keyC_good c1 c2 c3 c4)⟩, by omega⟩
 ·have ge := of_decide_eq_false ge
  unfold keyErr
  rw [if_neg (by omega), if_neg hh.2, all_take (by omega) hi.2]; rfl
theorem o138 (m : Int) : SpecOk PQ (GQ m) 138 s138 := spec_of (X := X24) (m := []) mixedQ tbl_nil itbl_nil fun args r h => by
 unfold s138 at h
 split at h
 case h_2 => cases h
 injection h with h; subst h
 exact ⟨_, p138 m _⟩
theorem keyErr_ok {s : List UInt8} (h : s ≠ []) : (keyErr s == 0) = keyB s := by
 unfold keyErr keyB
 by_cases h1 : 32 < s.length
 ·rw [if_pos h1, decide_eq_false (p := s.length ≤ 32) (by omega)]; simp
 ·rw [if_neg h1, if_neg h, decide_eq_true (p := s.length ≤ 32) (by omega), decide_eq_true h]
  cases s.all keyC <;> rfl
theorem p94 (m : Int) (s : List UInt8) : PureOk PQ (GQ m) X24 (tbl [(138, s138)]) (itbl []) nAn [] 94 [.str s] (.bool (keyB s), []) := by
 constructor
 rw [w94]
 refine ⟨fun h => ⟨_, ⟨rfl⟩, fun c => ⟨?_⟩, fun c => ⟨?_⟩⟩, fun h => ⟨?_⟩⟩
 ·have : s ≠ [] := fun e => by subst e; cases h
  rw [← keyErr_ok this, c]
 ·have : s ≠ [] := fun e => by subst e; cases h
  rw [← keyErr_ok this, c]
 ·have : s = [] := by
   cases s with
   | nil => rfl
   | cons a t => cases h
  subst this; rfl
theorem o94 (m : Int) : SpecOk PQ (GQ m) 94 s94 := spec_of (X := X24) (m := []) mixedQ (tbl_cons (o138 m) tbl_nil) itbl_nil fun args r h => by
 unfold s94 at h
 split at h
 case h_2 => cases h
 injection h with h; subst h
 exact ⟨_, p94 m _⟩
theorem p93 (m : Int) (x : Lb) : PureOk PQ (GQ m) X24 (tbl [(94, s94), (90, sTick)]) (itbl []) nAn [] 93 [lbA x] (.bool (!lbOk x), []) := by
 constructor
 show pureW _ _ _ _ _ _ _ _ [.agg [.str x.key, .int .i64 x.event, .int .i64 x.know]] _
 rw [w93]
 unfold lbOk
 refine ⟨_, ⟨rfl⟩, fun c1 => ⟨_, ⟨rfl⟩, fun c2 => ⟨_, ⟨rfl⟩, fun c3 => ⟨by rw [c1, c2, c3]; rfl⟩, fun c3 => ⟨by rw [c1, c2, c3]; rfl⟩⟩, fun c2 => ⟨by rw [c1, c2]; rfl⟩⟩, fun c1 => ⟨by rw [c1]; rfl⟩⟩
theorem o93 (m : Int) : SpecOk PQ (GQ m) 93 s93 := spec_of (X := X24) (m := []) mixedQ (tbl_cons (o94 m) (tbl_cons (o90 m) tbl_nil)) itbl_nil fun args r h => by
 unfold s93 at h
 split at h
 case h_2 => cases h
 injection h with h; subst h
 exact ⟨_, p93 m ⟨_, _, _⟩⟩
theorem contains_succ {l : List (List UInt8)} {x : List UInt8} {i : Nat} (h : i < l.length) : (l.take (i + 1)).contains x = ((l.take i).contains x || x == l[i]) := by
 rw [List.take_succ_eq_append_getElem h, List.contains_eq_any_beq, List.any_append, List.contains_eq_any_beq]
 simp
theorem contains_of {l : List (List UInt8)} {x : List UInt8} {i : Nat} (h : i < l.length) (he : (l[i] == x) = true) : l.contains x = true := by
 have := eq_of_beq he
 subst this
 simp
theorem beq_flip {a b : List UInt8} (h : (a == b) = false) : (b == a) = false := by
 rw [beq_eq_false_iff_ne] at h ⊢
 exact fun e => h e.symm
theorem p20 (m : Int) (l : List (List UInt8)) (x : List UInt8) (hl : l.length ≤ maxI) : PureOk PQ (GQ m) X24 (tbl []) (itbl []) (aIn l x) [] 20 [.sl 1 (strsL l) .no, .str x] (.bool (l.contains x), []) := by
 constructor
 rw [w20]
 unfold maxI at hl
 have hn : (strsL l).length = l.length := List.length_map _
 refine ⟨⟨0, ⟨rfl⟩, ⟨rfl⟩, ⟨Nat.zero_le _, rfl⟩, trivial⟩, fun i hi => ⟨fun lt => ?_, fun ge => ⟨?_⟩⟩⟩
 ·have lt := of_decide_eq_true lt
  rw [hn] at lt
  have hil : i < l.length := by omega
  refine ⟨⟨by omega, by omega⟩, _, by rw [Int.toNat_natCast]; exact take_str hil, fun c => ⟨by rw [contains_of hil c]⟩, fun c => ⟨i + 1, ⟨by rw [wrapI (by omega)]⟩, ⟨rfl⟩, ⟨hil, by rw [contains_succ hil, hi.2, beq_flip c]; rfl⟩, by omega⟩⟩
 ·have ge := of_decide_eq_false ge
  rw [hn] at ge
  have := hi.2
  rw [List.take_of_length_le (by omega)] at this
  rw [this]
theorem idx_at {l : List (List UInt8)} {x : List UInt8} {i : Nat} (h : i < l.length) (h1 : ∀ y ∈ l.take i, (x == y) = false) (he : (x == l[i]) = true) : idxS l x = i := by
 have hx := eq_of_beq he
 have hm : x ∈ l := by rw [hx]; exact List.getElem_mem h
 unfold idxS
 rw [if_pos hm]
 have : l = l.take i ++ l[i] :: l.drop (i + 1) := by rw [← List.drop_eq_getElem_cons h, List.take_append_drop]
 have e : (l.takeWhile fun y => !(x == y)) = l.take i := by
  conv => lhs; rw [this]
  rw [List.takeWhile_append_of_pos (fun a ha => by rw [h1 a ha]; rfl), List.takeWhile_cons]
  simp [he]
 rw [e, List.length_take, Nat.min_eq_left (by omega)]
theorem idx_none {l : List (List UInt8)} {x : List UInt8} (h1 : ∀ y ∈ l, (x == y) = false) : idxS l x = -1 := by
 unfold idxS
 rw [if_neg]
 intro hm
 have := h1 x hm
 simp at this
theorem p136 (m : Int) (l : List (List UInt8)) (x : List UInt8) (hl : l.length ≤ maxI) : PureOk PQ (GQ m) X24 (tbl []) (itbl []) (a136 l x) [] 136 [.sl 1 (strsL l) .no, .str x] (.int .i64 (idxS l x), []) := by
 constructor
 rw [w136]
 unfold maxI at hl
 have hn : (strsL l).length = l.length := List.length_map _
 refine ⟨⟨0, ⟨by rw [hn]; rfl⟩, ⟨rfl⟩, ⟨Nat.zero_le _, fun y hy => by simp at hy⟩, trivial⟩, fun i hi => ⟨fun lt => ?_, fun ge => ⟨?_⟩⟩⟩
 ·have lt := of_decide_eq_true lt
  have hil : i < l.length := by omega
  refine ⟨⟨by omega, by omega⟩, _, by rw [Int.toNat_natCast]; exact take_str hil, fun c => ⟨by rw [idx_at hil hi.2 c]⟩, fun c => ⟨i + 1, ⟨by rw [wrapI (by omega)]⟩, ⟨rfl⟩, ⟨hil, fun y hy => ?_⟩, by omega⟩⟩
  rw [List.take_succ_eq_append_getElem hil] at hy
  rcases List.mem_append.1 hy with hy | hy
  ·exact hi.2 y hy
  ·simp at hy; subst hy; exact c
 ·have ge := of_decide_eq_false ge
  have := hi.2
  rw [List.take_of_length_le (by omega)] at this
  rw [idx_none this]
theorem idx_ge {l : List (List UInt8)} {x : List UInt8} : decide (idxS l x ≥ 0) = l.contains x := by
 unfold idxS
 by_cases h : x ∈ l
 ·rw [if_pos h]; simp [h]
 ·rw [if_neg h]; simp [h]
theorem run136 {l : List (List UInt8)} {x : List UInt8} (hl : l.length ≤ maxI) : s136 [.sl 1 (strsL l) .no, .str x] = some (.int .i64 (idxS l x), []) := by
 simp only [s136, unL_map unS_ok]
 rw [if_pos ⟨trivial, hl⟩]
theorem p91 (m : Int) (l : List (List UInt8)) (x : List UInt8) (hl : l.length ≤ maxI) : PureOk PQ (GQ m) X24 (tbl [(136, s136)]) (itbl []) nAn [] 91 [.sl 1 (strsL l) .no, .str x] (.bool (l.contains x), []) := by
 constructor
 rw [w91]
 exact ⟨_, ⟨run136 hl⟩, fun c => ⟨by rw [← idx_ge, c]⟩, fun c => ⟨by rw [← idx_ge, c]⟩⟩
theorem o20 (m : Int) : SpecOk PQ (GQ m) 20 sIn := spec_of (X := X24) (m := []) mixedQ tbl_nil itbl_nil fun args r h => by
 unfold sIn at h
 split at h
 case h_2 => cases h
 split at h
 case h_2 => cases h
 rename_i l hu
 split at h
 case isFalse => cases h
 rename_i hs
 injection h with h; subst h
 rw [unL_inv unS_inv hu, hs.1]
 exact ⟨_, p20 m _ _ hs.2⟩
theorem o136 (m : Int) : SpecOk PQ (GQ m) 136 s136 := spec_of (X := X24) (m := []) mixedQ tbl_nil itbl_nil fun args r h => by
 unfold s136 at h
 split at h
 case h_2 => cases h
 split at h
 case h_2 => cases h
 rename_i l hu
 split at h
 case isFalse => cases h
 rename_i hs
 injection h with h; subst h
 rw [unL_inv unS_inv hu, hs.1]
 exact ⟨_, p136 m _ _ hs.2⟩
theorem o91 (m : Int) : SpecOk PQ (GQ m) 91 sIn := spec_of (X := X24) (m := []) mixedQ (tbl_cons (o136 m) tbl_nil) itbl_nil fun args r h => by
 unfold sIn at h
 split at h
 case h_2 => cases h
 split at h
 case h_2 => cases h
 rename_i l hu
 split at h
 case isFalse => cases h
 rename_i hs
 injection h with h; subst h
 rw [unL_inv unS_inv hu, hs.1]
 exact ⟨_, p91 m _ _ hs.2⟩
theorem lb_eta (x : Lb) : (⟨x.key, x.event, x.know⟩ : Lb) = x := rfl
theorem idxP_at {l : List Lb} {i : Nat} (h : i < l.length) (h1 : (l.take i).all lbOk = true) (he : lbOk l[i] = false) : idxP l = i := by
 unfold idxP
 rw [all_notQ h he, if_neg (by simp)]
 have : l = l.take i ++ l[i] :: l.drop (i + 1) := by rw [← List.drop_eq_getElem_cons h, List.take_append_drop]
 have e : l.takeWhile lbOk = l.take i := by
  conv => lhs; rw [this]
  rw [List.takeWhile_append_of_pos (fun a ha => List.all_eq_true.1 h1 a ha), List.takeWhile_cons]
  simp [he]
 rw [e, List.length_take, Nat.min_eq_left (by omega)]
theorem p137 (m : Int) (l : List Lb) (hl : l.length ≤ maxI) : PureOk PQ (GQ m) X24 (tbl [(93, s93)]) (itbl []) (a137 l) [] 137 [.sl 3 (lbsL l) .no, .fn 93 []] (.int .i64 (idxP l), []) := by
 constructor
 rw [w137]
 unfold maxI at hl
 have hn : (lbsL l).length = l.length := List.length_map _
 refine ⟨⟨0, ⟨by rw [hn]; rfl⟩, ⟨rfl⟩, ⟨Nat.zero_le _, rfl⟩, trivial⟩, fun i hi => ⟨fun lt => ?_, fun ge => ⟨?_⟩⟩⟩
 ·have lt := of_decide_eq_true lt
  have hil : i < l.length := by omega
  refine ⟨⟨by omega, by omega⟩, _, _, _, by rw [Int.toNat_natCast]; exact take_lb hil, _, ⟨rfl⟩, fun c => ⟨?_⟩, fun c => ⟨i + 1, ⟨by rw [wrapI (by omega)]⟩, ⟨rfl⟩, ⟨hil, all_succQ hil hi.2 ?_⟩, by omega⟩⟩
  ·rw [lb_eta] at c
   rw [idxP_at hil hi.2 (by simpa using c)]
  ·rw [lb_eta] at c
   simpa using c
 ·have ge := of_decide_eq_false ge
  unfold idxP
  rw [all_take (by omega) hi.2, if_pos rfl]
theorem o137 (m : Int) : SpecOk PQ (GQ m) 137 s137 := spec_of (X := X24) (m := []) mixedQ (tbl_cons (o93 m) tbl_nil) itbl_nil fun args r h => by
 unfold s137 at h
 split at h
 case h_2 => cases h
 split at h
 case h_2 => cases h
 rename_i l hu
 split at h
 case isFalse => cases h
 rename_i hs
 injection h with h; subst h
 rw [unL_inv unLb_inv hu, hs.1]
 exact ⟨_, p137 m _ hs.2⟩
theorem idxP_ge {l : List Lb} : decide (idxP l ≥ 0) = !l.all lbOk := by
 unfold idxP
 cases h : l.all lbOk
 ·rw [if_neg (by simp)]; simp
 ·rw [if_pos rfl]; rfl
theorem run137 {l : List Lb} (hl : l.length ≤ maxI) : s137 [.sl 3 (lbsL l) .no, .fn 93 []] = some (.int .i64 (idxP l), []) := by
 simp only [s137, unL_map unLb_ok]
 rw [if_pos ⟨trivial, hl⟩]
theorem p92 (m : Int) (l : List Lb) (hl : l.length ≤ maxI) : PureOk PQ (GQ m) X24 (tbl [(137, s137)]) (itbl []) nAn [] 92 [.sl 3 (lbsL l) .no, .fn 93 []] (.bool (!l.all lbOk), []) := by
 constructor
 rw [w92]
 exact ⟨_, ⟨run137 hl⟩, fun c => ⟨by rw [← idxP_ge, c]⟩, fun c => ⟨by rw [← idxP_ge, c]⟩⟩
theorem o92 (m : Int) : SpecOk PQ (GQ m) 92 s92 := spec_of (X := X24) (m := []) mixedQ (tbl_cons (o137 m) tbl_nil) itbl_nil fun args r h => by
 unfold s92 at h
 split at h
 case h_2 => cases h
 split at h
 case h_2 => cases h
 rename_i l hu
 split at h
 case isFalse => cases h
 rename_i hs
 injection h with h; subst h
 rw [unL_inv unLb_inv hu, hs.1]
 exact ⟨_, p92 m _ hs.2⟩
/-! names, unbounded -/
theorem p40u (m : Int) (s : List UInt8) (hs : ¬ s.length ≤ 2000000) : PureOk PQ (GQ m) XW (tbl [(88, s88)]) (itbl []) (a40 s) [] 40 [.str s] (.bool (nameR s), []) := by
 constructor
 rw [w40]
 simp only [retIs_iff, Prod.mk.injEq, AV.bool.injEq, and_true, decide_eq_true_eq, decide_eq_false_iff_not, beq_iff_eq, beq_eq_false_iff_ne, ne_eq]
 have hn : nameR s = false := by
  unfold nameR
  rw [decide_eq_false (p := s.length ≤ 24) (by omega)]; simp
 exact ⟨fun h => by rw [hn], fun hne => ⟨fun h => by rw [hn], fun hl => absurd hl (by omega)⟩⟩
theorem o40u (m : Int) : SpecOk PQ (GQ m) 40 s40u := spec_of (X := XW) (m := []) mixedQ (tbl_cons (o88 m) tbl_nil) itbl_nil fun args r h => by
 unfold s40u at h
 split at h
 case h_2 => cases h
 injection h with h; subst h
 by_cases hs : (by assumption : List UInt8).length ≤ 2000000
 ·exact ⟨_, p40 m _ hs⟩
 ·exact ⟨_, p40u m _ hs⟩
theorem hd1 {r : Rq} (h : nameR r.entity = false) : formB r = false := by unfold formB headOk; rw [h]; rfl
theorem hd2 {r : Rq} (h : decide ((r.feats.length : Int) < 1) = true) : formB r = false := by
 unfold formB headOk; rw [decide_eq_false (p := 1 ≤ r.feats.length) (by have := of_decide_eq_true h; omega)]; simp
theorem hd3 {r : Rq} (h : decide ((r.feats.length : Int) > 8) = true) : formB r = false := by
 unfold formB headOk; rw [decide_eq_false (p := r.feats.length ≤ 8) (by have := of_decide_eq_true h; omega)]; simp
theorem hd4 {r : Rq} (h : decide ((r.labels.length : Int) > 256) = true) : formB r = false := by
 unfold formB headOk; rw [decide_eq_false (p := r.labels.length ≤ 256) (by have := of_decide_eq_true h; omega)]; simp
theorem hd5 {r : Rq} (h : tickB r.seed = false) : formB r = false := by unfold formB headOk; rw [h]; simp
theorem hd6 {r : Rq} (h : decide (r.permille < 0) = true) : formB r = false := by
 unfold formB headOk; rw [decide_eq_false (p := 0 ≤ r.permille) (by have := of_decide_eq_true h; omega)]; simp
theorem hd7 {r : Rq} (h : decide (r.permille > 1000) = true) : formB r = false := by
 unfold formB headOk; rw [decide_eq_false (p := r.permille ≤ 1000) (by have := of_decide_eq_true h; omega)]; simp
theorem hdOk {r : Rq} (h1 : nameR r.entity = true) (h2 : decide ((r.feats.length : Int) < 1) = false) (h3 : decide ((r.feats.length : Int) > 8) = false) (h4 : decide ((r.labels.length : Int) > 256) = false) (h5 : tickB r.seed = true) (h6 : decide (r.permille < 0) = false) (h7 : decide (r.permille > 1000) = false) : headOk r = true := by
 unfold headOk
 have := of_decide_eq_false h2
 have := of_decide_eq_false h3
 have := of_decide_eq_false h4
 have := of_decide_eq_false h6
 have := of_decide_eq_false h7
 rw [h1, h5, decide_eq_true (p := 1 ≤ r.feats.length) (by omega), decide_eq_true (p := r.feats.length ≤ 8) (by omega), decide_eq_true (p := r.labels.length ≤ 256) (by omega), decide_eq_true (p := 0 ≤ r.permille) (by omega), decide_eq_true (p := r.permille ≤ 1000) (by omega)]
 rfl
theorem form_feats {r : Rq} (h : featsOk [] r.feats = false) : formB r = false := by unfold formB; rw [h]; simp
theorem form_labels {r : Rq} (h : r.labels.all lbOk = false) : formB r = false := by unfold formB; rw [h]; simp
theorem feats_step {l : List (List UInt8)} {i : Nat} (h : i < l.length) : featsOk (l.take i) (l.drop i) = (nameR l[i] && !(l.take i).contains l[i] && featsOk (l.take (i + 1)) (l.drop (i + 1))) := by
 rw [List.drop_eq_getElem_cons h, featsOk, List.take_succ_eq_append_getElem h]
theorem feats_end {l : List (List UInt8)} {i : Nat} (h : ¬ i < l.length) : featsOk (l.take i) (l.drop i) = true := by
 rw [List.drop_eq_nil_of_le (by omega)]; rfl
theorem runIn {l : List (List UInt8)} {x : List UInt8} {i : Nat} (hl : l.length ≤ maxI) : sIn [.sl 1 (List.drop 0 (List.take (i : Int).toNat (strsL l))) .no, .str x] = some (.bool ((l.take i).contains x), []) := by
 rw [Int.toNat_natCast, List.drop_zero, ← List.map_take]
 simp only [sIn, unL_map unS_ok]
 rw [if_pos ⟨trivial, by rw [List.length_take]; omega⟩]
theorem run92 {l : List Lb} (hl : l.length ≤ maxI) : s92 [.sl 3 (lbsL l) .no, .fn 93 []] = some (.bool (!l.all lbOk), []) := by
 simp only [s92, unL_map unLb_ok]
 rw [if_pos ⟨trivial, hl⟩]
theorem p46 (m : Int) (x : Rq) : PureOk PQ (GQ m) X24 (tbl t46) (itbl []) (a46 x) [] 46 [rqA x] (.bool (formB x), []) := by
 constructor
 rw [w46]
 have hn : (strsL x.feats).length = x.feats.length := List.length_map _
 have hm : (lbsL x.labels).length = x.labels.length := List.length_map _
 simp only [hn, hm]
 refine ⟨_, ⟨rfl⟩, fun c1 => ⟨fun c2 => ⟨by rw [hd2 c2]⟩, fun c2 => ⟨fun c3 => ⟨by rw [hd3 c3]⟩, fun c3 => ⟨fun c4 => ⟨by rw [hd4 c4]⟩, fun c4 => ⟨_, ⟨rfl⟩, fun c5 => ⟨fun c6 => ⟨by rw [hd6 c6]⟩, fun c6 => ⟨fun c7 => ⟨by rw [hd7 c7]⟩, fun c7 => ?_⟩⟩, fun c5 => ⟨by rw [hd5 c5]⟩⟩⟩⟩⟩, fun c1 => ⟨by rw [hd1 c1]⟩⟩
 have hd := hdOk c1 c2 c3 c4 c5 c6 c7
 have l8 := of_decide_eq_false c3
 have l256 := of_decide_eq_false c4
 have big : maxI = 9223372036854775807 := rfl
 refine ⟨⟨0, ⟨rfl⟩, ⟨rfl⟩, ⟨Nat.zero_le _, rfl⟩, trivial⟩, fun i hi => ⟨fun lt => ?_, fun ge => ?_⟩⟩
 ·have lt := of_decide_eq_true lt
  have hil : i < x.feats.length := by omega
  have hs := hi.2.trans (feats_step hil)
  refine ⟨⟨by omega, by omega⟩, _, by rw [Int.toNat_natCast]; exact take_str hil, _, ⟨rfl⟩, fun b1 => ⟨by omega, ⟨by omega, by omega⟩, .inl trivial, _, ⟨runIn (by omega)⟩, fun b2 => ⟨?_⟩, fun b2 => ⟨i + 1, ⟨by rw [wrapI (by omega)]⟩, ⟨rfl⟩, ⟨hil, ?_⟩, by omega⟩⟩, fun b1 => ⟨?_⟩⟩
  ·rw [form_feats (by rw [hs, b2]; simp)]
  ·rw [hs, b1, b2]; rfl
  ·rw [form_feats (by rw [hs, b1]; rfl)]
 ·have ge := of_decide_eq_false ge
  have hf := hi.2.trans (feats_end (by omega))
  refine ⟨_, ⟨run92 (by omega)⟩, fun b => ⟨?_⟩, fun b => ⟨?_⟩⟩
  ·rw [form_labels (by simpa using b)]
  ·have b : x.labels.all lbOk = true := by simpa using b
   unfold formB; rw [hd, hf, b]; rfl
theorem o46 (m : Int) : SpecOk PQ (GQ m) 46 s46 := spec_of (X := X24) (m := []) mixedQ (tbl_cons (o40u m) (tbl_cons (o90 m) (tbl_cons (o91 m) (tbl_cons (o92 m) tbl_nil)))) itbl_nil fun args r h => by
 unfold s46 at h
 split at h
 case h_2 => cases h
 split at h
 case h_2 => cases h
 rename_i hu
 injection h with h; subst h
 rw [unRqN_inv _ _ hu]
 exact ⟨_, p46 m _⟩
end Go.Abs
namespace Go.Abs
open Go.Proofs Go.RowKit
def valL (s : List UInt8) : Nat := s.foldl (fun n c => 10 * n + (c.toNat - 48)) 0
def intB (l : List UInt8) : Bool := decide (l ≠ []) && l.all digitB
def valF (n : Nat) (l : List UInt8) : Nat := l.foldl (fun n c => 10 * n + (c.toNat - 48)) n
theorem valL_eq (l : List UInt8) : valL l = valF 0 l := rfl
theorem valF_ge : ∀ (l : List UInt8) (n : Nat), n ≤ valF n l
 | [], n => Nat.le_refl _
 | c :: l, n => by
  have := valF_ge l (10 * n + (c.toNat - 48))
  simp only [valF, List.foldl_cons] at this ⊢
  omega
theorem digitB_iff {c : UInt8} : digitB c = true ↔ 48 ≤ c.toNat ∧ c.toNat ≤ 57 := by simp [digitB]
theorem parse_digits : ∀ (l : List UInt8) (n : Nat), l.all digitB = true → n < 18446744073709551616 →
  Lib.parseUint10 n l = if valF n l < 18446744073709551616 then .ok (valF n l) else .range
 | [], n, _, hn => by simp [Lib.parseUint10, valF, hn]
 | c :: l, n, hd, hn => by
  simp only [List.all_cons, Bool.and_eq_true, digitB_iff] at hd
  have hv : valF n (c :: l) = valF (10 * n + (c.toNat - 48)) l := rfl
  have hge := valF_ge l (10 * n + (c.toNat - 48))
  simp only [Lib.parseUint10]
  rw [if_pos hd.1, hv]
  by_cases h1 : 1844674407370955162 ≤ n
  ·rw [if_pos h1, if_neg (by omega)]
  ·rw [if_neg h1]
   by_cases h2 : 18446744073709551616 ≤ n * 10 + (c.toNat - 48)
   ·rw [if_pos h2, if_neg (by omega)]
   ·rw [if_neg h2, Nat.mul_comm n 10]
    exact parse_digits l _ hd.2 (by omega)
theorem atoi_digits {l : List UInt8} (h : intB l = true) : Lib.atoiAll l = if valL l ≤ 9223372036854775807 then .ok (valL l : Int) else .range := by
 simp only [intB, Bool.and_eq_true, decide_eq_true_eq] at h
 obtain ⟨h1, h2⟩ := h
 cases l with
 | nil => exact absurd rfl h1
 | cons c r =>
  have hc : 48 ≤ c.toNat ∧ c.toNat ≤ 57 := by
   simp only [List.all_cons, Bool.and_eq_true, digitB_iff] at h2; exact h2.1
  have hp := parse_digits (c :: r) 0 h2 (by omega)
  simp only [Lib.atoiAll, Lib.parseMag]
  rw [if_neg (show ¬ (c.toNat = 43 ∨ c.toNat = 45) by omega), if_neg (by simp), hp, valL_eq]
  by_cases h3 : valF 0 (c :: r) < 18446744073709551616
  ·rw [if_pos h3]
   simp only
   by_cases h4 : valF 0 (c :: r) ≤ 9223372036854775807
   ·rw [if_pos h4, if_neg (by omega), if_neg (by omega), if_neg (by omega)]
   ·rw [if_neg h4, if_pos (by omega)]
  ·rw [if_neg h3, if_neg (by omega)]
section
variable {P : Program} {G : Glob} {E : Env} {w w' : World}
theorem glob_ifc {g : Nat} (hG : GlobOk G E w) (h : G g = some .ifc) : ∃ t x, w.cell? ⟨g, 0, none⟩ = some (.iface t x) := by
 have := (hG g _ h).2.1
 generalize hv : Value.pointer (some ⟨g, 0, none⟩) = v at this
 cases this with | elt _ _ _ _ b off u hcl hA hr h1 =>
 injection hv with hv
 injection hv with hv
 injection hv with h2 h3
 subst h2
 obtain ⟨_, h4⟩ := hA 0 _ 0 _ rfl rfl
 obtain ⟨t, x, h5⟩ := rep_ifc (hr 0 _ 0 _ rfl rfl)
 refine ⟨t, x, ?_⟩
 rw [← h5, ← h4]
 congr 2
theorem rep_tup2 {a b : AV} {u v : Value} (h1 : Rep E w a u) (h2 : Rep E w b v) : Rep E w (.tup [a, b]) (.tuple #[u, v]) := by
 refine .tup _ _ rfl fun i c x hc hx => ?_
 match i, hc, hx with
 | 0, hc, hx => simp at hc hx; subst hc; subst hx; exact h1
 | 1, hc, hx => simp at hc hx; subst hc; subst hx; exact h2
 | i + 2, hc, hx => simp at hc
theorem vs_one' {vs : Array Value} (h : vs.size = 1) : ∃ a, vs = #[a] := vs_one h
end
section
variable {P : Program} {G : Glob} {E : Env} {w w' : World}
theorem glob_tab {g : Nat} {k : IntKind} {zs : List Int} (hG : GlobOk G E w) (h : G g = some (.agg (zs.map fun z => .int k z))) (hz : zs ≠ []) : w.heap[g]?.bind (fun o => match o with | .cells cs _ _ => some cs | _ => none) = some (zs.map fun z => Value.int k z).toArray := by
 obtain ⟨_, h1, _, h2⟩ := hG g _ h
 have hcell : ∀ j (hj : j < zs.length), w.cell? ⟨g, j, none⟩ = some (.int k zs[j]) := by
  generalize hv : Value.pointer (some ⟨g, 0, none⟩) = v at h1
  cases h1 with | elt _ _ _ _ b off u hcl hA hr h1 =>
  injection hv with hv
  injection hv with hv
  injection hv with h3 h4
  subst h3
  intro j hj
  have hc : (AV.agg (zs.map fun z => .int k z)).cells[j]? = some (.int k zs[j]) := by simp [AV.cells, hj]
  obtain ⟨_, h5⟩ := hA 0 _ j _ rfl hc
  have h6 := rep_int (hr 0 _ j _ rfl hc)
  rw [← h6, ← h5]
  congr 2
  omega
 have h0 := hcell 0 (List.length_pos_iff.2 hz)
 unfold World.cell? at hcell h0 h2
 simp only at hcell h0 h2
 cases ho : w.heap[g]? with
 | none => rw [ho] at h0; cases h0
 | some o =>
  rw [ho] at h0
  rw [ho] at hcell h2
  cases o with
  | cells cs e f =>
   simp only [Option.isSome_none, Bool.false_eq_true, if_false] at hcell h2
   simp only [Option.bind_some, Option.some.injEq]
   have hn : (AV.agg (zs.map fun z => .int k z)).cells.length = zs.length := by simp [AV.cells]
   rw [hn] at h2
   have hsz : cs.size ≤ zs.length := by
    apply Classical.byContradiction
    intro hlt
    rw [Array.getElem?_eq_getElem (by omega)] at h2
    cases h2
   apply Array.ext_getElem?
   intro i
   by_cases hi : i < zs.length
   ·rw [hcell i hi]; simp [hi]
   ·have e1 : cs[i]? = none := Array.getElem?_eq_none (by omega)
    rw [e1, List.getElem?_toArray, List.getElem?_map, List.getElem?_eq_none (by omega)]; rfl
  | _ => simp at h0
end
def s89 : Spec := fun args => match args with
 | [.str l] => if l.length ≤ 1000000 ∧ intB l = true then some (if valL l ≤ 9223372036854775807 then (.tup [.int .i64 (valL l), .lit .nilIface], []) else (.tup [.int .i64 9223372036854775807, .ifc], [])) else none
 | _ => none
theorem o89 (m : Int) : SpecOk PQ (GQ m) 89 s89 := by
 intro g args r lv h E w vs hI hG hn' hv hcl
 simp only at h
 split at h
 case isFalse => cases h
 case isTrue e =>
 subst e
 unfold s89 at h
 split at h
 case h_2 => cases h
 case h_1 l =>
 split at h
 case isFalse => cases h
 case isTrue hl =>
 obtain ⟨hl, hi⟩ := hl
 obtain ⟨a, rfl⟩ := vs_one' hn'
 obtain ⟨s, rfl, hs⟩ := rep_str (hv 0 _ _ rfl rfl)
 have hsz : s.size = l.length := by rw [size_data, hs]
 have ha := atoi_digits hi
 by_cases h63 : valL l ≤ 9223372036854775807
 ·rw [if_pos h63] at h ha
  simp only [Option.some.injEq, Prod.mk.injEq] at h
  obtain ⟨rfl, rfl⟩ := h
  refine .inl ⟨goodQ (by kernel_rfl), (Tryz.strconv_Atoi_ok s (by omega) (valL l) (by rw [hs]; exact ha) w).mono fun e w' ⟨he, hw⟩ => ⟨_, he, ?_⟩⟩
  have hb : Below w.heap.size w w' := by
   rcases hw with rfl | ⟨t, rfl⟩
   ·exact Below.refl _ _
   ·exact Lib.bytesWorld_below _ _ _
  exact res_below hb fun B K => rep_tup2 (.int _ _) (.lit _ rfl)
 ·rw [if_neg h63] at h ha
  simp only [Option.some.injEq, Prod.mk.injEq] at h
  obtain ⟨rfl, rfl⟩ := h
  obtain ⟨t, x, hx⟩ := glob_ifc (g := 3) hG rfl
  refine .inl ⟨goodQ (by kernel_rfl), (Tryz.strconv_Atoi_range s (by omega) (by rw [hs]; exact ha) _ w hx (.inr ⟨t, x, rfl⟩)).mono fun e w' ⟨N, he, _, _, hb⟩ => ⟨_, he, ?_⟩⟩
  have hsat : Lib.atoiSat s.data.toList = 9223372036854775807 := by
   rw [hs, Lib.atoiSat, if_neg]
   cases l with
   | nil => simp
   | cons c t =>
    simp only [intB, Bool.and_eq_true, List.all_cons, digitB_iff] at hi
    simp
    omega
  rw [hsat]
  exact res_below hb fun B K => rep_tup2 (.int _ _) (.ifc _ _)
def s52 : Spec := fun args => match args with
 | [.int .i64 n] => if -9223372036854775808 ≤ n ∧ n ≤ 9223372036854775807 then some (.str (Lib.itoa n), []) else none
 | _ => none
theorem o52 (m : Int) : SpecOk PQ (GQ m) 52 s52 := by
 intro g args r lv h E w vs hI hG hn' hv hcl
 simp only at h
 split at h
 case isFalse => cases h
 case isTrue e =>
 subst e
 unfold s52 at h
 split at h
 case h_2 => cases h
 case h_1 n =>
 split at h
 case isFalse => cases h
 case isTrue hl =>
 simp only [Option.some.injEq, Prod.mk.injEq] at h
 obtain ⟨rfl, rfl⟩ := h
 obtain ⟨a, rfl⟩ := vs_one hn'
 obtain rfl := rep_int (hv 0 _ _ rfl rfl)
 have htab : Lib.TabIs PQ w "internal/strconv.uint64pow10" .u64 Lib.pow10Tab := by
  have hg : PQ.globalNamed "internal/strconv.uint64pow10" = some 4 := by kernel_rfl
  have hk : GQ m 4 = some (.agg (Lib.pow10Tab.map fun z => .int .u64 z)) := by
   show some keptPowsA = _
   unfold keptPowsA keptPows Lib.pow10Tab
   rw [List.map_map]; rfl
  have := glob_tab hG hk (by unfold Lib.pow10Tab; simp)
  unfold Lib.TabIs World.var?
  rw [hg]
  cases ho : w.heap[4]? with
  | none => rw [ho] at this; cases this
  | some o => rw [ho] at this; cases o <;> simp_all
 refine .inl ⟨goodQ (by kernel_rfl), (Tryz.strconv_Itoa n hl.1 (hl.2) w htab).mono fun e w' ⟨he, k, os, hw⟩ => ⟨_, he, ?_⟩⟩
 subst hw
 exact res_below (Lib.below_grow _ _ (Nat.le_refl _) _ _) fun B K => .str _ _ rfl
section
variable {G : Glob} {N0 : Nat → Prop} {w0 : World} {I0 : Nat → Nat → Prop} {S : St} {E : Env} {w : World}
theorem bld_at {b blk : Nat} {buf : AV} (hS : SR PQ G N0 w0 I0 S E w) (hb : S.boxes[b]? = some (some (typB 107 [.opq, buf]))) (hB : E.B b = some blk) :
  ∃ p v, w.heap[blk]? = some (.cells #[p, v] 107 (0, 0)) ∧ (p = .pointer none ∨ p = .pointer (some ⟨blk, 0, none⟩)) ∧ Rep E w buf v ∧ v.oneCell' = true := by
 obtain ⟨blk', hB', hbx⟩ := hS.box b _ hb
 obtain rfl : blk = blk' := by rw [hB] at hB'; injection hB'
 cases hbx with
 | row arr ty hr => simp [isRow] at hr
 | iter s pos hcs => simp at hcs
 | map t n es k e D hcs => simp [mapC] at hcs
 | own sz es f arr ty hcs => simp at hcs
 | dead hcs => simp at hcs
 | typ t cs' arr hcs hh hn hcl hself hc =>
  have h1 : t = 107 ∧ cs' = [.opq, buf] := by
   simp at hcs
   exact ⟨by omega, hcs.2.symm⟩
  obtain ⟨rfl, rfl⟩ := h1
  have hs := hself (by kernel_rfl)
  obtain ⟨l⟩ := arr
  match l, hn with
  | [p, v], _ =>
   obtain ⟨h2, h3⟩ := hc 1 buf v rfl rfl
   refine ⟨p, v, hh, ?_, h2, h3⟩
   simpa using hs
theorem not_frz {b : Nat} {cs : List AV} (hb : S.boxes[b]? = some (some (typB 107 cs))) : ¬ Frz S b := by
 intro h
 rcases h.row hb with e | ⟨sz, es, e⟩
 ·cases e
 ·simp at e
theorem bld_set {b blk : Nat} {buf buf' : AV} {p v p' v' : Value} (hS : SR PQ G N0 w0 I0 S E w) (hb : S.boxes[b]? = some (some (typB 107 [.opq, buf]))) (hB : E.B b = some blk) (hh : w.heap[blk]? = some (.cells #[p, v] 107 (0, 0)))
  (hp : p' = .pointer none ∨ p' = .pointer (some ⟨blk, 0, none⟩)) (hv : Rep E w buf' v') (h1 : v'.oneCell' = true) (hcl : buf'.closed = true ∨ buf'.tokSl = true) :
  SR PQ G N0 w0 I0 { S with boxes := S.boxes.set b (some (typB 107 [.opq, buf'])) } E (w.setRow blk #[p', v']) ∧ Env.Le E E w (w.setRow blk #[p', v']) := by
 have hblk : ∀ k, k ≠ blk → (w.setRow blk #[p', v']).heap[k]? = w.heap[k]? := fun k hk => setRow_other w blk k #[p', v'] hk
 have hnf := not_frz hb
 have hle : Env.Le E E w (w.setRow blk #[p', v']) := ⟨fun c o hi => ⟨hi, World.cell?_of_block (a := ⟨c, o, none⟩) (hblk c (fun e => hnf ((hS.Blt b blk hB).2.2.2 o (e ▸ hi))))⟩, fun _ _ h => h, fun _ _ _ h => h, fun id' x hx => by
  by_cases e : x = blk
  ·subst e; exact rows_setRow hh rfl
  ·exact rowsOf_block (hblk x e)⟩
 refine hS.obj_set hB rfl rfl rfl (by simp) hblk (.typ 107 [.opq, buf'] #[p', v'] rfl (setRow_heap w blk #[p, v] #[p', v'] 107 _ hh) rfl (fun c hc => ?_) (fun _ => ?_) fun i c u hi hu => ?_) hnf (rows_setRow hh rfl)
 ·simp only [List.mem_cons, List.not_mem_nil, or_false] at hc
  rcases hc with rfl | rfl
  ·exact .inl rfl
  ·exact hcl
 ·simpa using hp
 ·match i, hi, hu with
  | 0, hi, hu =>
   simp at hi hu; subst hi; subst hu
   exact ⟨.opq _ (by rcases hp with rfl | rfl <;> rfl), by rcases hp with rfl | rfl <;> rfl⟩
  | 1, hi, hu => simp at hi hu; subst hi; subst hu; exact ⟨hv.le hle, h1⟩
  | i + 2, hi, hu => simp at hi
end
theorem bld_check_used (b : Nat) (w : World) (h0 : w.cell? ⟨b, 0, none⟩ = some (.pointer (some ⟨b, 0, none⟩))) :
  Calls PQ 102 #[.pointer (some ⟨b, 0, none⟩)] w fun e w' => e = .returned (.tuple #[]) ∧ w' = w :=
 Any.Builder_copyCheck_used (ρ := Tryz.lays156_ren) { Tryz.lays156 with } Tryz.Builder_Extra_156.toX72 b w h0
theorem bld_check_fresh (b : Nat) (w : World) (h0 : w.cell? ⟨b, 0, none⟩ = some (.pointer none)) (hsh : w.shape? b = some (107, 2)) (hfz : w.frozen? ⟨b, 0, none⟩ = false) :
  Calls PQ 102 #[.pointer (some ⟨b, 0, none⟩)] w fun e w' => e = .returned (.tuple #[]) ∧ w' = w.setCell ⟨b, 0, none⟩ (.pointer (some ⟨b, 0, none⟩)) :=
 Any.Builder_copyCheck_fresh (ρ := Tryz.lays156_ren) { Tryz.lays156 with } Tryz.Builder_Extra_156.toX72 b w h0 hsh hfz
theorem setCell_row0 {w : World} {b : Nat} {p v q : Value} {T : TypeId} {fr : Nat × Nat} (h : w.heap[b]? = some (.cells #[p, v] T fr)) : w.setCell ⟨b, 0, none⟩ q = w.setRow b #[q, v] := by
 unfold World.setCell World.setRow
 congr 1
 apply Array.ext_getElem?
 intro i
 simp only [Array.getElem?_modify]
 by_cases hi : b = i
 ·subst hi; simp [h]
 ·simp [hi]
theorem setCell_row1 {w : World} {b : Nat} {p v q : Value} {T : TypeId} {fr : Nat × Nat} (h : w.heap[b]? = some (.cells #[p, v] T fr)) : w.setCell ⟨b, 1, none⟩ q = w.setRow b #[p, q] := by
 unfold World.setCell World.setRow
 congr 1
 apply Array.ext_getElem?
 intro i
 simp only [Array.getElem?_modify]
 by_cases hi : b = i
 ·subst hi; simp [h]
 ·simp [hi]
theorem wpList_append_run {P : Program} {w : World} {ops : Array Oper} {rest : List Oper} {o : Oper} {a : Act} {Q : Exit → Act → World → Prop} (hgd : o.guard = none) (sl x : Operand) (t u : TypeId)
  (ho : o.op = .call { callee := .builtin .append, args := #[sl, x], argTypes := #[t, u] }) {v y v' : Value} {w' : World} (hs : a.eval sl = v) (hx : a.eval x = y) (hr : (Builtin.append_ #[t, u] o.type #[v, y]).run P w = .ok v' w')
  (h : wpList P ops Q rest (a.put o.dst v') w') : wpList P ops Q (o :: rest) a w := by
 refine wpList_plain hgd fun K hK => ?_
 unfold Oper.wp execOp
 simp only [ho, resolve, invoke, builtin, Sem.run_bind, Sem.run_pure, Result.andThen_ok, List.map_toArray, List.map_cons, List.map_nil, hs, hx, hr]
 exact hK _ _ h
section
variable {N0 : Nat → Prop} {w0 : World} {I0 : Nat → Nat → Prop} {S : St} {E : Env} {w : World}
theorem check_walk {m : Int} {b blk k : Nat} {es : List AV} (hS : SR PQ (GQ m) N0 w0 I0 S E w) (hb : S.boxes[b]? = some (some (typB 107 [.opq, .sl 1 es (.tok k)]))) (hB : E.B b = some blk) :
  Calls PQ 102 #[.pointer (some ⟨blk, 0, none⟩)] w fun e w1 => e = .returned (.tuple #[]) ∧ SR PQ (GQ m) N0 w0 I0 S E w1 ∧ Env.Le E E w w1 ∧ ∃ v, w1.heap[blk]? = some (.cells #[.pointer (some ⟨blk, 0, none⟩), v] 107 (0, 0)) ∧ Rep E w1 (.sl 1 es (.tok k)) v ∧ v.oneCell' = true := by
 obtain ⟨p, v, hh, hp, hv, h1⟩ := bld_at hS hb hB
 rcases hp with rfl | rfl
 ·refine (bld_check_fresh blk w (by simp [World.cell?, hh]) (by simp [World.shape?, hh]) (by simp [World.frozen?, hh])).mono ?_
  rintro e w1 ⟨rfl, rfl⟩
  rw [setCell_row0 hh]
  obtain ⟨hS1, hL⟩ := bld_set hS hb hB hh (.inr rfl) hv h1 (.inr rfl)
  have hid : S.boxes.set b (some (typB 107 [.opq, .sl 1 es (.tok k)])) = S.boxes := by
   apply List.ext_getElem?
   intro i
   rw [List.getElem?_set]
   by_cases hi : b = i
   ·subst hi
    have := (List.getElem?_eq_some_iff.1 hb).1
    rw [if_pos rfl, if_pos this, hb]
   ·simp [hi]
  rw [hid] at hS1
  exact ⟨rfl, hS1, hL, v, setRow_heap w blk _ _ 107 _ hh, hv.le hL, h1⟩
 ·refine (bld_check_used blk w (by simp [World.cell?, hh])).mono ?_
  rintro e w1 ⟨rfl, rfl⟩
  exact ⟨rfl, hS, Env.Le.refl _ _, v, hh, hv, h1⟩
set_option maxHeartbeats 4000000 in
set_option maxRecDepth 100000 in
theorem ws_walk {m : Int} {b blk k : Nat} {es : List AV} {s : List UInt8} {sb : ByteArray} (hS : SR PQ (GQ m) N0 w0 I0 S E w) (hb : S.boxes[b]? = some (some (typB 107 [.opq, .sl 1 es (.tok k)]))) (hB : E.B b = some blk)
  (hl : S.live[k]? = some (es.length, 5)) (hs : sb.data.toList = s) (hne : s ≠ []) (hroom : (es.length + s.length) * 2 ≤ 70368744177664) :
  Calls PQ 50 #[.pointer (some ⟨blk, 0, none⟩), .string sb] w fun e w' => e = .returned (.tuple #[.int .i64 s.length, .nilIface]) ∧
   ∃ E', SR PQ (GQ m) N0 w0 I0 ⟨S.boxes.set b (some (typB 107 [.opq, .sl 1 (es ++ bytesL s) (.tok k)])), S.live.set k (es.length + s.length, 5)⟩ E' w' ∧ Env.Le E E' w w' := by
 go_enter Tryz.func50, Tryz.ntmps50
 go_wp2_with fail
 refine (check_walk hS hb hB).mono ?_
 rintro e w1 ⟨rfl, hS1, hL1, v, hh, hv, h1⟩
 have hlen : (bytesL s).length = s.length := List.length_map _
 have ha : appendA PQ S 22 9 (.sl 1 es (.tok k)) (.str s) = some (.sl 1 (es ++ bytesL s) (.tok k), { S with live := S.live.set k (es.length + s.length, 5) }) := by
  have hu : PQ.underlying 22 = some (.slice 5) := by kernel_rfl
  have hu9 : PQ.underlying 9 = some .string := by kernel_rfl
  obtain ⟨i0, hi, hz0, hz1, hz2⟩ := info_parts Tryz.Builder_Extra_156.infoByte
  have hi : PQ.info? 5 = some i0 := hi
  have hb0 : bytesL s ≠ [] := by cases s with
   | nil => exact absurd rfl hne
   | cons c t => simp
  have hl' : S.live[k]? = some (es.length, 5) := hl
  simp only [appendA, hu, hi, srcA, hu9, hz0, hz1, hz2, Option.map_some, if_true, hlen, Own.weak, hl', hb0, if_false]
  rw [if_pos ⟨.inl trivial, by decide, rfl⟩, if_pos (c := (es.length + s.length) * (1 + 1) ≤ roomA) hroom, if_pos ⟨trivial, trivial⟩]
 obtain ⟨v2, w2, E2, hrun, hS2, hL2, hr2⟩ := appendA_run (ty := 22) hS1 ha hv (.str s sb hs)
 have c1 : w1.cell? ⟨blk, 1, none⟩ = some v := by simp [World.cell?, hh]
 have hb2 := hb
 obtain ⟨p3, v3, hh3, hp3, _, _⟩ := bld_at hS2 hb ((hL1.trans hL2).B _ _ hB)
 have c3 : w2.cell? ⟨blk, 1, none⟩ = some v3 := by simp [World.cell?, hh3]
 have f3 : w2.frozen? ⟨blk, 1, none⟩ = false := by simp [World.frozen?, hh3]
 have hone : v2.oneCell' = true := by cases hr2 with | sl => rfl
 have hcells : v2.cells = #[v2] := by cases hr2 with | sl => rfl
 have fin := bld_set hS2 hb ((hL1.trans hL2).B _ _ hB) hh3 hp3 hr2 hone (.inr rfl)
 rw [← setCell_row1 hh3] at fin
 have FIN := Lib.hid fin
 have HL := Lib.hid (hL1.trans hL2)
 obtain ⟨A, n3, cap3, rfl⟩ : ∃ A n c, v2 = .slice A n c := by cases hr2 with | sl => exact ⟨_, _, _, rfl⟩
 clear ha hS hS1 hS2 hL1 hL2 hr2 hv fin hl hroom hh hp3 hb2 hone hcells
 go_wp2_with (at_builtin; refine wpList_append_run rfl _ _ 22 9 rfl rfl rfl hrun ?_)
 go_ret2
 refine ⟨?_, E2, FIN.out.1, HL.out.trans FIN.out.2⟩
 rw [size_data, hs]; rfl
end
def s50 : ISpec := fun args S => match args with
 | [.ptr b 0, .str s] =>
  match S.boxes[b]? with
  | some (some [.tup [.int .i64 t, .agg [.opq, .sl sz es (.tok k)]]]) =>
   match S.live[k]? with
   | some (n, e) => some ((t = 107 ∧ sz = 1 ∧ e = 5 ∧ n = es.length) ∧ s ≠ [] ∧ (es.length + s.length) * 2 ≤ 70368744177664, .tup [.int .i64 s.length, .lit .nilIface], ⟨S.boxes.set b (some (typB 107 [.opq, .sl 1 (es ++ bytesL s) (.tok k)])), S.live.set k (es.length + s.length, 5)⟩)
   | none => none
  | _ => none
 | _ => none
theorem o50 (m : Int) : ISpecOk PQ (GQ m) 50 s50 := by
 intro g args S r S' hr
 simp only [lowC] at hr
 by_cases e : g = 50
 ·subst e
  simp only [if_true] at hr
  split at hr
  case h_2 => cases hr
  case h_1 x hx =>
  split at hr
  case isFalse => cases hr
  case isTrue hp =>
  simp only [Option.some.injEq] at hr
  unfold s50 at hx
  split at hx
  case h_2 => cases hx
  rename_i b s
  split at hx
  case h_2 => cases hx
  rename_i t sz es k hb
  split at hx
  case h_2 => cases hx
  rename_i n e hl
  injection hx with hx
  subst hx
  obtain ⟨⟨rfl, rfl, rfl, rfl⟩, hne, hroom⟩ := hp
  injection hr with e1 e2
  subst e1; subst e2
  refine ⟨goodQ (by kernel_rfl), fun N0 w0 I0 E w vs hS hn hv => ?_⟩
  obtain ⟨l⟩ := vs
  match l, hn with
  | [a, c], _ =>
   have ha := hv 0 _ a rfl rfl
   obtain ⟨sb, rfl, hsb⟩ := rep_str (hv 1 _ c rfl rfl)
   cases ha with | ptr _ _ blk hB =>
   exact (ws_walk hS hb hB hl hsb hne hroom).mono fun e w' ⟨he, E', h1, h2⟩ => ⟨_, E', he, h1, h2, rep_tup2 (.int _ _) (.lit _ rfl)⟩
 ·simp only [if_neg e] at hr
  cases hr
/-! String -/
section
variable {P : Program} {G : Glob} {N0 : Nat → Prop} {w0 : World} {I0 : Nat → Nat → Prop} {S : St} {E : Env} {w w' : World}
theorem SR.other (h : SR P G N0 w0 I0 S E w) (hl : S.live = []) {g : Nat} (hg1 : ¬ N0 g) (hg2 : ∀ id, E.B id ≠ some g) (hos : w'.os = w.os) (htp : w'.tape = w.tape) (hout : w'.output = w.output) (hsz : w'.heap.size = w.heap.size)
  (hblk : ∀ k, k ≠ g → w'.heap[k]? = w.heap[k]?) (hcell : ∀ o, w'.cell? ⟨g, o, none⟩ = w.cell? ⟨g, o, none⟩) : SR P G N0 w0 I0 S E w' ∧ Env.Le E E w w' := by
 have hle : Env.Le E E w w' := ⟨fun b o hi => ⟨hi, by
  by_cases e : b = g
  ·subst e; exact hcell o
  ·exact World.cell?_of_block (a := ⟨b, o, none⟩) (hblk b e)⟩, fun _ _ h => h, fun _ _ _ h => h, fun id x hx => rowsOf_block (hblk x fun e => hg2 id (e ▸ hx))⟩
 refine ⟨⟨h.below.trans ⟨hos, htp, hout, by omega, fun k hk => hblk k (fun e => hg1 (e ▸ hk))⟩, fun b hb' => by have := h.n0 b hb'; omega, fun b o hi => by have := h.Ilt b o hi; omega, h.Iold, fun id b he => ?_, h.Binj, fun id cs hi => ?_, h.glob.le hle, h.hole, h.Klt, fun t n v hk g hg => by have hlt := h.Kblk t n v hk g hg; omega, fun t n e ht => ?_⟩, hle⟩
 ·obtain ⟨a1, a2, a3, a4⟩ := h.Blt id b he
  exact ⟨a1, a2, by omega, a4⟩
 ·obtain ⟨blk, hB, hx⟩ := h.box id cs hi
  exact ⟨blk, hB, hx.le (hblk blk fun e => hg2 id (e ▸ hB)) hle⟩
 ·rw [hl] at ht; cases ht
end
set_option maxHeartbeats 4000000 in
set_option maxRecDepth 100000 in
theorem str_exact (b g cap : Nat) (p : Value) (cur : Array Value) (l : List UInt8) (w : World) (h0 : l ≠ []) (hbk : w.heap[b]? = some (.cells #[p, .slice (some ⟨g, 0, none⟩) l.length cap] 107 (0, 0))) (hg : w.heap[g]? = some (.cells cur 5 (0, 0)))
  (hnc : l.length ≤ cap) (hcm : cap ≤ maxLen) (hcs : cur.size = cap) (hcur : ∀ (j : Nat) (x : UInt8), l[j]? = some x → cur[j]? = some (Value.int .u8 x.toNat)) :
  Calls PQ 53 #[.pointer (some ⟨b, 0, none⟩)] w fun e w' => e = .returned (.string ⟨l.toArray⟩) ∧ w' = w.drew.freeze ⟨g, 0, none⟩ l.length := by
 have hl0 : l.length ≠ 0 := by simpa using h0
 have c1 : w.drew.cell? ⟨b, 1, none⟩ = some (.slice (some ⟨g, 0, none⟩) l.length cap) := by
  have : w.drew.heap[b]? = some (.cells #[p, .slice (some ⟨g, 0, none⟩) l.length cap] 107 (0, 0)) := hbk
  rw [Lib.cell_of_heap this]; rfl
 have hg' : w.drew.heap[g]? = some (.cells cur 5 (0, 0)) := hg
 have hSD : (Builtin.unsafeSliceData_ #[22] 161 #[.slice (some ⟨g, 0, none⟩) l.length cap]).run PQ w.drew = .ok (.pointer (some ⟨g, 0, none⟩)) w.drew := Lib.run_unsafeSliceData_row _ _ _ _ _ _ (by omega)
 have hUS : (Builtin.unsafeString_ #[161, 3] 9 #[.pointer (some ⟨g, 0, none⟩), .int .i64 l.length]).run PQ w.drew = .ok (.string ⟨l.toArray⟩) (w.drew.freeze ⟨g, 0, none⟩ l.length) := by
  refine Lib.run_unsafeString_row w.drew 161 3 9 5 (by kernel_rfl) (by kernel_rfl) g cur.size (by simp [World.shape?, hg']) l h0 (by omega) (by unfold maxLen at hcm; omega) ?_
  intro j x hx
  have := hcur j x hx
  rw [show (⟨g, 0, none⟩ : Addr).add j = ⟨g, j, none⟩ from by unfold Addr.add; split <;> simp_all]
  simp [World.cell?, hg', this]
 clear hcur hg hbk hg'
 have mixed : PQ.follows .mixedOrders = true := mixedQ
 go_enter Tryz.func53, Tryz.ntmps53
 go_wp2
 go_region_o
 all_goals (go_wp2; go_ret; exact ⟨rfl, rfl⟩)
theorem freeze_facts (w : World) (g n : Nat) : (w.freeze ⟨g, 0, none⟩ n).os = w.os ∧ (w.freeze ⟨g, 0, none⟩ n).tape = w.tape ∧ (w.freeze ⟨g, 0, none⟩ n).output = w.output ∧ (w.freeze ⟨g, 0, none⟩ n).heap.size = w.heap.size ∧
  (∀ k, k ≠ g → (w.freeze ⟨g, 0, none⟩ n).heap[k]? = w.heap[k]?) ∧ ∀ o, (w.freeze ⟨g, 0, none⟩ n).cell? ⟨g, o, none⟩ = w.cell? ⟨g, o, none⟩ := by
 unfold World.freeze
 split
 ·exact ⟨rfl, rfl, rfl, rfl, fun _ _ => rfl, fun _ => rfl⟩
 ·refine ⟨rfl, rfl, rfl, by simp, fun k hk => ?_, fun o => ?_⟩
  ·simp only [Array.getElem?_modify]
   rw [if_neg (fun e => hk e.symm)]
  ·unfold World.cell?
   simp only [Array.getElem?_modify, if_true]
   cases w.heap[g]? with
   | none => rfl
   | some ob => cases ob <;> rfl
set_option maxRecDepth 100000 in
theorem str_walk {m : Int} {N0 : Nat → Prop} {w0 : World} {I0 : Nat → Nat → Prop} {S : St} {E : Env} {w : World} {b blk : Nat} {l : List UInt8} (hS : SR PQ (GQ m) N0 w0 I0 S E w) (hb : S.boxes[b]? = some (some (typB 107 [.opq, .sl 1 (bytesL l) (.tok 0)]))) (hB : E.B b = some blk)
  (hl : S.live = [(l.length, 5)]) (h0 : l ≠ []) :
  Calls PQ 53 #[.pointer (some ⟨blk, 0, none⟩)] w fun e w' => e = .returned (.string ⟨l.toArray⟩) ∧ BelowQ N0 w0 w' ∧ w'.heap.size = w.heap.size := by
 obtain ⟨p, v, hh, hp, hv, h1⟩ := bld_at hS hb hB
 have hl0 : l.length ≠ 0 := by simpa using h0
 obtain ⟨v0, xs, sz, hsz, hown, hu, hK, hg⟩ := hS.live 0 l.length 5 (by rw [hl]; rfl)
 have hsz1 : sz = 1 := by
  have : sizeA PQ 5 = some 1 := by kernel_rfl
  rw [this] at hsz; injection hsz with hsz; exact hsz.symm
 subst hsz1
 have hlen : (bytesL l).length = l.length := List.length_map _
 cases hv with
 | sl _ _ _ A cap u hcap hmax hA hszs hcl ho hr h1u =>
 rw [hlen] at hcap
 have hv0 : v0 = .slice A (bytesL l).length cap := by
  have h3 : E.K 0 (bytesL l).length (.slice A (bytesL l).length cap) := ho
  rw [hlen] at h3 ⊢
  exact (hu _ h3).symm
 subst hv0
 rw [hlen] at hown hK hg hh h1
 obtain ⟨⟨hx, hrow⟩, hnq⟩ := hown
 rcases hrow with ⟨_, hz⟩ | ⟨g, cap', cur, hvv, _, hgc, hnc, hcm, hcs, htk⟩
 ·exact absurd hz hl0
 injection hvv with e1 _ e2
 subst e1; subst e2
 rcases hA with hA | ⟨b', off, hA1, hA2⟩
 ·have : (bytesL l).length = 0 := by rw [hA]; rfl
  omega
 injection hA1 with hA1
 injection hA1 with e3 e4
 subst e3; subst e4
 have hcur : ∀ (j : Nat) (x : UInt8), l[j]? = some x → cur[j]? = some (Value.int .u8 x.toNat) := fun j x hj => by
  have he : (bytesL l)[j]? = some (.int .u8 x.toNat) := by rw [List.getElem?_map, hj]; rfl
  obtain ⟨_, h3⟩ := hA2 j _ 0 _ he rfl
  have h4 := rep_int (hr j _ 0 _ he rfl)
  rw [h4] at h3
  simp [World.cell?, hgc] at h3
  exact h3
 have hgg : (Value.slice (some ⟨g, 0, none⟩) l.length cap).ownBlock = some g := rfl
 obtain ⟨k1, k2, k3⟩ := hg g hgg
 refine (str_exact blk g cap p cur l w h0 hh hgc hnc hcm (by simpa using hcs) hcur).mono ?_
 rintro e w' ⟨rfl, rfl⟩
 obtain ⟨f1, f2, f3, f4, f5, f6⟩ := freeze_facts w.drew g l.length
 have f4' : (w.drew.freeze ⟨g, 0, none⟩ l.length).heap.size = w.heap.size := f4
 exact ⟨rfl, hS.below.trans ⟨f1, f2, f3, by omega, fun k hk => f5 k fun e => hnq g hgg (e ▸ hk)⟩, f4⟩
end Go.Abs
namespace Go.Abs
open Go.Proofs
structure Ft where
 name : List UInt8
 entity : List UInt8
deriving DecidableEq
def ftC (f : Ft) : List AV := [.str f.name, .str f.entity, .opq, .opq, .opq, .opq, .opq, .opq, .opq, .opq, .opq, .opq, .opq, .opq, .opq, .opq, .opq, .opq]
def ftA (f : Ft) : AV := .agg (ftC f)
abbrev ftsL (l : List Ft) : List AV := l.map ftA
def unFt : AV → Option Ft
 | .agg [.str n, .str e, .opq, .opq, .opq, .opq, .opq, .opq, .opq, .opq, .opq, .opq, .opq, .opq, .opq, .opq, .opq, .opq] => some ⟨n, e⟩
 | _ => none
theorem unFt_ok (x : Ft) : unFt (ftA x) = some x := rfl
theorem unFt_inv (a : AV) (x : Ft) (h : unFt a = some x) : a = ftA x := by
 unfold unFt at h
 split at h
 ·injection h with h; subst h; rfl
 ·cases h
def zFt (o : Own) : List AV := [.str [], .str [], .int .i64 0, .sl 0 [] o, .str [], .int .i64 0, .str [], .str [], .str [], .int .i64 0, .int .i64 0, .str [], .sl 0 [] o, .int .i64 0, .int .i64 0, .int .i64 0, .sl 0 [] o, .int .i64 0]
def findF (l : List Ft) (n : List UInt8) : Option Ft := l.find? fun f => f.name == n
def findA (l : List Ft) (n : List UInt8) : AV :=
 match findF l n with
 | some f => .tup [ftA f, .bool true]
 | none => .tup [.agg (zFt .no), .bool false]
def sFind : Spec := fun args => match args with
 | [.sl sz fs .no, .str n] => match unL unFt fs with
  | some l => if sz = 18 ∧ l.length ≤ maxI then some (findA l n, []) else none
  | none => none
 | _ => none
def chkL (fs : List Ft) (en : List UInt8) : List (List UInt8) → Int
 | [] => 0
 | n :: l => match findF fs n with
  | none => 4
  | some f => if f.entity ≠ en then 5 else chkL fs en l
def chk (fs : List Ft) (r : Rq) : Int := if formB r then chkL fs r.entity r.feats else 240
def s17 : Spec := fun args => match args with
 | [.agg [.sl _ _ .no, .sl sz fs .no, .sl _ _ .no, .sl _ _ .no], a] => match unL unFt fs, unRqN a with
  | some l, some r => if sz = 18 ∧ l.length ≤ maxI ∧ keysOk r.labels then some (.int .i64 (chk l r), []) else none
  | _, _ => none
 | _ => none
def shFt : Sh0 → Sh1 := fun o => .agg [.str, .str, o, o, o, o, o, o, o, o, o, o, o, o, o, o, o, o]
def XF : Shapes := fun f => match f with
 | 2000052 => some (.val (shFt (.is .opq)), none)
 | f => X24 f
def st56 (n : List UInt8) : St := ⟨[some [.str n], some (zFt .nil)], []⟩
def a106 (n : List UInt8) (l : List Ft) : Anns := ⟨fun k => if k = 2 then some { α := Nat, slots := [0, 1, 7, 8], nb := 2, vals := fun i => [.sl 18 (ftsL l) .no, .fn 107 [.ptr 0 0], .int .i64 l.length, .int .i64 i], sS := fun _ => st56 n, I := fun i => i ≤ l.length ∧ ∀ f ∈ l.take i, (f.name == n) = false, μ := fun i => l.length - i } else none, nA⟩
def g56 : TCfg := { ps := [1], A := nAn, dr := 99 }
def cf56 (n : List UInt8) (l : List Ft) (f : FuncId) (_ : List AV) : PCfg := if f = 106 then { ps := [4], A := a106 n l } else { ps := [], A := nAn }
def fs56 (f : FuncId) : Bool := f = 106 || f = 107
abbrev J56 (m : Int) (mk : Mk) (n : List UInt8) (l : List Ft) : InC := inW PQ mk (GQ m) XF (tbl []) (itbl []) fs56 (cf56 n l) 3
theorem w56 (m : Int) (n : List UInt8) (l : List Ft) (r : AV) : (tlaxW PQ idMk (GQ m) XF (tbl []) (itbl []) fs56 (J56 m idMk n l) g56 56 [.sl 18 (ftsL l) .no, .str n] (r, [])) =
((∃ (y : Nat),
    ValsAre
        [AV.sl ((18 : Nat)) (ftsL l) Own.no, AV.fn ((107 : Nat)) [AV.ptr ((0 : Nat)) ((0 : Nat))], AV.int IntKind.i64 (↑(ftsL l).length : Int),
 AV.int IntKind.i64 (0 : Int)]
        [AV.sl ((18 : Nat)) (ftsL l) Own.no, AV.fn ((107 : Nat)) [AV.ptr ((0 : Nat)) ((0 : Nat))], AV.int IntKind.i64 (↑l.length : Int),
 AV.int IntKind.i64 (↑y : Int)] ∧
      StIs
 { boxes := [some [AV.str n], some [AV.str [], AV.str [], AV.int IntKind.i64 (0 : Int), AV.sl ((0 : Nat)) [] Own.nil, AV.str [], AV.int IntKind.i64 (0 : Int), AV.str [], AV.str [], AV.str [], AV.int IntKind.i64 (0 : Int), AV.int IntKind.i64 (0 : Int), AV.str [], AV.sl ((0 : Nat)) [] Own.nil, AV.int IntKind.i64 (0 : Int), AV.int IntKind.i64 (0 : Int), AV.int IntKind.i64 (0 : Int), AV.sl ((0 : Nat)) [] Own.nil, AV.int IntKind.i64 (0 : Int)]], live := [] }
 { boxes := [some [AV.str n], some [AV.str [], AV.str [], AV.int IntKind.i64 (0 : Int), AV.sl ((0 : Nat)) [] Own.nil, AV.str [], AV.int IntKind.i64 (0 : Int), AV.str [], AV.str [], AV.str [], AV.int IntKind.i64 (0 : Int), AV.int IntKind.i64 (0 : Int), AV.str [], AV.sl ((0 : Nat)) [] Own.nil, AV.int IntKind.i64 (0 : Int), AV.int IntKind.i64 (0 : Int), AV.int IntKind.i64 (0 : Int), AV.sl ((0 : Nat)) [] Own.nil, AV.int IntKind.i64 (0 : Int)]], live := [] } ∧
        (y ≤ l.length ∧ ∀ (f : Ft), f ∈ List.take y l → (f.name == n) = false) ∧ True) ∧
  ∀ (x : Nat),
    (x ≤ l.length ∧ ∀ (f : Ft), f ∈ List.take x l → (f.name == n) = false) →
      (decide ((↑x : Int) < (↑l.length : Int)) = true →
 ((0 : Int) ≤ (↑x : Int) ∧ (↑x : Int) < (↑(ftsL l).length : Int)) ∧
 ∃ (s : List UInt8),
 ∃ (s_1 : List UInt8),
 takeAt PQ ((52 : Nat)) (ftsL l) (↑x : Int).toNat ((0 : Nat)) =
 some
 (AV.agg
 [AV.str s, AV.str s_1, AV.opq, AV.opq, AV.opq, AV.opq, AV.opq, AV.opq, AV.opq, AV.opq, AV.opq, AV.opq, AV.opq, AV.opq, AV.opq, AV.opq,
 AV.opq, AV.opq]) ∧
 ((s == n) = true →
 (decide ((↑x : Int) ≥ (0 : Int)) = true →
 ((0 : Int) ≤ (↑x : Int) ∧ (↑x : Int) < (↑(ftsL l).length : Int)) ∧
 ∃ (s : List UInt8),
 ∃ (s_2 : List UInt8),
 takeAt PQ ((52 : Nat)) (ftsL l) (↑x : Int).toNat ((0 : Nat)) =
 some
 (AV.agg
 [AV.str s, AV.str s_2, AV.opq, AV.opq, AV.opq, AV.opq, AV.opq, AV.opq, AV.opq, AV.opq, AV.opq, AV.opq, AV.opq, AV.opq,
 AV.opq, AV.opq, AV.opq, AV.opq]) ∧
 RetLax
 (AV.tup
 [AV.agg
 [AV.str s, AV.str s_2, AV.opq, AV.opq, AV.opq, AV.opq, AV.opq, AV.opq, AV.opq, AV.opq, AV.opq, AV.opq, AV.opq, AV.opq,
 AV.opq, AV.opq, AV.opq, AV.opq],
 AV.bool true])
 (r, [])) ∧
 (decide ((↑x : Int) ≥ (0 : Int)) = false →
 RetLax
 (AV.tup
 [AV.agg
 [AV.str [], AV.str [], AV.int IntKind.i64 (0 : Int), AV.sl ((0 : Nat)) [] Own.nil, AV.str [], AV.int IntKind.i64 (0 : Int),
 AV.str [], AV.str [], AV.str [], AV.int IntKind.i64 (0 : Int), AV.int IntKind.i64 (0 : Int), AV.str [],
 AV.sl ((0 : Nat)) [] Own.nil, AV.int IntKind.i64 (0 : Int), AV.int IntKind.i64 (0 : Int), AV.int IntKind.i64 (0 : Int),
 AV.sl ((0 : Nat)) [] Own.nil, AV.int IntKind.i64 (0 : Int)],
 AV.bool false])
 (r, []))) ∧
 ((s == n) = false →
 ∃ (y : Nat),
 ValsAre
 [AV.sl ((18 : Nat)) (ftsL l) Own.no, AV.fn ((107 : Nat)) [AV.ptr ((0 : Nat)) ((0 : Nat))], AV.int IntKind.i64 (↑l.length : Int),
 AV.int IntKind.i64 (IntKind.i64.wrap ((↑x : Int) + (1 : Int)))]
 [AV.sl ((18 : Nat)) (ftsL l) Own.no, AV.fn ((107 : Nat)) [AV.ptr ((0 : Nat)) ((0 : Nat))], AV.int IntKind.i64 (↑l.length : Int),
 AV.int IntKind.i64 (↑y : Int)] ∧
 StIs
 { boxes := [some [AV.str n], some [AV.str [], AV.str [], AV.int IntKind.i64 (0 : Int), AV.sl ((0 : Nat)) [] Own.nil, AV.str [], AV.int IntKind.i64 (0 : Int), AV.str [], AV.str [], AV.str [], AV.int IntKind.i64 (0 : Int), AV.int IntKind.i64 (0 : Int), AV.str [], AV.sl ((0 : Nat)) [] Own.nil, AV.int IntKind.i64 (0 : Int), AV.int IntKind.i64 (0 : Int), AV.int IntKind.i64 (0 : Int), AV.sl ((0 : Nat)) [] Own.nil, AV.int IntKind.i64 (0 : Int)]], live := [] }
 { boxes := [some [AV.str n], some [AV.str [], AV.str [], AV.int IntKind.i64 (0 : Int), AV.sl ((0 : Nat)) [] Own.nil, AV.str [], AV.int IntKind.i64 (0 : Int), AV.str [], AV.str [], AV.str [], AV.int IntKind.i64 (0 : Int), AV.int IntKind.i64 (0 : Int), AV.str [], AV.sl ((0 : Nat)) [] Own.nil, AV.int IntKind.i64 (0 : Int), AV.int IntKind.i64 (0 : Int), AV.int IntKind.i64 (0 : Int), AV.sl ((0 : Nat)) [] Own.nil, AV.int IntKind.i64 (0 : Int)]], live := [] } ∧
 (y ≤ l.length ∧ ∀ (f : Ft), f ∈ List.take y l → (f.name == n) = false) ∧ l.length - y < l.length - x)) ∧
        (decide ((↑x : Int) < (↑l.length : Int)) = false →
 (false = true →
 ((0 : Int) ≤ (-1 : Int) ∧ (-1 : Int) < (↑(ftsL l).length : Int)) ∧
 ∃ (s : List UInt8),
 ∃ (s_1 : List UInt8),
 takeAt PQ ((52 : Nat)) (ftsL l) ((0 : Nat)) ((0 : Nat)) =
 some
 (AV.agg
 [AV.str s, AV.str s_1, AV.opq, AV.opq, AV.opq, AV.opq, AV.opq, AV.opq, AV.opq, AV.opq, AV.opq, AV.opq, AV.opq, AV.opq, AV.opq,
 AV.opq, AV.opq, AV.opq]) ∧
 RetLax
 (AV.tup
 [AV.agg
 [AV.str s, AV.str s_1, AV.opq, AV.opq, AV.opq, AV.opq, AV.opq, AV.opq, AV.opq, AV.opq, AV.opq, AV.opq, AV.opq, AV.opq, AV.opq,
 AV.opq, AV.opq, AV.opq],
 AV.bool true])
 (r, [])) ∧
 (false = false →
 RetLax
 (AV.tup
 [AV.agg
 [AV.str [], AV.str [], AV.int IntKind.i64 (0 : Int), AV.sl ((0 : Nat)) [] Own.nil, AV.str [], AV.int IntKind.i64 (0 : Int), AV.str [],
 AV.str [], AV.str [], AV.int IntKind.i64 (0 : Int), AV.int IntKind.i64 (0 : Int), AV.str [], AV.sl ((0 : Nat)) [] Own.nil,
 AV.int IntKind.i64 (0 : Int), AV.int IntKind.i64 (0 : Int), AV.int IntKind.i64 (0 : Int), AV.sl ((0 : Nat)) [] Own.nil,
 AV.int IntKind.i64 (0 : Int)],
 AV.bool false])
 (r, [])))) := by kernel_rfl
theorem agg52q : aggA PQ 52 = some true := by kernel_rfl
theorem size52q : sizeA PQ 52 = some 18 := by kernel_rfl
theorem take_ft {l : List Ft} {i : Nat} (h : i < l.length) : takeAt PQ 52 (ftsL l) i 0 = some (ftA l[i]) := by
 unfold takeAt
 rw [List.getElem?_map, List.getElem?_eq_getElem h]
 simp only [Option.map_some, agg52q, size52q, takeA]
 rfl
theorem find_at {l : List Ft} {n : List UInt8} {i : Nat} (h : i < l.length) (h1 : ∀ f ∈ l.take i, (f.name == n) = false) (he : (l[i].name == n) = true) : findF l n = some l[i] := by
 unfold findF
 have : l = l.take i ++ l[i] :: l.drop (i + 1) := by rw [← List.drop_eq_getElem_cons h, List.take_append_drop]
 conv => lhs; rw [this]
 rw [List.find?_append, List.find?_eq_none.2 (fun a ha => by rw [h1 a ha]; simp), Option.none_or, List.find?_cons, he]
theorem find_no {l : List Ft} {n : List UInt8} (h1 : ∀ f ∈ l, (f.name == n) = false) : findF l n = none := by
 unfold findF
 exact List.find?_eq_none.2 fun a ha => by rw [h1 a ha]; simp
theorem lax_ft (f : Ft) (b : Bool) : RetLax (.tup [ftA f, .bool b]) (.tup [ftA f, .bool b], []) := by
 refine ⟨⟨?_, rfl, trivial⟩, by rfl, rfl⟩
 refine ⟨rfl, rfl, rfl, rfl, rfl, rfl, rfl, rfl, rfl, rfl, rfl, rfl, rfl, rfl, rfl, rfl, rfl, rfl, trivial⟩
theorem lax_zFt : RetLax (.tup [.agg (zFt .nil), .bool false]) (.tup [.agg (zFt .no), .bool false], []) := by
 refine ⟨⟨?_, rfl, trivial⟩, by rfl, rfl⟩
 refine ⟨rfl, rfl, rfl, ⟨rfl, rfl, .inl rfl⟩, rfl, rfl, rfl, rfl, rfl, rfl, rfl, rfl, ⟨rfl, rfl, .inl rfl⟩, rfl, rfl, rfl, ⟨rfl, rfl, .inl rfl⟩, rfl, trivial⟩
theorem p56 (m : Int) (n : List UInt8) (l : List Ft) (hl : l.length ≤ maxI) : TLaxOk PQ (GQ m) XF (tbl []) (itbl []) fs56 (J56 m idMk n l) g56 56 [.sl 18 (ftsL l) .no, .str n] (findA l n, []) := by
 constructor
 rw [w56]
 unfold maxI at hl
 have hn : (ftsL l).length = l.length := List.length_map _
 refine ⟨⟨0, ⟨by rw [hn]; rfl⟩, ⟨rfl⟩, ⟨Nat.zero_le _, fun y hy => by simp at hy⟩, trivial⟩, fun i hi => ⟨fun lt => ?_, fun ge => ⟨nofun, fun _ => ?_⟩⟩⟩
 ·have lt := of_decide_eq_true lt
  have hil : i < l.length := by omega
  refine ⟨⟨by omega, by omega⟩, _, _, by rw [Int.toNat_natCast]; exact take_ft hil, fun c => ⟨fun _ => ⟨⟨by omega, by omega⟩, _, _, by rw [Int.toNat_natCast]; exact take_ft hil, ?_⟩, fun c2 => absurd (of_decide_eq_false c2) (by omega)⟩, fun c => ⟨i + 1, ⟨by rw [wrapI (by omega)]⟩, ⟨rfl⟩, ⟨hil, fun y hy => ?_⟩, by omega⟩⟩
  ·have : findA l n = .tup [ftA l[i], .bool true] := by unfold findA; rw [find_at hil hi.2 c]
   rw [this]
   exact lax_ft _ _
  ·rw [List.take_succ_eq_append_getElem hil] at hy
   rcases List.mem_append.1 hy with hy | hy
   ·exact hi.2 y hy
   ·simp at hy; subst hy; exact c
 ·have ge := of_decide_eq_false ge
  have := hi.2
  rw [List.take_of_length_le (by omega)] at this
  have : findA l n = .tup [.agg (zFt .no), .bool false] := by unfold findA; rw [find_no this]
  rw [this]
  exact lax_zFt
theorem J56_ok (m : Int) (n : List UInt8) (l : List Ft) : InOk PQ (GQ m) fs56 (J56 m idMk n l) := inW_ok mixedQ tbl_nil itbl_nil 3
open Classical in
theorem tlax_of' {P : Program} {G : Glob} (hm : P.follows .mixedOrders = true) {f : FuncId} {s : Spec}
  (h : ∀ args r, s args = some r → ∃ (X : Shapes) (R : Callee) (C : CCallee) (fs : FuncId → Bool) (J : InC) (g : TCfg), CalleeOk P G R ∧ ICalleeOk P G (lowC C) ∧ InOk P G fs J ∧ TLaxOk P G X R C fs J g f args r) : SpecOk P G f s := by
 intro g args r lv hr
 by_cases e : g = f
 ·simp only [e, if_true] at hr
  obtain ⟨X, R, C, fs, J, gg, hR, hC, hJ, hh⟩ := h args _ hr
  have := tlax_of (X := X) (R := R) (C := C) (fs := fs) (J := J) (P := P) (G := G) (f := f) (s := fun xs => if xs = args then some (r, lv) else none) hm hR hC hJ (fun xs r' h' => by
   split at h'
   ·rename_i ea
    injection h' with h'
    subst ea; subst h'
    exact ⟨gg, hh⟩
   ·cases h')
  exact this g args r lv (by simp only [e, if_true])
 ·simp only [e, if_false] at hr
  cases hr
theorem o56 (m : Int) : SpecOk PQ (GQ m) 56 sFind := tlax_of' mixedQ fun args r h => by
 unfold sFind at h
 split at h
 case h_2 => cases h
 split at h
 case h_2 => cases h
 rename_i l hu
 split at h
 case isFalse => cases h
 rename_i hs
 injection h with h; subst h
 rw [unL_inv unFt_inv hu, hs.1]
 exact ⟨_, _, _, _, _, _, tbl_nil, itbl_nil, J56_ok m _ _, p56 m _ _ hs.2⟩
theorem SpecOk.tell {P : Program} {G : Glob} {f : FuncId} {s s' : Spec} (hs : SpecOk P G f s) (h : ∀ args r', s' args = some r' → ∃ r, s args = some (r, []) ∧ (∀ E w v, Rep E w r v → Rep E w r'.1 v) ∧ r'.2 = []) : SpecOk P G f s' := by
 intro g args r' lv hr
 by_cases e : g = f
 ·subst e
  simp only [if_true] at hr
  obtain ⟨r, h1, h2, h3⟩ := h args _ hr
  simp only at h2 h3
  subst h3
  intro E w vs hI hG hn hv hcl
  refine (hs g args r [] (by simp only [if_true]; exact h1) E w vs hI hG hn hv hcl).mono ?_
  rintro e w' ⟨v, he, I', k1, k2, k3, k4⟩
  refine ⟨v, he, I', k1, k2, k3, .inl ⟨rfl, fun B K => ?_⟩⟩
  rcases k4 with ⟨_, k4⟩ | ⟨n, e', hv', sz, xs, k5, _⟩
  ·exact h2 _ _ _ (k4 B K)
  ·cases k5
 ·simp only [e, if_false] at hr
  cases hr
def fnd (l : List Ft) (n : List UInt8) : Ft × Bool :=
 match findF l n with
 | some f => (f, true)
 | none => (⟨[], []⟩, false)
def fndA (l : List Ft) (n : List UInt8) : AV := .tup [ftA (fnd l n).1, .bool (fnd l n).2]
theorem fnd_rep {E : Env} {w : World} {l : List Ft} {n : List UInt8} {v : Value} (h : Rep E w (findA l n) v) : Rep E w (fndA l n) v := by
 unfold findA at h
 unfold fndA fnd
 cases hf : findF l n with
 | some f => simp only [hf] at h; exact h
 | none =>
  simp only [hf] at h
  cases h with
  | tup _ vs hn hc =>
   refine .tup _ vs hn fun i c u hi hu => ?_
   match i, hi with
   | 0, hi =>
    simp at hi; subst hi
    have h0 := hc 0 _ u rfl hu
    cases h0 with
    | agg _ us hn1 h1 hc1 =>
     refine .agg _ us hn1 h1 fun j c u hj hu => ?_
     match j, hj with
     | 0, hj => exact hc1 0 c u hj hu
     | 1, hj => exact hc1 1 c u hj hu
     | j + 2, hj =>
      have : c = .opq := by
       have hm := List.mem_of_getElem? (l := [AV.opq, .opq, .opq, .opq, .opq, .opq, .opq, .opq, .opq, .opq, .opq, .opq, .opq, .opq, .opq, .opq]) (i := j) (a := c) hj
       simpa using hm
      subst this
      exact .opq u (h1 (j + 2) u hu)
   | 1, hi => exact hc 1 c u hi hu
def sFind' : Spec := fun args => match args with
 | [.sl sz fs .no, .str n] => match unL unFt fs with
  | some l => if sz = 18 ∧ l.length ≤ maxI then some (fndA l n, []) else none
  | none => none
 | _ => none
def sFeat' : Spec := fun args => match args with
 | [.agg [.sl _ _ .no, .sl sz fs .no, .sl _ _ .no, .sl _ _ .no], .str n] => match unL unFt fs with
  | some l => if sz = 18 ∧ l.length ≤ maxI then some (fndA l n, []) else none
  | none => none
 | _ => none
theorem find_tell {P : Program} {G : Glob} {f : FuncId} (h : SpecOk P G f sFind) : SpecOk P G f sFind' := h.tell fun args r' hr => by
 unfold sFind' at hr
 split at hr
 case h_2 => cases hr
 split at hr
 case h_2 => cases hr
 rename_i hu
 split at hr
 case isFalse => cases hr
 rename_i hc
 injection hr with hr; subst hr
 exact ⟨_, by simp only [sFind, hu, if_pos hc], fun E w v h => fnd_rep h, rfl⟩
def shFnd : Sh × Option TypeId := (.tup [shFt (.is .opq), .one .bool], none)
def X25 : Shapes := fun f => match f with
 | 19 | 55 | 56 | 105 => some shFnd
 | 16 => some shB
 | f => X24 f
def ctC (a : Nat) (ts : List AV) (l : List Ft) (b : Nat) (ds : List AV) (c : Nat) (ps : List AV) : List AV := [.sl a ts .no, .sl 18 (ftsL l) .no, .sl b ds .no, .sl c ps .no]
def stC (a : Nat) (ts : List AV) (l : List Ft) (b : Nat) (ds : List AV) (c : Nat) (ps : List AV) (r : Rq) : St := ⟨[some (ctC a ts l b ds c ps), some [.str r.entity, .sl 1 (strsL r.feats) .no, .sl 3 (lbsL r.labels) .no, .int .i64 r.seed, .int .i64 r.permille]], []⟩
def a17 (a : Nat) (ts : List AV) (l : List Ft) (b : Nat) (ds : List AV) (c : Nat) (ps : List AV) (r : Rq) : Anns := ⟨fun k => if k = 4 then some { α := Nat, slots := [2, 3, 13, 14, 15], nb := 2, vals := fun i => [.ptr 0 0, .ptr 1 0, .sl 1 (strsL r.feats) .no, .int .i64 r.feats.length, .int .i64 i], sS := fun _ => stC a ts l b ds c ps r, I := fun i => i ≤ r.feats.length ∧ chkL l r.entity r.feats = chkL l r.entity (r.feats.drop i), μ := fun i => r.feats.length - i } else none, nA⟩
def fewB (r : Rq) : Bool := decide (r.feats.length ≤ 100) && decide (r.labels.length ≤ 300)
def s10 : Spec := fun args => match args with
 | [a] => match unRqN a with
  | some r => some (.bool (fewB r), [])
  | none => none
 | _ => none
def sTrue : Spec := fun args => match args with
 | [] => some (.bool true, [])
 | _ => none
theorem w19 (m : Int) (n : List UInt8) (a : Nat) (ts : List AV) (l : List Ft) (b : Nat) (ds : List AV) (c : Nat) (ps : List AV) (r : AV) : (laxW PQ (GQ m) X25 (tbl [(56, sFind')]) (itbl []) nAn [] 19 [.agg (ctC a ts l b ds c ps), .str n] (r, [])) =
(∃ (s : List UInt8),
  ∃ (s_1 : List UInt8),
    ∃ (b : Bool),
      CallIs (tbl [((56 : Nat), sFind')] ((56 : Nat)) [AV.sl ((18 : Nat)) (ftsL l) Own.no, AV.str n])
 (AV.tup
 [AV.agg
 [AV.str s, AV.str s_1, AV.opq, AV.opq, AV.opq, AV.opq, AV.opq, AV.opq, AV.opq, AV.opq, AV.opq, AV.opq, AV.opq, AV.opq, AV.opq, AV.opq, AV.opq,
 AV.opq],
 AV.bool b])
 [] ∧
        (b = true →
 RetLax
 (AV.tup
 [AV.agg
 [AV.str s, AV.str s_1, AV.opq, AV.opq, AV.opq, AV.opq, AV.opq, AV.opq, AV.opq, AV.opq, AV.opq, AV.opq, AV.opq, AV.opq, AV.opq, AV.opq,
 AV.opq, AV.opq],
 AV.bool true])
 (r, [])) ∧
 (b = false →
 RetLax
 (AV.tup
 [AV.agg
 [AV.str s, AV.str s_1, AV.opq, AV.opq, AV.opq, AV.opq, AV.opq, AV.opq, AV.opq, AV.opq, AV.opq, AV.opq, AV.opq, AV.opq, AV.opq, AV.opq,
 AV.opq, AV.opq],
 AV.bool false])
 (r, []))) := by kernel_rfl
theorem w10 (m : Int) (x : Rq) (r : AV) : (pureW PQ (GQ m) X25 (tbl []) (itbl []) nAn [] 10 [rqA x] (r, [])) =
((decide ((↑(strsL x.feats).length : Int) ≤ (100 : Int)) = true →
  (decide ((↑(lbsL x.labels).length : Int) ≤ (300 : Int)) = true → RetIs (AV.bool true) [] (r, [])) ∧
   (decide ((↑(lbsL x.labels).length : Int) ≤ (300 : Int)) = false → RetIs (AV.bool false) [] (r, []))) ∧
 (decide ((↑(strsL x.feats).length : Int) ≤ (100 : Int)) = false → RetIs (AV.bool false) [] (r, []))) := by kernel_rfl
theorem w17 (m : Int) (a : Nat) (ts : List AV) (l : List Ft) (b : Nat) (ds : List AV) (c : Nat) (ps : List AV) (x : Rq) (r : AV) : (pureW PQ (GQ m) X25 (tbl [(46, s46), (19, sFeat')]) (itbl []) (a17 a ts l b ds c ps x) [] 17 [.agg (ctC a ts l b ds c ps), rqA x] (r, [])) =
(∃ (b_1 : Bool),
  CallIs
      (tbl [((46 : Nat), s46), ((19 : Nat), sFeat')] ((46 : Nat))
        [AV.agg
 [AV.str x.entity, AV.sl ((1 : Nat)) (strsL x.feats) Own.no, AV.sl ((3 : Nat)) (lbsL x.labels) Own.no, AV.int IntKind.i64 x.seed,
 AV.int IntKind.i64 x.permille]])
      (AV.bool b_1) [] ∧
    (b_1 = true →
        (∃ (y : Nat),
 ValsAre
 [AV.ptr ((0 : Nat)) ((0 : Nat)), AV.ptr ((1 : Nat)) ((0 : Nat)), AV.sl ((1 : Nat)) (strsL x.feats) Own.no,
 AV.int IntKind.i64 (↑(strsL x.feats).length : Int), AV.int IntKind.i64 (0 : Int)]
 [AV.ptr ((0 : Nat)) ((0 : Nat)), AV.ptr ((1 : Nat)) ((0 : Nat)), AV.sl ((1 : Nat)) (strsL x.feats) Own.no,
 AV.int IntKind.i64 (↑x.feats.length : Int), AV.int IntKind.i64 (↑y : Int)] ∧
 StIs
 { boxes := [some [AV.sl a ts Own.no, AV.sl ((18 : Nat)) (ftsL l) Own.no, AV.sl b ds Own.no, AV.sl c ps Own.no], some [AV.str x.entity, AV.sl ((1 : Nat)) (strsL x.feats) Own.no, AV.sl ((3 : Nat)) (lbsL x.labels) Own.no, AV.int IntKind.i64 x.seed, AV.int IntKind.i64 x.permille]], live := [] }
 { boxes := [some [AV.sl a ts Own.no, AV.sl ((18 : Nat)) (ftsL l) Own.no, AV.sl b ds Own.no, AV.sl c ps Own.no], some [AV.str x.entity, AV.sl ((1 : Nat)) (strsL x.feats) Own.no, AV.sl ((3 : Nat)) (lbsL x.labels) Own.no, AV.int IntKind.i64 x.seed, AV.int IntKind.i64 x.permille]], live := [] } ∧
 (y ≤ x.feats.length ∧ chkL l x.entity x.feats = chkL l x.entity (List.drop y x.feats)) ∧ True) ∧
 ∀ (x_1 : Nat),
 x_1 ≤ x.feats.length ∧ chkL l x.entity x.feats = chkL l x.entity (List.drop x_1 x.feats) →
 (decide ((↑x_1 : Int) < (↑x.feats.length : Int)) = true →
 ((0 : Int) ≤ (↑x_1 : Int) ∧ (↑x_1 : Int) < (↑(strsL x.feats).length : Int)) ∧
 ∃ (s : List UInt8),
 takeAt PQ ((9 : Nat)) (strsL x.feats) (↑x_1 : Int).toNat ((0 : Nat)) = some (AV.str s) ∧
 ∃ (s_1 : List UInt8),
 ∃ (s_2 : List UInt8),
 ∃ (b_2 : Bool),
 CallIs
 (tbl [((46 : Nat), s46), ((19 : Nat), sFeat')] ((19 : Nat))
 [AV.agg [AV.sl a ts Own.no, AV.sl ((18 : Nat)) (ftsL l) Own.no, AV.sl b ds Own.no, AV.sl c ps Own.no], AV.str s])
 (AV.tup
 [AV.agg
 [AV.str s_1, AV.str s_2, AV.opq, AV.opq, AV.opq, AV.opq, AV.opq, AV.opq, AV.opq, AV.opq, AV.opq, AV.opq, AV.opq, AV.opq,
 AV.opq, AV.opq, AV.opq, AV.opq],
 AV.bool b_2])
 [] ∧
 (b_2 = true →
 ((!s_2 == x.entity) = true → RetIs (AV.int IntKind.i64 (5 : Int)) [] (r, [])) ∧
 ((!s_2 == x.entity) = false →
 ∃ (y : Nat),
 ValsAre
 [AV.ptr ((0 : Nat)) ((0 : Nat)), AV.ptr ((1 : Nat)) ((0 : Nat)), AV.sl ((1 : Nat)) (strsL x.feats) Own.no,
 AV.int IntKind.i64 (↑x.feats.length : Int), AV.int IntKind.i64 (IntKind.i64.wrap ((↑x_1 : Int) + (1 : Int)))]
 [AV.ptr ((0 : Nat)) ((0 : Nat)), AV.ptr ((1 : Nat)) ((0 : Nat)), AV.sl ((1 : Nat)) (strsL x.feats) Own.no,
 AV.int IntKind.i64 (↑x.feats.length : Int), AV.int IntKind.i64 (↑y : Int)] ∧
 StIs
 { boxes := [some [AV.sl a ts Own.no, AV.sl ((18 : Nat)) (ftsL l) Own.no, AV.sl b ds Own.no, AV.sl c ps Own.no], some [AV.str x.entity, AV.sl ((1 : Nat)) (strsL x.feats) Own.no, AV.sl ((3 : Nat)) (lbsL x.labels) Own.no, AV.int IntKind.i64 x.seed, AV.int IntKind.i64 x.permille]], live := [] }
 { boxes := [some [AV.sl a ts Own.no, AV.sl ((18 : Nat)) (ftsL l) Own.no, AV.sl b ds Own.no, AV.sl c ps Own.no], some [AV.str x.entity, AV.sl ((1 : Nat)) (strsL x.feats) Own.no, AV.sl ((3 : Nat)) (lbsL x.labels) Own.no, AV.int IntKind.i64 x.seed, AV.int IntKind.i64 x.permille]], live := [] } ∧
 (y ≤ x.feats.length ∧ chkL l x.entity x.feats = chkL l x.entity (List.drop y x.feats)) ∧
 x.feats.length - y < x.feats.length - x_1)) ∧
 (b_2 = false → RetIs (AV.int IntKind.i64 (4 : Int)) [] (r, []))) ∧
 (decide ((↑x_1 : Int) < (↑x.feats.length : Int)) = false → RetIs (AV.int IntKind.i64 (0 : Int)) [] (r, []))) ∧
      (b_1 = false → RetIs (AV.int IntKind.i64 (240 : Int)) [] (r, []))) := by kernel_rfl
theorem runFind' {l : List Ft} {n : List UInt8} (hl : l.length ≤ maxI) : sFind' [.sl 18 (ftsL l) .no, .str n] = some (fndA l n, []) := by
 simp only [sFind', unL_map unFt_ok]
 rw [if_pos ⟨trivial, hl⟩]
theorem runFeat' {a : Nat} {ts : List AV} {l : List Ft} {b : Nat} {ds : List AV} {c : Nat} {ps : List AV} {n : List UInt8} (hl : l.length ≤ maxI) : sFeat' [.agg [.sl a ts .no, .sl 18 (ftsL l) .no, .sl b ds .no, .sl c ps .no], .str n] = some (fndA l n, []) := by
 simp only [sFeat', unL_map unFt_ok]
 rw [if_pos ⟨trivial, hl⟩]
theorem p19 (m : Int) (n : List UInt8) (a : Nat) (ts : List AV) (l : List Ft) (b : Nat) (ds : List AV) (c : Nat) (ps : List AV) (hl : l.length ≤ maxI) : LaxOk PQ (GQ m) X25 (tbl [(56, sFind')]) (itbl []) nAn [] 19 [.agg (ctC a ts l b ds c ps), .str n] (fndA l n, []) := by
 constructor
 rw [w19]
 exact ⟨_, _, _, ⟨runFind' hl⟩, fun h => by unfold fndA; rw [h]; exact lax_ft _ _, fun h => by unfold fndA; rw [h]; exact lax_ft _ _⟩
theorem o19 (m : Int) : SpecOk PQ (GQ m) 19 sFeat' := lax_of (X := X25) (m := []) mixedQ (tbl_cons (find_tell (o56 m)) tbl_nil) itbl_nil fun args r h => by
 unfold sFeat' at h
 split at h
 case h_2 => cases h
 split at h
 case h_2 => cases h
 rename_i hu
 split at h
 case isFalse => cases h
 rename_i hs
 injection h with h; subst h
 rw [unL_inv unFt_inv hu, hs.1]
 exact ⟨_, p19 m _ _ _ _ _ _ _ _ hs.2⟩
theorem p10 (m : Int) (x : Rq) : PureOk PQ (GQ m) X25 (tbl []) (itbl []) nAn [] 10 [rqA x] (.bool (fewB x), []) := by
 constructor
 rw [w10]
 have hn : (strsL x.feats).length = x.feats.length := List.length_map _
 have hm : (lbsL x.labels).length = x.labels.length := List.length_map _
 simp only [hn, hm]
 unfold fewB
 refine ⟨fun h => ⟨fun h2 => ⟨?_⟩, fun h2 => ⟨?_⟩⟩, fun h => ⟨?_⟩⟩
 ·rw [decide_eq_true (p := x.feats.length ≤ 100) (by have := of_decide_eq_true h; omega), decide_eq_true (p := x.labels.length ≤ 300) (by have := of_decide_eq_true h2; omega)]; rfl
 ·rw [decide_eq_false (p := x.labels.length ≤ 300) (by have := of_decide_eq_false h2; omega), Bool.and_false]
 ·rw [decide_eq_false (p := x.feats.length ≤ 100) (by have := of_decide_eq_false h; omega), Bool.false_and]
theorem o10 (m : Int) : SpecOk PQ (GQ m) 10 s10 := spec_of (X := X25) (m := []) mixedQ tbl_nil itbl_nil fun args r h => by
 unfold s10 at h
 split at h
 case h_2 => cases h
 split at h
 case h_2 => cases h
 rename_i hu
 injection h with h; subst h
 rw [unRqN_inv _ _ hu]
 exact ⟨_, p10 m _⟩
theorem run46 (r : Rq) : s46 [rqA r] = some (.bool (formB r), []) := by simp only [s46, unRqN_ok]
theorem run10 (r : Rq) : s10 [rqA r] = some (.bool (fewB r), []) := by simp only [s10, unRqN_ok]
theorem chk_step {l : List Ft} {en : List UInt8} {fs : List (List UInt8)} {i : Nat} (h : i < fs.length) : chkL l en (fs.drop i) = if (fnd l fs[i]).2 = false then 4 else if (fnd l fs[i]).1.entity ≠ en then 5 else chkL l en (fs.drop (i + 1)) := by
 rw [List.drop_eq_getElem_cons h, chkL]
 unfold fnd
 cases findF l fs[i] <;> rfl
theorem chk_end {l : List Ft} {en : List UInt8} {fs : List (List UInt8)} {i : Nat} (h : ¬ i < fs.length) : chkL l en (fs.drop i) = 0 := by
 rw [List.drop_eq_nil_of_le (by omega)]; rfl
theorem bne_neq {a b : List UInt8} (h : (!a == b) = true) : a ≠ b := fun e => by subst e; simp at h
theorem bne_eq {a b : List UInt8} (h : (!a == b) = false) : a = b := by simpa using h
theorem p17 (m : Int) (a : Nat) (ts : List AV) (l : List Ft) (b : Nat) (ds : List AV) (c : Nat) (ps : List AV) (x : Rq) (hl : l.length ≤ maxI) : PureOk PQ (GQ m) X25 (tbl [(46, s46), (19, sFeat')]) (itbl []) (a17 a ts l b ds c ps x) [] 17 [.agg (ctC a ts l b ds c ps), rqA x] (.int .i64 (chk l x), []) := by
 constructor
 rw [w17]
 have hn : (strsL x.feats).length = x.feats.length := List.length_map _
 simp only [hn]
 unfold chk
 refine ⟨_, ⟨run46 x⟩, fun b1 => ?_, fun b1 => ⟨by rw [b1]; rfl⟩⟩
 have l8 : x.feats.length ≤ 8 := by
  unfold formB headOk at b1
  simp only [Bool.and_eq_true, decide_eq_true_eq] at b1
  omega
 rw [if_pos b1]
 refine ⟨⟨0, ⟨rfl⟩, ⟨rfl⟩, ⟨Nat.zero_le _, rfl⟩, trivial⟩, fun i hi => ⟨fun lt => ?_, fun ge => ⟨?_⟩⟩⟩
 ·have lt := of_decide_eq_true lt
  have hil : i < x.feats.length := by omega
  have hs := hi.2.trans (chk_step hil)
  refine ⟨⟨by omega, by omega⟩, _, by rw [Int.toNat_natCast]; exact take_str hil, _, _, _, ⟨runFeat' (a := a) (ts := ts) (b := b) (ds := ds) (c := c) (ps := ps) hl⟩, fun b2 => ⟨fun b3 => ⟨?_⟩, fun b3 => ⟨i + 1, ⟨by rw [wrapI (by omega)]⟩, ⟨rfl⟩, ⟨hil, ?_⟩, by omega⟩⟩, fun b2 => ⟨?_⟩⟩
  ·rw [hs, if_neg (by rw [b2]; simp), if_pos (bne_neq b3)]
  ·rw [hs, if_neg (by rw [b2]; simp), if_neg (by simp only [ne_eq, Decidable.not_not]; exact bne_eq b3)]
  ·rw [hs, if_pos b2]
 ·have ge := of_decide_eq_false ge
  rw [hi.2, chk_end (by omega)]
theorem o17 (m : Int) : SpecOk PQ (GQ m) 17 s17 := spec_of (X := X25) (m := []) mixedQ (tbl_cons (o46 m) (tbl_cons (o19 m) tbl_nil)) itbl_nil fun args r h => by
 unfold s17 at h
 split at h
 case h_2 => cases h
 split at h
 case h_2 => cases h
 rename_i hu hr
 split at h
 case isFalse => cases h
 rename_i hs
 injection h with h; subst h
 rw [unL_inv unFt_inv hu, hs.1, unRqN_inv _ _ hr]
 exact ⟨_, p17 m _ _ _ _ _ _ _ _ hs.2.1⟩
theorem run17 {a : Nat} {ts : List AV} {l : List Ft} {b : Nat} {ds : List AV} {c : Nat} {ps : List AV} {r : Rq} (hl : l.length ≤ maxI) (hk : keysOk r.labels = true) : s17 [.agg [.sl a ts .no, .sl 18 (ftsL l) .no, .sl b ds .no, .sl c ps .no], rqA r] = some (.int .i64 (chk l r), []) := by
 simp only [s17, unL_map unFt_ok, unRqN_ok]
 rw [if_pos ⟨trivial, hl, hk⟩]
end Go.Abs
namespace Go.Abs
open Go.Proofs Go.RowKit
def s51 : Spec := fun args => match args with
 | [.sl sz fs .no, .str sep] => match unL unS fs with
  | some l => if sz = 1 ∧ l.length ≤ 140737488355328 ∧ (Lib.join l sep).length ≤ 140737488355328 then some (.str (Lib.join l sep), []) else none
  | none => none
 | _ => none
theorem o51 (m : Int) : SpecOk PQ (GQ m) 51 s51 := by
 intro g args r lv h E w vs hI hG hn' hv hcl
 simp only at h
 split at h
 case isFalse => cases h
 case isTrue e =>
 subst e
 unfold s51 at h
 split at h
 case h_2 => cases h
 rename_i sz fs sep
 split at h
 case h_2 => cases h
 rename_i l hu
 split at h
 case isFalse => cases h
 rename_i hc
 obtain ⟨rfl, hn, hj⟩ := hc
 simp only [Option.some.injEq, Prod.mk.injEq] at h
 obtain ⟨rfl, rfl⟩ := h
 obtain rfl := unL_inv unS_inv hu
 obtain ⟨vl⟩ := vs
 match vl, hn' with
 | [a, c], _ =>
  obtain ⟨sb, rfl, hsb⟩ := rep_str (hv 1 _ c rfl rfl)
  have ha := hv 0 _ a rfl rfl
  cases ha with
  | sl _ _ _ A cap u hcap hmax hA hszs hcl' ho hr h1u =>
  have hlen : (strsL l).length = l.length := List.length_map _
  rcases hA with hA | ⟨bk, off, rfl, hA2⟩
  ·have : l = [] := by simpa using hA
   subst this
   refine .inl ⟨goodQ (by kernel_rfl), (Tryz.strings_Join_none A cap sb w).mono fun e w' ⟨he, hw⟩ => ⟨_, he, ?_⟩⟩
   subst hw
   exact res_below (Below.refl _ _) fun B K => .str _ _ rfl
  ·
   have hx : ∀ (i : Nat) (x : List UInt8), l[i]? = some x → ∃ b : ByteArray, b.data.toList = x ∧ w.cell? ⟨bk, off + i, none⟩ = some (.string b) ∧ E.I bk (off + i) := fun i x hi => by
    have he : (strsL l)[i]? = some (.str x) := by rw [List.getElem?_map, hi]; rfl
    obtain ⟨h2, h3⟩ := hA2 i _ 0 _ he rfl
    obtain ⟨b, hb, hbx⟩ := rep_str (hr i _ 0 _ he rfl)
    rw [hb] at h3
    refine ⟨b, hbx, ?_, ?_⟩
    ·rw [← h3]; congr 2; omega
    ·have : off + i * 1 + 0 = off + i := by omega
     rw [this] at h2; exact h2
   let bs : List ByteArray := l.map fun x => ⟨x.toArray⟩
   have hbs : bs.map (fun x : ByteArray => x.data.toList) = l := by
    simp only [bs, List.map_map]
    conv => rhs; rw [← List.map_id l]
    apply List.map_congr_left
    intro x _
    rfl
   have hbl : bs.length = l.length := List.length_map _
   have hcells : ∀ (j : Nat) (x : ByteArray), bs[j]? = some x → w.cell? ⟨bk, off + j, none⟩ = some (.string x) := fun j x hj => by
    simp only [bs, List.getElem?_map] at hj
    cases hlj : l[j]? with
    | none => rw [hlj] at hj; cases hj
    | some y =>
     rw [hlj] at hj
     injection hj with hj
     obtain ⟨b, hb, hc, _⟩ := hx j y hlj
     rw [hc]
     have : b = x := by
      subst hj
      cases b with
      | mk d =>
       congr 1
       apply Array.toList_inj.1
       exact hb
     rw [this]
   by_cases hl0 : l = []
   ·subst hl0
    refine .inl ⟨goodQ (by kernel_rfl), (Tryz.strings_Join_none (some ⟨bk, off, none⟩) cap sb w).mono fun e w' ⟨he, hw⟩ => ⟨_, he, ?_⟩⟩
    subst hw
    exact res_below (Below.refl _ _) fun B K => .str _ _ rfl
   ·have hbk : bk < w.heap.size := by
     cases l with
     | nil => exact absurd rfl hl0
     | cons x t =>
      obtain ⟨_, _, _, h4⟩ := hx 0 x rfl
      exact hI _ _ h4
    have := Tryz.strings_Join bk off cap bs sb w hcells hbk (by omega) (by rw [hlen] at hcap; omega) (by rw [hbs, hsb]; exact hj)
    rw [hbs, hsb, hbl] at this
    rw [hlen]
    refine .inl ⟨goodQ (by kernel_rfl), this.mono fun e w' ⟨he, hb⟩ => ⟨_, he, ?_⟩⟩
    exact res_below hb fun B K => .str _ _ rfl
def lbT (x : Lb) : List UInt8 := [34] ++ x.key ++ [34, 32] ++ Lib.itoa x.event ++ [32] ++ Lib.itoa x.know
def fmtTail : List UInt8 → List Lb → List UInt8
 | _, [] => []
 | b, x :: l => b ++ lbT x ++ fmtTail [44, 32] l
def fmtHead (r : Rq) : List UInt8 := [111, 102, 32] ++ r.entity ++ [32, 116, 97, 107, 101, 32] ++ Lib.join r.feats [44, 32]
def fmtMid (r : Rq) : List UInt8 := [32, 115, 101, 101, 100, 32] ++ Lib.itoa r.seed ++ [32, 107, 101, 101, 112, 32] ++ Lib.itoa r.permille
def fmtL (r : Rq) : List UInt8 := if formB r then fmtHead r ++ fmtMid r ++ fmtTail [32, 97, 116, 32] r.labels else []
def s14 : Spec := fun args => match args with
 | [a] => match unRqN a with
  | some r => some (.str (fmtL r), [])
  | none => none
 | _ => none
structure FX where
 i : Nat
 t : List UInt8
 bf : List UInt8
def shS : Sh × Option TypeId := (.val (.one .str), none)
def XS : Shapes := fun f => match f with
 | 46 => some shB
 | 51 | 52 => some shS
 | _ => none
def stF (r : Rq) (t : List UInt8) : St := ⟨[some [.str r.entity, .sl 1 (strsL r.feats) .no, .sl 3 (lbsL r.labels) .no, .int .i64 r.seed, .int .i64 r.permille], some (typB 107 [.opq, .sl 1 (bytesL t) (.tok 0)])], [(t.length, 5)]⟩
def a14 (r : Rq) : Anns := ⟨fun k => if k = 8 then some { α := FX, slots := [1, 3, 4, 30, 31, 32], nb := 2, vals := fun x => [.ptr 0 0, .ptr 1 0, .str x.bf, .sl 3 (lbsL r.labels) .no, .int .i64 r.labels.length, .int .i64 x.i], sS := fun x => stF r x.t, I := fun x => x.i ≤ r.labels.length ∧ x.t = fmtHead r ++ fmtMid r ++ fmtTail [32, 97, 116, 32] (r.labels.take x.i) ∧ x.bf = (if x.i = 0 then [32, 97, 116, 32] else [44, 32]), μ := fun x => r.labels.length - x.i } else none, nA⟩
structure FmtEnd (r : Rq) (p : AV) (S : St) (n : Nat) : Prop where
 p : p = .ptr 1 0
 S : ∃ b0 t, S = ⟨[some b0, some (typB 107 [.opq, .sl 1 (bytesL t) (.tok 0)])], [(t.length, 5)]⟩ ∧ t = fmtL r ∧ t ≠ []
 n : n = 54
def tS : List (FuncId × Spec) := [(46, s46), (51, s51), (52, s52)]
end Go.Abs
namespace Go.Abs
open Go.Proofs
def X5 : Shapes := fun f => match f with
 | 14 => some shS
 | 20 => some shB
 | f => X25 f
def t5 : List (FuncId × Spec) := [(10, s10), (17, s17), (14, s14), (16, sTrue), (19, sFeat'), (20, sIn)]
def tb4 : AV := .agg [.opq, .opq, .opq, .opq]
def bx5 (ts : List AV) (l d p : List Ft) (r : Rq) (f : Ft) : List (Option (List AV)) := [some (ctC 4 ts l 18 (ftsL d) 18 (ftsL p)), some [.str r.entity, .sl 1 (strsL r.feats) .no, .sl 3 (lbsL r.labels) .no, .int .i64 r.seed, .int .i64 r.permille], some (ftC f), some [.opq, .opq, .opq, .opq]]
def st5 (ts : List AV) (l d p : List Ft) (r : Rq) (f : Ft) : St := ⟨bx5 ts l d p r f, []⟩
def cut5 (S : St) (sl : List Nat) (vs : List AV) : Option Ann := some { α := Unit, slots := sl, nb := S.boxes.length, vals := fun _ => vs, sS := fun _ => S, I := fun _ => True, μ := fun _ => 0 }
def a5 (ts : List AV) (l d p : List Ft) (r : Rq) (f : Ft) : Anns := ⟨fun k => match k with
 | 9 => some { α := Nat, slots := [4, 5, 6, 7, 10], nb := 4, vals := fun i => [.ptr 0 0, .ptr 1 0, .ptr 2 0, .ptr 3 0, .int .i64 i], sS := fun _ => st5 ts l d p r f, I := fun i => i ≤ r.feats.length, μ := fun i => r.feats.length - i }
 | 1000006 => cut5 (st5 ts l d p r f) [4, 5, 6, 7, 9] [.ptr 0 0, .ptr 1 0, .ptr 2 0, .ptr 3 0, .int .i64 (chk l r)]
 | 1000016 => cut5 ⟨bx5 ts l d p r f ++ [some [.sl 4 ts .no, .sl 18 (ftsL l ++ [ftA f]) (.tok 0), .sl 18 (ftsL d) .no, .sl 18 (ftsL p) .no]], [(l.length + 1, 52)]⟩ [4, 5, 6, 7, 13] [.ptr 0 0, .ptr 1 0, .ptr 2 0, .ptr 3 0, .ptr 4 0]
 | 1000017 => cut5 ⟨bx5 ts l d p r f ++ [some [.sl 4 ts .no, .sl 18 (ftsL l ++ [ftA f]) (.tok 0), .sl 18 (ftsL d ++ [ftA f]) (.tok 1), .sl 18 (ftsL p) .no]], [(l.length + 1, 52), (d.length + 1, 52)]⟩ [4, 5, 6, 7, 13] [.ptr 0 0, .ptr 1 0, .ptr 2 0, .ptr 3 0, .ptr 4 0]
 | 1000018 => cut5 ⟨bx5 ts l d p r f ++ [some [.sl 4 (ts ++ [tb4]) (.tok 2), .sl 18 (ftsL l ++ [ftA f]) (.tok 0), .sl 18 (ftsL d ++ [ftA f]) (.tok 1), .sl 18 (ftsL p) .no]], [(l.length + 1, 52), (d.length + 1, 52), (ts.length + 1, 55)]⟩ [4, 5, 6, 7, 13] [.ptr 0 0, .ptr 1 0, .ptr 2 0, .ptr 3 0, .ptr 4 0]
 | _ => none, nA⟩
end Go.Abs
