/- Own texts, part 3. -/
import Derived.Test.YtooobfhjklcnjaaDoorPart2
import Derived.Test.YtooobfhjklcnjaaDoorProg
import Derived.Test.YtooobfhjklcnjaaDoorChecked
import Derived.Test.YtooobfhjklcnjaaDoorShelf
import Derived.KernelRfl
import Derived.Lib.DecodeNEq
import Derived.Lib.AtoiAll

namespace Go.Abs
open Go.Proofs
noncomputable abbrev PP := Tryd.prog
def tensA : AV := .agg [.int .i64 1, .int .i64 10, .int .i64 100, .int .i64 1000, .int .i64 10000, .int .i64 100000, .int .i64 1000000]
/-- the two tables of unicode/utf8 -/
def keptFirst : List AV := (List.range 256).map fun c => .int .u8 (Lib.firstT c)
def keptFirstA : AV := .agg keptFirst
def keptAcc : List AV := [.int .u8 128, .int .u8 191, .int .u8 160, .int .u8 191, .int .u8 128, .int .u8 159, .int .u8 144, .int .u8 191, .int .u8 128, .int .u8 143, .int .u8 0, .int .u8 0, .int .u8 0, .int .u8 0, .int .u8 0, .int .u8 0, .int .u8 0, .int .u8 0, .int .u8 0, .int .u8 0, .int .u8 0, .int .u8 0, .int .u8 0, .int .u8 0, .int .u8 0, .int .u8 0, .int .u8 0, .int .u8 0, .int .u8 0, .int .u8 0, .int .u8 0, .int .u8 0]
def keptAccA : AV := .agg keptAcc
def G8 (m : Int) : Glob := fun g => match g with
  | 0 => some (.int .i64 m)
  | 1 => some tensA
  | 2 => some keptFirstA
  | 3 => some keptAccA
  | 5 => some .ifc
  | _ => none
def lib8 : List (FuncId × Spec) := [(50, sIndexByte), (53, sIndexByteString), (32, sContains)]
theorem mixed8 : PP.follows .mixedOrders = true := Tryd.checked.mixed
noncomputable def fnAt (f : Nat) : Func := (PP.funcs[f]?).getD default
theorem good8 {f : FuncId} (h : (match PP.funcs[f]? with | some fn => fn.body.isSome && !(fn.name == "runtime.NumGoroutine") | none => false) = true) : goodFn PP f := by
  split at h
  · rename_i fn hf
    simp only [Bool.and_eq_true, Bool.not_eq_true'] at h
    exact ⟨fn, hf, h.1, h.2⟩
  · cases h
theorem lib8_ok (m : Int) : CalleeOk PP (G8 m) (tbl lib8) := by
  refine tbl_cons (o_indexByte (fn := Tryd.f50) (by kernel_rfl) (by kernel_rfl) (by kernel_rfl) (by kernel_rfl) (by kernel_rfl)) (tbl_cons (o_indexByteString (fn := Tryd.f53) (by kernel_rfl) (by kernel_rfl) (by kernel_rfl) (by kernel_rfl) (by kernel_rfl)) (tbl_cons ?_ tbl_nil))
  exact o_contains (good8 (by kernel_rfl)) (g0 := 0) (m := m) rfl fun s sub m w hs hm => Tryd.strings_Contains s sub m w hs hm

theorem spec_run {P : Program} {G : Glob} {R0 : Callee} (hm : P.follows .mixedOrders = true) (h0 : CalleeOk P G R0) {f : FuncId} {s : Spec} (h : ∀ args r, s args = some r → ∃ n, (evs P G R0 (fun _ => []) n).1 f args = some r) : SpecOk P G f s := by
  intro g args r lv hr
  simp only at hr
  split at hr
  · rename_i e
    subst e
    obtain ⟨n, hn⟩ := h args _ hr
    exact (evs_ok hm h0 (fun _ => []) n).1 g args r lv hn
  · cases hr

def cls (c : Nat) : Nat :=
  if c = 9 ∨ c = 10 ∨ c = 13 ∨ c = 32 then 1 else
  if 97 ≤ c ∧ c ≤ 122 then 2 else
  if 48 ≤ c ∧ c ≤ 57 then 3 else
  if c = 95 then 4 else
  if c = 34 then 5 else
  if c = 35 then 6 else
  if c ∈ [123, 125, 40, 41, 91, 93, 44, 58, 59, 61, 60, 43, 45, 42, 47, 94, 64] then 7 else
  if c = 33 then 8 else 0
def classesA : AV := .agg ((List.range 256).map fun c => .int .u8 (cls c))
def s27 : Spec := fun args => match args with
  | [] => some (classesA, [])
  | _ => none
set_option maxRecDepth 100000 in
theorem run27 (m : Int) : (evs PP (G8 m) (tbl lib8) (fun _ => []) 60).1 27 [] = some (classesA, []) := by kernel_rfl
theorem o27 (m : Int) : SpecOk PP (G8 m) 27 s27 := spec_run mixed8 (lib8_ok m) fun args r h => by
  unfold s27 at h
  split at h
  · injection h with h; subst h; exact ⟨60, run27 m⟩
  · cases h
def lib8b : List (FuncId × Spec) := (27, s27) :: lib8
theorem lib8b_ok (m : Int) : CalleeOk PP (G8 m) (tbl lib8b) := tbl_cons (o27 m) (lib8_ok m)
end Go.Abs

namespace Go.Abs
open Go.Proofs
def shB : Sh × Option TypeId := (.val (.one .bool), none)
def shI : Sh × Option TypeId := (.val (.one (.int .i64)), none)
def X1 : Shapes := fun f => if f = 49 ∨ f = 44 then some shB else none
def letterB (c : UInt8) : Bool := decide (97 ≤ c.toNat ∧ c.toNat ≤ 122)
def digitB (c : UInt8) : Bool := decide (48 ≤ c.toNat ∧ c.toNat ≤ 57)
def s49 : Spec := fun args => match args with | [.int .u8 n] => some (.bool (decide (97 ≤ n ∧ n ≤ 122)), []) | _ => none
def s44 : Spec := fun args => match args with | [.int .u8 n] => some (.bool (decide (48 ≤ n ∧ n ≤ 57)), []) | _ => none
def innerB (c : UInt8) : Bool := letterB c || digitB c || c == 95
def wl : List UInt8 → Nat
  | [] => 0
  | c :: t => if letterB c then 1 + (t.takeWhile innerB).length else 0
def nA : Nat → Option Ann := fun _ => none
def a33 (bs : List UInt8) (i : Nat) : Anns := ⟨fun k => if k = 4 then some { α := Int, slots := [0,1,5], nb := 0, vals := fun n => [bytesA bs, .int .i64 i, .int .i64 n], sS := fun _ => ⟨[],[]⟩, I := fun n => ∃ k : Nat, n = k ∧ 1 ≤ k ∧ k ≤ wl (bs.drop i), μ := fun n => (bs.length - n).toNat } else none, nA⟩
def t33 : List (FuncId × Spec) := [(49,s49),(44,s44)]
end Go.Abs

namespace Go.Abs
open Go.Proofs
theorem w49 (m : Int) (n : Int) : (pureW PP (G8 m) X1 (tbl []) (itbl []) ⟨nA, nA⟩ [] 49 [.int .u8 n] (.bool (decide (97 ≤ n ∧ n ≤ 122)), [])) =
((decide (n ≥ 97) = true →
    (decide (n ≤ 122) = true → RetIs (AV.bool true) [] (AV.bool (decide (97 ≤ n ∧ n ≤ 122)), [])) ∧
      (decide (n ≤ 122) = false → RetIs (AV.bool false) [] (AV.bool (decide (97 ≤ n ∧ n ≤ 122)), []))) ∧
  (decide (n ≥ 97) = false → RetIs (AV.bool false) [] (AV.bool (decide (97 ≤ n ∧ n ≤ 122)), []))) := by kernel_rfl
theorem w33 (m : Int) (bs : List UInt8) (i : Nat) : (pureW PP (G8 m) X1 (tbl t33) (itbl []) (a33 bs i) [] 33 [bytesA bs, .int .i64 i] (.int .i64 (wl (bs.drop i)), [])) =
((0 ≤ (↑i : Int) ∧ (↑i : Int) < (↑(bytesL bs).length : Int)) ∧
  ∃ (n : Int),
    takeAt PP 5 (bytesL bs) (↑i : Int).toNat 0 = some (AV.int IntKind.u8 n) ∧
      ∃ (b : Bool),
        CallIs (some (AV.bool (decide (97 ≤ n ∧ n ≤ 122)), [])) (AV.bool b) [] ∧
 (b = true →
 (∃ (y : Int),
 ValsAre [AV.sl 1 (bytesL bs) Own.no, AV.int IntKind.i64 (↑i : Int), AV.int IntKind.i64 1]
 [AV.sl 1 (bytesL bs) Own.no, AV.int IntKind.i64 (↑i : Int), AV.int IntKind.i64 y] ∧
 StIs { boxes := [], live := [] } { boxes := [], live := [] } ∧ (∃ (k : Nat), y = (↑k : Int) ∧ 1 ≤ k ∧ k ≤ wl (List.drop i bs)) ∧ True) ∧
 ∀ (x : Int),
 (∃ (k : Nat), x = (↑k : Int) ∧ 1 ≤ k ∧ k ≤ wl (List.drop i bs)) →
 (decide (IntKind.i64.wrap ((↑i : Int) + x) < (↑(bytesL bs).length : Int)) = true →
 (0 ≤ IntKind.i64.wrap ((↑i : Int) + x) ∧ IntKind.i64.wrap ((↑i : Int) + x) < (↑(bytesL bs).length : Int)) ∧
 ∃ (n : Int),
 takeAt PP 5 (bytesL bs) (IntKind.i64.wrap ((↑i : Int) + x)).toNat 0 = some (AV.int IntKind.u8 n) ∧
 ∃ (b : Bool),
 CallIs (some (AV.bool (decide (97 ≤ n ∧ n ≤ 122)), [])) (AV.bool b) [] ∧
 (b = true →
 ∃ (y : Int),
 ValsAre [AV.sl 1 (bytesL bs) Own.no, AV.int IntKind.i64 (↑i : Int), AV.int IntKind.i64 (IntKind.i64.wrap (x + 1))]
 [AV.sl 1 (bytesL bs) Own.no, AV.int IntKind.i64 (↑i : Int), AV.int IntKind.i64 y] ∧
 StIs { boxes := [], live := [] } { boxes := [], live := [] } ∧
 (∃ (k : Nat), y = (↑k : Int) ∧ 1 ≤ k ∧ k ≤ wl (List.drop i bs)) ∧
 ((↑bs.length : Int) - y).toNat < ((↑bs.length : Int) - x).toNat) ∧
 (b = false →
 (0 ≤ IntKind.i64.wrap ((↑i : Int) + x) ∧ IntKind.i64.wrap ((↑i : Int) + x) < (↑(bytesL bs).length : Int)) ∧
 ∃ (n : Int),
 takeAt PP 5 (bytesL bs) (IntKind.i64.wrap ((↑i : Int) + x)).toNat 0 = some (AV.int IntKind.u8 n) ∧
 ∃ (b : Bool),
 CallIs (some (AV.bool (decide (48 ≤ n ∧ n ≤ 57)), [])) (AV.bool b) [] ∧
 (b = true →
 ∃ (y : Int),
 ValsAre
 [AV.sl 1 (bytesL bs) Own.no, AV.int IntKind.i64 (↑i : Int),
 AV.int IntKind.i64 (IntKind.i64.wrap (x + 1))]
 [AV.sl 1 (bytesL bs) Own.no, AV.int IntKind.i64 (↑i : Int), AV.int IntKind.i64 y] ∧
 StIs { boxes := [], live := [] } { boxes := [], live := [] } ∧
 (∃ (k : Nat), y = (↑k : Int) ∧ 1 ≤ k ∧ k ≤ wl (List.drop i bs)) ∧
 ((↑bs.length : Int) - y).toNat < ((↑bs.length : Int) - x).toNat) ∧
 (b = false →
 (0 ≤ IntKind.i64.wrap ((↑i : Int) + x) ∧ IntKind.i64.wrap ((↑i : Int) + x) < (↑(bytesL bs).length : Int)) ∧
 ∃ (n : Int),
 takeAt PP 5 (bytesL bs) (IntKind.i64.wrap ((↑i : Int) + x)).toNat 0 = some (AV.int IntKind.u8 n) ∧
 ((n == 95) = true →
 ∃ (y : Int),
 ValsAre
 [AV.sl 1 (bytesL bs) Own.no, AV.int IntKind.i64 (↑i : Int),
 AV.int IntKind.i64 (IntKind.i64.wrap (x + 1))]
 [AV.sl 1 (bytesL bs) Own.no, AV.int IntKind.i64 (↑i : Int), AV.int IntKind.i64 y] ∧
 StIs { boxes := [], live := [] } { boxes := [], live := [] } ∧
 (∃ (k : Nat), y = (↑k : Int) ∧ 1 ≤ k ∧ k ≤ wl (List.drop i bs)) ∧
 ((↑bs.length : Int) - y).toNat < ((↑bs.length : Int) - x).toNat) ∧
 ((n == 95) = false →
 RetIs (AV.int IntKind.i64 x) [] (AV.int IntKind.i64 (↑(wl (List.drop i bs)) : Int), []))))) ∧
 (decide (IntKind.i64.wrap ((↑i : Int) + x) < (↑(bytesL bs).length : Int)) = false →
 RetIs (AV.int IntKind.i64 x) [] (AV.int IntKind.i64 (↑(wl (List.drop i bs)) : Int), []))) ∧
 (b = false → RetIs (AV.int IntKind.i64 0) [] (AV.int IntKind.i64 (↑(wl (List.drop i bs)) : Int), []))) := by kernel_rfl
theorem w44 (m : Int) (n : Int) : (pureW PP (G8 m) X1 (tbl []) (itbl []) ⟨nA, nA⟩ [] 44 [.int .u8 n] (.bool (decide (48 ≤ n ∧ n ≤ 57)), [])) =
((decide (n ≥ 48) = true →
    (decide (n ≤ 57) = true → RetIs (AV.bool true) [] (AV.bool (decide (48 ≤ n ∧ n ≤ 57)), [])) ∧
      (decide (n ≤ 57) = false → RetIs (AV.bool false) [] (AV.bool (decide (48 ≤ n ∧ n ≤ 57)), []))) ∧
  (decide (n ≥ 48) = false → RetIs (AV.bool false) [] (AV.bool (decide (48 ≤ n ∧ n ≤ 57)), []))) := by kernel_rfl
end Go.Abs

namespace Go.Abs
open Go.Proofs

theorem agg5 : aggA PP 5 = some false := by kernel_rfl
theorem size5 : (sizeA PP 5).isSome = true := by kernel_rfl

theorem wl_le (bs : List UInt8) : wl bs ≤ bs.length := by
  cases bs with
  | nil => simp [wl]
  | cons c t =>
    simp only [wl]
    split
    · have := (List.takeWhile_prefix innerB (l := t)).length_le
      simp; omega
    · simp
theorem wl_drop {bs : List UInt8} {i : Nat} (h : i < bs.length) : wl (bs.drop i) = if letterB (bs.getD i 0) then 1 + ((bs.drop (i + 1)).takeWhile innerB).length else 0 := by
  rw [List.drop_eq_getElem_cons h]
  simp [wl, h]
theorem getD_drop' {bs : List UInt8} {i k : Nat} : (bs.drop i).getD k 0 = bs.getD (i + k) 0 := by
  simp [List.getElem?_drop]
theorem wl_next {bs : List UInt8} {i k : Nat} (hk : k ≤ wl (bs.drop i)) (h1 : 1 ≤ k) (h : i + k < bs.length) (hp : innerB (bs.getD (i + k) 0) = true) : k + 1 ≤ wl (bs.drop i) := by
  rw [wl_drop (by omega)] at hk ⊢
  split at hk
  · rename_i hc
    rw [if_pos hc]
    have := tw_next (p := innerB) (l := bs.drop (i + 1)) (k := k - 1) (by omega) (by rw [List.length_drop]; omega) (by rw [getD_drop', show i + 1 + (k - 1) = i + k by omega]; exact hp)
    omega
  · omega
theorem wl_stop {bs : List UInt8} {i k : Nat} (hk : k ≤ wl (bs.drop i)) (h1 : 1 ≤ k) (hp : i + k < bs.length → innerB (bs.getD (i + k) 0) = false) : k = wl (bs.drop i) := by
  have hl := wl_le (bs.drop i)
  rw [List.length_drop] at hl
  have hi : i < bs.length := by omega
  rw [wl_drop hi] at hk ⊢
  split at hk
  · rename_i hc
    rw [if_pos hc]
    have := tw_stop (p := innerB) (l := bs.drop (i + 1)) (k := k - 1) (by omega) (fun h => by rw [getD_drop', show i + 1 + (k - 1) = i + k by omega]; exact hp (by rw [List.length_drop] at h; omega))
    omega
  · omega

theorem p33 (m : Int) (bs : List UInt8) (i : Nat) (hi : i < bs.length) (hb : bs.length < 2 ^ 60) : PureOk PP (G8 m) X1 (tbl t33) (itbl []) (a33 bs i) [] 33 [bytesA bs, .int .i64 i] (.int .i64 (wl (bs.drop i)), []) := by
  constructor
  rw [w33]
  simp only [callIs_iff, valsAre_iff, stIs_iff, retIs_iff, take_u8_iff agg5 size5, Option.some.injEq, Prod.mk.injEq, AV.bool.injEq, AV.int.injEq, List.cons.injEq, and_true, true_and, exists_eq_left', and_assoc, exists_and_left, decide_eq_true_eq, decide_eq_false_iff_not, bytesL_length, Int.toNat_natCast]
  have hw := wl_drop hi
  have hl := wl_le (bs.drop i)
  rw [List.length_drop] at hl
  have hlet : letterB (bs.getD i 0) = decide (97 ≤ (bs.getD i 0).toNat ∧ (bs.getD i 0).toNat ≤ 122) := rfl
  refine ⟨by omega, by omega, hi, fun hA => ⟨⟨1, rfl, Nat.le_refl _, ?_⟩, ?_⟩, fun hA => ?_⟩
  · rw [hw, if_pos (by rw [hlet]; exact decide_eq_true (by omega))]; omega
  · rintro x ⟨k, rfl, h1, h2⟩
    rw [wrap64_in (n := (i : Int) + k) (by omega) (by omega), wrap64_in (n := (k : Int) + 1) (by omega) (by omega), show ((i : Int) + k).toNat = i + k by omega]
    have hin : innerB (bs.getD (i + k) 0) = (decide (97 ≤ (bs.getD (i + k) 0).toNat ∧ (bs.getD (i + k) 0).toNat ≤ 122) || decide (48 ≤ (bs.getD (i + k) 0).toNat ∧ (bs.getD (i + k) 0).toNat ≤ 57) || (bs.getD (i + k) 0) == 95) := rfl
    generalize hc : bs.getD (i + k) 0 = c at *
    have step : i + k < bs.length → innerB c = true → (∃ j : Nat, (k : Int) + 1 = j ∧ 1 ≤ j ∧ j ≤ wl (bs.drop i)) ∧ ((bs.length : Int) - (k + 1)).toNat < ((bs.length : Int) - k).toNat := fun hlt hp =>
      ⟨⟨k + 1, by omega, by omega, wl_next h2 h1 hlt (hc ▸ hp)⟩, by omega⟩
    refine ⟨fun hlt => ⟨by omega, by omega, by omega, fun hB => step (by omega) (by rw [hin]; simp; omega), fun hB => ⟨by omega, by omega, by omega, fun hC => step (by omega) (by rw [hin]; simp; omega), fun hC => ⟨by omega, by omega, by omega, fun hD => step (by omega) ?_, fun hD => ?_⟩⟩⟩, fun hge => ?_⟩
    · rw [hin]
      have : c = 95 := by
        rw [← UInt8.toNat_inj]
        have : (c.toNat : Int) = 95 := by simpa using hD
        have h95 : (95 : UInt8).toNat = 95 := rfl
        omega
      simp [this]
    · have := wl_stop (bs := bs) (i := i) (k := k) h2 h1 fun _ => by
        rw [hc, hin]
        have : c ≠ 95 := by
          intro e; subst e; simp at hD
        simp [this]
        omega
      omega
    · have := wl_stop (bs := bs) (i := i) (k := k) h2 h1 fun h => by omega
      omega
  · rw [hw, if_neg (by rw [hlet]; simp only [decide_eq_true_eq]; omega)]; rfl

def s33 : Spec := fun args => match args with
  | [.sl 1 es .no, .int .i64 n] => match es.mapM byteOf with
    | some bs => if 0 ≤ n ∧ n < bs.length ∧ bs.length < 2 ^ 60 then some (.int .i64 (wl (bs.drop n.toNat)), []) else none
    | none => none
  | _ => none
end Go.Abs

namespace Go.Abs.L8
open Go.Abs

structure Tk where
  kind : Int
  text : List UInt8
  at_ : Nat
  deriving DecidableEq
structure Pb where
  at_ : Nat
  code : Int
  deriving DecidableEq

def blankB (c : UInt8) : Bool := c == 9 || c == 10 || c == 13 || c == 32
def signs : List UInt8 := [123, 125, 40, 41, 91, 93, 44, 58, 59, 61, 60, 43, 45, 42, 47, 94, 64]
def signB (c : UInt8) : Bool := signs.contains c
def eqB (c : UInt8) : Bool := c == 61 || c == 33 || c == 60

def valL (s : List UInt8) : Nat := s.foldl (fun n c => 10 * n + (c.toNat - 48)) 0
def intErr (s : List UInt8) : Int := if 2 ^ 60 < valL s then 2 else 0
/-- s: digits, a point, digits -/
def decErr (s : List UInt8) : Int :=
  let a := s.takeWhile digitB
  let b := s.drop (a.length + 1)
  if 6 < b.length then 3 else if 2 ^ 60 < valL (a ++ b) * 10 ^ (6 - b.length) then 2 else 0
def badB (c : UInt8) : Bool := decide (c.toNat < 32) || decide (126 < c.toNat) || c == 92
def txtErr (s : List UInt8) : Int := if 64 < s.length then 2 else if s.any badB then 3 else 0

def lineB (c : UInt8) : Bool := c != 34 && c != 10
/-- kind, length, problem -/
def piece : List UInt8 → Int × Nat × Int
  | [] => (0, 0, 0)
  | c :: t =>
    if blankB c then (0, 1, 0)
    else if c == 35 then (0, 1 + (t.takeWhile (· != 10)).length, 0)
    else if letterB c then (1, 1 + (t.takeWhile innerB).length, if 24 < 1 + (t.takeWhile innerB).length then 2 else 0)
    else if digitB c then
      let n := 1 + (t.takeWhile digitB).length
      match (c :: t).drop n with
      | 46 :: u =>
        if (u.takeWhile digitB).length = 0 then (2, n, intErr ((c :: t).take n))
        else (3, n + 1 + (u.takeWhile digitB).length, decErr ((c :: t).take (n + 1 + (u.takeWhile digitB).length)))
      | _ => (2, n, intErr ((c :: t).take n))
    else if c == 34 then
      match t.drop (t.takeWhile lineB).length with
      | 34 :: _ => (4, (t.takeWhile lineB).length + 2, txtErr (t.takeWhile lineB))
      | _ => (-1, 1, 80)
    else if eqB c && (t.head?.getD 0 == 61) then (5, 2, 0)
    else if signB c then (5, 1, 0)
    else (-1, 1, 80)

theorem piece_pos (c : UInt8) (t : List UInt8) : 1 ≤ (piece (c :: t)).2.1 := by
  simp only [piece]
  repeat' split
  all_goals simp <;> omega
theorem tw_le {p : UInt8 → Bool} (l : List UInt8) : (l.takeWhile p).length ≤ l.length := (List.takeWhile_prefix p).length_le
theorem drop_cons_lt {l : List UInt8} {n : Nat} {c : UInt8} {u : List UInt8} (h : l.drop n = c :: u) : n + 1 + u.length = l.length := by
  have := congrArg List.length h
  simp at this
  omega
theorem piece_le (l : List UInt8) : (piece l).2.1 ≤ l.length := by
  cases l with
  | nil => simp [piece]
  | cons c t =>
    have h1 := tw_le (p := (· != 10)) t
    have h2 := tw_le (p := innerB) t
    have h3 := tw_le (p := digitB) t
    have h4 := tw_le (p := lineB) t
    simp only [piece]
    repeat' split
    all_goals try (simp <;> omega)
    · rename_i u h5 _
      have := drop_cons_lt h5
      have := tw_le (p := digitB) u
      simp at *; omega
    · rename_i u h5
      have := drop_cons_lt h5
      simp at *; omega
    · rename_i h5 
      simp only [Bool.and_eq_true] at h5
      cases t with
      | nil => simp at h5
      | cons d t => simp

def txtOf (l : List UInt8) : List UInt8 := if (piece l).1 = 4 then ((l.take (piece l).2.1).drop 1).take ((piece l).2.1 - 2) else l.take (piece l).2.1
/-- what one piece adds: tokens, problems -/
def tkOf (l : List UInt8) (at_ : Nat) : List Tk := if (piece l).1 ≠ -1 ∧ (piece l).2.2 = 0 ∧ (piece l).1 ≠ 0 then [⟨(piece l).1, txtOf l, at_⟩] else []
def pbOf (l : List UInt8) (at_ : Nat) (adj : Bool) : List Pb :=
  if (piece l).1 = -1 then (if adj then [] else [⟨at_, 80⟩]) else if (piece l).2.2 = 0 then [] else [⟨at_, (piece l).2.2⟩]
def adjOf (l : List UInt8) : Bool := decide ((piece l).1 = -1)

def scanF : Nat → List UInt8 → Nat → Bool → List Tk × List Pb
  | 0, _, _, _ => ([], [])
  | n + 1, l, a, adj =>
    match l with
    | [] => ([], [])
    | c :: t =>
      let r := scanF n ((c :: t).drop (piece (c :: t)).2.1) (a + (piece (c :: t)).2.1) (adjOf (c :: t))
      (tkOf (c :: t) a ++ r.1, pbOf (c :: t) a adj ++ r.2)
theorem scanF_fuel : ∀ (n m : Nat) (l : List UInt8) (a : Nat) (adj : Bool), l.length ≤ n → l.length ≤ m → scanF n l a adj = scanF m l a adj := by
  intro n
  induction n with
  | zero =>
    intro m l a adj hn _
    have : l = [] := List.length_eq_zero_iff.1 (by omega)
    subst this
    cases m <;> simp [scanF]
  | succ n ih =>
    intro m l a adj hn hm
    cases l with
    | nil => cases m <;> simp [scanF]
    | cons c t =>
      cases m with
      | zero => simp at hm
      | succ m =>
        have := piece_pos c t
        simp only [scanF]
        rw [ih m _ _ _ (by simp at hn ⊢; omega) (by simp at hm ⊢; omega)]
def scan (l : List UInt8) (a : Nat) (adj : Bool) : List Tk × List Pb := scanF l.length l a adj
theorem scan_nil (a : Nat) (adj : Bool) : scan [] a adj = ([], []) := rfl
theorem scan_step {l : List UInt8} (hl : l ≠ []) (a : Nat) (adj : Bool) : scan l a adj = (tkOf l a ++ (scan (l.drop (piece l).2.1) (a + (piece l).2.1) (adjOf l)).1, pbOf l a adj ++ (scan (l.drop (piece l).2.1) (a + (piece l).2.1) (adjOf l)).2) := by
  cases l with
  | nil => exact absurd rfl hl
  | cons c t =>
    have := piece_pos c t
    unfold scan
    simp only [List.length_cons, scanF]
    rw [scanF_fuel t.length _ _ _ _ (by simp; omega) (Nat.le_refl _)]

def toksL (l : List UInt8) : List Tk := (scan l 0 false).1 ++ [⟨6, [], l.length⟩]
def probsL (l : List UInt8) : List Pb := (scan l 0 false).2.take 32

def tokA (t : Tk) : AV := .agg [.int .i64 t.kind, .str t.text, .int .i64 t.at_]
def pbA (p : Pb) : AV := .agg [.int .i64 p.at_, .int .i64 p.code]
end Go.Abs.L8

namespace Go.Abs
open Go.Proofs
def kwList : List (List UInt8) := [[116, 97, 98, 108, 101], [102, 101, 97, 116, 117, 114, 101], [111, 102], [107, 101, 101, 112], [98, 111, 111, 108], [116, 101, 120, 116], [107, 101, 121], [105, 110, 116], [100, 101, 99], [105, 102], [116, 104, 101, 110], [101, 108, 115, 101], [100, 101, 102, 97, 117, 108, 116], [111, 114], [97, 110, 100], [110, 111, 116], [116, 114, 117, 101], [102, 97, 108, 115, 101], [110, 117, 108, 108], [99, 111, 117, 110, 116], [115, 117, 109], [109, 101, 97, 110], [109, 105, 110], [109, 97, 120], [102, 105, 114, 115, 116], [108, 97, 115, 116], [100, 105, 115, 116, 105, 110, 99, 116], [113, 117, 97, 110, 116, 105, 108, 101], [100, 101, 99, 97, 121], [97, 108, 108], [115, 108, 105, 100, 105, 110, 103], [116, 117, 109, 98, 108, 105, 110, 103], [115, 101, 115, 115, 105, 111, 110], [119, 104, 101, 114, 101]]
def kwText : List UInt8 := 32 :: kwList.flatMap fun w => w ++ [32]
def kwR (s : List UInt8) : Bool := kwList.contains s
def nameR (s : List UInt8) : Bool := decide (s ≠ []) && decide (s.length ≤ 24) && decide (wl s = s.length) && !kwR s
def s17 : Spec := fun args => match args with
  | [.str s] => some (.bool (kwR s), [])
  | _ => none
def s16 : Spec := fun args => match args with
  | [.str s] => if s.length ≤ 1000000 then some (.bool (kwR s), []) else none
  | _ => none
def s18 : Spec := fun args => match args with
  | [.str s] => if s.length ≤ 1000000 then some (.bool (nameR s), []) else none
  | _ => none
def s33' : Spec := fun args => match args with
  | [.sl sz es .no, .int .i64 n] => if sz = 1 then match unBytes es with
    | some bs => if 0 ≤ n ∧ n.toNat < bs.length ∧ bs.length < 2 ^ 60 then some (.int .i64 (wl (bs.drop n.toNat)), []) else none
    | none => none else none
  | _ => none
def XW : Shapes := fun f => match f with
  | 11 | 16 | 17 | 18 | 19 | 32 => some shB
  | 33 => some shI
  | _ => none
def nAn : Anns := ⟨nA, nA⟩
def a18 (s : List UInt8) : Anns := ⟨fun k => if k = 4 then some { α := Int, slots := [0, 17, 18], nb := 0, vals := fun n => [.str s, .int .i64 s.length, .int .i64 n], sS := fun _ => ⟨[],[]⟩, I := fun n => ∃ k : Nat, n = k ∧ k ≤ s.length ∧ (1 ≤ k → k ≤ wl s), μ := fun n => (s.length - n).toNat } else none, nA⟩
end Go.Abs

namespace Go.Abs
open Go.Proofs L8

def keptClasses : List AV := (List.range 256).map fun c => .int .u8 (cls c)
def keptClassesA : AV := .agg keptClasses
def bytesD (es : List AV) : List UInt8 := (unBytes es).getD []
theorem bytesD_mk (bs : List UInt8) : bytesD (bytesL bs) = bs := by simp only [bytesD, unBytes_mk, Option.getD_some]

/-- lexer.Tokens$1: report -/
def s28 : ISpec := fun args S => match args, S with
  | [.int .i64 code, .ptr 0 0, .ptr 2 0], ⟨[some [.sl 2 es (.tok 1)], some cs, some [.int .i64 a]], [p, (n, 40)]⟩ =>
    some (n = es.length ∧ cs = keptClasses ∧ es.length ≤ 1000000, .tup [], ⟨[some [.sl 2 (if es.length < 32 then es ++ [.agg [.int .i64 a, .int .i64 code]] else es) (.tok 1)], some cs, some [.int .i64 a]], [p, (if es.length < 32 then n + 1 else n, 40)]⟩)
  | _, _ => none
def inCls (ps : List AV) (c : UInt8) : Bool := (bytesD ps).any fun p => p.toNat == cls c.toNat
def runL (ps : List AV) (l : List UInt8) : Nat := (l.takeWhile (inCls ps)).length
/-- lexer.piece$1: run -/
def s37 : ISpec := fun args S => match args, S with
  | [.int .i64 n, .sl 1 ps .full, .ptr 3 0, .ptr 4 0], ⟨[some b0, some cs, some b2, some [.sl 1 es .no], some [.ptr 1 0]], [p, q]⟩ =>
    some (cs = keptClasses ∧ (b0.all (AV.p0 5) = true ∧ b2.all (AV.p0 5) = true) ∧ (∃ bs, es = bytesL bs ∧ bs.length ≤ 1000000 ∧ 0 ≤ n ∧ n ≤ bs.length) ∧ (∃ qs, ps = bytesL qs ∧ qs ≠ []), .int .i64 (n + runL ps ((bytesD es).drop n.toNat)), ⟨[some b0, some cs, some b2, some [.sl 1 es .no], some [.ptr 1 0]], [p, q]⟩)
  | _, _ => none
def s29 : ISpec := fun args S => match args, S with
  | [.sl 1 es .no, .int .i64 n, .ptr 1 0], ⟨[some b0, some cs, some b2], [p, q]⟩ =>
    some (cs = keptClasses ∧ (b0.all (AV.p0 3) = true ∧ b2.all (AV.p0 3) = true) ∧ (∃ bs, es = bytesL bs ∧ bs.length ≤ 1000000 ∧ 0 ≤ n ∧ n < bs.length), .tup [.int .i64 (piece ((bytesD es).drop n.toNat)).1, .int .i64 (n + (piece ((bytesD es).drop n.toNat)).2.1), .int .i64 (piece ((bytesD es).drop n.toNat)).2.2], ⟨[some b0, some cs, some b2], [p, q]⟩)
  | _, _ => none
def onBytes (es : List AV) (f : List UInt8 → Option (AV × List (Nat × TypeId))) : Option (AV × List (Nat × TypeId)) :=
  match unBytes es with
  | some bs => f bs
  | none => none
def s38 : Spec := fun args => match args with
  | [.sl sz es .no, .int .u8 c] | [.sl sz es .full, .int .u8 c] => if sz = 1 ∧ es ≠ [] then onBytes es fun bs => some (.int .i64 (Lib.indexByte bs c.toNat.toUInt8), []) else none
  | _ => none
def s42 : Spec := sIndexByteString
/-- bytes.IndexAny at a quote and the end of a line -/
def s40 : Spec := fun args => match args with
  | [.sl sz es .no, .str [34, 10]] => if sz = 1 then onBytes es fun bs => if bs.length ≤ 1000000 then some (.int .i64 (if (bs.takeWhile lineB).length < bs.length then ((bs.takeWhile lineB).length : Int) else -1), []) else none else none
  | _ => none
def s41 : Spec := fun args => match args with
  | [.sl sz es .no] => if sz = 1 then onBytes es fun bs => if bs.length ≤ 1000000 then some (.int .i64 (txtErr bs), []) else none else none
  | _ => none
/-- digits -/
def intB (l : List UInt8) : Bool := decide (l ≠ []) && l.all digitB
/-- digits, a point, digits -/
def decB (l : List UInt8) : Bool :=
  let a := l.takeWhile digitB
  decide (a ≠ []) && decide (l[a.length]? = some 46) && intB (l.drop (a.length + 1))
def decVal (s : List UInt8) : Nat :=
  let a := s.takeWhile digitB
  let b := s.drop (a.length + 1)
  valL (a ++ b) * 10 ^ (6 - b.length)
def s39 : Spec := fun args => match args with
  | [.int .i64 k, .str l] =>
    if l.length ≤ 1000000 then
      if k = 3 ∧ decB l = true then some (.int .i64 (decErr l), []) else if k = 2 ∧ intB l = true then some (.int .i64 (intErr l), []) else none
    else none
  | _ => none
def s27k : Spec := fun args => match args with
  | [] => some (keptClassesA, [])
  | _ => none
def s51' : Spec := fun args => match args with
  | [.str l] => if l.length ≤ 1000000 ∧ decB l = true then some (.tup [.int .i64 (if decErr l = 0 then decVal l else 0), .int .i64 (decErr l)], []) else none
  | _ => none
def s52' : Spec := fun args => match args with
  | [.str l] => if l.length ≤ 1000000 ∧ intB l = true then some (if valL l ≤ 9223372036854775807 then (.tup [.int .i64 (valL l), .lit .nilIface], []) else (.tup [.int .i64 9223372036854775807, .ifc], [])) else none
  | _ => none
def shTI : Sh × Option TypeId := (.tup [.one (.int .i64), .one (.int .i64)], none)
def shTE : Sh × Option TypeId := (.tup [.one (.int .i64), .one .err], none)
def shCls : Sh × Option TypeId := (.val (.one (.is keptClassesA)), none)
def XL : Shapes := fun f => match f with
  | 38 | 39 | 40 | 41 | 42 | 53 | 60 | 50 => some shI
  | 27 => some shCls
  | 51 => some shTI
  | 52 => some shTE
  | _ => none
def badA (l : List Pb) (o : Own) : AV := .sl 2 (l.map pbA) o
def tkA (l : List Tk) (o : Own) : AV := .sl 3 (l.map tokA) o
structure X12 where
  l : List Tk
  b : List Pb
  p : Nat
  adj : Bool
  st : Int
  code : Int
def stAt (x : X12) : St := ⟨[some [badA (x.b.take 32) (.tok 1)], some keptClasses, some [.int .i64 x.p]], [(x.l.length, 38), ((x.b.take 32).length, 40)]⟩
/-- what was read so far, what is to come -/
structure Inv12 (bs : List UInt8) (x : X12) : Prop where
  small : bs.length ≤ 16384
  len : x.l.length ≤ x.p
  p : x.p ≤ bs.length
  l : x.l ++ (scan (bs.drop x.p) x.p x.adj).1 = (scan bs 0 false).1
  b : x.b ++ (scan (bs.drop x.p) x.p x.adj).2 = (scan bs 0 false).2
  st : x.adj = true ↔ (x.st = x.p - 1 ∧ x.p ≠ 0)
  lt : -1 ≤ x.st ∧ x.st < x.p
structure Inv12b (bs : List UInt8) (x : X12) : Prop where
  inv : Inv12 bs x
  p : x.p < bs.length
  un : (piece (bs.drop x.p)).1 = -1
  code : x.code = 80
def a12 (bs : List UInt8) : Anns := ⟨nA, fun k => match k with
  | 0 => some { α := X12, slots := [0, 2, 3, 4, 5, 6, 7, 8], nb := 3, vals := fun x => [bytesA bs, tkA x.l (.tok 0), .ptr 0 0, .int .i64 0, .ptr 1 0, .ptr 2 0, .int .i64 x.st, .fn 28 [.ptr 0 0, .ptr 2 0]], sS := stAt, I := Inv12 bs, μ := fun x => 2 * (bs.length - x.p) + 1, mint := [(2, 38)], mintB := [(0, 40)] }
  | 1 => some { α := X12, slots := [0, 2, 3, 4, 5, 6, 7, 8, 11], nb := 3, vals := fun x => [bytesA bs, tkA x.l (.tok 0), .ptr 0 0, .int .i64 0, .ptr 1 0, .ptr 2 0, .int .i64 x.st, .fn 28 [.ptr 0 0, .ptr 2 0], .int .i64 x.code], sS := stAt, I := Inv12b bs, μ := fun x => 2 * (bs.length - x.p) }
  | _ => none⟩
def S37 (b0 b2 : List AV) (es : List AV) (p q : Nat × TypeId) : St := ⟨[some b0, some keptClasses, some b2, some [.sl 1 es .no], some [.ptr 1 0]], [p, q]⟩
def S29 (b0 b2 : List AV) (p q : Nat × TypeId) : St := ⟨[some b0, some keptClasses, some b2], [p, q]⟩
def a37 (n : Int) (ps : List AV) (o : Own) (bs : List UInt8) (S : St) : Anns := ⟨fun k => if k = 1 then some { α := Nat, slots := [0, 1, 2, 3], nb := 5, vals := fun j => [.int .i64 (n + j), .sl 1 ps o, .ptr 3 0, .ptr 4 0], sS := fun _ => S, I := fun j => j ≤ runL ps (bs.drop n.toNat), μ := fun j => (bs.length - n - j).toNat } else none, nA⟩
def a41 (bs : List UInt8) : Anns := ⟨fun k => if k = 4 then some { α := Nat, slots := [8, 9, 10], nb := 0, vals := fun j => [bytesA bs, .int .i64 bs.length, .int .i64 j], sS := fun _ => ⟨[], []⟩, I := fun j => j ≤ bs.length ∧ (bs.take j).any badB = false, μ := fun j => bs.length - j } else none, nA⟩
def t29 : List (FuncId × Spec) := [(38, s38), (39, s39), (40, s40), (41, s41), (42, s42)]
def t12 : List (FuncId × Spec) := [(27, s27k)]
end Go.Abs

namespace Go.Abs
open Go.Proofs L8

def valF (n : Nat) (l : List UInt8) : Nat := l.foldl (fun n c => 10 * n + (c.toNat - 48)) n
theorem valL_eq (l : List UInt8) : valL l = valF 0 l := rfl
theorem valF_ge : ∀ (l : List UInt8) (n : Nat), n ≤ valF n l
  | [], n => Nat.le_refl _
  | c :: l, n => by
    have := valF_ge l (10 * n + (c.toNat - 48))
    simp only [valF, List.foldl_cons] at this ⊢
    omega
theorem valF_append (l k : List UInt8) (n : Nat) : valF n (l ++ k) = valF (valF n l) k := by simp [valF]
theorem digitB_iff {c : UInt8} : digitB c = true ↔ 48 ≤ c.toNat ∧ c.toNat ≤ 57 := by simp [digitB]
theorem parse_digits : ∀ (l : List UInt8) (n : Nat), l.all digitB = true → n < 18446744073709551616 →
    Lib.parseUint10 n l = if valF n l < 18446744073709551616 then .ok (valF n l) else .range
  | [], n, _, hn => by simp [Lib.parseUint10, valF, hn]
  | c :: l, n, hd, hn => by
    simp only [List.all_cons, Bool.and_eq_true, digitB_iff] at hd
    have hv : valF n (c :: l) = valF (10 * n + (c.toNat - 48)) l := rfl
    have hge := valF_ge l (10 * n + (c.toNat - 48))
    simp only [Lib.parseUint10]
    rw [if_pos hd.1, hv]
    by_cases h1 : 1844674407370955162 ≤ n
    · rw [if_pos h1, if_neg (by omega)]
    · rw [if_neg h1]
      by_cases h2 : 18446744073709551616 ≤ n * 10 + (c.toNat - 48)
      · rw [if_pos h2, if_neg (by omega)]
      · rw [if_neg h2, Nat.mul_comm n 10]
        exact parse_digits l _ hd.2 (by omega)
theorem atoi_digits {l : List UInt8} (h : intB l = true) : Lib.atoiAll l = if valL l ≤ 9223372036854775807 then .ok (valL l : Int) else .range := by
  simp only [intB, Bool.and_eq_true, decide_eq_true_eq] at h
  obtain ⟨h1, h2⟩ := h
  cases l with
  | nil => exact absurd rfl h1
  | cons c r =>
    have hc : 48 ≤ c.toNat ∧ c.toNat ≤ 57 := by
      simp only [List.all_cons, Bool.and_eq_true, digitB_iff] at h2; exact h2.1
    have hp := parse_digits (c :: r) 0 h2 (by omega)
    simp only [Lib.atoiAll, Lib.parseMag]
    rw [if_neg (show ¬ (c.toNat = 43 ∨ c.toNat = 45) by omega), if_neg (by simp), hp, valL_eq]
    by_cases h3 : valF 0 (c :: r) < 18446744073709551616
    · rw [if_pos h3]
      simp only
      by_cases h4 : valF 0 (c :: r) ≤ 9223372036854775807
      · rw [if_pos h4, if_neg (by omega), if_neg (by omega), if_neg (by omega)]
      · rw [if_neg h4, if_pos (by omega)]
    · rw [if_neg h3, if_neg (by omega)]

/-- a decimal: its millionths, its problem -/
def dstep (s : Option (List UInt8 × Option Nat)) (c : UInt8) : Option (List UInt8 × Option Nat) :=
  match s with
  | none => none
  | some (ds, k) =>
    if c = 46 ∧ k = none ∧ ds ≠ [] then some (ds, some 0)
    else if digitB c = true then some (ds ++ [c], k.map (· + 1))
    else none
def dfold (l : List UInt8) : Option (List UInt8 × Option Nat) := l.foldl dstep (some ([], none))
def decFin (neg : Bool) (v k : Nat) : Int × Int :=
  if 2 ^ 60 < v * 10 ^ (6 - k) then (0, 2) else (if neg then -((v * 10 ^ (6 - k) : Nat) : Int) else ((v * 10 ^ (6 - k) : Nat) : Int), 0)
def decR (neg : Bool) (r : List UInt8) : Int × Int :=
  match dfold r with
  | none => (0, 3)
  | some (ds, k) => if ds = [] ∨ k = some 0 ∨ 6 < k.getD 0 then (0, 3) else decFin neg (valL ds) (k.getD 0)
def negB (s : List UInt8) : Bool := s.head? == some 45
def decP (s : List UInt8) : Int × Int := decR (negB s) (if negB s then s.drop 1 else s)

theorem dfold_none (l : List UInt8) : l.foldl dstep none = none := by
  induction l with
  | nil => rfl
  | cons c l ih => simpa [dstep] using ih
theorem dfold_digits : ∀ (a : List UInt8) (ds : List UInt8) (k : Option Nat), a.all digitB = true → a.foldl dstep (some (ds, k)) = some (ds ++ a, k.map (· + a.length))
  | [], ds, k, _ => by cases k <;> simp
  | c :: a, ds, k, h => by
    simp only [List.all_cons, Bool.and_eq_true] at h
    have hc : ¬ (c = 46) := by rintro rfl; simp [digitB] at h
    rw [List.foldl_cons]
    have : dstep (some (ds, k)) c = some (ds ++ [c], k.map (· + 1)) := by
      simp only [dstep]; rw [if_neg (fun h => hc h.1), if_pos h.1]
    rw [this, dfold_digits a _ _ h.2]
    cases k <;> simp; omega
theorem dfold_point {a b : List UInt8} (ha : a.all digitB = true) (hne : a ≠ []) (hb : b.all digitB = true) : dfold (a ++ 46 :: b) = some (a ++ b, some b.length) := by
  unfold dfold
  rw [List.foldl_append, dfold_digits a [] none ha, List.foldl_cons]
  have : dstep (some ([] ++ a, Option.map (· + a.length) none)) 46 = some (a, some 0) := by
    simp [dstep, hne]
  rw [this, dfold_digits b a (some 0) hb]
  simp
theorem takeWhile_all (p : UInt8 → Bool) (l : List UInt8) : (l.takeWhile p).all p = true := by
  induction l with
  | nil => rfl
  | cons c l ih =>
    rw [List.takeWhile_cons]
    split
    · rename_i h; simp [h, ih]
    · rfl
theorem decB_split {l : List UInt8} (h : decB l = true) : ∃ a b, l = a ++ 46 :: b ∧ a.all digitB = true ∧ a ≠ [] ∧ b.all digitB = true ∧ b ≠ [] ∧ l.takeWhile digitB = a ∧ l.drop (a.length + 1) = b := by
  simp only [decB, Bool.and_eq_true, decide_eq_true_eq, intB] at h
  obtain ⟨⟨h1, h2⟩, h3, h4⟩ := h
  refine ⟨l.takeWhile digitB, l.drop ((l.takeWhile digitB).length + 1), ?_, takeWhile_all _ _, h1, h4, h3, rfl, rfl⟩
  have hlt := (List.getElem?_eq_some_iff.1 h2).1
  have hv := (List.getElem?_eq_some_iff.1 h2).2
  have e1 : l.take (l.takeWhile digitB).length = l.takeWhile digitB := (List.prefix_iff_eq_take.1 (List.takeWhile_prefix digitB)).symm
  conv => lhs; rw [← List.take_append_drop (l.takeWhile digitB).length l, e1, List.drop_eq_getElem_cons hlt, hv]
theorem negB_digit {c : UInt8} {t : List UInt8} (h : digitB c = true) : negB (c :: t) = false := by
  have : c ≠ 45 := by rintro rfl; simp [digitB] at h
  simp [negB, this]
theorem decP_decB {l : List UInt8} (h : decB l = true) : decP l = (if decErr l = 0 then (decVal l : Int) else 0, decErr l) := by
  obtain ⟨a, b, h1, h2, h3, h4, h5, h6, h7⟩ := decB_split h
  have hd := dfold_point h2 h3 h4
  rw [← h1] at hd
  have hneg : negB l = false := by
    cases a with
    | nil => exact absurd rfl h3
    | cons c t =>
      simp only [List.all_cons, Bool.and_eq_true] at h2
      rw [h1]; exact negB_digit h2.1
  have hb : 0 < b.length := List.length_pos_iff.2 h5
  simp only [decP, hneg, Bool.false_eq_true, if_false, decR, hd, decErr, decVal, h6, h7, Option.getD_some]
  by_cases h8 : 6 < b.length
  · rw [if_pos (.inr (.inr h8)), if_pos h8]; rfl
  · have hab : a ++ b ≠ [] := by simp [h3]
    have hno : ¬ (a ++ b = [] ∨ some b.length = some 0 ∨ 6 < b.length) := by
      rintro (h | h | h)
      · exact hab h
      · simp only [Option.some.injEq] at h; omega
      · exact h8 h
    rw [if_neg hno, if_neg h8]
    simp only [decFin]
    by_cases h9 : 2 ^ 60 < valL (a ++ b) * 10 ^ (6 - b.length)
    · rw [if_pos h9, if_pos h9]; rfl
    · rw [if_neg h9, if_neg h9]; rfl
end Go.Abs

namespace Go.Abs
open Go.Proofs L8
structure X51 where
  i : Nat
  ds : List UInt8
  k : Option Nat
  x : Int
  big : Bool
def ptv (i : Nat) : Option Nat → Int
  | none => -1
  | some j => (i : Int) - j - 1
structure Inv51 (r : List UInt8) (y : X51) : Prop where
  i : y.i ≤ r.length
  fold : dfold (r.take y.i) = some (y.ds, y.k)
  k : ∀ j, y.k = some j → j + 1 ≤ y.i ∧ y.ds ≠ []
  k0 : y.k = none → y.ds.length = y.i
  small : y.big = false → y.x = valL y.ds ∧ valL y.ds ≤ 1152921504606846976
  great : y.big = true → 1152921504606846976 < valL y.ds
  x : 0 ≤ y.x ∧ y.x ≤ 1152921504606846976
def restB (s : List UInt8) : List UInt8 := if negB s then s.drop 1 else s
structure End51 (r : List UInt8) (y : X51) : Prop where
  inv : Inv51 r y
  i : y.i = r.length
def a51 (s : List UInt8) : Anns := ⟨fun k => match k with
  | 6 => some { α := X51, slots := [2, 4, 5, 6, 7, 8], nb := 0, vals := fun y => [.int .i64 y.x, .str (restB s), .bool (negB s), .int .i64 (ptv y.i y.k), .bool y.big, .int .i64 y.i], sS := fun _ => ⟨[], []⟩, I := Inv51 (restB s), μ := fun y => (restB s).length - y.i, bools := [7] }
  | 1000004 => some { α := Unit, slots := [2, 4, 5], nb := 0, vals := fun _ => [.int .i64 0, .str (restB s), .bool (negB s)], sS := fun _ => ⟨[], []⟩, I := fun _ => True, μ := fun _ => 0 }
  | 1000018 => some { α := X51, slots := [2, 4, 5, 6, 7], nb := 0, vals := fun y => [.int .i64 y.x, .str (restB s), .bool (negB s), .int .i64 (ptv y.i y.k), .bool y.big], sS := fun _ => ⟨[], []⟩, I := End51 (restB s), μ := fun _ => 0, bools := [7, 5] }
  | _ => none, nA⟩
def s51 : Spec := fun args => match args with
  | [.str l] => if l.length ≤ 1000000 then some (.tup [.int .i64 (decP l).1, .int .i64 (decP l).2], []) else none
  | _ => none
end Go.Abs

namespace Go.Abs
open Go.Proofs L8
theorem w51 (m : Int) (s : List UInt8) : (pureW PP (G8 m) XL (tbl []) (itbl []) (a51 s) [] 51 [.str s] (.tup [.int .i64 (decP s).1, .int .i64 (decP s).2], [])) =
(((((!s == []) = true →
        (0 : Int) ≤ (0 : Int) ∧
 ∃ (c : UInt8),
 s[nat_lit 0]? = some c ∧
 (((↑c.toNat : Int) == (45 : Int)) = true →
 (0 : Int) ≤ (1 : Int) ∧
 (nat_lit 1 ≤ s.length ∧ s.length ≤ s.length) ∧
 ∃ (_y : Unit),
 ValsAre [AV.int IntKind.i64 (0 : Int), AV.str (List.drop (nat_lit 1) (List.take s.length s)), AV.bool true]
 [AV.int IntKind.i64 (0 : Int), AV.str (restB s), AV.bool (negB s)] ∧
 StIs { boxes := [], live := [] } { boxes := [], live := [] } ∧ True ∧ True) ∧
 (((↑c.toNat : Int) == (45 : Int)) = false →
 ∃ (_y : Unit),
 ValsAre [AV.int IntKind.i64 (0 : Int), AV.str s, AV.bool false] [AV.int IntKind.i64 (0 : Int), AV.str (restB s), AV.bool (negB s)] ∧
 StIs { boxes := [], live := [] } { boxes := [], live := [] } ∧ True ∧ True)) ∧
      ((!s == []) = false →
        ∃ (_y : Unit),
 ValsAre [AV.int IntKind.i64 (0 : Int), AV.str s, AV.bool false] [AV.int IntKind.i64 (0 : Int), AV.str (restB s), AV.bool (negB s)] ∧
 StIs { boxes := [], live := [] } { boxes := [], live := [] } ∧ True ∧ True)) ∧
    ∀ (_x : Unit),
      True →
        True →
 ((∃ (y : X51),
 ValsAre
 [AV.int IntKind.i64 (0 : Int), AV.str (restB s), AV.bool (negB s), AV.int IntKind.i64 (-1 : Int), AV.bool false,
 AV.int IntKind.i64 (0 : Int)]
 [AV.int IntKind.i64 y.x, AV.str (restB s), AV.bool (negB s), AV.int IntKind.i64 (ptv y.i y.k), AV.bool y.big,
 AV.int IntKind.i64 (↑y.i : Int)] ∧
 StIs { boxes := [], live := [] } { boxes := [], live := [] } ∧ Inv51 (restB s) y ∧ True) ∧
 ∀ (x : X51),
 Inv51 (restB s) x →
 (x.big = true →
 (decide ((↑x.i : Int) < (↑(restB s).length : Int)) = true →
 (0 : Int) ≤ (↑x.i : Int) ∧
 ∃ (c : UInt8),
 (restB s)[(↑x.i : Int).toNat]? = some c ∧
 (((↑c.toNat : Int) == (46 : Int)) = true →
 (decide (ptv x.i x.k < (0 : Int)) = true →
 (decide ((↑x.i : Int) > (0 : Int)) = true →
 ∃ (y : X51),
 ValsAre
 [AV.int IntKind.i64 x.x, AV.str (restB s), AV.bool (negB s), AV.int IntKind.i64 (↑x.i : Int), AV.bool true,
 AV.int IntKind.i64 (IntKind.i64.wrap ((↑x.i : Int) + (1 : Int)))]
 [AV.int IntKind.i64 y.x, AV.str (restB s), AV.bool (negB s), AV.int IntKind.i64 (ptv y.i y.k), AV.bool y.big,
 AV.int IntKind.i64 (↑y.i : Int)] ∧
 StIs { boxes := [], live := [] } { boxes := [], live := [] } ∧
 Inv51 (restB s) y ∧ (restB s).length - y.i < (restB s).length - x.i) ∧
 (decide ((↑x.i : Int) > (0 : Int)) = false →
 (decide ((↑c.toNat : Int) < (48 : Int)) = true →
 RetIs (AV.tup [AV.int IntKind.i64 (0 : Int), AV.int IntKind.i64 (3 : Int)]) []
 (AV.tup [AV.int IntKind.i64 (decP s).fst, AV.int IntKind.i64 (decP s).snd], [])) ∧
 (decide ((↑c.toNat : Int) < (48 : Int)) = false →
 (decide ((↑c.toNat : Int) > (57 : Int)) = true →
 RetIs (AV.tup [AV.int IntKind.i64 (0 : Int), AV.int IntKind.i64 (3 : Int)]) []
 (AV.tup [AV.int IntKind.i64 (decP s).fst, AV.int IntKind.i64 (decP s).snd], [])) ∧
 (decide ((↑c.toNat : Int) > (57 : Int)) = false →
 ∃ (y : X51),
 ValsAre
 [AV.int IntKind.i64 x.x, AV.str (restB s), AV.bool (negB s), AV.int IntKind.i64 (ptv x.i x.k),
 AV.bool true, AV.int IntKind.i64 (IntKind.i64.wrap ((↑x.i : Int) + (1 : Int)))]
 [AV.int IntKind.i64 y.x, AV.str (restB s), AV.bool (negB s), AV.int IntKind.i64 (ptv y.i y.k),
 AV.bool y.big, AV.int IntKind.i64 (↑y.i : Int)] ∧
 StIs { boxes := [], live := [] } { boxes := [], live := [] } ∧
 Inv51 (restB s) y ∧ (restB s).length - y.i < (restB s).length - x.i)))) ∧
 (decide (ptv x.i x.k < (0 : Int)) = false →
 (decide ((↑c.toNat : Int) < (48 : Int)) = true →
 RetIs (AV.tup [AV.int IntKind.i64 (0 : Int), AV.int IntKind.i64 (3 : Int)]) []
 (AV.tup [AV.int IntKind.i64 (decP s).fst, AV.int IntKind.i64 (decP s).snd], [])) ∧
 (decide ((↑c.toNat : Int) < (48 : Int)) = false →
 (decide ((↑c.toNat : Int) > (57 : Int)) = true →
 RetIs (AV.tup [AV.int IntKind.i64 (0 : Int), AV.int IntKind.i64 (3 : Int)]) []
 (AV.tup [AV.int IntKind.i64 (decP s).fst, AV.int IntKind.i64 (decP s).snd], [])) ∧
 (decide ((↑c.toNat : Int) > (57 : Int)) = false →
 ∃ (y : X51),
 ValsAre
 [AV.int IntKind.i64 x.x, AV.str (restB s), AV.bool (negB s), AV.int IntKind.i64 (ptv x.i x.k),
 AV.bool true, AV.int IntKind.i64 (IntKind.i64.wrap ((↑x.i : Int) + (1 : Int)))]
 [AV.int IntKind.i64 y.x, AV.str (restB s), AV.bool (negB s), AV.int IntKind.i64 (ptv y.i y.k),
 AV.bool y.big, AV.int IntKind.i64 (↑y.i : Int)] ∧
 StIs { boxes := [], live := [] } { boxes := [], live := [] } ∧
 Inv51 (restB s) y ∧ (restB s).length - y.i < (restB s).length - x.i)))) ∧
 (((↑c.toNat : Int) == (46 : Int)) = false →
 (decide ((↑c.toNat : Int) < (48 : Int)) = true →
 RetIs (AV.tup [AV.int IntKind.i64 (0 : Int), AV.int IntKind.i64 (3 : Int)]) []
 (AV.tup [AV.int IntKind.i64 (decP s).fst, AV.int IntKind.i64 (decP s).snd], [])) ∧
 (decide ((↑c.toNat : Int) < (48 : Int)) = false →
 (decide ((↑c.toNat : Int) > (57 : Int)) = true →
 RetIs (AV.tup [AV.int IntKind.i64 (0 : Int), AV.int IntKind.i64 (3 : Int)]) []
 (AV.tup [AV.int IntKind.i64 (decP s).fst, AV.int IntKind.i64 (decP s).snd], [])) ∧
 (decide ((↑c.toNat : Int) > (57 : Int)) = false →
 ∃ (y : X51),
 ValsAre
 [AV.int IntKind.i64 x.x, AV.str (restB s), AV.bool (negB s), AV.int IntKind.i64 (ptv x.i x.k), AV.bool true,
 AV.int IntKind.i64 (IntKind.i64.wrap ((↑x.i : Int) + (1 : Int)))]
 [AV.int IntKind.i64 y.x, AV.str (restB s), AV.bool (negB s), AV.int IntKind.i64 (ptv y.i y.k), AV.bool y.big,
 AV.int IntKind.i64 (↑y.i : Int)] ∧
 StIs { boxes := [], live := [] } { boxes := [], live := [] } ∧
 Inv51 (restB s) y ∧ (restB s).length - y.i < (restB s).length - x.i)))) ∧
 (decide ((↑x.i : Int) < (↑(restB s).length : Int)) = false →
 ∃ (y : X51),
 ValsAre [AV.int IntKind.i64 x.x, AV.str (restB s), AV.bool (negB s), AV.int IntKind.i64 (ptv x.i x.k), AV.bool true]
 [AV.int IntKind.i64 y.x, AV.str (restB s), AV.bool (negB s), AV.int IntKind.i64 (ptv y.i y.k), AV.bool y.big] ∧
 StIs { boxes := [], live := [] } { boxes := [], live := [] } ∧ End51 (restB s) y ∧ True)) ∧
 (x.big = false →
 (decide ((↑x.i : Int) < (↑(restB s).length : Int)) = true →
 (0 : Int) ≤ (↑x.i : Int) ∧
 ∃ (c : UInt8),
 (restB s)[(↑x.i : Int).toNat]? = some c ∧
 (((↑c.toNat : Int) == (46 : Int)) = true →
 (decide (ptv x.i x.k < (0 : Int)) = true →
 (decide ((↑x.i : Int) > (0 : Int)) = true →
 ∃ (y : X51),
 ValsAre
 [AV.int IntKind.i64 x.x, AV.str (restB s), AV.bool (negB s), AV.int IntKind.i64 (↑x.i : Int), AV.bool false,
 AV.int IntKind.i64 (IntKind.i64.wrap ((↑x.i : Int) + (1 : Int)))]
 [AV.int IntKind.i64 y.x, AV.str (restB s), AV.bool (negB s), AV.int IntKind.i64 (ptv y.i y.k), AV.bool y.big,
 AV.int IntKind.i64 (↑y.i : Int)] ∧
 StIs { boxes := [], live := [] } { boxes := [], live := [] } ∧
 Inv51 (restB s) y ∧ (restB s).length - y.i < (restB s).length - x.i) ∧
 (decide ((↑x.i : Int) > (0 : Int)) = false →
 (decide ((↑c.toNat : Int) < (48 : Int)) = true →
 RetIs (AV.tup [AV.int IntKind.i64 (0 : Int), AV.int IntKind.i64 (3 : Int)]) []
 (AV.tup [AV.int IntKind.i64 (decP s).fst, AV.int IntKind.i64 (decP s).snd], [])) ∧
 (decide ((↑c.toNat : Int) < (48 : Int)) = false →
 (decide ((↑c.toNat : Int) > (57 : Int)) = true →
 RetIs (AV.tup [AV.int IntKind.i64 (0 : Int), AV.int IntKind.i64 (3 : Int)]) []
 (AV.tup [AV.int IntKind.i64 (decP s).fst, AV.int IntKind.i64 (decP s).snd], [])) ∧
 (decide ((↑c.toNat : Int) > (57 : Int)) = false →
 (10 : Int) ≠ (0 : Int) ∧
 (decide
 (x.x >
 IntKind.i64.wrap
 ((IntKind.i64.wrap
 ((1152921504606846976 : Int) -
 IntKind.i64.wrap (IntKind.u8.wrap ((↑c.toNat : Int) - (48 : Int))))).tdiv
 (10 : Int))) =
 true →
 ∃ (y : X51),
 ValsAre
 [AV.int IntKind.i64 x.x, AV.str (restB s), AV.bool (negB s), AV.int IntKind.i64 (ptv x.i x.k),
 AV.bool true, AV.int IntKind.i64 (IntKind.i64.wrap ((↑x.i : Int) + (1 : Int)))]
 [AV.int IntKind.i64 y.x, AV.str (restB s), AV.bool (negB s), AV.int IntKind.i64 (ptv y.i y.k),
 AV.bool y.big, AV.int IntKind.i64 (↑y.i : Int)] ∧
 StIs { boxes := [], live := [] } { boxes := [], live := [] } ∧
 Inv51 (restB s) y ∧ (restB s).length - y.i < (restB s).length - x.i) ∧
 (decide
 (x.x >
 IntKind.i64.wrap
 ((IntKind.i64.wrap
 ((1152921504606846976 : Int) -
 IntKind.i64.wrap (IntKind.u8.wrap ((↑c.toNat : Int) - (48 : Int))))).tdiv
 (10 : Int))) =
 false →
 ∃ (y : X51),
 ValsAre
 [AV.int IntKind.i64
 (IntKind.i64.wrap
 (IntKind.i64.wrap ((10 : Int) * x.x) +
 IntKind.i64.wrap (IntKind.u8.wrap ((↑c.toNat : Int) - (48 : Int))))),
 AV.str (restB s), AV.bool (negB s), AV.int IntKind.i64 (ptv x.i x.k), AV.bool false,
 AV.int IntKind.i64 (IntKind.i64.wrap ((↑x.i : Int) + (1 : Int)))]
 [AV.int IntKind.i64 y.x, AV.str (restB s), AV.bool (negB s), AV.int IntKind.i64 (ptv y.i y.k),
 AV.bool y.big, AV.int IntKind.i64 (↑y.i : Int)] ∧
 StIs { boxes := [], live := [] } { boxes := [], live := [] } ∧
 Inv51 (restB s) y ∧ (restB s).length - y.i < (restB s).length - x.i))))) ∧
 (decide (ptv x.i x.k < (0 : Int)) = false →
 (decide ((↑c.toNat : Int) < (48 : Int)) = true →
 RetIs (AV.tup [AV.int IntKind.i64 (0 : Int), AV.int IntKind.i64 (3 : Int)]) []
 (AV.tup [AV.int IntKind.i64 (decP s).fst, AV.int IntKind.i64 (decP s).snd], [])) ∧
 (decide ((↑c.toNat : Int) < (48 : Int)) = false →
 (decide ((↑c.toNat : Int) > (57 : Int)) = true →
 RetIs (AV.tup [AV.int IntKind.i64 (0 : Int), AV.int IntKind.i64 (3 : Int)]) []
 (AV.tup [AV.int IntKind.i64 (decP s).fst, AV.int IntKind.i64 (decP s).snd], [])) ∧
 (decide ((↑c.toNat : Int) > (57 : Int)) = false →
 (10 : Int) ≠ (0 : Int) ∧
 (decide
 (x.x >
 IntKind.i64.wrap
 ((IntKind.i64.wrap
 ((1152921504606846976 : Int) -
 IntKind.i64.wrap (IntKind.u8.wrap ((↑c.toNat : Int) - (48 : Int))))).tdiv
 (10 : Int))) =
 true →
 ∃ (y : X51),
 ValsAre
 [AV.int IntKind.i64 x.x, AV.str (restB s), AV.bool (negB s), AV.int IntKind.i64 (ptv x.i x.k),
 AV.bool true, AV.int IntKind.i64 (IntKind.i64.wrap ((↑x.i : Int) + (1 : Int)))]
 [AV.int IntKind.i64 y.x, AV.str (restB s), AV.bool (negB s), AV.int IntKind.i64 (ptv y.i y.k),
 AV.bool y.big, AV.int IntKind.i64 (↑y.i : Int)] ∧
 StIs { boxes := [], live := [] } { boxes := [], live := [] } ∧
 Inv51 (restB s) y ∧ (restB s).length - y.i < (restB s).length - x.i) ∧
 (decide
 (x.x >
 IntKind.i64.wrap
 ((IntKind.i64.wrap
 ((1152921504606846976 : Int) -
 IntKind.i64.wrap (IntKind.u8.wrap ((↑c.toNat : Int) - (48 : Int))))).tdiv
 (10 : Int))) =
 false →
 ∃ (y : X51),
 ValsAre
 [AV.int IntKind.i64
 (IntKind.i64.wrap
 (IntKind.i64.wrap ((10 : Int) * x.x) +
 IntKind.i64.wrap (IntKind.u8.wrap ((↑c.toNat : Int) - (48 : Int))))),
 AV.str (restB s), AV.bool (negB s), AV.int IntKind.i64 (ptv x.i x.k), AV.bool false,
 AV.int IntKind.i64 (IntKind.i64.wrap ((↑x.i : Int) + (1 : Int)))]
 [AV.int IntKind.i64 y.x, AV.str (restB s), AV.bool (negB s), AV.int IntKind.i64 (ptv y.i y.k),
 AV.bool y.big, AV.int IntKind.i64 (↑y.i : Int)] ∧
 StIs { boxes := [], live := [] } { boxes := [], live := [] } ∧
 Inv51 (restB s) y ∧ (restB s).length - y.i < (restB s).length - x.i))))) ∧
 (((↑c.toNat : Int) == (46 : Int)) = false →
 (decide ((↑c.toNat : Int) < (48 : Int)) = true →
 RetIs (AV.tup [AV.int IntKind.i64 (0 : Int), AV.int IntKind.i64 (3 : Int)]) []
 (AV.tup [AV.int IntKind.i64 (decP s).fst, AV.int IntKind.i64 (decP s).snd], [])) ∧
 (decide ((↑c.toNat : Int) < (48 : Int)) = false →
 (decide ((↑c.toNat : Int) > (57 : Int)) = true →
 RetIs (AV.tup [AV.int IntKind.i64 (0 : Int), AV.int IntKind.i64 (3 : Int)]) []
 (AV.tup [AV.int IntKind.i64 (decP s).fst, AV.int IntKind.i64 (decP s).snd], [])) ∧
 (decide ((↑c.toNat : Int) > (57 : Int)) = false →
 (10 : Int) ≠ (0 : Int) ∧
 (decide
 (x.x >
 IntKind.i64.wrap
 ((IntKind.i64.wrap
 ((1152921504606846976 : Int) -
 IntKind.i64.wrap (IntKind.u8.wrap ((↑c.toNat : Int) - (48 : Int))))).tdiv
 (10 : Int))) =
 true →
 ∃ (y : X51),
 ValsAre
 [AV.int IntKind.i64 x.x, AV.str (restB s), AV.bool (negB s), AV.int IntKind.i64 (ptv x.i x.k),
 AV.bool true, AV.int IntKind.i64 (IntKind.i64.wrap ((↑x.i : Int) + (1 : Int)))]
 [AV.int IntKind.i64 y.x, AV.str (restB s), AV.bool (negB s), AV.int IntKind.i64 (ptv y.i y.k),
 AV.bool y.big, AV.int IntKind.i64 (↑y.i : Int)] ∧
 StIs { boxes := [], live := [] } { boxes := [], live := [] } ∧
 Inv51 (restB s) y ∧ (restB s).length - y.i < (restB s).length - x.i) ∧
 (decide
 (x.x >
 IntKind.i64.wrap
 ((IntKind.i64.wrap
 ((1152921504606846976 : Int) -
 IntKind.i64.wrap (IntKind.u8.wrap ((↑c.toNat : Int) - (48 : Int))))).tdiv
 (10 : Int))) =
 false →
 ∃ (y : X51),
 ValsAre
 [AV.int IntKind.i64
 (IntKind.i64.wrap
 (IntKind.i64.wrap ((10 : Int) * x.x) +
 IntKind.i64.wrap (IntKind.u8.wrap ((↑c.toNat : Int) - (48 : Int))))),
 AV.str (restB s), AV.bool (negB s), AV.int IntKind.i64 (ptv x.i x.k), AV.bool false,
 AV.int IntKind.i64 (IntKind.i64.wrap ((↑x.i : Int) + (1 : Int)))]
 [AV.int IntKind.i64 y.x, AV.str (restB s), AV.bool (negB s), AV.int IntKind.i64 (ptv y.i y.k),
 AV.bool y.big, AV.int IntKind.i64 (↑y.i : Int)] ∧
 StIs { boxes := [], live := [] } { boxes := [], live := [] } ∧
 Inv51 (restB s) y ∧ (restB s).length - y.i < (restB s).length - x.i))))) ∧
 (decide ((↑x.i : Int) < (↑(restB s).length : Int)) = false →
 ∃ (y : X51),
 ValsAre [AV.int IntKind.i64 x.x, AV.str (restB s), AV.bool (negB s), AV.int IntKind.i64 (ptv x.i x.k), AV.bool false]
 [AV.int IntKind.i64 y.x, AV.str (restB s), AV.bool (negB s), AV.int IntKind.i64 (ptv y.i y.k), AV.bool y.big] ∧
 StIs { boxes := [], live := [] } { boxes := [], live := [] } ∧ End51 (restB s) y ∧ True))) ∧
 ∀ (x : X51),
 End51 (restB s) x →
 True →
 (x.big = true →
 (negB s = true →
 (decide (ptv x.i x.k ≥ (0 : Int)) = true →
 ((IntKind.i64.wrap (IntKind.i64.wrap ((↑(restB s).length : Int) - ptv x.i x.k) - (1 : Int)) == (0 : Int)) = true →
 RetIs (AV.tup [AV.int IntKind.i64 (0 : Int), AV.int IntKind.i64 (3 : Int)]) []
 (AV.tup [AV.int IntKind.i64 (decP s).fst, AV.int IntKind.i64 (decP s).snd], [])) ∧
 ((IntKind.i64.wrap (IntKind.i64.wrap ((↑(restB s).length : Int) - ptv x.i x.k) - (1 : Int)) == (0 : Int)) = false →
 (decide (IntKind.i64.wrap (IntKind.i64.wrap ((↑(restB s).length : Int) - ptv x.i x.k) - (1 : Int)) > (6 : Int)) = true →
 RetIs (AV.tup [AV.int IntKind.i64 (0 : Int), AV.int IntKind.i64 (3 : Int)]) []
 (AV.tup [AV.int IntKind.i64 (decP s).fst, AV.int IntKind.i64 (decP s).snd], [])) ∧
 (decide (IntKind.i64.wrap (IntKind.i64.wrap ((↑(restB s).length : Int) - ptv x.i x.k) - (1 : Int)) > (6 : Int)) = false →
 ((restB s == []) = true →
 RetIs (AV.tup [AV.int IntKind.i64 (0 : Int), AV.int IntKind.i64 (3 : Int)]) []
 (AV.tup [AV.int IntKind.i64 (decP s).fst, AV.int IntKind.i64 (decP s).snd], [])) ∧
 ((restB s == []) = false →
 ((0 : Int) ≤
 IntKind.i64.wrap
 ((6 : Int) - IntKind.i64.wrap (IntKind.i64.wrap ((↑(restB s).length : Int) - ptv x.i x.k) - (1 : Int))) ∧
 IntKind.i64.wrap
 ((6 : Int) - IntKind.i64.wrap (IntKind.i64.wrap ((↑(restB s).length : Int) - ptv x.i x.k) - (1 : Int))) <
 (7 : Int)) ∧
 ∃ (n : Int),
 takeAt PP (nat_lit 3)
 [AV.agg
 [AV.int IntKind.i64 (1 : Int), AV.int IntKind.i64 (10 : Int), AV.int IntKind.i64 (100 : Int),
 AV.int IntKind.i64 (1000 : Int), AV.int IntKind.i64 (10000 : Int), AV.int IntKind.i64 (100000 : Int),
 AV.int IntKind.i64 (1000000 : Int)]]
 (nat_lit 0)
 (nat_lit 0 +
 (IntKind.i64.wrap
 ((6 : Int) -
 IntKind.i64.wrap
 (IntKind.i64.wrap ((↑(restB s).length : Int) - ptv x.i x.k) - (1 : Int)))).toNat *
 nat_lit 1) =
 some (AV.int IntKind.i64 n) ∧
 RetIs (AV.tup [AV.int IntKind.i64 (0 : Int), AV.int IntKind.i64 (2 : Int)]) []
 (AV.tup [AV.int IntKind.i64 (decP s).fst, AV.int IntKind.i64 (decP s).snd], []))))) ∧
 (decide (ptv x.i x.k ≥ (0 : Int)) = false →
 ((restB s == []) = true →
 RetIs (AV.tup [AV.int IntKind.i64 (0 : Int), AV.int IntKind.i64 (3 : Int)]) []
 (AV.tup [AV.int IntKind.i64 (decP s).fst, AV.int IntKind.i64 (decP s).snd], [])) ∧
 ((restB s == []) = false →
 ((0 : Int) ≤ (6 : Int) ∧ (6 : Int) < (7 : Int)) ∧
 ∃ (n : Int),
 some (AV.int IntKind.i64 (1000000 : Int)) = some (AV.int IntKind.i64 n) ∧
 RetIs (AV.tup [AV.int IntKind.i64 (0 : Int), AV.int IntKind.i64 (2 : Int)]) []
 (AV.tup [AV.int IntKind.i64 (decP s).fst, AV.int IntKind.i64 (decP s).snd], [])))) ∧
 (negB s = false →
 (decide (ptv x.i x.k ≥ (0 : Int)) = true →
 ((IntKind.i64.wrap (IntKind.i64.wrap ((↑(restB s).length : Int) - ptv x.i x.k) - (1 : Int)) == (0 : Int)) = true →
 RetIs (AV.tup [AV.int IntKind.i64 (0 : Int), AV.int IntKind.i64 (3 : Int)]) []
 (AV.tup [AV.int IntKind.i64 (decP s).fst, AV.int IntKind.i64 (decP s).snd], [])) ∧
 ((IntKind.i64.wrap (IntKind.i64.wrap ((↑(restB s).length : Int) - ptv x.i x.k) - (1 : Int)) == (0 : Int)) = false →
 (decide (IntKind.i64.wrap (IntKind.i64.wrap ((↑(restB s).length : Int) - ptv x.i x.k) - (1 : Int)) > (6 : Int)) = true →
 RetIs (AV.tup [AV.int IntKind.i64 (0 : Int), AV.int IntKind.i64 (3 : Int)]) []
 (AV.tup [AV.int IntKind.i64 (decP s).fst, AV.int IntKind.i64 (decP s).snd], [])) ∧
 (decide (IntKind.i64.wrap (IntKind.i64.wrap ((↑(restB s).length : Int) - ptv x.i x.k) - (1 : Int)) > (6 : Int)) = false →
 ((restB s == []) = true →
 RetIs (AV.tup [AV.int IntKind.i64 (0 : Int), AV.int IntKind.i64 (3 : Int)]) []
 (AV.tup [AV.int IntKind.i64 (decP s).fst, AV.int IntKind.i64 (decP s).snd], [])) ∧
 ((restB s == []) = false →
 ((0 : Int) ≤
 IntKind.i64.wrap
 ((6 : Int) - IntKind.i64.wrap (IntKind.i64.wrap ((↑(restB s).length : Int) - ptv x.i x.k) - (1 : Int))) ∧
 IntKind.i64.wrap
 ((6 : Int) - IntKind.i64.wrap (IntKind.i64.wrap ((↑(restB s).length : Int) - ptv x.i x.k) - (1 : Int))) <
 (7 : Int)) ∧
 ∃ (n : Int),
 takeAt PP (nat_lit 3)
 [AV.agg
 [AV.int IntKind.i64 (1 : Int), AV.int IntKind.i64 (10 : Int), AV.int IntKind.i64 (100 : Int),
 AV.int IntKind.i64 (1000 : Int), AV.int IntKind.i64 (10000 : Int), AV.int IntKind.i64 (100000 : Int),
 AV.int IntKind.i64 (1000000 : Int)]]
 (nat_lit 0)
 (nat_lit 0 +
 (IntKind.i64.wrap
 ((6 : Int) -
 IntKind.i64.wrap
 (IntKind.i64.wrap ((↑(restB s).length : Int) - ptv x.i x.k) - (1 : Int)))).toNat *
 nat_lit 1) =
 some (AV.int IntKind.i64 n) ∧
 RetIs (AV.tup [AV.int IntKind.i64 (0 : Int), AV.int IntKind.i64 (2 : Int)]) []
 (AV.tup [AV.int IntKind.i64 (decP s).fst, AV.int IntKind.i64 (decP s).snd], []))))) ∧
 (decide (ptv x.i x.k ≥ (0 : Int)) = false →
 ((restB s == []) = true →
 RetIs (AV.tup [AV.int IntKind.i64 (0 : Int), AV.int IntKind.i64 (3 : Int)]) []
 (AV.tup [AV.int IntKind.i64 (decP s).fst, AV.int IntKind.i64 (decP s).snd], [])) ∧
 ((restB s == []) = false →
 ((0 : Int) ≤ (6 : Int) ∧ (6 : Int) < (7 : Int)) ∧
 ∃ (n : Int),
 some (AV.int IntKind.i64 (1000000 : Int)) = some (AV.int IntKind.i64 n) ∧
 RetIs (AV.tup [AV.int IntKind.i64 (0 : Int), AV.int IntKind.i64 (2 : Int)]) []
 (AV.tup [AV.int IntKind.i64 (decP s).fst, AV.int IntKind.i64 (decP s).snd], []))))) ∧
 (x.big = false →
 (negB s = true →
 (decide (ptv x.i x.k ≥ (0 : Int)) = true →
 ((IntKind.i64.wrap (IntKind.i64.wrap ((↑(restB s).length : Int) - ptv x.i x.k) - (1 : Int)) == (0 : Int)) = true →
 RetIs (AV.tup [AV.int IntKind.i64 (0 : Int), AV.int IntKind.i64 (3 : Int)]) []
 (AV.tup [AV.int IntKind.i64 (decP s).fst, AV.int IntKind.i64 (decP s).snd], [])) ∧
 ((IntKind.i64.wrap (IntKind.i64.wrap ((↑(restB s).length : Int) - ptv x.i x.k) - (1 : Int)) == (0 : Int)) = false →
 (decide (IntKind.i64.wrap (IntKind.i64.wrap ((↑(restB s).length : Int) - ptv x.i x.k) - (1 : Int)) > (6 : Int)) = true →
 RetIs (AV.tup [AV.int IntKind.i64 (0 : Int), AV.int IntKind.i64 (3 : Int)]) []
 (AV.tup [AV.int IntKind.i64 (decP s).fst, AV.int IntKind.i64 (decP s).snd], [])) ∧
 (decide (IntKind.i64.wrap (IntKind.i64.wrap ((↑(restB s).length : Int) - ptv x.i x.k) - (1 : Int)) > (6 : Int)) = false →
 ((restB s == []) = true →
 RetIs (AV.tup [AV.int IntKind.i64 (0 : Int), AV.int IntKind.i64 (3 : Int)]) []
 (AV.tup [AV.int IntKind.i64 (decP s).fst, AV.int IntKind.i64 (decP s).snd], [])) ∧
 ((restB s == []) = false →
 ((0 : Int) ≤
 IntKind.i64.wrap
 ((6 : Int) - IntKind.i64.wrap (IntKind.i64.wrap ((↑(restB s).length : Int) - ptv x.i x.k) - (1 : Int))) ∧
 IntKind.i64.wrap
 ((6 : Int) - IntKind.i64.wrap (IntKind.i64.wrap ((↑(restB s).length : Int) - ptv x.i x.k) - (1 : Int))) <
 (7 : Int)) ∧
 ∃ (n : Int),
 takeAt PP (nat_lit 3)
 [AV.agg
 [AV.int IntKind.i64 (1 : Int), AV.int IntKind.i64 (10 : Int), AV.int IntKind.i64 (100 : Int),
 AV.int IntKind.i64 (1000 : Int), AV.int IntKind.i64 (10000 : Int), AV.int IntKind.i64 (100000 : Int),
 AV.int IntKind.i64 (1000000 : Int)]]
 (nat_lit 0)
 (nat_lit 0 +
 (IntKind.i64.wrap
 ((6 : Int) -
 IntKind.i64.wrap
 (IntKind.i64.wrap ((↑(restB s).length : Int) - ptv x.i x.k) - (1 : Int)))).toNat *
 nat_lit 1) =
 some (AV.int IntKind.i64 n) ∧
 n ≠ (0 : Int) ∧
 (decide (x.x > IntKind.i64.wrap (Int.tdiv (1152921504606846976 : Int) n)) = true →
 RetIs (AV.tup [AV.int IntKind.i64 (0 : Int), AV.int IntKind.i64 (2 : Int)]) []
 (AV.tup [AV.int IntKind.i64 (decP s).fst, AV.int IntKind.i64 (decP s).snd], [])) ∧
 (decide (x.x > IntKind.i64.wrap (Int.tdiv (1152921504606846976 : Int) n)) = false →
 RetIs
 (AV.tup
 [AV.int IntKind.i64 (IntKind.i64.wrap ((0 : Int) - IntKind.i64.wrap (x.x * n))),
 AV.int IntKind.i64 (0 : Int)])
 [] (AV.tup [AV.int IntKind.i64 (decP s).fst, AV.int IntKind.i64 (decP s).snd], [])))))) ∧
 (decide (ptv x.i x.k ≥ (0 : Int)) = false →
 ((restB s == []) = true →
 RetIs (AV.tup [AV.int IntKind.i64 (0 : Int), AV.int IntKind.i64 (3 : Int)]) []
 (AV.tup [AV.int IntKind.i64 (decP s).fst, AV.int IntKind.i64 (decP s).snd], [])) ∧
 ((restB s == []) = false →
 ((0 : Int) ≤ (6 : Int) ∧ (6 : Int) < (7 : Int)) ∧
 ∃ (n : Int),
 some (AV.int IntKind.i64 (1000000 : Int)) = some (AV.int IntKind.i64 n) ∧
 n ≠ (0 : Int) ∧
 (decide (x.x > IntKind.i64.wrap (Int.tdiv (1152921504606846976 : Int) n)) = true →
 RetIs (AV.tup [AV.int IntKind.i64 (0 : Int), AV.int IntKind.i64 (2 : Int)]) []
 (AV.tup [AV.int IntKind.i64 (decP s).fst, AV.int IntKind.i64 (decP s).snd], [])) ∧
 (decide (x.x > IntKind.i64.wrap (Int.tdiv (1152921504606846976 : Int) n)) = false →
 RetIs
 (AV.tup
 [AV.int IntKind.i64 (IntKind.i64.wrap ((0 : Int) - IntKind.i64.wrap (x.x * n))),
 AV.int IntKind.i64 (0 : Int)])
 [] (AV.tup [AV.int IntKind.i64 (decP s).fst, AV.int IntKind.i64 (decP s).snd], []))))) ∧
 (negB s = false →
 (decide (ptv x.i x.k ≥ (0 : Int)) = true →
 ((IntKind.i64.wrap (IntKind.i64.wrap ((↑(restB s).length : Int) - ptv x.i x.k) - (1 : Int)) == (0 : Int)) = true →
 RetIs (AV.tup [AV.int IntKind.i64 (0 : Int), AV.int IntKind.i64 (3 : Int)]) []
 (AV.tup [AV.int IntKind.i64 (decP s).fst, AV.int IntKind.i64 (decP s).snd], [])) ∧
 ((IntKind.i64.wrap (IntKind.i64.wrap ((↑(restB s).length : Int) - ptv x.i x.k) - (1 : Int)) == (0 : Int)) = false →
 (decide (IntKind.i64.wrap (IntKind.i64.wrap ((↑(restB s).length : Int) - ptv x.i x.k) - (1 : Int)) > (6 : Int)) = true →
 RetIs (AV.tup [AV.int IntKind.i64 (0 : Int), AV.int IntKind.i64 (3 : Int)]) []
 (AV.tup [AV.int IntKind.i64 (decP s).fst, AV.int IntKind.i64 (decP s).snd], [])) ∧
 (decide (IntKind.i64.wrap (IntKind.i64.wrap ((↑(restB s).length : Int) - ptv x.i x.k) - (1 : Int)) > (6 : Int)) = false →
 ((restB s == []) = true →
 RetIs (AV.tup [AV.int IntKind.i64 (0 : Int), AV.int IntKind.i64 (3 : Int)]) []
 (AV.tup [AV.int IntKind.i64 (decP s).fst, AV.int IntKind.i64 (decP s).snd], [])) ∧
 ((restB s == []) = false →
 ((0 : Int) ≤
 IntKind.i64.wrap
 ((6 : Int) - IntKind.i64.wrap (IntKind.i64.wrap ((↑(restB s).length : Int) - ptv x.i x.k) - (1 : Int))) ∧
 IntKind.i64.wrap
 ((6 : Int) - IntKind.i64.wrap (IntKind.i64.wrap ((↑(restB s).length : Int) - ptv x.i x.k) - (1 : Int))) <
 (7 : Int)) ∧
 ∃ (n : Int),
 takeAt PP (nat_lit 3)
 [AV.agg
 [AV.int IntKind.i64 (1 : Int), AV.int IntKind.i64 (10 : Int), AV.int IntKind.i64 (100 : Int),
 AV.int IntKind.i64 (1000 : Int), AV.int IntKind.i64 (10000 : Int), AV.int IntKind.i64 (100000 : Int),
 AV.int IntKind.i64 (1000000 : Int)]]
 (nat_lit 0)
 (nat_lit 0 +
 (IntKind.i64.wrap
 ((6 : Int) -
 IntKind.i64.wrap
 (IntKind.i64.wrap ((↑(restB s).length : Int) - ptv x.i x.k) - (1 : Int)))).toNat *
 nat_lit 1) =
 some (AV.int IntKind.i64 n) ∧
 n ≠ (0 : Int) ∧
 (decide (x.x > IntKind.i64.wrap (Int.tdiv (1152921504606846976 : Int) n)) = true →
 RetIs (AV.tup [AV.int IntKind.i64 (0 : Int), AV.int IntKind.i64 (2 : Int)]) []
 (AV.tup [AV.int IntKind.i64 (decP s).fst, AV.int IntKind.i64 (decP s).snd], [])) ∧
 (decide (x.x > IntKind.i64.wrap (Int.tdiv (1152921504606846976 : Int) n)) = false →
 RetIs (AV.tup [AV.int IntKind.i64 (IntKind.i64.wrap (x.x * n)), AV.int IntKind.i64 (0 : Int)]) []
 (AV.tup [AV.int IntKind.i64 (decP s).fst, AV.int IntKind.i64 (decP s).snd], [])))))) ∧
 (decide (ptv x.i x.k ≥ (0 : Int)) = false →
 ((restB s == []) = true →
 RetIs (AV.tup [AV.int IntKind.i64 (0 : Int), AV.int IntKind.i64 (3 : Int)]) []
 (AV.tup [AV.int IntKind.i64 (decP s).fst, AV.int IntKind.i64 (decP s).snd], [])) ∧
 ((restB s == []) = false →
 ((0 : Int) ≤ (6 : Int) ∧ (6 : Int) < (7 : Int)) ∧
 ∃ (n : Int),
 some (AV.int IntKind.i64 (1000000 : Int)) = some (AV.int IntKind.i64 n) ∧
 n ≠ (0 : Int) ∧
 (decide (x.x > IntKind.i64.wrap (Int.tdiv (1152921504606846976 : Int) n)) = true →
 RetIs (AV.tup [AV.int IntKind.i64 (0 : Int), AV.int IntKind.i64 (2 : Int)]) []
 (AV.tup [AV.int IntKind.i64 (decP s).fst, AV.int IntKind.i64 (decP s).snd], [])) ∧
 (decide (x.x > IntKind.i64.wrap (Int.tdiv (1152921504606846976 : Int) n)) = false →
 RetIs (AV.tup [AV.int IntKind.i64 (IntKind.i64.wrap (x.x * n)), AV.int IntKind.i64 (0 : Int)]) []
 (AV.tup [AV.int IntKind.i64 (decP s).fst, AV.int IntKind.i64 (decP s).snd], []))))))) ∧
  True ∧ True) := by kernel_rfl
end Go.Abs

namespace Go.Abs
open Go.Proofs L8
theorem w28 (m : Int) (code a : Int) (es : List AV) (p : Nat × TypeId) (n : Nat) : (openW PP (G8 m) XL (tbl []) (itbl []) nAn [] 28 [.int .i64 code, .ptr 0 0, .ptr 2 0] ⟨[some [.sl 2 es (.tok 1)], some keptClasses, some [.int .i64 a]], [p, (n, 40)]⟩ (.tup [], ⟨[some [.sl 2 (if es.length < 32 then es ++ [.agg [.int .i64 a, .int .i64 code]] else es) (.tok 1)], some keptClasses, some [.int .i64 a]], [p, (if es.length < 32 then n + 1 else n, 40)]⟩)) =
((decide ((↑es.length : Int) < 32) = true →
    (2 = 2 ∨ es = []) ∧
      (es.length + [AV.agg [AV.int IntKind.i64 a, AV.int IntKind.i64 code]].length) * 17 ≤ 70368744177664 ∧
        n = es.length ∧
 RetOpen
 (AV.p2 [some [AV.sl 2 es (Own.tok 1)], some keptClasses, some [AV.int IntKind.i64 a]].length (AV.tup []) &&
 boxesOk [some [AV.sl 2 es (Own.tok 1)], some keptClasses, some [AV.int IntKind.i64 a]].length
 [some [AV.sl 2 (es ++ [AV.agg [AV.int IntKind.i64 a, AV.int IntKind.i64 code]]) (Own.tok 1)], some keptClasses, some [AV.int IntKind.i64 a]])
 (AV.tup [])
 { boxes := [some [AV.sl 2 (es ++ [AV.agg [AV.int IntKind.i64 a, AV.int IntKind.i64 code]]) (Own.tok 1)], some keptClasses, some [AV.int IntKind.i64 a]], live := [p, (es.length + [AV.agg [AV.int IntKind.i64 a, AV.int IntKind.i64 code]].length, 40)] }
 (AV.tup [],
 { boxes := [some [AV.sl 2 (if es.length < 32 then es ++ [AV.agg [AV.int IntKind.i64 a, AV.int IntKind.i64 code]] else es) (Own.tok 1)], some keptClasses, some [AV.int IntKind.i64 a]], live := [p, (if es.length < 32 then n + 1 else n, 40)] })) ∧
  (decide ((↑es.length : Int) < 32) = false →
    RetOpen
      (AV.p2 [some [AV.sl 2 es (Own.tok 1)], some keptClasses, some [AV.int IntKind.i64 a]].length (AV.tup []) &&
        boxesOk [some [AV.sl 2 es (Own.tok 1)], some keptClasses, some [AV.int IntKind.i64 a]].length
 [some [AV.sl 2 es (Own.tok 1)], some keptClasses, some [AV.int IntKind.i64 a]])
      (AV.tup []) { boxes := [some [AV.sl 2 es (Own.tok 1)], some keptClasses, some [AV.int IntKind.i64 a]], live := [p, (n, 40)] }
      (AV.tup [],
        { boxes := [some [AV.sl 2 (if es.length < 32 then es ++ [AV.agg [AV.int IntKind.i64 a, AV.int IntKind.i64 code]] else es) (Own.tok 1)], some keptClasses, some [AV.int IntKind.i64 a]], live := [p, (if es.length < 32 then n + 1 else n, 40)] }))) := by kernel_rfl
theorem w38 (m c : Int) (bs : List UInt8) : (pureW PP (G8 m) XL (tbl lib8) (itbl []) nAn [] 38 [.sl 1 (bytesL bs) .no, .int .u8 c] (.int .i64 (Lib.indexByte bs c.toNat.toUInt8), [])) =
(∃ (n : Int),
  CallIs (tbl [(50, sIndexByte), (53, sIndexByteString), (32, sContains)] 50 [AV.sl 1 (bytesL bs) Own.no, AV.int IntKind.u8 c]) (AV.int IntKind.i64 n) [] ∧
    RetIs (AV.int IntKind.i64 n) [] (AV.int IntKind.i64 (Lib.indexByte bs c.toNat.toUInt8), [])) := by kernel_rfl
theorem w38f (m c : Int) (bs : List UInt8) : (pureW PP (G8 m) XL (tbl lib8) (itbl []) nAn [] 38 [.sl 1 (bytesL bs) .full, .int .u8 c] (.int .i64 (Lib.indexByte bs c.toNat.toUInt8), [])) =
(∃ (n : Int),
  CallIs (tbl [(50, sIndexByte), (53, sIndexByteString), (32, sContains)] 50 [AV.sl 1 (bytesL bs) Own.full, AV.int IntKind.u8 c]) (AV.int IntKind.i64 n) [] ∧
    RetIs (AV.int IntKind.i64 n) [] (AV.int IntKind.i64 (Lib.indexByte bs c.toNat.toUInt8), [])) := by kernel_rfl
theorem w60 (m c : Int) (l : List UInt8) : (pureW PP (G8 m) XL (tbl lib8) (itbl []) nAn [] 60 [.str l, .int .u8 c] (.int .i64 (Lib.indexByte l c.toNat.toUInt8), [])) =
(∃ (n : Int),
  CallIs (some (AV.int IntKind.i64 (Lib.indexByte l c.toNat.toUInt8), [])) (AV.int IntKind.i64 n) [] ∧
    RetIs (AV.int IntKind.i64 n) [] (AV.int IntKind.i64 (Lib.indexByte l c.toNat.toUInt8), [])) := by kernel_rfl
theorem w42 (m c : Int) (l : List UInt8) : (pureW PP (G8 m) XL (tbl [(60, sIndexByteString)]) (itbl []) nAn [] 42 [.str l, .int .u8 c] (.int .i64 (Lib.indexByte l c.toNat.toUInt8), [])) =
(∃ (n : Int),
  CallIs (some (AV.int IntKind.i64 (Lib.indexByte l c.toNat.toUInt8), [])) (AV.int IntKind.i64 n) [] ∧
    RetIs (AV.int IntKind.i64 n) [] (AV.int IntKind.i64 (Lib.indexByte l c.toNat.toUInt8), [])) := by kernel_rfl
theorem w41 (m : Int) (bs : List UInt8) (sz : Nat) (o : Own) : (pureW PP (G8 m) XL (tbl []) (itbl []) (a41 bs) [] 41 [.sl sz (bytesL bs) o] (.int .i64 (txtErr bs), [])) =
((decide ((↑(bytesL bs).length : Int) > 64) = true → RetIs (AV.int IntKind.i64 2) [] (AV.int IntKind.i64 (txtErr bs), [])) ∧
  (decide ((↑(bytesL bs).length : Int) > 64) = false →
    (∃ (y : Nat),
        ValsAre [AV.sl sz (bytesL bs) o, AV.int IntKind.i64 (↑(bytesL bs).length : Int), AV.int IntKind.i64 0]
 [AV.sl 1 (bytesL bs) Own.no, AV.int IntKind.i64 (↑bs.length : Int), AV.int IntKind.i64 (↑y : Int)] ∧
 StIs { boxes := [], live := [] } { boxes := [], live := [] } ∧ (y ≤ bs.length ∧ (List.take y bs).any badB = false) ∧ True) ∧
      ∀ (x : Nat),
        x ≤ bs.length ∧ (List.take x bs).any badB = false →
 (decide ((↑x : Int) < (↑bs.length : Int)) = true →
 (0 ≤ (↑x : Int) ∧ (↑x : Int) < (↑(bytesL bs).length : Int)) ∧
 ∃ (n : Int),
 takeAt PP 5 (bytesL bs) (↑x : Int).toNat 0 = some (AV.int IntKind.u8 n) ∧
 (decide (n < 32) = true → RetIs (AV.int IntKind.i64 3) [] (AV.int IntKind.i64 (txtErr bs), [])) ∧
 (decide (n < 32) = false →
 (decide (n > 126) = true → RetIs (AV.int IntKind.i64 3) [] (AV.int IntKind.i64 (txtErr bs), [])) ∧
 (decide (n > 126) = false →
 ((n == 92) = true → RetIs (AV.int IntKind.i64 3) [] (AV.int IntKind.i64 (txtErr bs), [])) ∧
 ((n == 92) = false →
 ∃ (y : Nat),
 ValsAre
 [AV.sl 1 (bytesL bs) Own.no, AV.int IntKind.i64 (↑bs.length : Int),
 AV.int IntKind.i64 (IntKind.i64.wrap ((↑x : Int) + 1))]
 [AV.sl 1 (bytesL bs) Own.no, AV.int IntKind.i64 (↑bs.length : Int), AV.int IntKind.i64 (↑y : Int)] ∧
 StIs { boxes := [], live := [] } { boxes := [], live := [] } ∧
 (y ≤ bs.length ∧ (List.take y bs).any badB = false) ∧ bs.length - y < bs.length - x)))) ∧
 (decide ((↑x : Int) < (↑bs.length : Int)) = false → RetIs (AV.int IntKind.i64 0) [] (AV.int IntKind.i64 (txtErr bs), [])))) := by kernel_rfl
theorem w37 (m n : Int) (ps : List AV) (bs : List UInt8) (b0 b2 : List AV) (p q : Nat × TypeId) : (openW PP (G8 m) XL (tbl [(38, s38)]) (itbl []) (a37 n ps .full bs (S37 b0 b2 (bytesL bs) p q)) [] 37 [.int .i64 n, .sl 1 ps .full, .ptr 3 0, .ptr 4 0] (S37 b0 b2 (bytesL bs) p q) (.int .i64 (n + runL ps (bs.drop n.toNat)), S37 b0 b2 (bytesL bs) p q)) =
((∃ (y : Nat),
    ValsAre [AV.int IntKind.i64 n, AV.sl 1 ps Own.full, AV.ptr 3 0, AV.ptr 4 0]
        [AV.int IntKind.i64 (n + (↑y : Int)), AV.sl 1 ps Own.full, AV.ptr 3 0, AV.ptr 4 0] ∧
      StIs { boxes := [some b0, some keptClasses, some b2, some [AV.sl 1 (bytesL bs) Own.no], some [AV.ptr 1 0]], live := [p, q] }
 { boxes := [some b0, some keptClasses, some b2, some [AV.sl 1 (bytesL bs) Own.no], some [AV.ptr 1 0]], live := [p, q] } ∧
        y ≤ runL ps (List.drop n.toNat bs) ∧ True) ∧
  ∀ (x : Nat),
    x ≤ runL ps (List.drop n.toNat bs) →
      (decide (n + (↑x : Int) < (↑(bytesL bs).length : Int)) = true →
 (0 ≤ n + (↑x : Int) ∧ n + (↑x : Int) < (↑(bytesL bs).length : Int)) ∧
 ∃ (n_1 : Int),
 takeAt PP 5 (bytesL bs) (n + (↑x : Int)).toNat 0 = some (AV.int IntKind.u8 n_1) ∧
 (0 ≤ n_1 ∧ n_1 < 256) ∧
 ∃ (n_2 : Int),
 takeA (some false) (some 1) keptClasses (0 + n_1.toNat * 1) = some (AV.int IntKind.u8 n_2) ∧
 ∃ (n_3 : Int),
 CallIs (tbl [(38, s38)] 38 [AV.sl 1 ps Own.full, AV.int IntKind.u8 n_2]) (AV.int IntKind.i64 n_3) [] ∧
 (decide (n_3 ≥ 0) = true →
 ∃ (y : Nat),
 ValsAre [AV.int IntKind.i64 (IntKind.i64.wrap (n + (↑x : Int) + 1)), AV.sl 1 ps Own.full, AV.ptr 3 0, AV.ptr 4 0]
 [AV.int IntKind.i64 (n + (↑y : Int)), AV.sl 1 ps Own.full, AV.ptr 3 0, AV.ptr 4 0] ∧
 StIs { boxes := [some b0, some keptClasses, some b2, some [AV.sl 1 (bytesL bs) Own.no], some [AV.ptr 1 0]], live := [p, q] }
 { boxes := [some b0, some keptClasses, some b2, some [AV.sl 1 (bytesL bs) Own.no], some [AV.ptr 1 0]], live := [p, q] } ∧
 y ≤ runL ps (List.drop n.toNat bs) ∧
 ((↑bs.length : Int) - n - (↑y : Int)).toNat < ((↑bs.length : Int) - n - (↑x : Int)).toNat) ∧
 (decide (n_3 ≥ 0) = false →
 RetOpen
 (AV.p2 [some b0, some keptClasses, some b2, some [AV.sl 1 (bytesL bs) Own.no], some [AV.ptr 1 0]].length
 (AV.int IntKind.i64 (n + (↑x : Int))) &&
 boxesOk [some b0, some keptClasses, some b2, some [AV.sl 1 (bytesL bs) Own.no], some [AV.ptr 1 0]].length
 [some b0, some keptClasses, some b2, some [AV.sl 1 (bytesL bs) Own.no], some [AV.ptr 1 0]])
 (AV.int IntKind.i64 (n + (↑x : Int)))
 { boxes := [some b0, some keptClasses, some b2, some [AV.sl 1 (bytesL bs) Own.no], some [AV.ptr 1 0]], live := [p, q] }
 (AV.int IntKind.i64 (n + (↑(runL ps (List.drop n.toNat bs)) : Int)),
 { boxes := [some b0, some keptClasses, some b2, some [AV.sl 1 (bytesL bs) Own.no], some [AV.ptr 1 0]], live := [p, q] }))) ∧
        (decide (n + (↑x : Int) < (↑(bytesL bs).length : Int)) = false →
 RetOpen
 (AV.p2 [some b0, some keptClasses, some b2, some [AV.sl 1 (bytesL bs) Own.no], some [AV.ptr 1 0]].length (AV.int IntKind.i64 (n + (↑x : Int))) &&
 boxesOk [some b0, some keptClasses, some b2, some [AV.sl 1 (bytesL bs) Own.no], some [AV.ptr 1 0]].length
 [some b0, some keptClasses, some b2, some [AV.sl 1 (bytesL bs) Own.no], some [AV.ptr 1 0]])
 (AV.int IntKind.i64 (n + (↑x : Int)))
 { boxes := [some b0, some keptClasses, some b2, some [AV.sl 1 (bytesL bs) Own.no], some [AV.ptr 1 0]], live := [p, q] }
 (AV.int IntKind.i64 (n + (↑(runL ps (List.drop n.toNat bs)) : Int)),
 { boxes := [some b0, some keptClasses, some b2, some [AV.sl 1 (bytesL bs) Own.no], some [AV.ptr 1 0]], live := [p, q] }))) := by kernel_rfl
end Go.Abs

namespace Go.Abs
open Go.Proofs L8

theorem retOpen_iff {ok : Bool} {r : AV} {S : St} {s : AV × St} : RetOpen ok r S s ↔ ok = true ∧ (r, S) = s := ⟨fun h => ⟨h.ok, h.eq⟩, fun h => ⟨h.1, h.2⟩⟩
theorem retLax_iff {r : AV} {s : AV × List (Nat × TypeId)} : RetLax r s ↔ Lax2 r s.1 ∧ s.1.closed2 = true ∧ s.2 = [] := ⟨fun h => ⟨h.lax, h.closed, h.none⟩, fun h => ⟨h.1, h.2.1, h.2.2⟩⟩

theorem p28 (m code a : Int) (es : List AV) (p : Nat × TypeId) (n : Nat) (hn : n = es.length) (hl : es.length ≤ 1000000) : OpenOk PP (G8 m) XL (tbl []) (itbl []) nAn [] 28 [.int .i64 code, .ptr 0 0, .ptr 2 0] ⟨[some [.sl 2 es (.tok 1)], some keptClasses, some [.int .i64 a]], [p, (n, 40)]⟩ (.tup [], ⟨[some [.sl 2 (if es.length < 32 then es ++ [.agg [.int .i64 a, .int .i64 code]] else es) (.tok 1)], some keptClasses, some [.int .i64 a]], [p, (if es.length < 32 then n + 1 else n, 40)]⟩) := by
  constructor
  rw [w28]
  subst hn
  refine ⟨fun h => ⟨.inl rfl, by simp; omega, rfl, ?_⟩, fun h => ?_⟩
  · have h' : es.length < 32 := by have := of_decide_eq_true h; omega
    exact ⟨by kernel_rfl, by simp [h']⟩
  · have h' : ¬ es.length < 32 := by have := of_decide_eq_false h; omega
    exact ⟨by kernel_rfl, by simp [h']⟩

theorem t50 {bs : List UInt8} {o : Own} {c : Int} (hb : bs ≠ []) : sIndexByte [.sl 1 (bytesL bs) o, .int .u8 c] = some (.int .i64 (Lib.indexByte bs c.toNat.toUInt8), []) := by
  have h := unBytes_mk bs
  have h1 : bytesL bs ≠ [] := by simpa [bytesL] using hb
  show (if 1 = 1 ∧ bytesL bs ≠ [] then (unBytes (bytesL bs)).map fun l => (AV.int .i64 (Lib.indexByte l c.toNat.toUInt8), ([] : List (Nat × TypeId))) else none) = _
  rw [if_pos ⟨rfl, h1⟩, h]
  rfl
theorem p38 (m c : Int) (bs : List UInt8) (hb : bs ≠ []) : PureOk PP (G8 m) XL (tbl lib8) (itbl []) nAn [] 38 [.sl 1 (bytesL bs) .no, .int .u8 c] (.int .i64 (Lib.indexByte bs c.toNat.toUInt8), []) := by
  constructor
  rw [w38]
  exact ⟨_, ⟨t50 (o := .no) hb⟩, ⟨rfl⟩⟩
theorem p38f (m c : Int) (bs : List UInt8) (hb : bs ≠ []) : PureOk PP (G8 m) XL (tbl lib8) (itbl []) nAn [] 38 [.sl 1 (bytesL bs) .full, .int .u8 c] (.int .i64 (Lib.indexByte bs c.toNat.toUInt8), []) := by
  constructor
  rw [w38f]
  exact ⟨_, ⟨t50 (o := .full) hb⟩, ⟨rfl⟩⟩
theorem p60 (m c : Int) (l : List UInt8) : PureOk PP (G8 m) XL (tbl lib8) (itbl []) nAn [] 60 [.str l, .int .u8 c] (.int .i64 (Lib.indexByte l c.toNat.toUInt8), []) := by
  constructor
  rw [w60]
  exact ⟨_, ⟨rfl⟩, ⟨rfl⟩⟩
theorem p42 (m c : Int) (l : List UInt8) : PureOk PP (G8 m) XL (tbl [(60, sIndexByteString)]) (itbl []) nAn [] 42 [.str l, .int .u8 c] (.int .i64 (Lib.indexByte l c.toNat.toUInt8), []) := by
  constructor
  rw [w42]
  exact ⟨_, ⟨rfl⟩, ⟨rfl⟩⟩

theorem any_take_succ {p : UInt8 → Bool} {bs : List UInt8} {x : Nat} (hx : x < bs.length) : (bs.take (x + 1)).any p = ((bs.take x).any p || p (bs.getD x 0)) := by
  rw [List.take_succ_eq_append_getElem hx, List.any_append]
  simp [hx]
theorem any_of_get {p : UInt8 → Bool} {bs : List UInt8} {x : Nat} (hx : x < bs.length) (h : p (bs.getD x 0) = true) : bs.any p = true := by
  rw [List.any_eq_true]
  exact ⟨bs[x], List.getElem_mem hx, by simpa [hx] using h⟩
theorem p41 (m : Int) (bs : List UInt8) (sz : Nat) (hsz : sz = 1) (hl : bs.length ≤ 1000000) : PureOk PP (G8 m) XL (tbl []) (itbl []) (a41 bs) [] 41 [.sl sz (bytesL bs) .no] (.int .i64 (txtErr bs), []) := by
  constructor
  rw [w41]
  subst hsz
  simp only [valsAre_iff, stIs_iff, retIs_iff, take_u8_iff agg5 size5, Prod.mk.injEq, AV.int.injEq, List.cons.injEq, and_true, true_and, exists_eq_left', and_assoc, exists_and_left, decide_eq_true_eq, decide_eq_false_iff_not, bytesL_length, Int.toNat_natCast, beq_iff_eq, beq_eq_false_iff_ne, ne_eq, gt_iff_lt]
  refine ⟨fun h => ?_, fun h => ⟨⟨0, rfl, by omega, by simp⟩, fun x ⟨hx, hb⟩ => ⟨fun hlt => ?_, fun hge => ?_⟩⟩⟩
  · simp only [txtErr]; rw [if_pos (by omega)]
  · have hlt' : x < bs.length := by omega
    have hnx := any_take_succ (p := badB) hlt'
    have hget : badB (bs.getD x 0) = true → bs.any badB = true := any_of_get hlt'
    generalize bs.getD x 0 = c at *
    have hbad : badB c = (decide (c.toNat < 32) || decide (126 < c.toNat) || c == 92) := rfl
    have h92 : c = 92 ↔ c.toNat = 92 := by rw [← UInt8.toNat_inj]; rfl
    have fin : badB c = true → (3 : Int) = txtErr bs := fun hb' => by
      simp only [txtErr]
      rw [if_neg (by omega), if_pos (hget hb')]
    refine ⟨by omega, by omega, hlt', fun h1 => fin (by rw [hbad]; simp; omega), fun h1 => ⟨fun h2 => fin (by rw [hbad]; simp; omega), fun h2 => ⟨fun h3 => fin (by rw [hbad]; simp only [Bool.or_eq_true, decide_eq_true_eq, beq_iff_eq, h92]; omega), fun h3 => ⟨x + 1, ?_, by omega, ?_, by omega⟩⟩⟩⟩
    · rw [wrap64_in (by omega) (by omega)]; omega
    · rw [hnx, hb, hbad]
      have : ¬ c = 92 := by rw [h92]; omega
      simp [this]
      omega
  · have hx' : x = bs.length := by omega
    subst hx'
    rw [List.take_length] at hb
    simp only [txtErr]
    rw [if_neg (by omega), if_neg (by simp [hb])]

theorem cls_get (c : UInt8) : takeA (some false) (some 1) keptClasses c.toNat = some (.int .u8 (cls c.toNat)) := by
  have h := c.toNat_lt
  have hlen : keptClasses.length = 256 := by kernel_rfl
  have h2 : keptClasses[c.toNat]? = some (.int .u8 (cls c.toNat)) := by
    simp only [keptClasses, List.getElem?_map, List.getElem?_range (show c.toNat < 256 by omega), Option.map_some]
  simp only [takeA, h2]
theorem cls_lt (c : Nat) : cls c < 9 := by
  unfold cls
  repeat' split
  all_goals omega
theorem ib_spec : ∀ (l : List UInt8) (c : UInt8), (c ∈ l → Lib.indexByte l c = ((l.takeWhile (· != c)).length : Int)) ∧ (c ∉ l → Lib.indexByte l c = -1)
  | [], c => ⟨fun h => by simp at h, fun _ => rfl⟩
  | b :: l, c => by
    obtain ⟨h1, h2⟩ := ib_spec l c
    simp only [Lib.indexByte, List.takeWhile_cons]
    by_cases hb : b = c
    · subst hb
      simp
    · have hb' : (b == c) = false := by simpa using hb
      have hb2 : (b != c) = true := by simpa using hb
      rw [hb', if_neg (by simp), hb2, if_pos rfl]
      refine ⟨fun h => ?_, fun h => ?_⟩
      · have hm : c ∈ l := by
          rcases List.mem_cons.1 h with h | h
          · exact absurd h.symm hb
          · exact h
        rw [h1 hm, if_neg (by simp)]
        simp
      · rw [h2 (fun hm => h (List.mem_cons_of_mem _ hm))]
        simp
theorem ib_ge {l : List UInt8} {c : UInt8} : 0 ≤ Lib.indexByte l c ↔ c ∈ l := by
  obtain ⟨h1, h2⟩ := ib_spec l c
  by_cases h : c ∈ l
  · rw [h1 h]; simp [h]
  · rw [h2 h]; simp [h]
theorem ib_cls {qs : List UInt8} {c : UInt8} : 0 ≤ Lib.indexByte qs (cls c.toNat).toUInt8 ↔ inCls (bytesL qs) c = true := by
  rw [ib_ge, inCls, bytesD_mk, List.any_eq_true]
  have hlt := cls_lt c.toNat
  constructor
  · intro h
    exact ⟨_, h, by simp; omega⟩
  · rintro ⟨x, hx, he⟩
    have : x = (cls c.toNat).toUInt8 := by
      rw [← UInt8.toNat_inj]
      simp at he ⊢
      omega
    rwa [← this]

theorem p0_p1 {n : Nat} {v : AV} (h : v.p0 n = true) : v.p1 n = true := by
  cases v with
  | fn f cap => simp only [AV.p0, List.isEmpty_iff] at h; subst h; rfl
  | agg cs => simp [AV.p0] at h
  | _ => first | exact h | rfl
theorem all_p0_p1 {n : Nat} {l : List AV} (h : l.all (AV.p0 n) = true) : l.all (AV.p1 n) = true := by
  rw [List.all_eq_true] at h ⊢
  exact fun x hx => p0_p1 (h x hx)
theorem p37 (m n : Int) (qs : List UInt8) (bs : List UInt8) (b0 b2 : List AV) (p q : Nat × TypeId) (h0 : b0.all (AV.p0 5) = true) (h2 : b2.all (AV.p0 5) = true) (hn0 : 0 ≤ n) (hn1 : n ≤ bs.length) (hl : bs.length ≤ 1000000) (hq : qs ≠ []) :
    OpenOk PP (G8 m) XL (tbl [(38, s38)]) (itbl []) (a37 n (bytesL qs) .full bs (S37 b0 b2 (bytesL bs) p q)) [] 37 [.int .i64 n, .sl 1 (bytesL qs) .full, .ptr 3 0, .ptr 4 0] (S37 b0 b2 (bytesL bs) p q) (.int .i64 (n + runL (bytesL qs) (bs.drop n.toNat)), S37 b0 b2 (bytesL bs) p q) := by
  constructor
  rw [w37]
  obtain ⟨k, rfl⟩ : ∃ k : Nat, n = k := ⟨n.toNat, by omega⟩
  have hok : boxesOk 5 [some b0, some keptClasses, some b2, some [AV.sl 1 (bytesL bs) Own.no], some [AV.ptr 1 0]] = true := by
    have hk : keptClasses.all (AV.p1 5) = true := by kernel_rfl
    simp only [boxesOk, all_p0_p1 h0, all_p0_p1 h2, hk, Bool.and_true, Bool.true_and]
    rfl
  have t38 : ∀ c : Nat, tbl [(38, s38)] 38 [.sl 1 (bytesL qs) .full, .int .u8 c] = some (.int .i64 (Lib.indexByte qs c.toUInt8), []) := fun c => by
    show s38 [.sl 1 (bytesL qs) .full, .int .u8 c] = _
    show (if 1 = 1 ∧ bytesL qs ≠ [] then onBytes (bytesL qs) fun bs => some (AV.int .i64 (Lib.indexByte bs ((c : Int)).toNat.toUInt8), ([] : List (Nat × TypeId))) else none) = _
    rw [if_pos ⟨rfl, by simpa [bytesL] using hq⟩, onBytes, unBytes_mk]
    rfl
  simp only [List.length_cons, List.length_nil, Nat.zero_add, Nat.reduceAdd, valsAre_iff, stIs_iff, retOpen_iff, take_u8_iff agg5 size5, List.cons.injEq, AV.int.injEq, Prod.mk.injEq, and_true, true_and, hok, Bool.and_true, Int.toNat_natCast, bytesL_length, decide_eq_true_eq, decide_eq_false_iff_not]
  refine ⟨⟨0, by omega, by omega⟩, fun x hx => ⟨fun hlt => ⟨by omega, ((bs.getD (k + x) 0).toNat : Int), ⟨by omega, by rw [show ((k : Int) + x).toNat = k + x by omega]⟩, ⟨by omega, by have := (bs.getD (k + x) 0).toNat_lt; omega⟩, (cls (bs.getD (k + x) 0).toNat : Int), by simpa using cls_get _, _, ⟨t38 _⟩, fun hge => ?_, fun hge => ?_⟩, fun hge => ?_⟩⟩
  · rw [ge_iff_le, ib_cls] at hge
    rw [wrap64_in (by omega) (by omega)]
    refine ⟨x + 1, by omega, ?_, by omega⟩
    refine tw_next hx (by rw [List.length_drop]; omega) ?_
    rw [getD_drop']
    exact hge
  · rw [ge_iff_le, ib_cls] at hge
    have := tw_stop (p := inCls (bytesL qs)) (l := bs.drop k) (k := x) hx (fun _ => by rw [getD_drop']; simpa using hge)
    simp only [runL]
    rw [← this]
    exact ⟨rfl, rfl⟩
  · have := tw_stop (p := inCls (bytesL qs)) (l := bs.drop k) (k := x) hx (fun h => by rw [List.length_drop] at h; omega)
    simp only [runL]
    rw [← this]
    exact ⟨rfl, rfl⟩
end Go.Abs

namespace Go.Abs
open Go.Proofs L8
theorem w12 (m : Int) (bs : List UInt8) : (laxW PP (G8 m) XL (tbl t12) (itbl [(28, s28), (29, s29)]) (a12 bs) [] 12 [bytesA bs] (if bs.length ≤ 16384 then .tup [tkA (toksL bs) .no, badA (probsL bs) .no, .int .i64 0] else .tup [.sl 3 [] .no, .sl 2 [] .no, .int .i64 2], [])) =
(((decide ((↑(bytesL bs).length : Int) > 16384) = true →
      RetLax (AV.tup [AV.sl 0 [] Own.nil, AV.sl 0 [] Own.nil, AV.int IntKind.i64 2])
        (if bs.length ≤ 16384 then AV.tup [AV.sl 3 (List.map tokA (toksL bs)) Own.no, AV.sl 2 (List.map pbA (probsL bs)) Own.no, AV.int IntKind.i64 0]
 else AV.tup [AV.sl 3 [] Own.no, AV.sl 2 [] Own.no, AV.int IntKind.i64 2],
 [])) ∧
    (decide ((↑(bytesL bs).length : Int) > 16384) = false →
      CallIs (some (keptClassesA, [])) keptClassesA [] ∧
        ∃ (y : X12),
 ValsAre
 [AV.sl 1 (bytesL bs) Own.no, AV.sl 3 [] (Own.tok 0), AV.ptr 0 0, AV.int IntKind.i64 0, AV.ptr 1 0, AV.ptr 2 0, AV.int IntKind.i64 (-1),
 AV.fn 28 [AV.ptr 0 0, AV.ptr 2 0]]
 [AV.sl 1 (bytesL bs) Own.no, AV.sl 3 (List.map tokA y.l) (Own.tok 0), AV.ptr 0 0, AV.int IntKind.i64 0, AV.ptr 1 0, AV.ptr 2 0,
 AV.int IntKind.i64 y.st, AV.fn 28 [AV.ptr 0 0, AV.ptr 2 0]] ∧
 StIs { boxes := [some [AV.sl 2 [] (Own.tok 1)], some keptClasses, some [AV.int IntKind.i64 0]], live := [(0, 38), (0, 40)] }
 { boxes := [some [AV.sl 2 (List.map pbA (List.take 32 y.b)) (Own.tok 1)], some keptClasses, some [AV.int IntKind.i64 (↑y.p : Int)]], live := [(y.l.length, 38), ((List.take 32 y.b).length, 40)] } ∧
 Inv12 bs y ∧ True)) ∧
  (∀ (x : X12),
      Inv12 bs x →
        (((↑x.p : Int) == (↑(bytesL bs).length : Int)) = true →
 (3 = 3 ∨ List.map tokA x.l = []) ∧
 ((List.map tokA x.l).length + 1) * 33 ≤ 70368744177664 ∧
 x.l.length = (List.map tokA x.l).length ∧
 RetLax
 (AV.tup
 [AV.sl 3 (List.map tokA x.l ++ [AV.agg [AV.int IntKind.i64 6, AV.str [], AV.int IntKind.i64 (↑x.p : Int)]]) (Own.tok 0),
 AV.sl 2 (List.map pbA (List.take 32 x.b)) (Own.tok 1), AV.int IntKind.i64 0])
 (if bs.length ≤ 16384 then
 AV.tup [AV.sl 3 (List.map tokA (toksL bs)) Own.no, AV.sl 2 (List.map pbA (probsL bs)) Own.no, AV.int IntKind.i64 0]
 else AV.tup [AV.sl 3 [] Own.no, AV.sl 2 [] Own.no, AV.int IntKind.i64 2],
 [])) ∧
 (((↑x.p : Int) == (↑(bytesL bs).length : Int)) = false →
 (keptClasses = keptClasses ∧
 ([AV.sl 2 (List.map pbA (List.take 32 x.b)) (Own.tok 1)].all (AV.p0 3) = true ∧ [AV.int IntKind.i64 (↑x.p : Int)].all (AV.p0 3) = true) ∧
 ∃ (bs_1 : List UInt8), bytesL bs = bytesL bs_1 ∧ bs_1.length ≤ 1000000 ∧ 0 ≤ (↑x.p : Int) ∧ (↑x.p : Int) < (↑bs_1.length : Int)) ∧
 (((piece (List.drop (↑x.p : Int).toNat (bytesD (bytesL bs)))).fst == -1) = true →
 ∃ (y : X12),
 ValsAre
 [AV.sl 1 (bytesL bs) Own.no, AV.sl 3 (List.map tokA x.l) (Own.tok 0), AV.ptr 0 0, AV.int IntKind.i64 0, AV.ptr 1 0, AV.ptr 2 0,
 AV.int IntKind.i64 x.st, AV.fn 28 [AV.ptr 0 0, AV.ptr 2 0],
 AV.int IntKind.i64 (piece (List.drop (↑x.p : Int).toNat (bytesD (bytesL bs)))).snd.snd]
 [AV.sl 1 (bytesL bs) Own.no, AV.sl 3 (List.map tokA y.l) (Own.tok 0), AV.ptr 0 0, AV.int IntKind.i64 0, AV.ptr 1 0, AV.ptr 2 0,
 AV.int IntKind.i64 y.st, AV.fn 28 [AV.ptr 0 0, AV.ptr 2 0], AV.int IntKind.i64 y.code] ∧
 StIs
 { boxes := [some [AV.sl 2 (List.map pbA (List.take 32 x.b)) (Own.tok 1)], some keptClasses, some [AV.int IntKind.i64 (↑x.p : Int)]], live := [(x.l.length, 38), ((List.take 32 x.b).length, 40)] }
 { boxes := [some [AV.sl 2 (List.map pbA (List.take 32 y.b)) (Own.tok 1)], some keptClasses, some [AV.int IntKind.i64 (↑y.p : Int)]], live := [(y.l.length, 38), ((List.take 32 y.b).length, 40)] } ∧
 Inv12b bs y ∧ 2 * (bs.length - y.p) < 2 * (bs.length - x.p) + 1) ∧
 (((piece (List.drop (↑x.p : Int).toNat (bytesD (bytesL bs)))).fst == -1) = false →
 (((piece (List.drop (↑x.p : Int).toNat (bytesD (bytesL bs)))).snd.snd != 0) = true →
 ((List.take 32 x.b).length = (List.map pbA (List.take 32 x.b)).length ∧
 keptClasses = keptClasses ∧ (List.map pbA (List.take 32 x.b)).length ≤ 1000000) ∧
 ∃ (y : X12),
 ValsAre
 [AV.sl 1 (bytesL bs) Own.no, AV.sl 3 (List.map tokA x.l) (Own.tok 0), AV.ptr 0 0, AV.int IntKind.i64 0, AV.ptr 1 0, AV.ptr 2 0,
 AV.int IntKind.i64 x.st, AV.fn 28 [AV.ptr 0 0, AV.ptr 2 0]]
 [AV.sl 1 (bytesL bs) Own.no, AV.sl 3 (List.map tokA y.l) (Own.tok 0), AV.ptr 0 0, AV.int IntKind.i64 0, AV.ptr 1 0, AV.ptr 2 0,
 AV.int IntKind.i64 y.st, AV.fn 28 [AV.ptr 0 0, AV.ptr 2 0]] ∧
 StIs
 { boxes := [some [AV.sl 2 (if (List.map pbA (List.take 32 x.b)).length < 32 then List.map pbA (List.take 32 x.b) ++ [AV.agg [AV.int IntKind.i64 (↑x.p : Int), AV.int IntKind.i64 (piece (List.drop (↑x.p : Int).toNat (bytesD (bytesL bs)))).snd.snd]] else List.map pbA (List.take 32 x.b)) (Own.tok 1)], some keptClasses, some [AV.int IntKind.i64 ((↑x.p : Int) + (↑(piece (List.drop (↑x.p : Int).toNat (bytesD (bytesL bs)))).snd.fst : Int))]], live := [(x.l.length, 38), (if (List.map pbA (List.take 32 x.b)).length < 32 then (List.take 32 x.b).length + 1 else (List.take 32 x.b).length, 40)] }
 { boxes := [some [AV.sl 2 (List.map pbA (List.take 32 y.b)) (Own.tok 1)], some keptClasses, some [AV.int IntKind.i64 (↑y.p : Int)]], live := [(y.l.length, 38), ((List.take 32 y.b).length, 40)] } ∧
 Inv12 bs y ∧ 2 * (bs.length - y.p) + 1 < 2 * (bs.length - x.p) + 1) ∧
 (((piece (List.drop (↑x.p : Int).toNat (bytesD (bytesL bs)))).snd.snd != 0) = false →
 (((piece (List.drop (↑x.p : Int).toNat (bytesD (bytesL bs)))).fst == 4) = true →
 0 ≤ IntKind.i64.wrap ((↑x.p : Int) + 1) ∧
 0 ≤ IntKind.i64.wrap ((↑x.p : Int) + (↑(piece (List.drop (↑x.p : Int).toNat (bytesD (bytesL bs)))).snd.fst : Int) - 1) ∧
 ((IntKind.i64.wrap ((↑x.p : Int) + 1)).toNat ≤
 (IntKind.i64.wrap ((↑x.p : Int) + (↑(piece (List.drop (↑x.p : Int).toNat (bytesD (bytesL bs)))).snd.fst : Int) - 1)).toNat ∧
 (IntKind.i64.wrap ((↑x.p : Int) + (↑(piece (List.drop (↑x.p : Int).toNat (bytesD (bytesL bs)))).snd.fst : Int) - 1)).toNat ≤
 (bytesL bs).length) ∧
 (1 = 1 ∨ bytesL bs = []) ∧
 (1 = 1 ∨
 List.drop (IntKind.i64.wrap ((↑x.p : Int) + 1)).toNat
 (List.take
 (IntKind.i64.wrap
 ((↑x.p : Int) + (↑(piece (List.drop (↑x.p : Int).toNat (bytesD (bytesL bs)))).snd.fst : Int) - 1)).toNat
 (bytesL bs)) =
 []) ∧
 ∃ (l : List UInt8),
 List.mapM byteOf
 (List.drop (IntKind.i64.wrap ((↑x.p : Int) + 1)).toNat
 (List.take
 (IntKind.i64.wrap
 ((↑x.p : Int) + (↑(piece (List.drop (↑x.p : Int).toNat (bytesD (bytesL bs)))).snd.fst : Int) - 1)).toNat
 (bytesL bs))) =
 some l ∧
 (3 = 3 ∨ List.map tokA x.l = []) ∧
 ((List.map tokA x.l).length + 1) * 33 ≤ 70368744177664 ∧
 x.l.length = (List.map tokA x.l).length ∧
 ∃ (y : X12),
 ValsAre
 [AV.sl 1 (bytesL bs) Own.no,
 AV.sl 3
 (List.map tokA x.l ++
 [AV.agg
 [AV.int IntKind.i64 (piece (List.drop (↑x.p : Int).toNat (bytesD (bytesL bs)))).fst, AV.str l,
 AV.int IntKind.i64 (↑x.p : Int)]])
 (Own.tok 0),
 AV.ptr 0 0, AV.int IntKind.i64 0, AV.ptr 1 0, AV.ptr 2 0, AV.int IntKind.i64 x.st,
 AV.fn 28 [AV.ptr 0 0, AV.ptr 2 0]]
 [AV.sl 1 (bytesL bs) Own.no, AV.sl 3 (List.map tokA y.l) (Own.tok 0), AV.ptr 0 0, AV.int IntKind.i64 0,
 AV.ptr 1 0, AV.ptr 2 0, AV.int IntKind.i64 y.st, AV.fn 28 [AV.ptr 0 0, AV.ptr 2 0]] ∧
 StIs
 { boxes := [some [AV.sl 2 (List.map pbA (List.take 32 x.b)) (Own.tok 1)], some keptClasses, some [AV.int IntKind.i64 ((↑x.p : Int) + (↑(piece (List.drop (↑x.p : Int).toNat (bytesD (bytesL bs)))).snd.fst : Int))]], live := [((List.map tokA x.l).length + 1, 38), ((List.take 32 x.b).length, 40)] }
 { boxes := [some [AV.sl 2 (List.map pbA (List.take 32 y.b)) (Own.tok 1)], some keptClasses, some [AV.int IntKind.i64 (↑y.p : Int)]], live := [(y.l.length, 38), ((List.take 32 y.b).length, 40)] } ∧
 Inv12 bs y ∧ 2 * (bs.length - y.p) + 1 < 2 * (bs.length - x.p) + 1) ∧
 (((piece (List.drop (↑x.p : Int).toNat (bytesD (bytesL bs)))).fst == 4) = false →
 (((piece (List.drop (↑x.p : Int).toNat (bytesD (bytesL bs)))).fst != 0) = true →
 0 ≤ (↑x.p : Int) ∧
 0 ≤ (↑x.p : Int) + (↑(piece (List.drop (↑x.p : Int).toNat (bytesD (bytesL bs)))).snd.fst : Int) ∧
 ((↑x.p : Int).toNat ≤ ((↑x.p : Int) + (↑(piece (List.drop (↑x.p : Int).toNat (bytesD (bytesL bs)))).snd.fst : Int)).toNat ∧
 ((↑x.p : Int) + (↑(piece (List.drop (↑x.p : Int).toNat (bytesD (bytesL bs)))).snd.fst : Int)).toNat ≤
 (bytesL bs).length) ∧
 (1 = 1 ∨ bytesL bs = []) ∧
 (1 = 1 ∨
 List.drop (↑x.p : Int).toNat
 (List.take ((↑x.p : Int) + (↑(piece (List.drop (↑x.p : Int).toNat (bytesD (bytesL bs)))).snd.fst : Int)).toNat
 (bytesL bs)) =
 []) ∧
 ∃ (l : List UInt8),
 List.mapM byteOf
 (List.drop (↑x.p : Int).toNat
 (List.take ((↑x.p : Int) + (↑(piece (List.drop (↑x.p : Int).toNat (bytesD (bytesL bs)))).snd.fst : Int)).toNat
 (bytesL bs))) =
 some l ∧
 (3 = 3 ∨ List.map tokA x.l = []) ∧
 ((List.map tokA x.l).length + 1) * 33 ≤ 70368744177664 ∧
 x.l.length = (List.map tokA x.l).length ∧
 ∃ (y : X12),
 ValsAre
 [AV.sl 1 (bytesL bs) Own.no,
 AV.sl 3
 (List.map tokA x.l ++
 [AV.agg
 [AV.int IntKind.i64 (piece (List.drop (↑x.p : Int).toNat (bytesD (bytesL bs)))).fst, AV.str l,
 AV.int IntKind.i64 (↑x.p : Int)]])
 (Own.tok 0),
 AV.ptr 0 0, AV.int IntKind.i64 0, AV.ptr 1 0, AV.ptr 2 0, AV.int IntKind.i64 x.st,
 AV.fn 28 [AV.ptr 0 0, AV.ptr 2 0]]
 [AV.sl 1 (bytesL bs) Own.no, AV.sl 3 (List.map tokA y.l) (Own.tok 0), AV.ptr 0 0, AV.int IntKind.i64 0,
 AV.ptr 1 0, AV.ptr 2 0, AV.int IntKind.i64 y.st, AV.fn 28 [AV.ptr 0 0, AV.ptr 2 0]] ∧
 StIs
 { boxes := [some [AV.sl 2 (List.map pbA (List.take 32 x.b)) (Own.tok 1)], some keptClasses, some [AV.int IntKind.i64 ((↑x.p : Int) + (↑(piece (List.drop (↑x.p : Int).toNat (bytesD (bytesL bs)))).snd.fst : Int))]], live := [((List.map tokA x.l).length + 1, 38), ((List.take 32 x.b).length, 40)] }
 { boxes := [some [AV.sl 2 (List.map pbA (List.take 32 y.b)) (Own.tok 1)], some keptClasses, some [AV.int IntKind.i64 (↑y.p : Int)]], live := [(y.l.length, 38), ((List.take 32 y.b).length, 40)] } ∧
 Inv12 bs y ∧ 2 * (bs.length - y.p) + 1 < 2 * (bs.length - x.p) + 1) ∧
 (((piece (List.drop (↑x.p : Int).toNat (bytesD (bytesL bs)))).fst != 0) = false →
 ∃ (y : X12),
 ValsAre
 [AV.sl 1 (bytesL bs) Own.no, AV.sl 3 (List.map tokA x.l) (Own.tok 0), AV.ptr 0 0, AV.int IntKind.i64 0, AV.ptr 1 0,
 AV.ptr 2 0, AV.int IntKind.i64 x.st, AV.fn 28 [AV.ptr 0 0, AV.ptr 2 0]]
 [AV.sl 1 (bytesL bs) Own.no, AV.sl 3 (List.map tokA y.l) (Own.tok 0), AV.ptr 0 0, AV.int IntKind.i64 0, AV.ptr 1 0,
 AV.ptr 2 0, AV.int IntKind.i64 y.st, AV.fn 28 [AV.ptr 0 0, AV.ptr 2 0]] ∧
 StIs
 { boxes := [some [AV.sl 2 (List.map pbA (List.take 32 x.b)) (Own.tok 1)], some keptClasses, some [AV.int IntKind.i64 ((↑x.p : Int) + (↑(piece (List.drop (↑x.p : Int).toNat (bytesD (bytesL bs)))).snd.fst : Int))]], live := [(x.l.length, 38), ((List.take 32 x.b).length, 40)] }
 { boxes := [some [AV.sl 2 (List.map pbA (List.take 32 y.b)) (Own.tok 1)], some keptClasses, some [AV.int IntKind.i64 (↑y.p : Int)]], live := [(y.l.length, 38), ((List.take 32 y.b).length, 40)] } ∧
 Inv12 bs y ∧ 2 * (bs.length - y.p) + 1 < 2 * (bs.length - x.p) + 1)))))) ∧
    (∀ (x : X12),
        Inv12b bs x →
 ((x.st != IntKind.i64.wrap ((↑x.p : Int) - 1)) = true →
 ((List.take 32 x.b).length = (List.map pbA (List.take 32 x.b)).length ∧
 keptClasses = keptClasses ∧ (List.map pbA (List.take 32 x.b)).length ≤ 1000000) ∧
 ∃ (y : X12),
 ValsAre
 [AV.sl 1 (bytesL bs) Own.no, AV.sl 3 (List.map tokA x.l) (Own.tok 0), AV.ptr 0 0, AV.int IntKind.i64 0, AV.ptr 1 0, AV.ptr 2 0,
 AV.int IntKind.i64 (↑x.p : Int), AV.fn 28 [AV.ptr 0 0, AV.ptr 2 0]]
 [AV.sl 1 (bytesL bs) Own.no, AV.sl 3 (List.map tokA y.l) (Own.tok 0), AV.ptr 0 0, AV.int IntKind.i64 0, AV.ptr 1 0, AV.ptr 2 0,
 AV.int IntKind.i64 y.st, AV.fn 28 [AV.ptr 0 0, AV.ptr 2 0]] ∧
 StIs
 { boxes := [some [AV.sl 2 (if (List.map pbA (List.take 32 x.b)).length < 32 then List.map pbA (List.take 32 x.b) ++ [AV.agg [AV.int IntKind.i64 (↑x.p : Int), AV.int IntKind.i64 x.code]] else List.map pbA (List.take 32 x.b)) (Own.tok 1)], some keptClasses, some [AV.int IntKind.i64 (IntKind.i64.wrap ((↑x.p : Int) + 1))]], live := [(x.l.length, 38), (if (List.map pbA (List.take 32 x.b)).length < 32 then (List.take 32 x.b).length + 1 else (List.take 32 x.b).length, 40)] }
 { boxes := [some [AV.sl 2 (List.map pbA (List.take 32 y.b)) (Own.tok 1)], some keptClasses, some [AV.int IntKind.i64 (↑y.p : Int)]], live := [(y.l.length, 38), ((List.take 32 y.b).length, 40)] } ∧
 Inv12 bs y ∧ 2 * (bs.length - y.p) + 1 < 2 * (bs.length - x.p)) ∧
 ((x.st != IntKind.i64.wrap ((↑x.p : Int) - 1)) = false →
 (((↑x.p : Int) == 0) = true →
 ((List.take 32 x.b).length = (List.map pbA (List.take 32 x.b)).length ∧
 keptClasses = keptClasses ∧ (List.map pbA (List.take 32 x.b)).length ≤ 1000000) ∧
 ∃ (y : X12),
 ValsAre
 [AV.sl 1 (bytesL bs) Own.no, AV.sl 3 (List.map tokA x.l) (Own.tok 0), AV.ptr 0 0, AV.int IntKind.i64 0, AV.ptr 1 0, AV.ptr 2 0,
 AV.int IntKind.i64 (↑x.p : Int), AV.fn 28 [AV.ptr 0 0, AV.ptr 2 0]]
 [AV.sl 1 (bytesL bs) Own.no, AV.sl 3 (List.map tokA y.l) (Own.tok 0), AV.ptr 0 0, AV.int IntKind.i64 0, AV.ptr 1 0, AV.ptr 2 0,
 AV.int IntKind.i64 y.st, AV.fn 28 [AV.ptr 0 0, AV.ptr 2 0]] ∧
 StIs
 { boxes := [some [AV.sl 2 (if (List.map pbA (List.take 32 x.b)).length < 32 then List.map pbA (List.take 32 x.b) ++ [AV.agg [AV.int IntKind.i64 (↑x.p : Int), AV.int IntKind.i64 x.code]] else List.map pbA (List.take 32 x.b)) (Own.tok 1)], some keptClasses, some [AV.int IntKind.i64 (IntKind.i64.wrap ((↑x.p : Int) + 1))]], live := [(x.l.length, 38), (if (List.map pbA (List.take 32 x.b)).length < 32 then (List.take 32 x.b).length + 1 else (List.take 32 x.b).length, 40)] }
 { boxes := [some [AV.sl 2 (List.map pbA (List.take 32 y.b)) (Own.tok 1)], some keptClasses, some [AV.int IntKind.i64 (↑y.p : Int)]], live := [(y.l.length, 38), ((List.take 32 y.b).length, 40)] } ∧
 Inv12 bs y ∧ 2 * (bs.length - y.p) + 1 < 2 * (bs.length - x.p)) ∧
 (((↑x.p : Int) == 0) = false →
 ∃ (y : X12),
 ValsAre
 [AV.sl 1 (bytesL bs) Own.no, AV.sl 3 (List.map tokA x.l) (Own.tok 0), AV.ptr 0 0, AV.int IntKind.i64 0, AV.ptr 1 0, AV.ptr 2 0,
 AV.int IntKind.i64 (↑x.p : Int), AV.fn 28 [AV.ptr 0 0, AV.ptr 2 0]]
 [AV.sl 1 (bytesL bs) Own.no, AV.sl 3 (List.map tokA y.l) (Own.tok 0), AV.ptr 0 0, AV.int IntKind.i64 0, AV.ptr 1 0, AV.ptr 2 0,
 AV.int IntKind.i64 y.st, AV.fn 28 [AV.ptr 0 0, AV.ptr 2 0]] ∧
 StIs
 { boxes := [some [AV.sl 2 (List.map pbA (List.take 32 x.b)) (Own.tok 1)], some keptClasses, some [AV.int IntKind.i64 (IntKind.i64.wrap ((↑x.p : Int) + 1))]], live := [(x.l.length, 38), ((List.take 32 x.b).length, 40)] }
 { boxes := [some [AV.sl 2 (List.map pbA (List.take 32 y.b)) (Own.tok 1)], some keptClasses, some [AV.int IntKind.i64 (↑y.p : Int)]], live := [(y.l.length, 38), ((List.take 32 y.b).length, 40)] } ∧
 Inv12 bs y ∧ 2 * (bs.length - y.p) + 1 < 2 * (bs.length - x.p)))) ∧
      True) := by kernel_rfl
end Go.Abs

namespace Go.Abs
open Go.Proofs L8

theorem take32 {α : Type} (l : List α) (e : α) : (l ++ [e]).take 32 = if (l.take 32).length < 32 then l.take 32 ++ [e] else l.take 32 := by
  rw [List.length_take]
  by_cases h : l.length < 32
  · rw [if_pos (by omega), List.take_of_length_le (l := l) (by omega), List.take_of_length_le (by simp; omega)]
  · rw [if_neg (by omega), List.take_append_of_le_length (by omega)]
def nextX (bs : List UInt8) (x : X12) : X12 := ⟨x.l ++ tkOf (bs.drop x.p) x.p, x.b ++ pbOf (bs.drop x.p) x.p x.adj, x.p + (piece (bs.drop x.p)).2.1, false, x.st, 0⟩
def oddX (bs : List UInt8) (x : X12) : X12 := ⟨x.l, x.b ++ pbOf (bs.drop x.p) x.p x.adj, x.p + 1, true, x.p, 0⟩
theorem drop_ne {bs : List UInt8} {p : Nat} (h : p < bs.length) : bs.drop p ≠ [] := by
  intro e
  have := congrArg List.length e
  simp at this
  omega
theorem piece_pos' {l : List UInt8} (h : l ≠ []) : 1 ≤ (piece l).2.1 := by
  cases l with
  | nil => exact absurd rfl h
  | cons c t => exact piece_pos c t
theorem next_le {bs : List UInt8} {x : X12} (hp : x.p < bs.length) : x.p + (piece (bs.drop x.p)).2.1 ≤ bs.length ∧ 1 ≤ (piece (bs.drop x.p)).2.1 := by
  have h1 := piece_le (bs.drop x.p)
  have h2 := piece_pos' (drop_ne hp)
  rw [List.length_drop] at h1
  omega
theorem inv_next {bs : List UInt8} {x : X12} (h : Inv12 bs x) (hp : x.p < bs.length) (hk : (piece (bs.drop x.p)).1 ≠ -1) : Inv12 bs (nextX bs x) := by
  obtain ⟨h01, h02, h1, h2, h3, h4, h5⟩ := h
  obtain ⟨k1, k2⟩ := next_le hp
  have hs := scan_step (drop_ne hp) x.p x.adj
  have ha : adjOf (bs.drop x.p) = false := by simp [adjOf, hk]
  rw [List.drop_drop, ha] at hs
  refine ⟨h01, ?_, k1, ?_, ?_, ?_, ?_⟩
  · simp only [nextX, List.length_append]
    have : (tkOf (bs.drop x.p) x.p).length ≤ 1 := by unfold tkOf; split <;> simp
    omega
  · rw [← h2, hs]; simp only [nextX, List.append_assoc]
  · rw [← h3, hs]; simp only [nextX, List.append_assoc]
  · simp only [nextX]; constructor
    · intro h; cases h
    · rintro ⟨h, _⟩; omega
  · simp only [nextX]; omega
theorem piece_un {c : UInt8} {t : List UInt8} (h : (piece (c :: t)).1 = -1) : (piece (c :: t)).2.1 = 1 ∧ (piece (c :: t)).2.2 = 80 := by
  simp only [piece] at h ⊢
  repeat' split at h
  all_goals first
    | (exfalso; revert h; simp; done)
    | (simp_all; done)
    | (rename_i h1 h2 h3 h4 h5 h6 h7
       rw [if_neg h1, if_neg h2, if_neg h3, if_neg h4, if_neg h5, if_neg h6, if_neg h7]
       exact ⟨rfl, rfl⟩)
theorem tkOf_un {l : List UInt8} {a : Nat} (h : (piece l).1 = -1) : tkOf l a = [] := by simp [tkOf, h]
theorem inv_odd {bs : List UInt8} {x : X12} (h : Inv12 bs x) (hp : x.p < bs.length) (hk : (piece (bs.drop x.p)).1 = -1) : Inv12 bs (oddX bs x) := by
  obtain ⟨h01, h02, h1, h2, h3, h4, h5⟩ := h
  obtain ⟨k1, k2⟩ := next_le hp
  have hs := scan_step (drop_ne hp) x.p x.adj
  have ha : adjOf (bs.drop x.p) = true := by simp [adjOf, hk]
  have hone : (piece (bs.drop x.p)).2.1 = 1 := by
    cases hd : bs.drop x.p with
    | nil => exact absurd hd (drop_ne hp)
    | cons c t => rw [hd] at hk; exact (piece_un hk).1
  rw [List.drop_drop, ha, hone, tkOf_un hk] at hs
  refine ⟨h01, by simp only [oddX]; omega, by simp only [oddX]; omega, ?_, ?_, ?_, ?_⟩
  · rw [← h2, hs]; simp only [oddX, List.nil_append]
  · rw [← h3, hs]; simp only [oddX, List.append_assoc]
  · simp [oddX]
  · simp only [oddX]; omega
theorem byteOf_mk (c : UInt8) : byteOf (.int .u8 c.toNat) = some c := by
  have h := c.toNat_lt
  simp [byteOf]
theorem mapByte : ∀ (l : List UInt8), (bytesL l).mapM byteOf = some l
  | [] => rfl
  | c :: l => by
    have ih := mapByte l
    simp only [bytesL, List.map_cons] at ih ⊢
    rw [List.mapM_cons, byteOf_mk, ih]
    rfl
theorem drop_take_bytes (bs : List UInt8) (i j : Nat) : ((bytesL bs).take j).drop i = bytesL ((bs.take j).drop i) := by
  simp [bytesL, List.map_take, List.map_drop]
theorem txt4 {bs : List UInt8} {p : Nat} (h : (piece (bs.drop p)).1 = 4) : (bs.take (p + (piece (bs.drop p)).2.1 - 1)).drop (p + 1) = txtOf (bs.drop p) := by
  rw [txtOf, if_pos h, List.drop_take]
  rw [show p + (piece (bs.drop p)).2.1 - 1 - (p + 1) = (piece (bs.drop p)).2.1 - 2 by omega]
  generalize (piece (bs.drop p)).2.1 = n
  rw [List.drop_take, List.drop_drop, List.take_take]
  congr 1
  omega
theorem txtn {bs : List UInt8} {p : Nat} (h : (piece (bs.drop p)).1 ≠ 4) : (bs.take (p + (piece (bs.drop p)).2.1)).drop p = txtOf (bs.drop p) := by
  rw [txtOf, if_neg h, List.drop_take]
  congr 1
  omega
theorem piece_four {l : List UInt8} (h : (piece l).1 = 4) : 2 ≤ (piece l).2.1 := by
  cases l with
  | nil => simp [piece] at h
  | cons c t =>
    simp only [piece] at h ⊢
    repeat' split at h
    all_goals first | (exfalso; revert h; simp; done) | (simp_all; done)
theorem pieceK (l : List UInt8) (h : (piece l).1 = 0) : tkOf l 0 = [] := by simp [tkOf, h]

def r12 (bs : List UInt8) : AV × List (Nat × TypeId) := (if bs.length ≤ 16384 then .tup [tkA (toksL bs) .no, badA (probsL bs) .no, .int .i64 0] else .tup [.sl 3 [] .no, .sl 2 [] .no, .int .i64 2], [])
theorem p12 (m : Int) (bs : List UInt8) : LaxOk PP (G8 m) XL (tbl t12) (itbl [(28, s28), (29, s29)]) (a12 bs) [] 12 [bytesA bs] (r12 bs) := by
  constructor
  unfold r12
  rw [w12]
  simp only [bytesD_mk, Int.toNat_natCast, List.length_map, valsAre_iff, stIs_iff, retLax_iff, decide_eq_true_eq, decide_eq_false_iff_not, gt_iff_lt, true_or, true_and, and_true, List.cons.injEq, AV.sl.injEq, AV.int.injEq, Option.some.injEq, Prod.mk.injEq, St.mk.injEq, beq_iff_eq, bne_iff_ne, beq_eq_false_iff_ne, bne_eq_false_iff_eq, ne_eq]
  have lx : ∀ {A B C D}, A = C → B = D → Lax2 (AV.tup [AV.sl 3 A (.tok 0), AV.sl 2 B (.tok 1), AV.int .i64 0]) (AV.tup [AV.sl 3 C .no, AV.sl 2 D .no, AV.int .i64 0]) := fun h1 h2 => by
    subst h1; subst h2
    simp [Lax2, all2, Lax1, Lax0]
  refine ⟨⟨fun h => ?_, fun h => ⟨⟨rfl⟩, ⟨[], [], 0, false, -1, 0⟩, ⟨rfl, rfl⟩, ⟨⟨rfl, rfl⟩, rfl, rfl⟩, ?_⟩⟩, fun x hx => ⟨fun h => ?_, fun h => ⟨⟨⟨rfl, rfl⟩, bs, rfl, ?_, ?_, ?_⟩, fun hk => ?_, fun hk => ⟨fun he => ?_, fun he => ⟨fun h4 => ?_, fun h4 => ⟨fun h0 => ?_, fun h0 => ?_⟩⟩⟩⟩⟩, fun x hx => ?_⟩
  · rw [if_neg (by omega)]
    exact ⟨by simp [Lax2, all2, Lax1, Lax0], rfl⟩
  · refine ⟨by omega, Nat.le_refl _, Nat.zero_le _, rfl, rfl, by simp, by simp⟩
  · obtain ⟨h01, h02, h1, h2, h3, h4, h5⟩ := hx
    have hp : x.p = bs.length := by omega
    rw [if_pos h01]
    have hd : bs.drop x.p = [] := by rw [hp]; simp
    rw [hd, scan_nil] at h2 h3
    simp only [List.append_nil] at h2 h3
    refine ⟨by omega, lx ?_ ?_, rfl⟩
    · simp only [toksL, List.map_append, List.map_cons, List.map_nil, ← h2, ← hp]; rfl
    · simp only [probsL, ← h3]
  · have := hx.small; omega
  · omega
  · have := hx.p; omega
  · have hp : x.p < bs.length := by have := hx.p; omega
    have hu : (piece (bs.drop x.p)).2.2 = 80 := by
      cases hd : bs.drop x.p with
      | nil => exact absurd hd (drop_ne hp)
      | cons c t => rw [hd] at hk; exact (piece_un hk).2
    exact ⟨{ x with code := 80 }, ⟨rfl, rfl, hu⟩, ⟨⟨rfl, rfl⟩, rfl, rfl⟩, ⟨⟨hx.small, hx.len, hx.p, hx.l, hx.b, hx.st, hx.lt⟩, hp, hk, rfl⟩, by simp only; omega⟩
  · have hp : x.p < bs.length := by have := hx.p; omega
    have hn := next_le hp
    have hpb : pbOf (bs.drop x.p) x.p x.adj = [⟨x.p, (piece (bs.drop x.p)).2.2⟩] := by simp only [pbOf, if_neg hk, if_neg he]
    have htk : tkOf (bs.drop x.p) x.p = [] := by simp [tkOf, he]
    refine ⟨by simp; omega, nextX bs x, ⟨by simp only [nextX, htk, List.append_nil], rfl⟩, ⟨⟨?_, by simp only [nextX]; omega⟩, by simp only [nextX, htk, List.append_nil], ?_⟩, inv_next hx hp hk, by simp only [nextX]; omega⟩
    · simp only [nextX, hpb, take32]
      split
      · simp only [List.map_append, List.map_cons, List.map_nil]; rfl
      · rfl
    · simp only [nextX, hpb, take32]
      split <;> simp
  · have hp : x.p < bs.length := by have := hx.p; omega
    have hn := next_le hp
    have h2 := piece_four h4
    have hpb : pbOf (bs.drop x.p) x.p x.adj = [] := by simp only [pbOf, if_neg hk, if_pos he]
    have htk : tkOf (bs.drop x.p) x.p = [⟨(piece (bs.drop x.p)).1, txtOf (bs.drop x.p), x.p⟩] := by simp only [tkOf]; rw [if_pos ⟨hk, he, by omega⟩]
    have hsm := hx.small
    have hln := hx.len
    rw [wrap64_in (n := (x.p : Int) + 1) (by omega) (by omega), wrap64_in (n := (x.p : Int) + (piece (bs.drop x.p)).2.1 - 1) (by omega) (by omega)]
    rw [show ((x.p : Int) + 1).toNat = x.p + 1 by omega, show ((x.p : Int) + (piece (bs.drop x.p)).2.1 - 1).toNat = x.p + (piece (bs.drop x.p)).2.1 - 1 by omega, drop_take_bytes, txt4 h4, mapByte]
    refine ⟨by omega, by omega, by omega, _, rfl, by omega, nextX bs x, ⟨?_, rfl⟩, ⟨⟨by simp only [nextX, hpb, List.append_nil], by simp only [nextX]; omega⟩, by simp only [nextX, htk, List.length_append]; rfl, by simp only [nextX, hpb, List.append_nil]⟩, inv_next hx hp hk, by simp only [nextX]; omega⟩
    simp only [nextX, htk, List.map_append, List.map_cons, List.map_nil]
    rfl
  · have hp : x.p < bs.length := by have := hx.p; omega
    have hn := next_le hp
    have hpb : pbOf (bs.drop x.p) x.p x.adj = [] := by simp only [pbOf, if_neg hk, if_pos he]
    have htk : tkOf (bs.drop x.p) x.p = [⟨(piece (bs.drop x.p)).1, txtOf (bs.drop x.p), x.p⟩] := by simp only [tkOf]; rw [if_pos ⟨hk, he, h0⟩]
    have hsm := hx.small
    have hln := hx.len
    rw [show ((x.p : Int) + (piece (bs.drop x.p)).2.1).toNat = x.p + (piece (bs.drop x.p)).2.1 by omega, drop_take_bytes, txtn h4, mapByte]
    refine ⟨by omega, by omega, by omega, _, rfl, by omega, nextX bs x, ⟨?_, rfl⟩, ⟨⟨by simp only [nextX, hpb, List.append_nil], by simp only [nextX]; omega⟩, by simp only [nextX, htk, List.length_append]; rfl, by simp only [nextX, hpb, List.append_nil]⟩, inv_next hx hp hk, by simp only [nextX]; omega⟩
    simp only [nextX, htk, List.map_append, List.map_cons, List.map_nil]
    rfl
  · have hp : x.p < bs.length := by have := hx.p; omega
    have hn := next_le hp
    have hpb : pbOf (bs.drop x.p) x.p x.adj = [] := by simp only [pbOf, if_neg hk, if_pos he]
    have htk : tkOf (bs.drop x.p) x.p = [] := by simp [tkOf, h0]
    exact ⟨nextX bs x, ⟨by simp only [nextX, htk, List.append_nil], rfl⟩, ⟨⟨by simp only [nextX, hpb, List.append_nil], by simp only [nextX]; omega⟩, by simp only [nextX, htk, List.append_nil], by simp only [nextX, hpb, List.append_nil]⟩, inv_next hx hp hk, by simp only [nextX]; omega⟩
  · obtain ⟨hi, hp, hun, hcode⟩ := hx
    have hsm := hi.small
    have hst := hi.st
    rw [wrap64_in (n := (x.p : Int) - 1) (by omega) (by omega), wrap64_in (n := (x.p : Int) + 1) (by omega) (by omega)]
    have rep : x.adj = false → ((if (List.take 32 x.b).length < 32 then List.map pbA (List.take 32 x.b) ++ [AV.agg [AV.int .i64 x.p, AV.int .i64 x.code]] else List.map pbA (List.take 32 x.b)) = List.map pbA (List.take 32 (oddX bs x).b) ∧ (if (List.take 32 x.b).length < 32 then (List.take 32 x.b).length + 1 else (List.take 32 x.b).length) = (List.take 32 (oddX bs x).b).length) := fun ha => by
      have hpb : pbOf (bs.drop x.p) x.p x.adj = [⟨x.p, 80⟩] := by simp only [pbOf, if_pos hun, ha]; rfl
      simp only [oddX, hpb, take32, hcode]
      constructor
      · split
        · simp only [List.map_append, List.map_cons, List.map_nil]; rfl
        · rfl
      · split <;> simp
    refine ⟨fun h => ?_, fun h => ⟨fun h0 => ?_, fun h0 => ?_⟩⟩
    · have ha : x.adj = false := by
        cases ha : x.adj with
        | false => rfl
        | true => exact absurd (hst.1 ha).1 (by omega)
      exact ⟨by simp; omega, oddX bs x, ⟨rfl, rfl⟩, ⟨⟨(rep ha).1, by simp only [oddX]; omega⟩, rfl, (rep ha).2⟩, inv_odd hi hp hun, by simp only [oddX]; omega⟩
    · have ha : x.adj = false := by
        cases ha : x.adj with
        | false => rfl
        | true => exact absurd (hst.1 ha).2 (by omega)
      exact ⟨by simp; omega, oddX bs x, ⟨rfl, rfl⟩, ⟨⟨(rep ha).1, by simp only [oddX]; omega⟩, rfl, (rep ha).2⟩, inv_odd hi hp hun, by simp only [oddX]; omega⟩
    · have ha : x.adj = true := hst.2 ⟨by omega, by omega⟩
      have hpb : pbOf (bs.drop x.p) x.p x.adj = [] := by simp only [pbOf, if_pos hun, ha]; rfl
      exact ⟨oddX bs x, ⟨rfl, rfl⟩, ⟨⟨by simp only [oddX, hpb, List.append_nil], by simp only [oddX]; omega⟩, rfl, by simp only [oddX, hpb, List.append_nil]⟩, inv_odd hi hp hun, by simp only [oddX]; omega⟩
end Go.Abs

namespace Go.Abs
open Go.Proofs L8
theorem w29 (m n : Int) (bs : List UInt8) (b0 b2 : List AV) (p q : Nat × TypeId) : (openW PP (G8 m) XL (tbl t29) (itbl [(37, s37)]) nAn [] 29 [.sl 1 (bytesL bs) .no, .int .i64 n, .ptr 1 0] (S29 b0 b2 p q) (.tup [.int .i64 (piece (bs.drop n.toNat)).1, .int .i64 (n + (piece (bs.drop n.toNat)).2.1), .int .i64 (piece (bs.drop n.toNat)).2.2], S29 b0 b2 p q)) =
((0 ≤ n ∧ n < (↑(bytesL bs).length : Int)) ∧
  ∃ (n_1 : Int),
    takeAt PP 5 (bytesL bs) n.toNat 0 = some (AV.int IntKind.u8 n_1) ∧
      (0 ≤ n_1 ∧ n_1 < 256) ∧
        ∃ (n_2 : Int),
 takeA (some false) (some 1) keptClasses (0 + n_1.toNat * 1) = some (AV.int IntKind.u8 n_2) ∧
 ((n_2 == 1) = true →
 RetOpen
 (AV.p2 3 (AV.tup [AV.int IntKind.i64 0, AV.int IntKind.i64 (IntKind.i64.wrap (n + 1)), AV.int IntKind.i64 0]) &&
 boxesOk 3 [some b0, some keptClasses, some b2])
 (AV.tup [AV.int IntKind.i64 0, AV.int IntKind.i64 (IntKind.i64.wrap (n + 1)), AV.int IntKind.i64 0])
 { boxes := [some b0, some keptClasses, some b2], live := [p, q] }
 (AV.tup
 [AV.int IntKind.i64 (piece (List.drop n.toNat bs)).fst, AV.int IntKind.i64 (n + (↑(piece (List.drop n.toNat bs)).snd.fst : Int)),
 AV.int IntKind.i64 (piece (List.drop n.toNat bs)).snd.snd],
 { boxes := [some b0, some keptClasses, some b2], live := [p, q] })) ∧
 ((n_2 == 1) = false →
 ((n_2 == 6) = true →
 0 ≤ n ∧
 (n.toNat ≤ (bytesL bs).length ∧ (bytesL bs).length ≤ (bytesL bs).length) ∧
 (1 = 1 ∨ bytesL bs = []) ∧
 ∃ (n_3 : Int),
 CallIs
 (tbl [(38, s38), (39, s39), (40, s40), (41, s41), (42, s42)] 38
 [AV.sl 1 (List.drop n.toNat (List.take (bytesL bs).length (bytesL bs))) Own.no, AV.int IntKind.u8 10])
 (AV.int IntKind.i64 n_3) [] ∧
 (decide (n_3 ≥ 0) = true →
 RetOpen
 (AV.p2 3 (AV.tup [AV.int IntKind.i64 0, AV.int IntKind.i64 (IntKind.i64.wrap (n + n_3)), AV.int IntKind.i64 0]) &&
 boxesOk 3 [some b0, some keptClasses, some b2])
 (AV.tup [AV.int IntKind.i64 0, AV.int IntKind.i64 (IntKind.i64.wrap (n + n_3)), AV.int IntKind.i64 0])
 { boxes := [some b0, some keptClasses, some b2], live := [p, q] }
 (AV.tup
 [AV.int IntKind.i64 (piece (List.drop n.toNat bs)).fst,
 AV.int IntKind.i64 (n + (↑(piece (List.drop n.toNat bs)).snd.fst : Int)),
 AV.int IntKind.i64 (piece (List.drop n.toNat bs)).snd.snd],
 { boxes := [some b0, some keptClasses, some b2], live := [p, q] })) ∧
 (decide (n_3 ≥ 0) = false →
 RetOpen
 (AV.p2 3 (AV.tup [AV.int IntKind.i64 0, AV.int IntKind.i64 (↑(bytesL bs).length : Int), AV.int IntKind.i64 0]) &&
 boxesOk 3 [some b0, some keptClasses, some b2])
 (AV.tup [AV.int IntKind.i64 0, AV.int IntKind.i64 (↑(bytesL bs).length : Int), AV.int IntKind.i64 0])
 { boxes := [some b0, some keptClasses, some b2], live := [p, q] }
 (AV.tup
 [AV.int IntKind.i64 (piece (List.drop n.toNat bs)).fst,
 AV.int IntKind.i64 (n + (↑(piece (List.drop n.toNat bs)).snd.fst : Int)),
 AV.int IntKind.i64 (piece (List.drop n.toNat bs)).snd.snd],
 { boxes := [some b0, some keptClasses, some b2], live := [p, q] }))) ∧
 ((n_2 == 6) = false →
 ((n_2 == 2) = true →
 (keptClasses = keptClasses ∧
 (b0.all (AV.p0 5) = true ∧ b2.all (AV.p0 5) = true) ∧
 (∃ (bs_1 : List UInt8), bytesL bs = bytesL bs_1 ∧ bs_1.length ≤ 1000000 ∧ 0 ≤ n ∧ n ≤ (↑bs_1.length : Int)) ∧
 ∃ (qs : List UInt8), [AV.int IntKind.u8 2, AV.int IntKind.u8 3, AV.int IntKind.u8 4] = bytesL qs ∧ qs ≠ []) ∧
 (decide
 (IntKind.i64.wrap
 (n +
 (↑(runL [AV.int IntKind.u8 2, AV.int IntKind.u8 3, AV.int IntKind.u8 4] (List.drop n.toNat (bytesD (bytesL bs)))) :
 Int) -
 n) >
 24) =
 true →
 RetOpen
 (AV.p2 3
 (AV.tup
 [AV.int IntKind.i64 1,
 AV.int IntKind.i64
 (n +
 (↑(runL [AV.int IntKind.u8 2, AV.int IntKind.u8 3, AV.int IntKind.u8 4] (List.drop n.toNat (bytesD (bytesL bs)))) :
 Int)),
 AV.int IntKind.i64 2]) &&
 boxesOk 3 [some b0, some keptClasses, some b2])
 (AV.tup
 [AV.int IntKind.i64 1,
 AV.int IntKind.i64
 (n +
 (↑(runL [AV.int IntKind.u8 2, AV.int IntKind.u8 3, AV.int IntKind.u8 4] (List.drop n.toNat (bytesD (bytesL bs)))) :
 Int)),
 AV.int IntKind.i64 2])
 { boxes := [some b0, some keptClasses, some b2], live := [p, q] }
 (AV.tup
 [AV.int IntKind.i64 (piece (List.drop n.toNat bs)).fst,
 AV.int IntKind.i64 (n + (↑(piece (List.drop n.toNat bs)).snd.fst : Int)),
 AV.int IntKind.i64 (piece (List.drop n.toNat bs)).snd.snd],
 { boxes := [some b0, some keptClasses, some b2], live := [p, q] })) ∧
 (decide
 (IntKind.i64.wrap
 (n +
 (↑(runL [AV.int IntKind.u8 2, AV.int IntKind.u8 3, AV.int IntKind.u8 4] (List.drop n.toNat (bytesD (bytesL bs)))) :
 Int) -
 n) >
 24) =
 false →
 RetOpen
 (AV.p2 3
 (AV.tup
 [AV.int IntKind.i64 1,
 AV.int IntKind.i64
 (n +
 (↑(runL [AV.int IntKind.u8 2, AV.int IntKind.u8 3, AV.int IntKind.u8 4] (List.drop n.toNat (bytesD (bytesL bs)))) :
 Int)),
 AV.int IntKind.i64 0]) &&
 boxesOk 3 [some b0, some keptClasses, some b2])
 (AV.tup
 [AV.int IntKind.i64 1,
 AV.int IntKind.i64
 (n +
 (↑(runL [AV.int IntKind.u8 2, AV.int IntKind.u8 3, AV.int IntKind.u8 4] (List.drop n.toNat (bytesD (bytesL bs)))) :
 Int)),
 AV.int IntKind.i64 0])
 { boxes := [some b0, some keptClasses, some b2], live := [p, q] }
 (AV.tup
 [AV.int IntKind.i64 (piece (List.drop n.toNat bs)).fst,
 AV.int IntKind.i64 (n + (↑(piece (List.drop n.toNat bs)).snd.fst : Int)),
 AV.int IntKind.i64 (piece (List.drop n.toNat bs)).snd.snd],
 { boxes := [some b0, some keptClasses, some b2], live := [p, q] }))) ∧
 ((n_2 == 2) = false →
 ((n_2 == 3) = true →
 (keptClasses = keptClasses ∧
 (b0.all (AV.p0 5) = true ∧ b2.all (AV.p0 5) = true) ∧
 (∃ (bs_1 : List UInt8), bytesL bs = bytesL bs_1 ∧ bs_1.length ≤ 1000000 ∧ 0 ≤ n ∧ n ≤ (↑bs_1.length : Int)) ∧
 ∃ (qs : List UInt8), [AV.int IntKind.u8 3] = bytesL qs ∧ qs ≠ []) ∧
 (decide (n + (↑(runL [AV.int IntKind.u8 3] (List.drop n.toNat (bytesD (bytesL bs)))) : Int) < (↑(bytesL bs).length : Int)) =
 true →
 (0 ≤ n + (↑(runL [AV.int IntKind.u8 3] (List.drop n.toNat (bytesD (bytesL bs)))) : Int) ∧
 n + (↑(runL [AV.int IntKind.u8 3] (List.drop n.toNat (bytesD (bytesL bs)))) : Int) < (↑(bytesL bs).length : Int)) ∧
 ∃ (n_3 : Int),
 takeAt PP 5 (bytesL bs) (n + (↑(runL [AV.int IntKind.u8 3] (List.drop n.toNat (bytesD (bytesL bs)))) : Int)).toNat 0 =
 some (AV.int IntKind.u8 n_3) ∧
 ((n_3 == 46) = true →
 (keptClasses = keptClasses ∧
 (b0.all (AV.p0 5) = true ∧ b2.all (AV.p0 5) = true) ∧
 (∃ (bs_1 : List UInt8),
 bytesL bs = bytesL bs_1 ∧
 bs_1.length ≤ 1000000 ∧
 0 ≤
 IntKind.i64.wrap
 (n + (↑(runL [AV.int IntKind.u8 3] (List.drop n.toNat (bytesD (bytesL bs)))) : Int) + 1) ∧
 IntKind.i64.wrap
 (n + (↑(runL [AV.int IntKind.u8 3] (List.drop n.toNat (bytesD (bytesL bs)))) : Int) + 1) ≤
 (↑bs_1.length : Int)) ∧
 ∃ (qs : List UInt8), [AV.int IntKind.u8 3] = bytesL qs ∧ qs ≠ []) ∧
 (decide
 (IntKind.i64.wrap
 (n + (↑(runL [AV.int IntKind.u8 3] (List.drop n.toNat (bytesD (bytesL bs)))) : Int) + 1) +
 (↑(runL [AV.int IntKind.u8 3]
 (List.drop
 (IntKind.i64.wrap
 (n + (↑(runL [AV.int IntKind.u8 3] (List.drop n.toNat (bytesD (bytesL bs)))) : Int) +
 1)).toNat
 (bytesD (bytesL bs)))) :
 Int) >
 IntKind.i64.wrap
 (n + (↑(runL [AV.int IntKind.u8 3] (List.drop n.toNat (bytesD (bytesL bs)))) : Int) + 1)) =
 true →
 (keptClasses = keptClasses ∧
 (b0.all (AV.p0 5) = true ∧ b2.all (AV.p0 5) = true) ∧
 (∃ (bs_1 : List UInt8),
 bytesL bs = bytesL bs_1 ∧
 bs_1.length ≤ 1000000 ∧
 0 ≤
 IntKind.i64.wrap
 (n + (↑(runL [AV.int IntKind.u8 3] (List.drop n.toNat (bytesD (bytesL bs)))) : Int) + 1) ∧
 IntKind.i64.wrap
 (n + (↑(runL [AV.int IntKind.u8 3] (List.drop n.toNat (bytesD (bytesL bs)))) : Int) + 1) ≤
 (↑bs_1.length : Int)) ∧
 ∃ (qs : List UInt8), [AV.int IntKind.u8 3] = bytesL qs ∧ qs ≠ []) ∧
 0 ≤ n ∧
 0 ≤
 IntKind.i64.wrap
 (n + (↑(runL [AV.int IntKind.u8 3] (List.drop n.toNat (bytesD (bytesL bs)))) : Int) + 1) +
 (↑(runL [AV.int IntKind.u8 3]
 (List.drop
 (IntKind.i64.wrap
 (n + (↑(runL [AV.int IntKind.u8 3] (List.drop n.toNat (bytesD (bytesL bs)))) : Int) +
 1)).toNat
 (bytesD (bytesL bs)))) :
 Int) ∧
 (n.toNat ≤
 (IntKind.i64.wrap
 (n + (↑(runL [AV.int IntKind.u8 3] (List.drop n.toNat (bytesD (bytesL bs)))) : Int) + 1) +
 (↑(runL [AV.int IntKind.u8 3]
 (List.drop
 (IntKind.i64.wrap
 (n +
 (↑(runL [AV.int IntKind.u8 3] (List.drop n.toNat (bytesD (bytesL bs)))) :
 Int) +
 1)).toNat
 (bytesD (bytesL bs)))) :
 Int)).toNat ∧
 (IntKind.i64.wrap
 (n + (↑(runL [AV.int IntKind.u8 3] (List.drop n.toNat (bytesD (bytesL bs)))) : Int) + 1) +
 (↑(runL [AV.int IntKind.u8 3]
 (List.drop
 (IntKind.i64.wrap
 (n +
 (↑(runL [AV.int IntKind.u8 3] (List.drop n.toNat (bytesD (bytesL bs)))) :
 Int) +
 1)).toNat
 (bytesD (bytesL bs)))) :
 Int)).toNat ≤
 (bytesL bs).length) ∧
 (1 = 1 ∨ bytesL bs = []) ∧
 (1 = 1 ∨
 List.drop n.toNat
 (List.take
 (IntKind.i64.wrap
 (n +
 (↑(runL [AV.int IntKind.u8 3] (List.drop n.toNat (bytesD (bytesL bs)))) : Int) +
 1) +
 (↑(runL [AV.int IntKind.u8 3]
 (List.drop
 (IntKind.i64.wrap
 (n +
 (↑(runL [AV.int IntKind.u8 3]
 (List.drop n.toNat (bytesD (bytesL bs)))) :
 Int) +
 1)).toNat
 (bytesD (bytesL bs)))) :
 Int)).toNat
 (bytesL bs)) =
 []) ∧
 ∃ (l : List UInt8),
 List.mapM byteOf
 (List.drop n.toNat
 (List.take
 (IntKind.i64.wrap
 (n +
 (↑(runL [AV.int IntKind.u8 3] (List.drop n.toNat (bytesD (bytesL bs)))) :
 Int) +
 1) +
 (↑(runL [AV.int IntKind.u8 3]
 (List.drop
 (IntKind.i64.wrap
 (n +
 (↑(runL [AV.int IntKind.u8 3]
 (List.drop n.toNat (bytesD (bytesL bs)))) :
 Int) +
 1)).toNat
 (bytesD (bytesL bs)))) :
 Int)).toNat
 (bytesL bs))) =
 some l ∧
 ∃ (n_4 : Int),
 CallIs
 (tbl [(38, s38), (39, s39), (40, s40), (41, s41), (42, s42)] 39
 [AV.int IntKind.i64 3, AV.str l])
 (AV.int IntKind.i64 n_4) [] ∧
 RetOpen
 (AV.p2 3
 (AV.tup
 [AV.int IntKind.i64 3,
 AV.int IntKind.i64
 (IntKind.i64.wrap
 (n +
 (↑(runL [AV.int IntKind.u8 3]
 (List.drop n.toNat (bytesD (bytesL bs)))) :
 Int) +
 1) +
 (↑(runL [AV.int IntKind.u8 3]
 (List.drop
 (IntKind.i64.wrap
 (n +
 (↑(runL [AV.int IntKind.u8 3]
 (List.drop n.toNat (bytesD (bytesL bs)))) :
 Int) +
 1)).toNat
 (bytesD (bytesL bs)))) :
 Int)),
 AV.int IntKind.i64 n_4]) &&
 boxesOk 3 [some b0, some keptClasses, some b2])
 (AV.tup
 [AV.int IntKind.i64 3,
 AV.int IntKind.i64
 (IntKind.i64.wrap
 (n +
 (↑(runL [AV.int IntKind.u8 3] (List.drop n.toNat (bytesD (bytesL bs)))) :
 Int) +
 1) +
 (↑(runL [AV.int IntKind.u8 3]
 (List.drop
 (IntKind.i64.wrap
 (n +
 (↑(runL [AV.int IntKind.u8 3]
 (List.drop n.toNat (bytesD (bytesL bs)))) :
 Int) +
 1)).toNat
 (bytesD (bytesL bs)))) :
 Int)),
 AV.int IntKind.i64 n_4])
 { boxes := [some b0, some keptClasses, some b2], live := [p, q] }
 (AV.tup
 [AV.int IntKind.i64 (piece (List.drop n.toNat bs)).fst,
 AV.int IntKind.i64 (n + (↑(piece (List.drop n.toNat bs)).snd.fst : Int)),
 AV.int IntKind.i64 (piece (List.drop n.toNat bs)).snd.snd],
 { boxes := [some b0, some keptClasses, some b2], live := [p, q] })) ∧
 (decide
 (IntKind.i64.wrap
 (n + (↑(runL [AV.int IntKind.u8 3] (List.drop n.toNat (bytesD (bytesL bs)))) : Int) + 1) +
 (↑(runL [AV.int IntKind.u8 3]
 (List.drop
 (IntKind.i64.wrap
 (n + (↑(runL [AV.int IntKind.u8 3] (List.drop n.toNat (bytesD (bytesL bs)))) : Int) +
 1)).toNat
 (bytesD (bytesL bs)))) :
 Int) >
 IntKind.i64.wrap
 (n + (↑(runL [AV.int IntKind.u8 3] (List.drop n.toNat (bytesD (bytesL bs)))) : Int) + 1)) =
 false →
 0 ≤ n ∧
 0 ≤ n + (↑(runL [AV.int IntKind.u8 3] (List.drop n.toNat (bytesD (bytesL bs)))) : Int) ∧
 (n.toNat ≤ (n + (↑(runL [AV.int IntKind.u8 3] (List.drop n.toNat (bytesD (bytesL bs)))) : Int)).toNat ∧
 (n + (↑(runL [AV.int IntKind.u8 3] (List.drop n.toNat (bytesD (bytesL bs)))) : Int)).toNat ≤
 (bytesL bs).length) ∧
 (1 = 1 ∨ bytesL bs = []) ∧
 (1 = 1 ∨
 List.drop n.toNat
 (List.take
 (n + (↑(runL [AV.int IntKind.u8 3] (List.drop n.toNat (bytesD (bytesL bs)))) : Int)).toNat
 (bytesL bs)) =
 []) ∧
 ∃ (l : List UInt8),
 List.mapM byteOf
 (List.drop n.toNat
 (List.take
 (n +
 (↑(runL [AV.int IntKind.u8 3] (List.drop n.toNat (bytesD (bytesL bs)))) :
 Int)).toNat
 (bytesL bs))) =
 some l ∧
 ∃ (n_4 : Int),
 CallIs
 (tbl [(38, s38), (39, s39), (40, s40), (41, s41), (42, s42)] 39
 [AV.int IntKind.i64 2, AV.str l])
 (AV.int IntKind.i64 n_4) [] ∧
 RetOpen
 (AV.p2 3
 (AV.tup
 [AV.int IntKind.i64 2,
 AV.int IntKind.i64
 (n +
 (↑(runL [AV.int IntKind.u8 3] (List.drop n.toNat (bytesD (bytesL bs)))) :
 Int)),
 AV.int IntKind.i64 n_4]) &&
 boxesOk 3 [some b0, some keptClasses, some b2])
 (AV.tup
 [AV.int IntKind.i64 2,
 AV.int IntKind.i64
 (n +
 (↑(runL [AV.int IntKind.u8 3] (List.drop n.toNat (bytesD (bytesL bs)))) : Int)),
 AV.int IntKind.i64 n_4])
 { boxes := [some b0, some keptClasses, some b2], live := [p, q] }
 (AV.tup
 [AV.int IntKind.i64 (piece (List.drop n.toNat bs)).fst,
 AV.int IntKind.i64 (n + (↑(piece (List.drop n.toNat bs)).snd.fst : Int)),
 AV.int IntKind.i64 (piece (List.drop n.toNat bs)).snd.snd],
 { boxes := [some b0, some keptClasses, some b2], live := [p, q] }))) ∧
 ((n_3 == 46) = false →
 0 ≤ n ∧
 0 ≤ n + (↑(runL [AV.int IntKind.u8 3] (List.drop n.toNat (bytesD (bytesL bs)))) : Int) ∧
 (n.toNat ≤ (n + (↑(runL [AV.int IntKind.u8 3] (List.drop n.toNat (bytesD (bytesL bs)))) : Int)).toNat ∧
 (n + (↑(runL [AV.int IntKind.u8 3] (List.drop n.toNat (bytesD (bytesL bs)))) : Int)).toNat ≤
 (bytesL bs).length) ∧
 (1 = 1 ∨ bytesL bs = []) ∧
 (1 = 1 ∨
 List.drop n.toNat
 (List.take
 (n + (↑(runL [AV.int IntKind.u8 3] (List.drop n.toNat (bytesD (bytesL bs)))) : Int)).toNat
 (bytesL bs)) =
 []) ∧
 ∃ (l : List UInt8),
 List.mapM byteOf
 (List.drop n.toNat
 (List.take
 (n + (↑(runL [AV.int IntKind.u8 3] (List.drop n.toNat (bytesD (bytesL bs)))) : Int)).toNat
 (bytesL bs))) =
 some l ∧
 ∃ (n_4 : Int),
 CallIs
 (tbl [(38, s38), (39, s39), (40, s40), (41, s41), (42, s42)] 39
 [AV.int IntKind.i64 2, AV.str l])
 (AV.int IntKind.i64 n_4) [] ∧
 RetOpen
 (AV.p2 3
 (AV.tup
 [AV.int IntKind.i64 2,
 AV.int IntKind.i64
 (n + (↑(runL [AV.int IntKind.u8 3] (List.drop n.toNat (bytesD (bytesL bs)))) : Int)),
 AV.int IntKind.i64 n_4]) &&
 boxesOk 3 [some b0, some keptClasses, some b2])
 (AV.tup
 [AV.int IntKind.i64 2,
 AV.int IntKind.i64
 (n + (↑(runL [AV.int IntKind.u8 3] (List.drop n.toNat (bytesD (bytesL bs)))) : Int)),
 AV.int IntKind.i64 n_4])
 { boxes := [some b0, some keptClasses, some b2], live := [p, q] }
 (AV.tup
 [AV.int IntKind.i64 (piece (List.drop n.toNat bs)).fst,
 AV.int IntKind.i64 (n + (↑(piece (List.drop n.toNat bs)).snd.fst : Int)),
 AV.int IntKind.i64 (piece (List.drop n.toNat bs)).snd.snd],
 { boxes := [some b0, some keptClasses, some b2], live := [p, q] }))) ∧
 (decide (n + (↑(runL [AV.int IntKind.u8 3] (List.drop n.toNat (bytesD (bytesL bs)))) : Int) < (↑(bytesL bs).length : Int)) =
 false →
 0 ≤ n ∧
 0 ≤ n + (↑(runL [AV.int IntKind.u8 3] (List.drop n.toNat (bytesD (bytesL bs)))) : Int) ∧
 (n.toNat ≤ (n + (↑(runL [AV.int IntKind.u8 3] (List.drop n.toNat (bytesD (bytesL bs)))) : Int)).toNat ∧
 (n + (↑(runL [AV.int IntKind.u8 3] (List.drop n.toNat (bytesD (bytesL bs)))) : Int)).toNat ≤ (bytesL bs).length) ∧
 (1 = 1 ∨ bytesL bs = []) ∧
 (1 = 1 ∨
 List.drop n.toNat
 (List.take (n + (↑(runL [AV.int IntKind.u8 3] (List.drop n.toNat (bytesD (bytesL bs)))) : Int)).toNat
 (bytesL bs)) =
 []) ∧
 ∃ (l : List UInt8),
 List.mapM byteOf
 (List.drop n.toNat
 (List.take (n + (↑(runL [AV.int IntKind.u8 3] (List.drop n.toNat (bytesD (bytesL bs)))) : Int)).toNat
 (bytesL bs))) =
 some l ∧
 ∃ (n_3 : Int),
 CallIs (tbl [(38, s38), (39, s39), (40, s40), (41, s41), (42, s42)] 39 [AV.int IntKind.i64 2, AV.str l])
 (AV.int IntKind.i64 n_3) [] ∧
 RetOpen
 (AV.p2 3
 (AV.tup
 [AV.int IntKind.i64 2,
 AV.int IntKind.i64
 (n + (↑(runL [AV.int IntKind.u8 3] (List.drop n.toNat (bytesD (bytesL bs)))) : Int)),
 AV.int IntKind.i64 n_3]) &&
 boxesOk 3 [some b0, some keptClasses, some b2])
 (AV.tup
 [AV.int IntKind.i64 2,
 AV.int IntKind.i64
 (n + (↑(runL [AV.int IntKind.u8 3] (List.drop n.toNat (bytesD (bytesL bs)))) : Int)),
 AV.int IntKind.i64 n_3])
 { boxes := [some b0, some keptClasses, some b2], live := [p, q] }
 (AV.tup
 [AV.int IntKind.i64 (piece (List.drop n.toNat bs)).fst,
 AV.int IntKind.i64 (n + (↑(piece (List.drop n.toNat bs)).snd.fst : Int)),
 AV.int IntKind.i64 (piece (List.drop n.toNat bs)).snd.snd],
 { boxes := [some b0, some keptClasses, some b2], live := [p, q] }))) ∧
 ((n_2 == 3) = false →
 ((n_2 == 5) = true →
 0 ≤ IntKind.i64.wrap (n + 1) ∧
 ((IntKind.i64.wrap (n + 1)).toNat ≤ (bytesL bs).length ∧ (bytesL bs).length ≤ (bytesL bs).length) ∧
 (1 = 1 ∨ bytesL bs = []) ∧
 ∃ (n_3 : Int),
 CallIs
 (tbl [(38, s38), (39, s39), (40, s40), (41, s41), (42, s42)] 40
 [AV.sl 1 (List.drop (IntKind.i64.wrap (n + 1)).toNat (List.take (bytesL bs).length (bytesL bs))) Own.no,
 AV.str [34, 10]])
 (AV.int IntKind.i64 n_3) [] ∧
 (decide (n_3 < 0) = true →
 RetOpen
 (AV.p2 3
 (AV.tup [AV.int IntKind.i64 (-1), AV.int IntKind.i64 (IntKind.i64.wrap (n + 1)), AV.int IntKind.i64 80]) &&
 boxesOk 3 [some b0, some keptClasses, some b2])
 (AV.tup [AV.int IntKind.i64 (-1), AV.int IntKind.i64 (IntKind.i64.wrap (n + 1)), AV.int IntKind.i64 80])
 { boxes := [some b0, some keptClasses, some b2], live := [p, q] }
 (AV.tup
 [AV.int IntKind.i64 (piece (List.drop n.toNat bs)).fst,
 AV.int IntKind.i64 (n + (↑(piece (List.drop n.toNat bs)).snd.fst : Int)),
 AV.int IntKind.i64 (piece (List.drop n.toNat bs)).snd.snd],
 { boxes := [some b0, some keptClasses, some b2], live := [p, q] })) ∧
 (decide (n_3 < 0) = false →
 (0 ≤ IntKind.i64.wrap (IntKind.i64.wrap (n + 1) + n_3) ∧
 IntKind.i64.wrap (IntKind.i64.wrap (n + 1) + n_3) < (↑(bytesL bs).length : Int)) ∧
 ∃ (n_4 : Int),
 takeAt PP 5 (bytesL bs) (IntKind.i64.wrap (IntKind.i64.wrap (n + 1) + n_3)).toNat 0 =
 some (AV.int IntKind.u8 n_4) ∧
 ((n_4 == 10) = true →
 RetOpen
 (AV.p2 3
 (AV.tup
 [AV.int IntKind.i64 (-1), AV.int IntKind.i64 (IntKind.i64.wrap (n + 1)),
 AV.int IntKind.i64 80]) &&
 boxesOk 3 [some b0, some keptClasses, some b2])
 (AV.tup
 [AV.int IntKind.i64 (-1), AV.int IntKind.i64 (IntKind.i64.wrap (n + 1)), AV.int IntKind.i64 80])
 { boxes := [some b0, some keptClasses, some b2], live := [p, q] }
 (AV.tup
 [AV.int IntKind.i64 (piece (List.drop n.toNat bs)).fst,
 AV.int IntKind.i64 (n + (↑(piece (List.drop n.toNat bs)).snd.fst : Int)),
 AV.int IntKind.i64 (piece (List.drop n.toNat bs)).snd.snd],
 { boxes := [some b0, some keptClasses, some b2], live := [p, q] })) ∧
 ((n_4 == 10) = false →
 0 ≤ IntKind.i64.wrap (n + 1) ∧
 0 ≤ IntKind.i64.wrap (IntKind.i64.wrap (n + n_3) + 1) ∧
 ((IntKind.i64.wrap (n + 1)).toNat ≤ (IntKind.i64.wrap (IntKind.i64.wrap (n + n_3) + 1)).toNat ∧
 (IntKind.i64.wrap (IntKind.i64.wrap (n + n_3) + 1)).toNat ≤ (bytesL bs).length) ∧
 (1 = 1 ∨ bytesL bs = []) ∧
 ∃ (n_5 : Int),
 CallIs
 (tbl [(38, s38), (39, s39), (40, s40), (41, s41), (42, s42)] 41
 [AV.sl 1
 (List.drop (IntKind.i64.wrap (n + 1)).toNat
 (List.take (IntKind.i64.wrap (IntKind.i64.wrap (n + n_3) + 1)).toNat (bytesL bs)))
 Own.no])
 (AV.int IntKind.i64 n_5) [] ∧
 RetOpen
 (AV.p2 3
 (AV.tup
 [AV.int IntKind.i64 4,
 AV.int IntKind.i64 (IntKind.i64.wrap (IntKind.i64.wrap (n + n_3) + 2)),
 AV.int IntKind.i64 n_5]) &&
 boxesOk 3 [some b0, some keptClasses, some b2])
 (AV.tup
 [AV.int IntKind.i64 4,
 AV.int IntKind.i64 (IntKind.i64.wrap (IntKind.i64.wrap (n + n_3) + 2)),
 AV.int IntKind.i64 n_5])
 { boxes := [some b0, some keptClasses, some b2], live := [p, q] }
 (AV.tup
 [AV.int IntKind.i64 (piece (List.drop n.toNat bs)).fst,
 AV.int IntKind.i64 (n + (↑(piece (List.drop n.toNat bs)).snd.fst : Int)),
 AV.int IntKind.i64 (piece (List.drop n.toNat bs)).snd.snd],
 { boxes := [some b0, some keptClasses, some b2], live := [p, q] })))) ∧
 ((n_2 == 5) = false →
 ((n_2 == 7) = true →
 (decide (IntKind.i64.wrap (n + 1) < (↑(bytesL bs).length : Int)) = true →
 (0 ≤ IntKind.i64.wrap (n + 1) ∧ IntKind.i64.wrap (n + 1) < (↑(bytesL bs).length : Int)) ∧
 ∃ (n_3 : Int),
 takeAt PP 5 (bytesL bs) (IntKind.i64.wrap (n + 1)).toNat 0 = some (AV.int IntKind.u8 n_3) ∧
 ((n_3 == 61) = true →
 (0 ≤ n ∧ n < (↑(bytesL bs).length : Int)) ∧
 ∃ (n_4 : Int),
 takeAt PP 5 (bytesL bs) n.toNat 0 = some (AV.int IntKind.u8 n_4) ∧
 ∃ (n_5 : Int),
 CallIs (some (AV.int IntKind.i64 (Lib.indexByte [61, 33, 60] n_4.toNat.toUInt8), []))
 (AV.int IntKind.i64 n_5) [] ∧
 (decide (n_5 ≥ 0) = true →
 RetOpen
 (AV.p2 3
 (AV.tup
 [AV.int IntKind.i64 5,
 AV.int IntKind.i64 (IntKind.i64.wrap (IntKind.i64.wrap (n + 1) + 1)),
 AV.int IntKind.i64 0]) &&
 boxesOk 3 [some b0, some keptClasses, some b2])
 (AV.tup
 [AV.int IntKind.i64 5, AV.int IntKind.i64 (IntKind.i64.wrap (IntKind.i64.wrap (n + 1) + 1)),
 AV.int IntKind.i64 0])
 { boxes := [some b0, some keptClasses, some b2], live := [p, q] }
 (AV.tup
 [AV.int IntKind.i64 (piece (List.drop n.toNat bs)).fst,
 AV.int IntKind.i64 (n + (↑(piece (List.drop n.toNat bs)).snd.fst : Int)),
 AV.int IntKind.i64 (piece (List.drop n.toNat bs)).snd.snd],
 { boxes := [some b0, some keptClasses, some b2], live := [p, q] })) ∧
 (decide (n_5 ≥ 0) = false →
 (0 ≤ n ∧ n < (↑(bytesL bs).length : Int)) ∧
 ∃ (n_6 : Int),
 takeAt PP 5 (bytesL bs) n.toNat 0 = some (AV.int IntKind.u8 n_6) ∧
 ((n_6 != 33) = true →
 RetOpen
 (AV.p2 3
 (AV.tup
 [AV.int IntKind.i64 5, AV.int IntKind.i64 (IntKind.i64.wrap (n + 1)),
 AV.int IntKind.i64 0]) &&
 boxesOk 3 [some b0, some keptClasses, some b2])
 (AV.tup
 [AV.int IntKind.i64 5, AV.int IntKind.i64 (IntKind.i64.wrap (n + 1)),
 AV.int IntKind.i64 0])
 { boxes := [some b0, some keptClasses, some b2], live := [p, q] }
 (AV.tup
 [AV.int IntKind.i64 (piece (List.drop n.toNat bs)).fst,
 AV.int IntKind.i64 (n + (↑(piece (List.drop n.toNat bs)).snd.fst : Int)),
 AV.int IntKind.i64 (piece (List.drop n.toNat bs)).snd.snd],
 { boxes := [some b0, some keptClasses, some b2], live := [p, q] })) ∧
 ((n_6 != 33) = false →
 RetOpen
 (AV.p2 3
 (AV.tup
 [AV.int IntKind.i64 (-1), AV.int IntKind.i64 (IntKind.i64.wrap (n + 1)),
 AV.int IntKind.i64 80]) &&
 boxesOk 3 [some b0, some keptClasses, some b2])
 (AV.tup
 [AV.int IntKind.i64 (-1), AV.int IntKind.i64 (IntKind.i64.wrap (n + 1)),
 AV.int IntKind.i64 80])
 { boxes := [some b0, some keptClasses, some b2], live := [p, q] }
 (AV.tup
 [AV.int IntKind.i64 (piece (List.drop n.toNat bs)).fst,
 AV.int IntKind.i64 (n + (↑(piece (List.drop n.toNat bs)).snd.fst : Int)),
 AV.int IntKind.i64 (piece (List.drop n.toNat bs)).snd.snd],
 { boxes := [some b0, some keptClasses, some b2], live := [p, q] })))) ∧
 ((n_3 == 61) = false →
 (0 ≤ n ∧ n < (↑(bytesL bs).length : Int)) ∧
 ∃ (n_4 : Int),
 takeAt PP 5 (bytesL bs) n.toNat 0 = some (AV.int IntKind.u8 n_4) ∧
 ((n_4 != 33) = true →
 RetOpen
 (AV.p2 3
 (AV.tup
 [AV.int IntKind.i64 5, AV.int IntKind.i64 (IntKind.i64.wrap (n + 1)),
 AV.int IntKind.i64 0]) &&
 boxesOk 3 [some b0, some keptClasses, some b2])
 (AV.tup
 [AV.int IntKind.i64 5, AV.int IntKind.i64 (IntKind.i64.wrap (n + 1)), AV.int IntKind.i64 0])
 { boxes := [some b0, some keptClasses, some b2], live := [p, q] }
 (AV.tup
 [AV.int IntKind.i64 (piece (List.drop n.toNat bs)).fst,
 AV.int IntKind.i64 (n + (↑(piece (List.drop n.toNat bs)).snd.fst : Int)),
 AV.int IntKind.i64 (piece (List.drop n.toNat bs)).snd.snd],
 { boxes := [some b0, some keptClasses, some b2], live := [p, q] })) ∧
 ((n_4 != 33) = false →
 RetOpen
 (AV.p2 3
 (AV.tup
 [AV.int IntKind.i64 (-1), AV.int IntKind.i64 (IntKind.i64.wrap (n + 1)),
 AV.int IntKind.i64 80]) &&
 boxesOk 3 [some b0, some keptClasses, some b2])
 (AV.tup
 [AV.int IntKind.i64 (-1), AV.int IntKind.i64 (IntKind.i64.wrap (n + 1)), AV.int IntKind.i64 80])
 { boxes := [some b0, some keptClasses, some b2], live := [p, q] }
 (AV.tup
 [AV.int IntKind.i64 (piece (List.drop n.toNat bs)).fst,
 AV.int IntKind.i64 (n + (↑(piece (List.drop n.toNat bs)).snd.fst : Int)),
 AV.int IntKind.i64 (piece (List.drop n.toNat bs)).snd.snd],
 { boxes := [some b0, some keptClasses, some b2], live := [p, q] })))) ∧
 (decide (IntKind.i64.wrap (n + 1) < (↑(bytesL bs).length : Int)) = false →
 (0 ≤ n ∧ n < (↑(bytesL bs).length : Int)) ∧
 ∃ (n_3 : Int),
 takeAt PP 5 (bytesL bs) n.toNat 0 = some (AV.int IntKind.u8 n_3) ∧
 ((n_3 != 33) = true →
 RetOpen
 (AV.p2 3
 (AV.tup [AV.int IntKind.i64 5, AV.int IntKind.i64 (IntKind.i64.wrap (n + 1)), AV.int IntKind.i64 0]) &&
 boxesOk 3 [some b0, some keptClasses, some b2])
 (AV.tup [AV.int IntKind.i64 5, AV.int IntKind.i64 (IntKind.i64.wrap (n + 1)), AV.int IntKind.i64 0])
 { boxes := [some b0, some keptClasses, some b2], live := [p, q] }
 (AV.tup
 [AV.int IntKind.i64 (piece (List.drop n.toNat bs)).fst,
 AV.int IntKind.i64 (n + (↑(piece (List.drop n.toNat bs)).snd.fst : Int)),
 AV.int IntKind.i64 (piece (List.drop n.toNat bs)).snd.snd],
 { boxes := [some b0, some keptClasses, some b2], live := [p, q] })) ∧
 ((n_3 != 33) = false →
 RetOpen
 (AV.p2 3
 (AV.tup
 [AV.int IntKind.i64 (-1), AV.int IntKind.i64 (IntKind.i64.wrap (n + 1)), AV.int IntKind.i64 80]) &&
 boxesOk 3 [some b0, some keptClasses, some b2])
 (AV.tup [AV.int IntKind.i64 (-1), AV.int IntKind.i64 (IntKind.i64.wrap (n + 1)), AV.int IntKind.i64 80])
 { boxes := [some b0, some keptClasses, some b2], live := [p, q] }
 (AV.tup
 [AV.int IntKind.i64 (piece (List.drop n.toNat bs)).fst,
 AV.int IntKind.i64 (n + (↑(piece (List.drop n.toNat bs)).snd.fst : Int)),
 AV.int IntKind.i64 (piece (List.drop n.toNat bs)).snd.snd],
 { boxes := [some b0, some keptClasses, some b2], live := [p, q] })))) ∧
 ((n_2 == 7) = false →
 ((n_2 == 8) = true →
 (decide (IntKind.i64.wrap (n + 1) < (↑(bytesL bs).length : Int)) = true →
 (0 ≤ IntKind.i64.wrap (n + 1) ∧ IntKind.i64.wrap (n + 1) < (↑(bytesL bs).length : Int)) ∧
 ∃ (n_3 : Int),
 takeAt PP 5 (bytesL bs) (IntKind.i64.wrap (n + 1)).toNat 0 = some (AV.int IntKind.u8 n_3) ∧
 ((n_3 == 61) = true →
 (0 ≤ n ∧ n < (↑(bytesL bs).length : Int)) ∧
 ∃ (n_4 : Int),
 takeAt PP 5 (bytesL bs) n.toNat 0 = some (AV.int IntKind.u8 n_4) ∧
 ∃ (n_5 : Int),
 CallIs (some (AV.int IntKind.i64 (Lib.indexByte [61, 33, 60] n_4.toNat.toUInt8), []))
 (AV.int IntKind.i64 n_5) [] ∧
 (decide (n_5 ≥ 0) = true →
 RetOpen
 (AV.p2 3
 (AV.tup
 [AV.int IntKind.i64 5,
 AV.int IntKind.i64 (IntKind.i64.wrap (IntKind.i64.wrap (n + 1) + 1)),
 AV.int IntKind.i64 0]) &&
 boxesOk 3 [some b0, some keptClasses, some b2])
 (AV.tup
 [AV.int IntKind.i64 5,
 AV.int IntKind.i64 (IntKind.i64.wrap (IntKind.i64.wrap (n + 1) + 1)),
 AV.int IntKind.i64 0])
 { boxes := [some b0, some keptClasses, some b2], live := [p, q] }
 (AV.tup
 [AV.int IntKind.i64 (piece (List.drop n.toNat bs)).fst,
 AV.int IntKind.i64 (n + (↑(piece (List.drop n.toNat bs)).snd.fst : Int)),
 AV.int IntKind.i64 (piece (List.drop n.toNat bs)).snd.snd],
 { boxes := [some b0, some keptClasses, some b2], live := [p, q] })) ∧
 (decide (n_5 ≥ 0) = false →
 (0 ≤ n ∧ n < (↑(bytesL bs).length : Int)) ∧
 ∃ (n_6 : Int),
 takeAt PP 5 (bytesL bs) n.toNat 0 = some (AV.int IntKind.u8 n_6) ∧
 ((n_6 != 33) = true →
 RetOpen
 (AV.p2 3
 (AV.tup
 [AV.int IntKind.i64 5, AV.int IntKind.i64 (IntKind.i64.wrap (n + 1)),
 AV.int IntKind.i64 0]) &&
 boxesOk 3 [some b0, some keptClasses, some b2])
 (AV.tup
 [AV.int IntKind.i64 5, AV.int IntKind.i64 (IntKind.i64.wrap (n + 1)),
 AV.int IntKind.i64 0])
 { boxes := [some b0, some keptClasses, some b2], live := [p, q] }
 (AV.tup
 [AV.int IntKind.i64 (piece (List.drop n.toNat bs)).fst,
 AV.int IntKind.i64 (n + (↑(piece (List.drop n.toNat bs)).snd.fst : Int)),
 AV.int IntKind.i64 (piece (List.drop n.toNat bs)).snd.snd],
 { boxes := [some b0, some keptClasses, some b2], live := [p, q] })) ∧
 ((n_6 != 33) = false →
 RetOpen
 (AV.p2 3
 (AV.tup
 [AV.int IntKind.i64 (-1), AV.int IntKind.i64 (IntKind.i64.wrap (n + 1)),
 AV.int IntKind.i64 80]) &&
 boxesOk 3 [some b0, some keptClasses, some b2])
 (AV.tup
 [AV.int IntKind.i64 (-1), AV.int IntKind.i64 (IntKind.i64.wrap (n + 1)),
 AV.int IntKind.i64 80])
 { boxes := [some b0, some keptClasses, some b2], live := [p, q] }
 (AV.tup
 [AV.int IntKind.i64 (piece (List.drop n.toNat bs)).fst,
 AV.int IntKind.i64 (n + (↑(piece (List.drop n.toNat bs)).snd.fst : Int)),
 AV.int IntKind.i64 (piece (List.drop n.toNat bs)).snd.snd],
 { boxes := [some b0, some keptClasses, some b2], live := [p, q] })))) ∧
 ((n_3 == 61) = false →
 (0 ≤ n ∧ n < (↑(bytesL bs).length : Int)) ∧
 ∃ (n_4 : Int),
 takeAt PP 5 (bytesL bs) n.toNat 0 = some (AV.int IntKind.u8 n_4) ∧
 ((n_4 != 33) = true →
 RetOpen
 (AV.p2 3
 (AV.tup
 [AV.int IntKind.i64 5, AV.int IntKind.i64 (IntKind.i64.wrap (n + 1)),
 AV.int IntKind.i64 0]) &&
 boxesOk 3 [some b0, some keptClasses, some b2])
 (AV.tup
 [AV.int IntKind.i64 5, AV.int IntKind.i64 (IntKind.i64.wrap (n + 1)), AV.int IntKind.i64 0])
 { boxes := [some b0, some keptClasses, some b2], live := [p, q] }
 (AV.tup
 [AV.int IntKind.i64 (piece (List.drop n.toNat bs)).fst,
 AV.int IntKind.i64 (n + (↑(piece (List.drop n.toNat bs)).snd.fst : Int)),
 AV.int IntKind.i64 (piece (List.drop n.toNat bs)).snd.snd],
 { boxes := [some b0, some keptClasses, some b2], live := [p, q] })) ∧
 ((n_4 != 33) = false →
 RetOpen
 (AV.p2 3
 (AV.tup
 [AV.int IntKind.i64 (-1), AV.int IntKind.i64 (IntKind.i64.wrap (n + 1)),
 AV.int IntKind.i64 80]) &&
 boxesOk 3 [some b0, some keptClasses, some b2])
 (AV.tup
 [AV.int IntKind.i64 (-1), AV.int IntKind.i64 (IntKind.i64.wrap (n + 1)),
 AV.int IntKind.i64 80])
 { boxes := [some b0, some keptClasses, some b2], live := [p, q] }
 (AV.tup
 [AV.int IntKind.i64 (piece (List.drop n.toNat bs)).fst,
 AV.int IntKind.i64 (n + (↑(piece (List.drop n.toNat bs)).snd.fst : Int)),
 AV.int IntKind.i64 (piece (List.drop n.toNat bs)).snd.snd],
 { boxes := [some b0, some keptClasses, some b2], live := [p, q] })))) ∧
 (decide (IntKind.i64.wrap (n + 1) < (↑(bytesL bs).length : Int)) = false →
 (0 ≤ n ∧ n < (↑(bytesL bs).length : Int)) ∧
 ∃ (n_3 : Int),
 takeAt PP 5 (bytesL bs) n.toNat 0 = some (AV.int IntKind.u8 n_3) ∧
 ((n_3 != 33) = true →
 RetOpen
 (AV.p2 3
 (AV.tup
 [AV.int IntKind.i64 5, AV.int IntKind.i64 (IntKind.i64.wrap (n + 1)), AV.int IntKind.i64 0]) &&
 boxesOk 3 [some b0, some keptClasses, some b2])
 (AV.tup [AV.int IntKind.i64 5, AV.int IntKind.i64 (IntKind.i64.wrap (n + 1)), AV.int IntKind.i64 0])
 { boxes := [some b0, some keptClasses, some b2], live := [p, q] }
 (AV.tup
 [AV.int IntKind.i64 (piece (List.drop n.toNat bs)).fst,
 AV.int IntKind.i64 (n + (↑(piece (List.drop n.toNat bs)).snd.fst : Int)),
 AV.int IntKind.i64 (piece (List.drop n.toNat bs)).snd.snd],
 { boxes := [some b0, some keptClasses, some b2], live := [p, q] })) ∧
 ((n_3 != 33) = false →
 RetOpen
 (AV.p2 3
 (AV.tup
 [AV.int IntKind.i64 (-1), AV.int IntKind.i64 (IntKind.i64.wrap (n + 1)),
 AV.int IntKind.i64 80]) &&
 boxesOk 3 [some b0, some keptClasses, some b2])
 (AV.tup [AV.int IntKind.i64 (-1), AV.int IntKind.i64 (IntKind.i64.wrap (n + 1)), AV.int IntKind.i64 80])
 { boxes := [some b0, some keptClasses, some b2], live := [p, q] }
 (AV.tup
 [AV.int IntKind.i64 (piece (List.drop n.toNat bs)).fst,
 AV.int IntKind.i64 (n + (↑(piece (List.drop n.toNat bs)).snd.fst : Int)),
 AV.int IntKind.i64 (piece (List.drop n.toNat bs)).snd.snd],
 { boxes := [some b0, some keptClasses, some b2], live := [p, q] })))) ∧
 ((n_2 == 8) = false →
 RetOpen
 (AV.p2 3 (AV.tup [AV.int IntKind.i64 (-1), AV.int IntKind.i64 (IntKind.i64.wrap (n + 1)), AV.int IntKind.i64 80]) &&
 boxesOk 3 [some b0, some keptClasses, some b2])
 (AV.tup [AV.int IntKind.i64 (-1), AV.int IntKind.i64 (IntKind.i64.wrap (n + 1)), AV.int IntKind.i64 80])
 { boxes := [some b0, some keptClasses, some b2], live := [p, q] }
 (AV.tup
 [AV.int IntKind.i64 (piece (List.drop n.toNat bs)).fst,
 AV.int IntKind.i64 (n + (↑(piece (List.drop n.toNat bs)).snd.fst : Int)),
 AV.int IntKind.i64 (piece (List.drop n.toNat bs)).snd.snd],
 { boxes := [some b0, some keptClasses, some b2], live := [p, q] }))))))))) := by kernel_rfl
end Go.Abs
