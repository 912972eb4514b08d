/- Own texts, part 6. -/
import Derived.Test.YtooobfhjklcnjaaDoorPart5
import Derived.Test.YtooobfhjklcnjaaDoorPart3
import Derived.Lib.IndexEntry
import Derived.Test.YtooobfhjklcnjaaDoorPart4
import Derived.Laws.BitsLemmas

namespace Go.Abs
open Go.Proofs L8

theorem p49r (m n : Int) : PureOk PP (G8 m) X1 (tbl []) (itbl []) ⟨nA, nA⟩ [] 49 [.int .u8 n] (.bool (decide (97 ≤ n ∧ n ≤ 122)), []) := by
  constructor
  rw [w49]
  simp only [retIs_iff, Prod.mk.injEq, AV.bool.injEq, and_true, decide_eq_true_eq, decide_eq_false_iff_not]
  refine ⟨fun h1 => ⟨fun h2 => (decide_eq_true (by omega)).symm, fun h2 => (decide_eq_false (by omega)).symm⟩, fun h1 => (decide_eq_false (by omega)).symm⟩
theorem p44r (m n : Int) : PureOk PP (G8 m) X1 (tbl []) (itbl []) ⟨nA, nA⟩ [] 44 [.int .u8 n] (.bool (decide (48 ≤ n ∧ n ≤ 57)), []) := by
  constructor
  rw [w44]
  simp only [retIs_iff, Prod.mk.injEq, AV.bool.injEq, and_true, decide_eq_true_eq, decide_eq_false_iff_not]
  refine ⟨fun h1 => ⟨fun h2 => (decide_eq_true (by omega)).symm, fun h2 => (decide_eq_false (by omega)).symm⟩, fun h1 => (decide_eq_false (by omega)).symm⟩
theorem o49r (m : Int) : SpecOk PP (G8 m) 49 s49 := spec_of (X := X1) (m := []) mixed8 tbl_nil itbl_nil fun args r h => by
  unfold s49 at h
  split at h
  · injection h with h; subst h; exact ⟨⟨nA, nA⟩, p49r m _⟩
  · cases h
theorem o44r (m : Int) : SpecOk PP (G8 m) 44 s44 := spec_of (X := X1) (m := []) mixed8 tbl_nil itbl_nil fun args r h => by
  unfold s44 at h
  split at h
  · injection h with h; subst h; exact ⟨⟨nA, nA⟩, p44r m _⟩
  · cases h
theorem o43 (m : Int) : SpecOk PP (G8 m) 43 s43 := spec_of (X := XR) (m := []) mixed8 tbl_nil itbl_nil fun args r h => by
  unfold s43 at h
  split at h
  · injection h with h; subst h; exact ⟨⟨nA, nA⟩, p43 m _⟩
  · cases h
theorem o63 (m : Int) : SpecOk PP (G8 m) 63 s63 := spec_of (X := XR) (m := []) mixed8 tbl_nil itbl_nil fun args r h => by
  unfold s63 at h
  split at h
  · split at h
    · rename_i hc
      injection h with h; subst h; exact ⟨a63 _, p63 m _ hc.1 hc.2⟩
    · cases h
  · cases h
theorem o33t (m : Int) : SpecOk PP (G8 m) 33 s33t := sAt_of (X := X1) (tbl_cons (o49r m) (tbl_cons (o44r m) tbl_nil)) itbl_nil fun bs a _ hl hp => ⟨a33 bs a, p33 m bs a hp (by omega)⟩
theorem o61 (m : Int) : SpecOk PP (G8 m) 61 s61 := sAt_of (X := XR) (tbl_cons (o44r m) tbl_nil) itbl_nil fun bs a ha hl _ => ⟨a61 bs a, p61 m bs a ha hl⟩
theorem o30 (m : Int) : SpecOk PP (G8 m) 30 s30 := sAt_of (X := XR) (tbl_cons (o43 m) tbl_nil) itbl_nil fun bs a ha hl _ => ⟨a30 bs a, p30 m bs a ha hl⟩
theorem o47 (m : Int) : SpecOk PP (G8 m) 47 s47 := sAt_of (X := XR) tbl_nil itbl_nil fun bs a _ hl hp => ⟨⟨nA, nA⟩, p47 m bs a hp hl⟩
theorem o46 (m : Int) : SpecOk PP (G8 m) 46 s46 := sAt_of (X := XR) tbl_nil itbl_nil fun bs a _ hl hp => ⟨a46 bs a, p46 m bs a hp.1 hl hp.2⟩
theorem o45 (m : Int) (h62 : SpecOk PP (G8 m) 62 s51) : SpecOk PP (G8 m) 45 s45 := sAt_of (X := XR) (tbl_cons (o61 m) (tbl_cons h62 (tbl_cons (o63 m) tbl_nil))) itbl_nil fun bs a _ hl hp => ⟨⟨nA, nA⟩, p45 m bs a hp.1 hl hp.2⟩
theorem o31 (m : Int) (h62 : SpecOk PP (G8 m) 62 s51) : SpecOk PP (G8 m) 31 s31 := sAt_of (X := XR) (tbl_cons (o33t m) (tbl_cons (o44r m) (tbl_cons (o45 m h62) (tbl_cons (o46 m) (tbl_cons (o47 m) tbl_nil))))) itbl_nil fun bs a _ hl hp => ⟨⟨nA, nA⟩, p31 m bs a hp.1 hl hp.2⟩
theorem o13 (m : Int) (h62 : SpecOk PP (G8 m) 62 s51) : SpecOk PP (G8 m) 13 s12 := lax_of (X := XR) (m := []) mixed8 (tbl_cons (o30 m) (tbl_cons (o31 m h62) tbl_nil)) itbl_nil fun args r h => by
  unfold s12 at h
  split at h
  · split at h
    · rename_i hsz
      subst hsz
      unfold onBytes at h
      split at h
      · rename_i bs hb
        obtain rfl := unBytes_some hb
        injection h with h; subst h; exact ⟨a13 bs, p13 m bs⟩
      · cases h
    · cases h
  · cases h
end Go.Abs

namespace Go.Abs
open Go.Proofs L8

def s73 : Spec := fun args => match args with | [.int .u8 n] => some (.bool (decide (48 ≤ n ∧ n ≤ 57)), []) | _ => none
def s81 : Spec := fun args => match args with
  | [.str l, .int .i64 n] => if 0 ≤ n ∧ n.toNat ≤ l.length ∧ l.length ≤ 1000000 then some (.int .i64 ((l.drop n.toNat).takeWhile digitB).length, []) else none
  | _ => none
def dAt (s : List UInt8) : Nat := if negB s then 1 else 0
/-- is it a decimal? -/
def formR (r : List UInt8) : Bool :=
  let n := (r.takeWhile digitB).length
  let m := ((r.drop (n + 1)).takeWhile digitB).length
  decide (n ≠ 0) && (decide (n = r.length) || (decide (r[n]? = some 46) && decide (1 ≤ m) && decide (m ≤ 6) && decide (n + 1 + m = r.length)))
def formP (s : List UInt8) : Bool := formR (restB s)
def s72 : Spec := fun args => match args with
  | [.str l] => if l.length ≤ 1000000 then some (.bool (formP l), []) else none
  | _ => none
def capM : Nat := 1152921504606846977
def xstep (x : Nat) (c : UInt8) : Nat := if digitB c then min (10 * min x 115292150460684698 + (c.toNat - 48)) capM else x
def xfold (l : List UInt8) : Nat := l.foldl xstep 0
def bstep (k : Int) (c : UInt8) : Int := if c = 46 then 0 else if digitB c then (if 0 ≤ k then k + 1 else k) else k
def bfold (l : List UInt8) : Int := l.foldl bstep (-1)
def xmore : Nat → Nat → Nat
  | x, 0 => x
  | x, n + 1 => min (10 * min (xmore x n) 115292150460684698) capM
def refP (s : List UInt8) : Int × Int :=
  if formP s = false then (0, 3) else
  let x := xmore (xfold s) (6 - (max (bfold s) 0)).toNat
  if capM ≤ x then (0, 2) else (if s.head? = some 45 then -(x : Int) else x, 0)
def a81 (l : List UInt8) (a : Nat) : Anns := ⟨fun k => if k = 2 then some { α := Nat, slots := [0, 1, 5], nb := 0, vals := fun n => [.str l, .int .i64 a, .int .i64 n], sS := fun _ => ⟨[], []⟩, I := fun n => n ≤ ((l.drop a).takeWhile digitB).length, μ := fun n => l.length - n } else none, nA⟩
def a72 (s : List UInt8) : Anns := ⟨fun k => match k with
  | 1000004 => some { α := Unit, slots := [0, 3], nb := 0, vals := fun _ => [.str s, .int .i64 (dAt s)], sS := fun _ => ⟨[], []⟩, I := fun _ => True, μ := fun _ => 0 }
  | _ => none, nA⟩
def a62 (s : List UInt8) : Anns := ⟨fun k => match k with
  | 6 => some { α := Nat, slots := [0, 4, 5, 6], nb := 0, vals := fun i => [.str s, .int .i64 (xfold (s.take i)), .int .i64 (bfold (s.take i)), .int .i64 i], sS := fun _ => ⟨[], []⟩, I := fun i => i ≤ s.length, μ := fun i => s.length - i }
  | 15 => some { α := Nat, slots := [0, 4, 7], nb := 0, vals := fun j => [.str s, .int .i64 (xmore (xfold s) j), .int .i64 (max (bfold s) 0 + j)], sS := fun _ => ⟨[], []⟩, I := fun j => j ≤ (6 - (max (bfold s) 0)).toNat, μ := fun j => 6 - j }
  | _ => none, nA⟩
def XF : Shapes := fun f => match f with
  | 72 | 73 => some shB
  | 81 => some shI
  | _ => none
end Go.Abs

namespace Go.Abs
open Go.Proofs L8
theorem w73 (m n : Int) : (pureW PP (G8 m) XF (tbl []) (itbl []) ⟨nA, nA⟩ [] 73 [.int .u8 n] (.bool (decide (48 ≤ n ∧ n ≤ 57)), [])) =
((decide (n ≥ (48 : Int)) = true →
    (decide (n ≤ (57 : Int)) = true → RetIs (AV.bool true) [] (AV.bool (decide ((48 : Int) ≤ n ∧ n ≤ (57 : Int))), [])) ∧
      (decide (n ≤ (57 : Int)) = false → RetIs (AV.bool false) [] (AV.bool (decide ((48 : Int) ≤ n ∧ n ≤ (57 : Int))), []))) ∧
  (decide (n ≥ (48 : Int)) = false → RetIs (AV.bool false) [] (AV.bool (decide ((48 : Int) ≤ n ∧ n ≤ (57 : Int))), []))) := by kernel_rfl
theorem w81 (m : Int) (l : List UInt8) (a : Nat) : (pureW PP (G8 m) XF (tbl [(73, s73)]) (itbl []) (a81 l a) [] 81 [.str l, .int .i64 a] (.int .i64 ((l.drop a).takeWhile digitB).length, [])) =
((∃ (y : Nat),
    ValsAre [AV.str l, AV.int IntKind.i64 (↑a : Int), AV.int IntKind.i64 (0 : Int)] [AV.str l, AV.int IntKind.i64 (↑a : Int), AV.int IntKind.i64 (↑y : Int)] ∧
      StIs { boxes := [], live := [] } { boxes := [], live := [] } ∧ y ≤ (List.takeWhile digitB (List.drop a l)).length ∧ True) ∧
  ∀ (x : Nat),
    x ≤ (List.takeWhile digitB (List.drop a l)).length →
      (decide (IntKind.i64.wrap ((↑a : Int) + (↑x : Int)) < (↑l.length : Int)) = true →
 (0 : Int) ≤ IntKind.i64.wrap ((↑a : Int) + (↑x : Int)) ∧
 ∃ (c : UInt8),
 l[(IntKind.i64.wrap ((↑a : Int) + (↑x : Int))).toNat]? = some c ∧
 ∃ (b : Bool),
 CallIs (some (AV.bool (decide ((48 : Int) ≤ (↑c.toNat : Int) ∧ (↑c.toNat : Int) ≤ (57 : Int))), [])) (AV.bool b) [] ∧
 (b = true →
 ∃ (y : Nat),
 ValsAre [AV.str l, AV.int IntKind.i64 (↑a : Int), AV.int IntKind.i64 (IntKind.i64.wrap ((↑x : Int) + (1 : Int)))]
 [AV.str l, AV.int IntKind.i64 (↑a : Int), AV.int IntKind.i64 (↑y : Int)] ∧
 StIs { boxes := [], live := [] } { boxes := [], live := [] } ∧
 y ≤ (List.takeWhile digitB (List.drop a l)).length ∧ l.length - y < l.length - x) ∧
 (b = false → RetIs (AV.int IntKind.i64 (↑x : Int)) [] (AV.int IntKind.i64 (↑(List.takeWhile digitB (List.drop a l)).length : Int), []))) ∧
        (decide (IntKind.i64.wrap ((↑a : Int) + (↑x : Int)) < (↑l.length : Int)) = false →
 RetIs (AV.int IntKind.i64 (↑x : Int)) [] (AV.int IntKind.i64 (↑(List.takeWhile digitB (List.drop a l)).length : Int), []))) := by kernel_rfl
theorem w72 (m : Int) (s : List UInt8) : (pureW PP (G8 m) XF (tbl [(81, s81)]) (itbl []) (a72 s) [] 72 [.str s] (.bool (formP s), [])) =
(((decide ((↑s.length : Int) > (0 : Int)) = true →
      (0 : Int) ≤ (0 : Int) ∧
        ∃ (c : UInt8),
 s[nat_lit 0]? = some c ∧
 (((↑c.toNat : Int) == (45 : Int)) = true →
 ∃ (_y : Unit),
 ValsAre [AV.str s, AV.int IntKind.i64 (1 : Int)] [AV.str s, AV.int IntKind.i64 (↑(dAt s) : Int)] ∧
 StIs { boxes := [], live := [] } { boxes := [], live := [] } ∧ True ∧ True) ∧
 (((↑c.toNat : Int) == (45 : Int)) = false →
 ∃ (_y : Unit),
 ValsAre [AV.str s, AV.int IntKind.i64 (0 : Int)] [AV.str s, AV.int IntKind.i64 (↑(dAt s) : Int)] ∧
 StIs { boxes := [], live := [] } { boxes := [], live := [] } ∧ True ∧ True)) ∧
    (decide ((↑s.length : Int) > (0 : Int)) = false →
      ∃ (_y : Unit),
        ValsAre [AV.str s, AV.int IntKind.i64 (0 : Int)] [AV.str s, AV.int IntKind.i64 (↑(dAt s) : Int)] ∧
 StIs { boxes := [], live := [] } { boxes := [], live := [] } ∧ True ∧ True)) ∧
  ∀ (_x : Unit),
    True →
      True →
        ∃ (n : Int),
 CallIs (tbl [(nat_lit 81, s81)] (nat_lit 81) [AV.str s, AV.int IntKind.i64 (↑(dAt s) : Int)]) (AV.int IntKind.i64 n) [] ∧
 ((n == (0 : Int)) = true → RetIs (AV.bool false) [] (AV.bool (formP s), [])) ∧
 ((n == (0 : Int)) = false →
 ((IntKind.i64.wrap ((↑(dAt s) : Int) + n) == (↑s.length : Int)) = true → RetIs (AV.bool true) [] (AV.bool (formP s), [])) ∧
 ((IntKind.i64.wrap ((↑(dAt s) : Int) + n) == (↑s.length : Int)) = false →
 ∃ (n_1 : Int),
 CallIs
 (tbl [(nat_lit 81, s81)] (nat_lit 81)
 [AV.str s, AV.int IntKind.i64 (IntKind.i64.wrap (IntKind.i64.wrap ((↑(dAt s) : Int) + n) + (1 : Int)))])
 (AV.int IntKind.i64 n_1) [] ∧
 (0 : Int) ≤ IntKind.i64.wrap ((↑(dAt s) : Int) + n) ∧
 ∃ (c : UInt8),
 s[(IntKind.i64.wrap ((↑(dAt s) : Int) + n)).toNat]? = some c ∧
 (((↑c.toNat : Int) == (46 : Int)) = true →
 (decide (n_1 ≥ (1 : Int)) = true →
 (decide (n_1 ≤ (6 : Int)) = true →
 ((IntKind.i64.wrap (IntKind.i64.wrap (IntKind.i64.wrap ((↑(dAt s) : Int) + n) + (1 : Int)) + n_1) ==
 (↑s.length : Int)) =
 true →
 RetIs (AV.bool true) [] (AV.bool (formP s), [])) ∧
 ((IntKind.i64.wrap (IntKind.i64.wrap (IntKind.i64.wrap ((↑(dAt s) : Int) + n) + (1 : Int)) + n_1) ==
 (↑s.length : Int)) =
 false →
 RetIs (AV.bool false) [] (AV.bool (formP s), []))) ∧
 (decide (n_1 ≤ (6 : Int)) = false → RetIs (AV.bool false) [] (AV.bool (formP s), []))) ∧
 (decide (n_1 ≥ (1 : Int)) = false → RetIs (AV.bool false) [] (AV.bool (formP s), []))) ∧
 (((↑c.toNat : Int) == (46 : Int)) = false → RetIs (AV.bool false) [] (AV.bool (formP s), []))))) := by kernel_rfl
theorem w62 (m : Int) (s : List UInt8) : (pureW PP (G8 m) XF (tbl [(72, s72), (73, s73)]) (itbl []) (a62 s) [] 62 [.str s] (.tup [.int .i64 (refP s).1, .int .i64 (refP s).2], [])) =
(∃ (b : Bool),
  CallIs (tbl [(nat_lit 72, s72), (nat_lit 73, s73)] (nat_lit 72) [AV.str s]) (AV.bool b) [] ∧
    (b = true →
        (∃ (y : Nat),
 ValsAre [AV.str s, AV.int IntKind.i64 (0 : Int), AV.int IntKind.i64 (-1 : Int), AV.int IntKind.i64 (0 : Int)]
 [AV.str s, AV.int IntKind.i64 (↑(xfold (List.take y s)) : Int), AV.int IntKind.i64 (bfold (List.take y s)), AV.int IntKind.i64 (↑y : Int)] ∧
 StIs { boxes := [], live := [] } { boxes := [], live := [] } ∧ y ≤ s.length ∧ True) ∧
 ∀ (x : Nat),
 x ≤ s.length →
 (decide ((↑x : Int) < (↑s.length : Int)) = true →
 (0 : Int) ≤ (↑x : Int) ∧
 ∃ (c : UInt8),
 s[(↑x : Int).toNat]? = some c ∧
 (((↑c.toNat : Int) == (46 : Int)) = true →
 (0 : Int) ≤ (↑x : Int) ∧
 ∃ (c : UInt8),
 s[(↑x : Int).toNat]? = some c ∧
 ∃ (b : Bool),
 CallIs (some (AV.bool (decide ((48 : Int) ≤ (↑c.toNat : Int) ∧ (↑c.toNat : Int) ≤ (57 : Int))), [])) (AV.bool b) [] ∧
 (b = true →
 (0 : Int) ≤ (↑x : Int) ∧
 ∃ (c : UInt8),
 s[(↑x : Int).toNat]? = some c ∧
 (true = true →
 ∃ (y : Nat),
 ValsAre
 [AV.str s,
 AV.int IntKind.i64
 (min
 (IntKind.i64.wrap
 (IntKind.i64.wrap
 ((10 : Int) * min (↑(xfold (List.take x s)) : Int) (115292150460684698 : Int)) +
 IntKind.i64.wrap (IntKind.u8.wrap ((↑c.toNat : Int) - (48 : Int)))))
 (1152921504606846977 : Int)),
 AV.int IntKind.i64 (1 : Int), AV.int IntKind.i64 (IntKind.i64.wrap ((↑x : Int) + (1 : Int)))]
 [AV.str s, AV.int IntKind.i64 (↑(xfold (List.take y s)) : Int),
 AV.int IntKind.i64 (bfold (List.take y s)), AV.int IntKind.i64 (↑y : Int)] ∧
 StIs { boxes := [], live := [] } { boxes := [], live := [] } ∧
 y ≤ s.length ∧ s.length - y < s.length - x) ∧
 (true = false →
 ∃ (y : Nat),
 ValsAre
 [AV.str s,
 AV.int IntKind.i64
 (min
 (IntKind.i64.wrap
 (IntKind.i64.wrap
 ((10 : Int) * min (↑(xfold (List.take x s)) : Int) (115292150460684698 : Int)) +
 IntKind.i64.wrap (IntKind.u8.wrap ((↑c.toNat : Int) - (48 : Int)))))
 (1152921504606846977 : Int)),
 AV.int IntKind.i64 (0 : Int), AV.int IntKind.i64 (IntKind.i64.wrap ((↑x : Int) + (1 : Int)))]
 [AV.str s, AV.int IntKind.i64 (↑(xfold (List.take y s)) : Int),
 AV.int IntKind.i64 (bfold (List.take y s)), AV.int IntKind.i64 (↑y : Int)] ∧
 StIs { boxes := [], live := [] } { boxes := [], live := [] } ∧
 y ≤ s.length ∧ s.length - y < s.length - x)) ∧
 (b = false →
 ∃ (y : Nat),
 ValsAre
 [AV.str s, AV.int IntKind.i64 (↑(xfold (List.take x s)) : Int), AV.int IntKind.i64 (0 : Int),
 AV.int IntKind.i64 (IntKind.i64.wrap ((↑x : Int) + (1 : Int)))]
 [AV.str s, AV.int IntKind.i64 (↑(xfold (List.take y s)) : Int), AV.int IntKind.i64 (bfold (List.take y s)),
 AV.int IntKind.i64 (↑y : Int)] ∧
 StIs { boxes := [], live := [] } { boxes := [], live := [] } ∧ y ≤ s.length ∧ s.length - y < s.length - x)) ∧
 (((↑c.toNat : Int) == (46 : Int)) = false →
 (0 : Int) ≤ (↑x : Int) ∧
 ∃ (c : UInt8),
 s[(↑x : Int).toNat]? = some c ∧
 ∃ (b : Bool),
 CallIs (some (AV.bool (decide ((48 : Int) ≤ (↑c.toNat : Int) ∧ (↑c.toNat : Int) ≤ (57 : Int))), [])) (AV.bool b) [] ∧
 (b = true →
 (0 : Int) ≤ (↑x : Int) ∧
 ∃ (c : UInt8),
 s[(↑x : Int).toNat]? = some c ∧
 (decide (bfold (List.take x s) ≥ (0 : Int)) = true →
 ∃ (y : Nat),
 ValsAre
 [AV.str s,
 AV.int IntKind.i64
 (min
 (IntKind.i64.wrap
 (IntKind.i64.wrap
 ((10 : Int) * min (↑(xfold (List.take x s)) : Int) (115292150460684698 : Int)) +
 IntKind.i64.wrap (IntKind.u8.wrap ((↑c.toNat : Int) - (48 : Int)))))
 (1152921504606846977 : Int)),
 AV.int IntKind.i64 (IntKind.i64.wrap (bfold (List.take x s) + (1 : Int))),
 AV.int IntKind.i64 (IntKind.i64.wrap ((↑x : Int) + (1 : Int)))]
 [AV.str s, AV.int IntKind.i64 (↑(xfold (List.take y s)) : Int),
 AV.int IntKind.i64 (bfold (List.take y s)), AV.int IntKind.i64 (↑y : Int)] ∧
 StIs { boxes := [], live := [] } { boxes := [], live := [] } ∧
 y ≤ s.length ∧ s.length - y < s.length - x) ∧
 (decide (bfold (List.take x s) ≥ (0 : Int)) = false →
 ∃ (y : Nat),
 ValsAre
 [AV.str s,
 AV.int IntKind.i64
 (min
 (IntKind.i64.wrap
 (IntKind.i64.wrap
 ((10 : Int) * min (↑(xfold (List.take x s)) : Int) (115292150460684698 : Int)) +
 IntKind.i64.wrap (IntKind.u8.wrap ((↑c.toNat : Int) - (48 : Int)))))
 (1152921504606846977 : Int)),
 AV.int IntKind.i64 (bfold (List.take x s)),
 AV.int IntKind.i64 (IntKind.i64.wrap ((↑x : Int) + (1 : Int)))]
 [AV.str s, AV.int IntKind.i64 (↑(xfold (List.take y s)) : Int),
 AV.int IntKind.i64 (bfold (List.take y s)), AV.int IntKind.i64 (↑y : Int)] ∧
 StIs { boxes := [], live := [] } { boxes := [], live := [] } ∧
 y ≤ s.length ∧ s.length - y < s.length - x)) ∧
 (b = false →
 ∃ (y : Nat),
 ValsAre
 [AV.str s, AV.int IntKind.i64 (↑(xfold (List.take x s)) : Int), AV.int IntKind.i64 (bfold (List.take x s)),
 AV.int IntKind.i64 (IntKind.i64.wrap ((↑x : Int) + (1 : Int)))]
 [AV.str s, AV.int IntKind.i64 (↑(xfold (List.take y s)) : Int), AV.int IntKind.i64 (bfold (List.take y s)),
 AV.int IntKind.i64 (↑y : Int)] ∧
 StIs { boxes := [], live := [] } { boxes := [], live := [] } ∧ y ≤ s.length ∧ s.length - y < s.length - x))) ∧
 (decide ((↑x : Int) < (↑s.length : Int)) = false →
 (∃ (y : Nat),
 ValsAre [AV.str s, AV.int IntKind.i64 (↑(xfold (List.take x s)) : Int), AV.int IntKind.i64 (max (bfold (List.take x s)) (0 : Int))]
 [AV.str s, AV.int IntKind.i64 (↑(xmore (xfold s) y) : Int), AV.int IntKind.i64 (max (bfold s) (0 : Int) + (↑y : Int))] ∧
 StIs { boxes := [], live := [] } { boxes := [], live := [] } ∧ y ≤ ((6 : Int) - max (bfold s) (0 : Int)).toNat ∧ True) ∧
 ∀ (x : Nat),
 x ≤ ((6 : Int) - max (bfold s) (0 : Int)).toNat →
 (decide (max (bfold s) (0 : Int) + (↑x : Int) < (6 : Int)) = true →
 ∃ (y : Nat),
 ValsAre
 [AV.str s,
 AV.int IntKind.i64
 (min (IntKind.i64.wrap ((10 : Int) * min (↑(xmore (xfold s) x) : Int) (115292150460684698 : Int)))
 (1152921504606846977 : Int)),
 AV.int IntKind.i64 (IntKind.i64.wrap (max (bfold s) (0 : Int) + (↑x : Int) + (1 : Int)))]
 [AV.str s, AV.int IntKind.i64 (↑(xmore (xfold s) y) : Int), AV.int IntKind.i64 (max (bfold s) (0 : Int) + (↑y : Int))] ∧
 StIs { boxes := [], live := [] } { boxes := [], live := [] } ∧
 y ≤ ((6 : Int) - max (bfold s) (0 : Int)).toNat ∧ nat_lit 6 - y < nat_lit 6 - x) ∧
 (decide (max (bfold s) (0 : Int) + (↑x : Int) < (6 : Int)) = false →
 (decide ((↑(xmore (xfold s) x) : Int) > (1152921504606846976 : Int)) = true →
 RetIs (AV.tup [AV.int IntKind.i64 (0 : Int), AV.int IntKind.i64 (2 : Int)]) []
 (AV.tup [AV.int IntKind.i64 (refP s).fst, AV.int IntKind.i64 (refP s).snd], [])) ∧
 (decide ((↑(xmore (xfold s) x) : Int) > (1152921504606846976 : Int)) = false →
 (0 : Int) ≤ (0 : Int) ∧
 ∃ (c : UInt8),
 s[nat_lit 0]? = some c ∧
 (((↑c.toNat : Int) == (45 : Int)) = true →
 RetIs
 (AV.tup
 [AV.int IntKind.i64 (IntKind.i64.wrap ((0 : Int) - (↑(xmore (xfold s) x) : Int))), AV.int IntKind.i64 (0 : Int)])
 [] (AV.tup [AV.int IntKind.i64 (refP s).fst, AV.int IntKind.i64 (refP s).snd], [])) ∧
 (((↑c.toNat : Int) == (45 : Int)) = false →
 RetIs (AV.tup [AV.int IntKind.i64 (↑(xmore (xfold s) x) : Int), AV.int IntKind.i64 (0 : Int)]) []
 (AV.tup [AV.int IntKind.i64 (refP s).fst, AV.int IntKind.i64 (refP s).snd], [])))))) ∧
      (b = false →
        RetIs (AV.tup [AV.int IntKind.i64 (0 : Int), AV.int IntKind.i64 (3 : Int)]) []
 (AV.tup [AV.int IntKind.i64 (refP s).fst, AV.int IntKind.i64 (refP s).snd], []))) := by kernel_rfl
end Go.Abs

namespace Go.Abs
open Go.Proofs L8

def keptSet : List AV := (List.range 256).map fun c => .bool (decide (c = 10 ∨ c = 34))
def keptSetA : AV := .agg keptSet
def onBs (f : List UInt8 → Option (AV × List (Nat × TypeId))) : Spec := fun args => match args with
  | [.sl sz es .no] => if sz = 1 then onBytes es f else none
  | _ => none
def decA (bs : List UInt8) : AV := .tup [.int .i32 (decodeL bs 0).1, .int .i64 (decodeL bs 0).2]
def hiB (bs : List UInt8) : Prop := ∃ c t, bs = c :: t ∧ 128 ≤ c.toNat
instance (bs : List UInt8) : Decidable (hiB bs) := match bs with
  | [] => .isFalse fun ⟨_, _, h, _⟩ => nomatch h
  | c :: t => if h : 128 ≤ c.toNat then .isTrue ⟨c, t, rfl, h⟩ else .isFalse fun ⟨_, _, h1, h2⟩ => by injection h1 with h1 h3; subst h1; exact h h2
def s71 : Spec := onBs fun bs => if hiB bs ∧ bs.length ≤ 1000000 then some (decA bs, []) else none
def s58 : Spec := onBs fun bs => if bs ≠ [] ∧ bs.length ≤ 1000000 then some (decA bs, []) else none
def s55 : Spec := fun args => match args with
  | [.int .i64 n] => some (.bool (decide (8 < n)), [])
  | _ => none
def s56 : Spec := fun args => match args with
  | [.str [34, 10]] => some (.tup [keptSetA, .bool true], [])
  | _ => none
def s57 : ISpec := fun args S => match args, S with
  | [.ptr 0 0, .int .u8 c], ⟨[some cs], []⟩ => some (cs = keptSet ∧ 0 ≤ c ∧ c < 256, .bool (decide (c = 10 ∨ c = 34)), ⟨[some cs], []⟩)
  | _, _ => none
def s59 (m : Int) : Spec := fun args => match args with
  | [.str a, .str b] => if 2 ≤ b.length ∧ (b.length : Int) ≤ m ∧ a.length < 4294967281 then some (.int .i64 (Lib.index a b), []) else none
  | _ => none
def shDec : Sh × Option TypeId := (.tup [.one (.int .i32), .one (.int .i64)], none)
def XA : Shapes := fun f => match f with
  | 53 | 59 => some shI
  | 55 => some shB
  | 56 => some (.tup [.one (.is keptSetA), .one (.is (.bool true))], none)
  | 58 | 71 => some shDec
  | _ => none
def stL (bs : List UInt8) : Nat := (bs.takeWhile lineB).length
def a58 (bs : List UInt8) : Anns := ⟨fun k => if k = 2 then some { α := Unit, slots := [0, 6, 7, 8], nb := 0, vals := fun _ => [bytesA bs, bytesA bs, .int .i64 bs.length, .int .i64 0], sS := fun _ => ⟨[], []⟩, I := fun _ => True, μ := fun _ => 0 } else none, nA⟩
def itS (p : Nat) : St := ⟨[some [.tup [.str [34, 10], .int .i64 p]]], []⟩
def a40 (bs : List UInt8) : Anns := ⟨fun k => match k with
  | 24 => some { α := Nat, slots := [7, 60, 61, 62], nb := 1, vals := fun i => [.ptr 0 0, bytesA bs, .int .i64 bs.length, .int .i64 i], sS := fun _ => ⟨[some keptSet], []⟩, I := fun i => i ≤ stL bs, μ := fun i => bs.length - i }
  | 32 => some { α := Nat, slots := [0, 1, 12], nb := 0, vals := fun i => [bytesA bs, .str [34, 10], .int .i64 i], sS := fun _ => ⟨[], []⟩, I := fun i => i ≤ stL bs, μ := fun i => bs.length - i }
  | 48 | 7 => some { α := Unit, slots := [], nb := 0, vals := fun _ => [], sS := fun _ => ⟨[], []⟩, I := fun _ => False, μ := fun _ => 0, unroll := 3 }
  | _ => none, nA⟩
end Go.Abs

namespace Go.Abs
open Go.Proofs L8
theorem w55 (m n : Int) : (pureW PP (G8 m) XA (tbl []) (itbl []) nAn [] 55 [.int .i64 n] (.bool (decide (8 < n)), [])) =
((decide (n > (8 : Int)) = true → RetIs (AV.bool true) [] (AV.bool (decide ((8 : Int) < n)), [])) ∧
  (decide (n > (8 : Int)) = false → RetIs (AV.bool false) [] (AV.bool (decide ((8 : Int) < n)), []))) := by kernel_rfl
theorem w57 (m c : Int) : (openW PP (G8 m) XA (tbl []) (itbl []) nAn [] 57 [.ptr 0 0, .int .u8 c] ⟨[some keptSet], []⟩ (.bool (decide (c = 10 ∨ c = 34)), ⟨[some keptSet], []⟩)) =
(((0 : Int) ≤ c ∧ c < (256 : Int)) ∧
  ∃ (b : Bool),
    takeA (some false) (some (nat_lit 1)) keptSet (nat_lit 0 + c.toNat * nat_lit 1) = some (AV.bool b) ∧
      (b = true →
 RetOpen (AV.p2 (nat_lit 1) (AV.bool true) && true) (AV.bool true) { boxes := [some keptSet], live := [] }
 (AV.bool (decide (c = (10 : Int) ∨ c = (34 : Int))), { boxes := [some keptSet], live := [] })) ∧
        (b = false →
 RetOpen (AV.p2 (nat_lit 1) (AV.bool false) && true) (AV.bool false) { boxes := [some keptSet], live := [] }
 (AV.bool (decide (c = (10 : Int) ∨ c = (34 : Int))), { boxes := [some keptSet], live := [] }))) := by kernel_rfl
theorem w71 (m : Int) (bs : List UInt8) : (pureW PP (G8 m) XA (tbl []) (itbl []) nAn [] 71 [.sl 1 (bytesL bs) .no] (decA bs, [])) =
((decide ((↑(bytesL bs).length : Int) < (1 : Int)) = true →
    RetIs (AV.tup [AV.int IntKind.i32 (65533 : Int), AV.int IntKind.i64 (0 : Int)]) []
      (AV.tup [AV.int IntKind.i32 (↑(decodeL bs (nat_lit 0)).fst : Int), AV.int IntKind.i64 (↑(decodeL bs (nat_lit 0)).snd : Int)], [])) ∧
  (decide ((↑(bytesL bs).length : Int) < (1 : Int)) = false →
    ((0 : Int) ≤ (0 : Int) ∧ (0 : Int) < (↑(bytesL bs).length : Int)) ∧
      ∃ (n : Int),
        takeAt PP (nat_lit 5) (bytesL bs) (nat_lit 0) (nat_lit 0) = some (AV.int IntKind.u8 n) ∧
 ((0 : Int) ≤ n ∧ n < (256 : Int)) ∧
 ∃ (n_1 : Int),
 takeAt PP (nat_lit 5) [keptFirstA] (nat_lit 0) (nat_lit 0 + n.toNat * nat_lit 1) = some (AV.int IntKind.u8 n_1) ∧
 (decide (n_1 ≥ (240 : Int)) = true →
 (0 : Int) ≤ (31 : Int) ∧
 (0 : Int) ≤ (31 : Int) ∧
 ((0 : Int) ≤ (0 : Int) ∧ (0 : Int) < (↑(bytesL bs).length : Int)) ∧
 ∃ (n : Int),
 takeAt PP (nat_lit 5) (bytesL bs) (nat_lit 0) (nat_lit 0) = some (AV.int IntKind.u8 n) ∧
 RetIs
 (AV.tup
 [AV.int IntKind.i32
 (IntKind.i32.wrap
 (↑(BitVec.ofInt IntKind.i32.bits
 (IntKind.i32.wrap
 (↑((fun (x y : BitVec IntKind.i32.bits) => x &&& ~~~y) (BitVec.ofInt IntKind.i32.bits (IntKind.i32.wrap n))
 (BitVec.ofInt IntKind.i32.bits
 ((IntKind.i32.wrap (IntKind.i32.wrap n_1 * (2147483648 : Int))).fdiv (2147483648 : Int)))).toNat :
 Int)) |||
 BitVec.ofInt IntKind.i32.bits
 (IntKind.i32.wrap
 (↑((fun (x1 x2 : BitVec IntKind.i32.bits) => x1 &&& x2) (BitVec.ofInt IntKind.i32.bits (65533 : Int))
 (BitVec.ofInt IntKind.i32.bits
 ((IntKind.i32.wrap (IntKind.i32.wrap n_1 * (2147483648 : Int))).fdiv (2147483648 : Int)))).toNat :
 Int))).toNat :
 Int)),
 AV.int IntKind.i64 (1 : Int)])
 []
 (AV.tup [AV.int IntKind.i32 (↑(decodeL bs (nat_lit 0)).fst : Int), AV.int IntKind.i64 (↑(decodeL bs (nat_lit 0)).snd : Int)],
 [])) ∧
 (decide (n_1 ≥ (240 : Int)) = false →
 (0 : Int) ≤ (4 : Int) ∧
 ((0 : Int) ≤ n_1.fdiv (16 : Int) ∧ n_1.fdiv (16 : Int) < (16 : Int)) ∧
 ∃ (n_2 : Int),
 ∃ (n_3 : Int),
 takeAt PP (nat_lit 98) [keptAccA] (nat_lit 0) (nat_lit 0 + (n_1.fdiv (16 : Int)).toNat * nat_lit 2) =
 some (AV.agg [AV.int IntKind.u8 n_2, AV.int IntKind.u8 n_3]) ∧
 (decide
 ((↑(bytesL bs).length : Int) <
 IntKind.i64.wrap
 (IntKind.u8.wrap (↑(BitVec.ofInt IntKind.u8.bits n_1 &&& BitVec.ofInt IntKind.u8.bits (7 : Int)).toNat : Int))) =
 true →
 RetIs (AV.tup [AV.int IntKind.i32 (65533 : Int), AV.int IntKind.i64 (1 : Int)]) []
 (AV.tup
 [AV.int IntKind.i32 (↑(decodeL bs (nat_lit 0)).fst : Int), AV.int IntKind.i64 (↑(decodeL bs (nat_lit 0)).snd : Int)],
 [])) ∧
 (decide
 ((↑(bytesL bs).length : Int) <
 IntKind.i64.wrap
 (IntKind.u8.wrap (↑(BitVec.ofInt IntKind.u8.bits n_1 &&& BitVec.ofInt IntKind.u8.bits (7 : Int)).toNat : Int))) =
 false →
 ((0 : Int) ≤ (1 : Int) ∧ (1 : Int) < (↑(bytesL bs).length : Int)) ∧
 ∃ (n_4 : Int),
 takeAt PP (nat_lit 5) (bytesL bs) (nat_lit 1) (nat_lit 0) = some (AV.int IntKind.u8 n_4) ∧
 (decide (n_4 < n_2) = true →
 RetIs (AV.tup [AV.int IntKind.i32 (65533 : Int), AV.int IntKind.i64 (1 : Int)]) []
 (AV.tup
 [AV.int IntKind.i32 (↑(decodeL bs (nat_lit 0)).fst : Int),
 AV.int IntKind.i64 (↑(decodeL bs (nat_lit 0)).snd : Int)],
 [])) ∧
 (decide (n_4 < n_2) = false →
 (decide (n_3 < n_4) = true →
 RetIs (AV.tup [AV.int IntKind.i32 (65533 : Int), AV.int IntKind.i64 (1 : Int)]) []
 (AV.tup
 [AV.int IntKind.i32 (↑(decodeL bs (nat_lit 0)).fst : Int),
 AV.int IntKind.i64 (↑(decodeL bs (nat_lit 0)).snd : Int)],
 [])) ∧
 (decide (n_3 < n_4) = false →
 (decide
 (IntKind.i64.wrap
 (IntKind.u8.wrap
 (↑(BitVec.ofInt IntKind.u8.bits n_1 &&& BitVec.ofInt IntKind.u8.bits (7 : Int)).toNat : Int)) ≤
 (2 : Int)) =
 true →
 (0 : Int) ≤ (6 : Int) ∧
 RetIs
 (AV.tup
 [AV.int IntKind.i32
 (IntKind.i32.wrap
 (↑(BitVec.ofInt IntKind.i32.bits
 (IntKind.i32.wrap
 (IntKind.i32.wrap
 (IntKind.u8.wrap
 (↑((fun (x1 x2 : BitVec IntKind.u8.bits) => x1 &&& x2)
 (BitVec.ofInt IntKind.u8.bits n)
 (BitVec.ofInt IntKind.u8.bits (31 : Int))).toNat :
 Int)) *
 (2 : Int) ^ min (Int.toNat (6 : Int)) IntKind.i32.bits)) |||
 BitVec.ofInt IntKind.i32.bits
 (IntKind.i32.wrap
 (IntKind.u8.wrap
 (↑((fun (x1 x2 : BitVec IntKind.u8.bits) => x1 &&& x2)
 (BitVec.ofInt IntKind.u8.bits n_4)
 (BitVec.ofInt IntKind.u8.bits (63 : Int))).toNat :
 Int)))).toNat :
 Int)),
 AV.int IntKind.i64 (2 : Int)])
 []
 (AV.tup
 [AV.int IntKind.i32 (↑(decodeL bs (nat_lit 0)).fst : Int),
 AV.int IntKind.i64 (↑(decodeL bs (nat_lit 0)).snd : Int)],
 [])) ∧
 (decide
 (IntKind.i64.wrap
 (IntKind.u8.wrap
 (↑(BitVec.ofInt IntKind.u8.bits n_1 &&& BitVec.ofInt IntKind.u8.bits (7 : Int)).toNat : Int)) ≤
 (2 : Int)) =
 false →
 ((0 : Int) ≤ (2 : Int) ∧ (2 : Int) < (↑(bytesL bs).length : Int)) ∧
 ∃ (n_5 : Int),
 takeAt PP (nat_lit 5) (bytesL bs) (nat_lit 2) (nat_lit 0) = some (AV.int IntKind.u8 n_5) ∧
 (decide (n_5 < (128 : Int)) = true →
 RetIs (AV.tup [AV.int IntKind.i32 (65533 : Int), AV.int IntKind.i64 (1 : Int)]) []
 (AV.tup
 [AV.int IntKind.i32 (↑(decodeL bs (nat_lit 0)).fst : Int),
 AV.int IntKind.i64 (↑(decodeL bs (nat_lit 0)).snd : Int)],
 [])) ∧
 (decide (n_5 < (128 : Int)) = false →
 (decide ((191 : Int) < n_5) = true →
 RetIs (AV.tup [AV.int IntKind.i32 (65533 : Int), AV.int IntKind.i64 (1 : Int)]) []
 (AV.tup
 [AV.int IntKind.i32 (↑(decodeL bs (nat_lit 0)).fst : Int),
 AV.int IntKind.i64 (↑(decodeL bs (nat_lit 0)).snd : Int)],
 [])) ∧
 (decide ((191 : Int) < n_5) = false →
 (decide
 (IntKind.i64.wrap
 (IntKind.u8.wrap
 (↑(BitVec.ofInt IntKind.u8.bits n_1 &&&
 BitVec.ofInt IntKind.u8.bits (7 : Int)).toNat :
 Int)) ≤
 (3 : Int)) =
 true →
 (0 : Int) ≤ (12 : Int) ∧
 (0 : Int) ≤ (6 : Int) ∧
 RetIs
 (AV.tup
 [AV.int IntKind.i32
 (IntKind.i32.wrap
 (↑(BitVec.ofInt IntKind.i32.bits
 (IntKind.i32.wrap
 (↑((fun (x1 x2 : BitVec IntKind.i32.bits) => x1 ||| x2)
 (BitVec.ofInt IntKind.i32.bits
 (IntKind.i32.wrap
 (IntKind.i32.wrap
 (IntKind.u8.wrap
 (↑((fun (x1 x2 : BitVec IntKind.u8.bits) =>
 x1 &&& x2)
 (BitVec.ofInt IntKind.u8.bits n)
 (BitVec.ofInt IntKind.u8.bits
 (15 : Int))).toNat :
 Int)) *
 (2 : Int) ^
 min (Int.toNat (12 : Int)) IntKind.i32.bits)))
 (BitVec.ofInt IntKind.i32.bits
 (IntKind.i32.wrap
 (IntKind.i32.wrap
 (IntKind.u8.wrap
 (↑((fun (x1 x2 : BitVec IntKind.u8.bits) =>
 x1 &&& x2)
 (BitVec.ofInt IntKind.u8.bits n_4)
 (BitVec.ofInt IntKind.u8.bits
 (63 : Int))).toNat :
 Int)) *
 (2 : Int) ^
 min (Int.toNat (6 : Int))
 IntKind.i32.bits)))).toNat :
 Int)) |||
 BitVec.ofInt IntKind.i32.bits
 (IntKind.i32.wrap
 (IntKind.u8.wrap
 (↑((fun (x1 x2 : BitVec IntKind.u8.bits) => x1 &&& x2)
 (BitVec.ofInt IntKind.u8.bits n_5)
 (BitVec.ofInt IntKind.u8.bits (63 : Int))).toNat :
 Int)))).toNat :
 Int)),
 AV.int IntKind.i64 (3 : Int)])
 []
 (AV.tup
 [AV.int IntKind.i32 (↑(decodeL bs (nat_lit 0)).fst : Int),
 AV.int IntKind.i64 (↑(decodeL bs (nat_lit 0)).snd : Int)],
 [])) ∧
 (decide
 (IntKind.i64.wrap
 (IntKind.u8.wrap
 (↑(BitVec.ofInt IntKind.u8.bits n_1 &&&
 BitVec.ofInt IntKind.u8.bits (7 : Int)).toNat :
 Int)) ≤
 (3 : Int)) =
 false →
 ((0 : Int) ≤ (3 : Int) ∧ (3 : Int) < (↑(bytesL bs).length : Int)) ∧
 ∃ (n_6 : Int),
 takeAt PP (nat_lit 5) (bytesL bs) (nat_lit 3) (nat_lit 0) =
 some (AV.int IntKind.u8 n_6) ∧
 (decide (n_6 < (128 : Int)) = true →
 RetIs (AV.tup [AV.int IntKind.i32 (65533 : Int), AV.int IntKind.i64 (1 : Int)])
 []
 (AV.tup
 [AV.int IntKind.i32 (↑(decodeL bs (nat_lit 0)).fst : Int),
 AV.int IntKind.i64 (↑(decodeL bs (nat_lit 0)).snd : Int)],
 [])) ∧
 (decide (n_6 < (128 : Int)) = false →
 (decide ((191 : Int) < n_6) = true →
 RetIs
 (AV.tup [AV.int IntKind.i32 (65533 : Int), AV.int IntKind.i64 (1 : Int)])
 []
 (AV.tup
 [AV.int IntKind.i32 (↑(decodeL bs (nat_lit 0)).fst : Int),
 AV.int IntKind.i64 (↑(decodeL bs (nat_lit 0)).snd : Int)],
 [])) ∧
 (decide ((191 : Int) < n_6) = false →
 (0 : Int) ≤ (18 : Int) ∧
 (0 : Int) ≤ (12 : Int) ∧
 (0 : Int) ≤ (6 : Int) ∧
 RetIs
 (AV.tup
 [AV.int IntKind.i32
 (IntKind.i32.wrap
 (↑(BitVec.ofInt IntKind.i32.bits
 (IntKind.i32.wrap
 (↑((fun (x1 x2 : BitVec IntKind.i32.bits) =>
 x1 ||| x2)
 (BitVec.ofInt IntKind.i32.bits
 (IntKind.i32.wrap
 (↑((fun
 (x1 x2 :
 BitVec
 IntKind.i32.bits) =>
 x1 ||| x2)
 (BitVec.ofInt
 IntKind.i32.bits
 (IntKind.i32.wrap
 (IntKind.i32.wrap
 (IntKind.u8.wrap
 (↑((fun
 (x1
 x2 :
 BitVec
 IntKind.u8.bits) =>
 x1 &&&
 x2)
 (BitVec.ofInt
 IntKind.u8.bits
 n)
 (BitVec.ofInt
 IntKind.u8.bits
 (7 :
 Int))).toNat :
 Int)) *
 (2 : Int) ^
 min
 (Int.toNat
 (18 : Int))
 IntKind.i32.bits)))
 (BitVec.ofInt
 IntKind.i32.bits
 (IntKind.i32.wrap
 (IntKind.i32.wrap
 (IntKind.u8.wrap
 (↑((fun
 (x1
 x2 :
 BitVec
 IntKind.u8.bits) =>
 x1 &&&
 x2)
 (BitVec.ofInt
 IntKind.u8.bits
 n_4)
 (BitVec.ofInt
 IntKind.u8.bits
 (63 :
 Int))).toNat :
 Int)) *
 (2 : Int) ^
 min
 (Int.toNat
 (12 : Int))
 IntKind.i32.bits)))).toNat :
 Int)))
 (BitVec.ofInt IntKind.i32.bits
 (IntKind.i32.wrap
 (IntKind.i32.wrap
 (IntKind.u8.wrap
 (↑((fun
 (x1 x2 :
 BitVec
 IntKind.u8.bits) =>
 x1 &&& x2)
 (BitVec.ofInt
 IntKind.u8.bits n_5)
 (BitVec.ofInt
 IntKind.u8.bits
 (63 : Int))).toNat :
 Int)) *
 (2 : Int) ^
 min (Int.toNat (6 : Int))
 IntKind.i32.bits)))).toNat :
 Int)) |||
 BitVec.ofInt IntKind.i32.bits
 (IntKind.i32.wrap
 (IntKind.u8.wrap
 (↑((fun (x1 x2 : BitVec IntKind.u8.bits) =>
 x1 &&& x2)
 (BitVec.ofInt IntKind.u8.bits n_6)
 (BitVec.ofInt IntKind.u8.bits
 (63 : Int))).toNat :
 Int)))).toNat :
 Int)),
 AV.int IntKind.i64 (4 : Int)])
 []
 (AV.tup
 [AV.int IntKind.i32 (↑(decodeL bs (nat_lit 0)).fst : Int),
 AV.int IntKind.i64 (↑(decodeL bs (nat_lit 0)).snd : Int)],
 []))))))))))))) := by kernel_rfl
theorem w58 (m : Int) (bs : List UInt8) : (pureW PP (G8 m) XA (tbl [(71, s71)]) (itbl []) (a58 bs) [] 58 [.sl 1 (bytesL bs) .no] (decA bs, [])) =
((∃ (_y : Unit),
    ValsAre
        [AV.sl (nat_lit 1) (bytesL bs) Own.no, AV.sl (nat_lit 1) (bytesL bs) Own.no, AV.int IntKind.i64 (↑(bytesL bs).length : Int),
 AV.int IntKind.i64 (0 : Int)]
        [AV.sl (nat_lit 1) (bytesL bs) Own.no, AV.sl (nat_lit 1) (bytesL bs) Own.no, AV.int IntKind.i64 (↑bs.length : Int), AV.int IntKind.i64 (0 : Int)] ∧
      StIs { boxes := [], live := [] } { boxes := [], live := [] } ∧ True ∧ True) ∧
  ∀ (_x : Unit),
    True →
      (decide ((0 : Int) < (↑bs.length : Int)) = true →
 ((0 : Int) ≤ (0 : Int) ∧ (0 : Int) < (↑(bytesL bs).length : Int)) ∧
 ∃ (n : Int),
 takeAt PP (nat_lit 5) (bytesL bs) (nat_lit 0) (nat_lit 0) = some (AV.int IntKind.u8 n) ∧
 (decide (n < (128 : Int)) = true →
 RetIs (AV.tup [AV.int IntKind.i32 (IntKind.i32.wrap n), AV.int IntKind.i64 (1 : Int)]) []
 (AV.tup [AV.int IntKind.i32 (↑(decodeL bs (nat_lit 0)).fst : Int), AV.int IntKind.i64 (↑(decodeL bs (nat_lit 0)).snd : Int)], [])) ∧
 (decide (n < (128 : Int)) = false →
 ∃ (n : Int),
 ∃ (n_1 : Int),
 CallIs (tbl [(nat_lit 71, s71)] (nat_lit 71) [AV.sl (nat_lit 1) (bytesL bs) Own.no])
 (AV.tup [AV.int IntKind.i32 n, AV.int IntKind.i64 n_1]) [] ∧
 RetIs (AV.tup [AV.int IntKind.i32 n, AV.int IntKind.i64 n_1]) []
 (AV.tup [AV.int IntKind.i32 (↑(decodeL bs (nat_lit 0)).fst : Int), AV.int IntKind.i64 (↑(decodeL bs (nat_lit 0)).snd : Int)],
 []))) ∧
        (decide ((0 : Int) < (↑bs.length : Int)) = false →
 ∃ (n : Int),
 ∃ (n_1 : Int),
 CallIs (tbl [(nat_lit 71, s71)] (nat_lit 71) [AV.sl (nat_lit 1) (bytesL bs) Own.no]) (AV.tup [AV.int IntKind.i32 n, AV.int IntKind.i64 n_1]) [] ∧
 RetIs (AV.tup [AV.int IntKind.i32 n, AV.int IntKind.i64 n_1]) []
 (AV.tup [AV.int IntKind.i32 (↑(decodeL bs (nat_lit 0)).fst : Int), AV.int IntKind.i64 (↑(decodeL bs (nat_lit 0)).snd : Int)], []))) := by kernel_rfl
end Go.Abs

namespace Go.Abs
open Go.Proofs L8

theorem raw_and8 (x y : Int) : IntKind.u8.wrap (↑(BitVec.ofInt IntKind.u8.bits x &&& BitVec.ofInt IntKind.u8.bits y).toNat) = bits .and .u8 x y := rfl
theorem raw_or32 (x y : Int) : IntKind.i32.wrap (↑(BitVec.ofInt IntKind.i32.bits x ||| BitVec.ofInt IntKind.i32.bits y).toNat) = bits .or .i32 x y := rfl
theorem raw_and32 (x y : Int) : IntKind.i32.wrap (↑(BitVec.ofInt IntKind.i32.bits x &&& BitVec.ofInt IntKind.i32.bits y).toNat) = bits .and .i32 x y := rfl
theorem raw_not32 (x y : Int) : IntKind.i32.wrap (↑(BitVec.ofInt IntKind.i32.bits x &&& ~~~BitVec.ofInt IntKind.i32.bits y).toNat) = bits .andNot .i32 x y := rfl
theorem pw6 : (2 : Int) ^ min (Int.toNat (6 : Int)) IntKind.i32.bits = 64 := rfl
theorem pw12 : (2 : Int) ^ min (Int.toNat (12 : Int)) IntKind.i32.bits = 4096 := rfl
theorem pw18 : (2 : Int) ^ min (Int.toNat (18 : Int)) IntKind.i32.bits = 262144 := rfl
theorem firstAt {c : Nat} (h : c < 256) : takeAt PP 5 [keptFirstA] 0 c = some (.int .u8 (Lib.firstT c)) := by
  have ha : aggA PP 5 = some false := by kernel_rfl
  have hs : ∃ s, sizeA PP 5 = some s := ⟨1, by kernel_rfl⟩
  obtain ⟨s, hs⟩ := hs
  simp only [takeAt, List.getElem?_cons_zero, ha, hs, takeA, keptFirstA, AV.cells, keptFirst, List.getElem?_map, List.getElem?_range h, Option.map_some]
theorem accAt {i : Nat} (h : i < 16) : takeAt PP 98 [keptAccA] 0 (i * 2) = some (.agg [.int .u8 (Lib.accLo i), .int .u8 (Lib.accHi i)]) := by
  have ha : aggA PP 98 = some true := by kernel_rfl
  have hs : sizeA PP 98 = some 2 := by kernel_rfl
  simp only [takeAt, List.getElem?_cons_zero, ha, hs, takeA, keptAccA, AV.cells]
  match i, h with
  | 0, _ | 1, _ | 2, _ | 3, _ | 4, _ | 5, _ | 6, _ | 7, _ | 8, _ | 9, _ | 10, _ | 11, _ | 12, _ | 13, _ | 14, _ | 15, _ => rfl
  | i + 16, h => exact absurd h (by omega)
theorem firstT_cases (b : Nat) : Lib.firstT b = 240 ∨ Lib.firstT b = 241 ∨ Lib.firstT b = 2 ∨ Lib.firstT b = 19 ∨ Lib.firstT b = 3 ∨ Lib.firstT b = 35 ∨ Lib.firstT b = 52 ∨ Lib.firstT b = 4 ∨ Lib.firstT b = 68 := by
  unfold Lib.firstT
  repeat' split
  all_goals simp
theorem u8at {l : List UInt8} {i : Nat} (h : i < l.length) : takeAt PP 5 (bytesL l) i 0 = some (.int .u8 (l.getD i 0).toNat) :=
  (take_u8_iff (by kernel_rfl) (by kernel_rfl)).2 ⟨h, rfl⟩
theorem firstT_lt (b : Nat) : Lib.firstT b < 256 := by
  rcases firstT_cases b with h | h | h | h | h | h | h | h | h <;> omega
theorem getB {l : List UInt8} {i : Nat} : (((⟨l.toArray⟩ : ByteArray).get! i).toNat) = (l.getD i 0).toNat := by
  show ((l.toArray)[i]!).toNat = _
  simp only [List.getElem!_toArray, List.getElem!_eq_getElem?_getD, List.getD_eq_getElem?_getD]
  rfl
theorem decodeL_eq (l : List UInt8) : decodeL l 0 = Lib.decodeN l.length (l.getD 0 0).toNat (l.getD 1 0).toNat (l.getD 2 0).toNat (l.getD 3 0).toNat := by
  have h := Lib.decode_at ⟨l.toArray⟩ 0
  simp only [getB, Nat.zero_add] at h
  exact h
theorem p55 (m n : Int) : PureOk PP (G8 m) XA (tbl []) (itbl []) nAn [] 55 [.int .i64 n] (.bool (decide (8 < n)), []) := by
  constructor
  rw [w55]
  simp only [retIs_iff, Prod.mk.injEq, AV.bool.injEq, and_true, decide_eq_true_eq, decide_eq_false_iff_not]
  exact ⟨fun h => (decide_eq_true (by omega)).symm, fun h => (decide_eq_false (by omega)).symm⟩
theorem hi_bad : bits .or .i32 (bits .andNot .i32 0 (-1)) (bits .and .i32 65533 (-1)) = 65533 := by decide
set_option maxRecDepth 100000 in
theorem bad_rune {n : Int} (h0 : 0 ≤ n) (h1 : n < 256) : bits .or .i32 (bits .andNot .i32 n (-1)) (bits .and .i32 65533 (-1)) = 65533 := by
  have : ∀ x : Fin 256, bits .or .i32 (bits .andNot .i32 ((x.val : Nat) : Int) (-1)) (bits .and .i32 65533 (-1)) = 65533 := by decide
  have h := this ⟨n.toNat, by omega⟩
  simp only [Int.toNat_of_nonneg h0] at h
  exact h
theorem wrap32_in {n : Int} (h0 : -2147483648 ≤ n) (h1 : n < 2147483648) : IntKind.i32.wrap n = n := by rw [IntKind.wrap_i32]; omega
set_option maxRecDepth 100000 in
set_option maxHeartbeats 4000000 in
theorem p71 (m : Int) (bs : List UInt8) (h : hiB bs) (hl : bs.length ≤ 1000000) : PureOk PP (G8 m) XA (tbl []) (itbl []) nAn [] 71 [.sl 1 (bytesL bs) .no] (decA bs, []) := by
  constructor
  rw [w71]
  simp only [retIs_iff, bytesL_length, decide_eq_true_eq, decide_eq_false_iff_not, ge_iff_le, Prod.mk.injEq, AV.tup.injEq, List.cons.injEq, AV.int.injEq, and_true, true_and, raw_and8, raw_or32, raw_and32, raw_not32, pw6, pw12, pw18, Nat.zero_add, Nat.mul_one]
  rw [decodeL_eq]
  have hb : ∀ i, (bs.getD i 0).toNat < 256 := fun i => (bs.getD i 0).toNat_lt
  have hlen : 1 ≤ bs.length := by obtain ⟨c, t, rfl, _⟩ := h; simp
  have h128 : 128 ≤ (bs.getD 0 0).toNat := by obtain ⟨c, t, rfl, h⟩ := h; simpa using h
  have hx0 : Lib.firstT (bs.getD 0 0).toNat ≠ 240 := by
    unfold Lib.firstT
    repeat' split
    all_goals omega
  have slow := Lib.slow_eq bs.length (bs.getD 0 0).toNat (bs.getD 1 0).toNat (bs.getD 2 0).toNat (bs.getD 3 0).toNat hlen (hb 1) (hb 2) (hb 3)
  have bad := Lib.bad_eq bs.length (bs.getD 0 0).toNat (bs.getD 1 0).toNat (bs.getD 2 0).toNat (bs.getD 3 0).toNat (hb 0)
  have hcs := firstT_cases (bs.getD 0 0).toNat
  have hb0 := hb 0
  have hb1 := hb 1
  have hb2 := hb 2
  have hb3 := hb 3
  have t0 := u8at (l := bs) (i := 0) (by omega)
  have t1 : 1 < bs.length → _ := fun h => u8at (l := bs) (i := 1) h
  have t2 : 2 < bs.length → _ := fun h => u8at (l := bs) (i := 2) h
  have t3 : 3 < bs.length → _ := fun h => u8at (l := bs) (i := 3) h
  have tf := firstAt hb0
  have hbb0 : ∀ k, IntKind.i32.wrap (bits .and .u8 ((bs.getD 0 0).toNat : Int) k) = bits .and .u8 ((bs.getD 0 0).toNat : Int) k := fun k => wrap32_in (by unfold bits; rw [IntKind.wrap_u8]; omega) (by unfold bits; rw [IntKind.wrap_u8]; omega)
  generalize (bs.getD 0 0).toNat = b0 at *
  generalize (bs.getD 1 0).toNat = b1 at *
  generalize (bs.getD 2 0).toNat = b2 at *
  generalize (bs.getD 3 0).toNat = b3 at *
  have w8 : ∀ {n : Int}, 0 ≤ n → n < 256 → IntKind.i32.wrap n = n := fun h0 h1 => wrap32_in (by omega) (by omega)
  refine ⟨fun h => by omega, fun _ => ⟨by omega, (b0 : Int), t0, by omega, ?_⟩⟩
  rw [Int.toNat_natCast]
  refine ⟨_, tf, fun hx => ?_, fun hx => ?_⟩
  · have he : Lib.firstT b0 = 241 := by omega
    refine ⟨by omega, by omega, by omega, _, t0, ?_⟩
    rw [he, bad he]
    have e1 : (IntKind.i32.wrap (IntKind.i32.wrap ((241 : Nat) : Int) * 2147483648)).fdiv 2147483648 = -1 := by decide
    rw [e1, w8 (by omega) (by omega), bad_rune (by omega) (by omega)]
    exact ⟨rfl, rfl⟩
  · have hlow : Lib.firstT b0 < 240 := by omega
    have hs := slow hlow
    have hd : ((Lib.firstT b0 : Int)).fdiv 16 = ((Lib.firstT b0 / 16 : Nat) : Int) := by
      rw [Int.fdiv_eq_ediv_of_nonneg _ (by omega)]; rfl
    have hsz : IntKind.i64.wrap (bits .and .u8 (Lib.firstT b0 : Int) 7) = ((Lib.firstT b0 % 8 : Nat) : Int) := by
      have := u8_and7 (x := (Lib.firstT b0 : Int)) (by omega) (by omega)
      rw [this, wrap64_in (by omega) (by omega)]; rfl
    have ta := accAt (i := Lib.firstT b0 / 16) (by omega)
    simp only [hd, hsz, Int.toNat_natCast, decide_eq_true_eq, decide_eq_false_iff_not]
    have hszc : Lib.firstT b0 % 8 = 2 ∨ Lib.firstT b0 % 8 = 3 ∨ Lib.firstT b0 % 8 = 4 := by omega
    generalize Lib.firstT b0 % 8 = sz at *
    generalize Lib.accLo (Lib.firstT b0 / 16) = lo at *
    generalize Lib.accHi (Lib.firstT b0 / 16) = hi at *
    have a31 := u8_and31 (x := (b0 : Int)) (by omega) (by omega)
    have a15 := u8_and15 (x := (b0 : Int)) (by omega) (by omega)
    have a7 := u8_and7 (x := (b0 : Int)) (by omega) (by omega)
    have c1 := u8_and63 (x := (b1 : Int)) (by omega) (by omega)
    have c2 := u8_and63 (x := (b2 : Int)) (by omega) (by omega)
    have c3 := u8_and63 (x := (b3 : Int)) (by omega) (by omega)
    refine ⟨by omega, by omega, _, _, ta, fun h1 => ?_, fun h1 => ⟨by omega, _, t1 (by omega), fun h2 => ?_, fun h2 => ⟨fun h3 => ?_, fun h3 => ⟨fun h4 => ⟨by omega, ?_⟩, fun h4 => ⟨by omega, _, t2 (by omega), fun h5 => ?_, fun h5 => ⟨fun h6 => ?_, fun h6 => ⟨fun h7 => ⟨by omega, by omega, ?_⟩, fun h7 => ⟨by omega, _, t3 (by omega), fun h8 => ?_, fun h8 => ⟨fun h9 => ?_, fun h9 => ⟨by omega, by omega, by omega, ?_⟩⟩⟩⟩⟩⟩⟩⟩⟩⟩
    · rw [← hs, Lib.slowN, if_pos (by omega)]; exact ⟨rfl, rfl⟩
    · rw [← hs, Lib.slowN, if_neg (by omega), if_pos (by omega)]; exact ⟨rfl, rfl⟩
    · rw [← hs, Lib.slowN, if_neg (by omega), if_pos (by omega)]; exact ⟨rfl, rfl⟩
    · rw [← hs, Lib.slowN, if_neg (by omega), if_neg (by omega), if_pos (by omega)]
      refine ⟨?_, rfl⟩
      rw [a31, c1, wrap32_in (n := (b0 : Int) % 32) (by omega) (by omega), wrap32_in (n := (b1 : Int) % 64) (by omega) (by omega), wrap32_in (n := (b0 : Int) % 32 * 64) (by omega) (by omega), i32_or6 (x := (b0 : Int) % 32 * 64) (y := (b1 : Int) % 64) (by omega) (by omega) (by omega) (by omega) (by omega)]
      simp
    · rw [← hs, Lib.slowN, if_neg (by omega), if_neg (by omega), if_neg (by omega), if_pos (by omega)]; exact ⟨rfl, rfl⟩
    · rw [← hs, Lib.slowN, if_neg (by omega), if_neg (by omega), if_neg (by omega), if_pos (by omega)]; exact ⟨rfl, rfl⟩
    · rw [← hs, Lib.slowN, if_neg (by omega), if_neg (by omega), if_neg (by omega), if_neg (by omega), if_pos (by omega)]
      refine ⟨?_, rfl⟩
      rw [a15, c1, c2, wrap32_in (n := (b0 : Int) % 16) (by omega) (by omega), wrap32_in (n := (b1 : Int) % 64) (by omega) (by omega), wrap32_in (n := (b2 : Int) % 64) (by omega) (by omega), wrap32_in (n := (b0 : Int) % 16 * 4096) (by omega) (by omega), wrap32_in (n := (b1 : Int) % 64 * 64) (by omega) (by omega),
        i32_or12 (x := (b0 : Int) % 16 * 4096) (y := (b1 : Int) % 64 * 64) (by omega) (by omega) (by omega) (by omega) (by omega), i32_or6 (x := (b0 : Int) % 16 * 4096 + (b1 : Int) % 64 * 64) (y := (b2 : Int) % 64) (by omega) (by omega) (by omega) (by omega) (by omega)]
      simp
    · rw [← hs, Lib.slowN, if_neg (by omega), if_neg (by omega), if_neg (by omega), if_neg (by omega), if_neg (by omega), if_pos (by omega)]; exact ⟨rfl, rfl⟩
    · rw [← hs, Lib.slowN, if_neg (by omega), if_neg (by omega), if_neg (by omega), if_neg (by omega), if_neg (by omega), if_pos (by omega)]; exact ⟨rfl, rfl⟩
    · rw [← hs, Lib.slowN, if_neg (by omega), if_neg (by omega), if_neg (by omega), if_neg (by omega), if_neg (by omega), if_neg (by omega)]
      refine ⟨?_, rfl⟩
      rw [a7, c1, c2, c3, wrap32_in (n := (b0 : Int) % 8) (by omega) (by omega), wrap32_in (n := (b1 : Int) % 64) (by omega) (by omega), wrap32_in (n := (b2 : Int) % 64) (by omega) (by omega), wrap32_in (n := (b3 : Int) % 64) (by omega) (by omega), wrap32_in (n := (b0 : Int) % 8 * 262144) (by omega) (by omega), wrap32_in (n := (b1 : Int) % 64 * 4096) (by omega) (by omega), wrap32_in (n := (b2 : Int) % 64 * 64) (by omega) (by omega),
        i32_or18 (x := (b0 : Int) % 8 * 262144) (y := (b1 : Int) % 64 * 4096) (by omega) (by omega) (by omega) (by omega) (by omega), i32_or12 (x := (b0 : Int) % 8 * 262144 + (b1 : Int) % 64 * 4096) (y := (b2 : Int) % 64 * 64) (by omega) (by omega) (by omega) (by omega) (by omega), i32_or6 (x := (b0 : Int) % 8 * 262144 + (b1 : Int) % 64 * 4096 + (b2 : Int) % 64 * 64) (y := (b3 : Int) % 64) (by omega) (by omega) (by omega) (by omega) (by omega)]
      simp
end Go.Abs

namespace Go.Abs
open Go.Proofs L8

structure DecF (n b1 b2 b3 : Nat) (d : Nat × Nat) : Prop where
  pos : 1 ≤ d.2
  le4 : d.2 ≤ 4
  le : d.2 ≤ n
  hi : 128 ≤ d.1
  b1 : 1 < d.2 → 128 ≤ b1
  b2 : 2 < d.2 → 128 ≤ b2
  b3 : 3 < d.2 → 128 ≤ b3
  len : d.1 ≠ 65533 → (d.2 = 2 ∧ d.1 < 2048) ∨ (d.2 = 3 ∧ 2048 ≤ d.1 ∧ d.1 < 65536) ∨ (d.2 = 4 ∧ 65536 ≤ d.1)
  ok : (0 ≤ d.1 ∧ d.1 < 55296) ∨ (57344 ≤ d.1 ∧ d.1 ≤ 1114111)
set_option maxHeartbeats 2000000 in
theorem decF {n b0 b1 b2 b3 : Nat} (hn : 1 ≤ n) (h0 : 128 ≤ b0) (h0' : b0 < 256) (h1 : b1 < 256) (h2 : b2 < 256) (h3 : b3 < 256) : DecF n b1 b2 b3 (Lib.decodeN n b0 b1 b2 b3) := by
  unfold Lib.decodeN
  rw [if_neg (by omega)]
  repeat' split
  all_goals constructor
  all_goals try omega
  all_goals try (simp only; omega)

theorem encF (r : Nat) (h : 128 ≤ r) : ∃ e0 u, (Utf8.encode (r : Int)).data.toList = e0 :: u ∧ 192 ≤ e0.toNat ∧ (((r < 55296) ∨ (57344 ≤ r ∧ r ≤ 1114111)) → (r < 2048 → u.length = 1) ∧ (2048 ≤ r → r < 65536 → u.length = 2) ∧ (65536 ≤ r → u.length = 3)) := by
  have key : ∀ c, 128 ≤ c → ∃ e0 u, ((if c < 0x80 then (⟨#[UInt8.ofNat c]⟩ : ByteArray)
  else if c < 0x800 then ⟨#[UInt8.ofNat (0xC0 + c / 64), UInt8.ofNat (0x80 + c % 64)]⟩
  else if c < 0x10000 then ⟨#[UInt8.ofNat (0xE0 + c / 4096), UInt8.ofNat (0x80 + c / 64 % 64), UInt8.ofNat (0x80 + c % 64)]⟩
  else ⟨#[UInt8.ofNat (0xF0 + c / 262144), UInt8.ofNat (0x80 + c / 4096 % 64), UInt8.ofNat (0x80 + c / 64 % 64), UInt8.ofNat (0x80 + c % 64)]⟩).data.toList = e0 :: u) ∧ (c ≤ 1114111 → 192 ≤ e0.toNat) ∧ (c < 2048 → u.length = 1) ∧ (2048 ≤ c → c < 65536 → u.length = 2) ∧ (65536 ≤ c → u.length = 3) := by
    intro c hc
    rw [if_neg (by omega)]
    have hof : ∀ n, n < 256 → (UInt8.ofNat n).toNat = n := fun n hn => by simp; omega
    by_cases h1 : c < 0x800
    · rw [if_pos h1]
      exact ⟨_, _, rfl, fun _ => by rw [hof _ (by omega)]; omega, fun _ => rfl, fun h => by omega, fun h => by omega⟩
    · rw [if_neg h1]
      by_cases h2 : c < 0x10000
      · rw [if_pos h2]
        exact ⟨_, _, rfl, fun _ => by rw [hof _ (by omega)]; omega, fun h => by omega, fun _ _ => rfl, fun h => by omega⟩
      · rw [if_neg h2]
        exact ⟨_, _, rfl, fun _ => by rw [hof _ (by omega)]; omega, fun h => by omega, fun _ _ => by omega, fun _ => rfl⟩
  unfold Utf8.encode
  by_cases hv : Utf8.valid (r : Int) = true
  · simp only [hv, if_true, Int.toNat_natCast]
    obtain ⟨e0, u, h1, h2, h3⟩ := key r h
    refine ⟨e0, u, h1, h2 ?_, fun _ => h3⟩
    simp only [Utf8.valid, Bool.or_eq_true, Bool.and_eq_true, decide_eq_true_eq] at hv
    omega
  · simp only [hv, if_false, Bool.false_eq_true, Utf8.runeError]
    obtain ⟨e0, u, h1, h2, h3⟩ := key 0xFFFD (by omega)
    refine ⟨e0, u, h1, h2 (by omega), fun h' => ?_⟩
    simp only [Utf8.valid, Bool.or_eq_true, Bool.and_eq_true, decide_eq_true_eq] at hv
    omega
/-- nothing of a rune beyond ASCII is a quote or the end of a line -/
theorem idx_none {e0 : UInt8} {u : List UInt8} (h : 192 ≤ e0.toNat) : Lib.index [34, 10] (e0 :: u) = -1 := by
  have h1 : ¬ e0 = 34 := by rintro rfl; simp at h
  have h2 : ¬ e0 = 10 := by rintro rfl; simp at h
  have e1 : (e0 == 34) = false := by simpa using h1
  have e2 : (e0 == 10) = false := by simpa using h2
  simp [Lib.index, List.isPrefixOf, e1, e2]
theorem ne_none {e0 : UInt8} {u : List UInt8} (h : 192 ≤ e0.toNat) : ([34, 10] == e0 :: u) = false := by
  have h1 : ¬ 34 = e0 := by rintro rfl; simp at h
  simp [h1]
theorem tw_add {p : UInt8 → Bool} : ∀ {k : Nat} {l : List UInt8} {x : Nat}, x ≤ (l.takeWhile p).length → (∀ i, i < k → x + i < l.length ∧ p (l.getD (x + i) 0) = true) → x + k ≤ (l.takeWhile p).length
  | 0, l, x, hx, _ => hx
  | k + 1, l, x, hx, h => by
    have h0 := h 0 (by omega)
    have h1 := tw_next (p := p) hx h0.1 h0.2
    have := tw_add (p := p) (k := k) (l := l) (x := x + 1) h1 fun i hi => by
      have := h (i + 1) (by omega)
      rw [show x + 1 + i = x + (i + 1) by omega]; exact this
    omega
end Go.Abs

namespace Go.Abs
open Go.Proofs L8
theorem w40 (m : Int) (bs : List UInt8) : (pureW PP (G8 m) XA (tbl [(53, sIndexByteString), (55, s55), (56, s56), (58, s58), (59, s59 m)]) (itbl [(57, s57)]) (a40 bs) [] 40 [.sl 1 (bytesL bs) .no, .str [34, 10]] (.int .i64 (if stL bs < bs.length then (stL bs : Int) else -1), [])) =
((false = true → RetIs (AV.int IntKind.i64 (-1 : Int)) [] (AV.int IntKind.i64 (if stL bs < bs.length then (↑(stL bs) : Int) else (-1 : Int)), [])) ∧
  (false = false →
    (((↑(bytesL bs).length : Int) == (1 : Int)) = true →
        ((0 : Int) ≤ (0 : Int) ∧ (0 : Int) < (↑(bytesL bs).length : Int)) ∧
 ∃ (n : Int),
 takeAt PP (nat_lit 5) (bytesL bs) (nat_lit 0) (nat_lit 0) = some (AV.int IntKind.u8 n) ∧
 (decide (IntKind.i32.wrap n ≥ (128 : Int)) = true →
 (nat_lit 0 < nat_lit 2 →
 (true = true →
 (false = true →
 RetIs (AV.int IntKind.i64 (0 : Int)) [] (AV.int IntKind.i64 (if stL bs < bs.length then (↑(stL bs) : Int) else (-1 : Int)), [])) ∧
 (false = false →
 (nat_lit 1 < nat_lit 2 →
 (true = true →
 (false = true →
 RetIs (AV.int IntKind.i64 (0 : Int)) []
 (AV.int IntKind.i64 (if stL bs < bs.length then (↑(stL bs) : Int) else (-1 : Int)), [])) ∧
 (false = false →
 (nat_lit 2 < nat_lit 2 →
 (true = true →
 (false = true →
 RetIs (AV.int IntKind.i64 (0 : Int)) []
 (AV.int IntKind.i64 (if stL bs < bs.length then (↑(stL bs) : Int) else (-1 : Int)), [])) ∧
 (false = false → False)) ∧
 (true = false →
 RetIs (AV.int IntKind.i64 (-1 : Int)) []
 (AV.int IntKind.i64 (if stL bs < bs.length then (↑(stL bs) : Int) else (-1 : Int)), []))) ∧
 (nat_lit 2 ≤ nat_lit 2 →
 (false = true → False) ∧
 (false = false →
 RetIs (AV.int IntKind.i64 (-1 : Int)) []
 (AV.int IntKind.i64 (if stL bs < bs.length then (↑(stL bs) : Int) else (-1 : Int)), []))))) ∧
 (true = false →
 RetIs (AV.int IntKind.i64 (-1 : Int)) []
 (AV.int IntKind.i64 (if stL bs < bs.length then (↑(stL bs) : Int) else (-1 : Int)), []))) ∧
 (nat_lit 2 ≤ nat_lit 1 →
 (false = true → False) ∧
 (false = false →
 RetIs (AV.int IntKind.i64 (-1 : Int)) []
 (AV.int IntKind.i64 (if stL bs < bs.length then (↑(stL bs) : Int) else (-1 : Int)), []))))) ∧
 (true = false →
 RetIs (AV.int IntKind.i64 (-1 : Int)) [] (AV.int IntKind.i64 (if stL bs < bs.length then (↑(stL bs) : Int) else (-1 : Int)), []))) ∧
 (nat_lit 2 ≤ nat_lit 0 →
 (false = true → False) ∧
 (false = false →
 RetIs (AV.int IntKind.i64 (-1 : Int)) [] (AV.int IntKind.i64 (if stL bs < bs.length then (↑(stL bs) : Int) else (-1 : Int)), [])))) ∧
 (decide (IntKind.i32.wrap n ≥ (128 : Int)) = false →
 ((0 : Int) ≤ (0 : Int) ∧ (0 : Int) < (↑(bytesL bs).length : Int)) ∧
 ∃ (n : Int),
 takeAt PP (nat_lit 5) (bytesL bs) (nat_lit 0) (nat_lit 0) = some (AV.int IntKind.u8 n) ∧
 ∃ (n_1 : Int),
 CallIs (some (AV.int IntKind.i64 (Lib.indexByte [(34 : UInt8), (10 : UInt8)] n.toNat.toUInt8), [])) (AV.int IntKind.i64 n_1) [] ∧
 (decide (n_1 ≥ (0 : Int)) = true →
 RetIs (AV.int IntKind.i64 (0 : Int)) []
 (AV.int IntKind.i64 (if stL bs < bs.length then (↑(stL bs) : Int) else (-1 : Int)), [])) ∧
 (decide (n_1 ≥ (0 : Int)) = false →
 RetIs (AV.int IntKind.i64 (-1 : Int)) []
 (AV.int IntKind.i64 (if stL bs < bs.length then (↑(stL bs) : Int) else (-1 : Int)), [])))) ∧
      (((↑(bytesL bs).length : Int) == (1 : Int)) = false →
        (false = true →
 (0 : Int) ≤ (0 : Int) ∧
 ∃ (c : UInt8),
 some (34 : UInt8) = some c ∧
 (decide (IntKind.i32.wrap (↑c.toNat : Int) ≥ (128 : Int)) = true → False) ∧
 (decide (IntKind.i32.wrap (↑c.toNat : Int) ≥ (128 : Int)) = false → False)) ∧
 (false = false →
 ∃ (b : Bool),
 CallIs (some (AV.bool (decide ((8 : Int) < (↑(bytesL bs).length : Int))), [])) (AV.bool b) [] ∧
 (b = true →
 CallIs (some (AV.tup [keptSetA, AV.bool true], [])) (AV.tup [keptSetA, AV.bool true]) [] ∧
 (true = true →
 (∃ (y : Nat),
 ValsAre
 [AV.ptr (nat_lit 0) (nat_lit 0), AV.sl (nat_lit 1) (bytesL bs) Own.no, AV.int IntKind.i64 (↑(bytesL bs).length : Int),
 AV.int IntKind.i64 (0 : Int)]
 [AV.ptr (nat_lit 0) (nat_lit 0), AV.sl (nat_lit 1) (bytesL bs) Own.no, AV.int IntKind.i64 (↑bs.length : Int),
 AV.int IntKind.i64 (↑y : Int)] ∧
 StIs { boxes := [some keptSet], live := [] } { boxes := [some keptSet], live := [] } ∧ y ≤ stL bs ∧ True) ∧
 ∀ (x : Nat),
 x ≤ stL bs →
 (decide ((↑x : Int) < (↑bs.length : Int)) = true →
 ((0 : Int) ≤ (↑x : Int) ∧ (↑x : Int) < (↑(bytesL bs).length : Int)) ∧
 ∃ (n : Int),
 takeAt PP (nat_lit 5) (bytesL bs) (↑x : Int).toNat (nat_lit 0) = some (AV.int IntKind.u8 n) ∧
 (keptSet = keptSet ∧ (0 : Int) ≤ n ∧ n < (256 : Int)) ∧
 (decide (n = (10 : Int) ∨ n = (34 : Int)) = true →
 RetIs (AV.int IntKind.i64 (↑x : Int)) []
 (AV.int IntKind.i64 (if stL bs < bs.length then (↑(stL bs) : Int) else (-1 : Int)), [])) ∧
 (decide (n = (10 : Int) ∨ n = (34 : Int)) = false →
 ∃ (y : Nat),
 ValsAre
 [AV.ptr (nat_lit 0) (nat_lit 0), AV.sl (nat_lit 1) (bytesL bs) Own.no,
 AV.int IntKind.i64 (↑bs.length : Int), AV.int IntKind.i64 (IntKind.i64.wrap ((↑x : Int) + (1 : Int)))]
 [AV.ptr (nat_lit 0) (nat_lit 0), AV.sl (nat_lit 1) (bytesL bs) Own.no,
 AV.int IntKind.i64 (↑bs.length : Int), AV.int IntKind.i64 (↑y : Int)] ∧
 StIs { boxes := [some keptSet], live := [] } { boxes := [some keptSet], live := [] } ∧
 y ≤ stL bs ∧ bs.length - y < bs.length - x)) ∧
 (decide ((↑x : Int) < (↑bs.length : Int)) = false →
 RetIs (AV.int IntKind.i64 (-1 : Int)) []
 (AV.int IntKind.i64 (if stL bs < bs.length then (↑(stL bs) : Int) else (-1 : Int)), []))) ∧
 (true = false →
 False ∧
 ∀ (x : Nat),
 x ≤ stL bs →
 (decide ((↑x : Int) < (↑(bytesL bs).length : Int)) = true →
 ((0 : Int) ≤ (↑x : Int) ∧ (↑x : Int) < (↑(bytesL bs).length : Int)) ∧
 ∃ (n : Int),
 takeAt PP (nat_lit 5) (bytesL bs) (↑x : Int).toNat (nat_lit 0) = some (AV.int IntKind.u8 n) ∧
 (decide (IntKind.i32.wrap n < (128 : Int)) = true →
 ((0 : Int) ≤ (↑x : Int) ∧ (↑x : Int) < (↑(bytesL bs).length : Int)) ∧
 ∃ (n : Int),
 takeAt PP (nat_lit 5) (bytesL bs) (↑x : Int).toNat (nat_lit 0) = some (AV.int IntKind.u8 n) ∧
 ∃ (n_1 : Int),
 CallIs (some (AV.int IntKind.i64 (Lib.indexByte [(34 : UInt8), (10 : UInt8)] n.toNat.toUInt8), []))
 (AV.int IntKind.i64 n_1) [] ∧
 (decide (n_1 ≥ (0 : Int)) = true →
 RetIs (AV.int IntKind.i64 (↑x : Int)) []
 (AV.int IntKind.i64 (if stL bs < bs.length then (↑(stL bs) : Int) else (-1 : Int)), [])) ∧
 (decide (n_1 ≥ (0 : Int)) = false → False)) ∧
 (decide (IntKind.i32.wrap n < (128 : Int)) = false →
 (0 : Int) ≤ (↑x : Int) ∧
 ((↑x : Int).toNat ≤ (bytesL bs).length ∧ (bytesL bs).length ≤ (bytesL bs).length) ∧
 (nat_lit 1 = nat_lit 1 ∨ bytesL bs = []) ∧
 ∃ (n : Int),
 ∃ (n_1 : Int),
 CallIs
 (tbl
 [(nat_lit 53, sIndexByteString), (nat_lit 55, s55), (nat_lit 56, s56), (nat_lit 58, s58),
 (nat_lit 59, s59 m)]
 (nat_lit 58)
 [AV.sl (nat_lit 1) (List.drop (↑x : Int).toNat (List.take (bytesL bs).length (bytesL bs)))
 Own.no])
 (AV.tup [AV.int IntKind.i32 n, AV.int IntKind.i64 n_1]) [] ∧
 ((n != (65533 : Int)) = true →
 (((2 : Int) == n_1) = true →
 (([(34 : UInt8), (10 : UInt8)] == (Utf8.encode n).data.toList) = true →
 RetIs (AV.int IntKind.i64 (↑x : Int)) []
 (AV.int IntKind.i64 (if stL bs < bs.length then (↑(stL bs) : Int) else (-1 : Int)),
 [])) ∧
 (([(34 : UInt8), (10 : UInt8)] == (Utf8.encode n).data.toList) = false → False)) ∧
 (((2 : Int) == n_1) = false →
 ∃ (n_2 : Int),
 some (AV.int IntKind.i64 m) = some (AV.int IntKind.i64 n_2) ∧
 (decide (n_2 ≥ n_1) = true →
 ∃ (n_3 : Int),
 CallIs
 (tbl
 [(nat_lit 53, sIndexByteString), (nat_lit 55, s55), (nat_lit 56, s56),
 (nat_lit 58, s58), (nat_lit 59, s59 m)]
 (nat_lit 59)
 [AV.str [(34 : UInt8), (10 : UInt8)], AV.str (Utf8.encode n).data.toList])
 (AV.int IntKind.i64 n_3) [] ∧
 (decide (n_3 ≥ (0 : Int)) = true →
 RetIs (AV.int IntKind.i64 (↑x : Int)) []
 (AV.int IntKind.i64
 (if stL bs < bs.length then (↑(stL bs) : Int) else (-1 : Int)),
 [])) ∧
 (decide (n_3 ≥ (0 : Int)) = false → False)) ∧
 (decide (n_2 ≥ n_1) = false →
 (nat_lit 0 < nat_lit 2 →
 (true = true →
 ((n == (34 : Int)) = true →
 RetIs (AV.int IntKind.i64 (↑x : Int)) []
 (AV.int IntKind.i64
 (if stL bs < bs.length then (↑(stL bs) : Int) else (-1 : Int)),
 [])) ∧
 ((n == (34 : Int)) = false →
 (nat_lit 1 < nat_lit 2 →
 (true = true →
 ((n == (10 : Int)) = true →
 RetIs (AV.int IntKind.i64 (↑x : Int)) []
 (AV.int IntKind.i64
 (if stL bs < bs.length then (↑(stL bs) : Int)
 else (-1 : Int)),
 [])) ∧
 ((n == (10 : Int)) = false →
 (nat_lit 2 < nat_lit 2 →
 (true = true →
 ((n == (0 : Int)) = true →
 RetIs (AV.int IntKind.i64 (↑x : Int)) []
 (AV.int IntKind.i64
 (if stL bs < bs.length then
 (↑(stL bs) : Int)
 else (-1 : Int)),
 [])) ∧
 ((n == (0 : Int)) = false → False)) ∧
 (true = false → False)) ∧
 (nat_lit 2 ≤ nat_lit 2 →
 (false = true → False) ∧ (false = false → False)))) ∧
 (true = false → False)) ∧
 (nat_lit 2 ≤ nat_lit 1 →
 (false = true → False) ∧ (false = false → False)))) ∧
 (true = false → False)) ∧
 (nat_lit 2 ≤ nat_lit 0 → (false = true → False) ∧ (false = false → False))))) ∧
 ((n != (65533 : Int)) = false →
 (nat_lit 0 < nat_lit 2 →
 (true = true →
 ((n == (34 : Int)) = true →
 RetIs (AV.int IntKind.i64 (↑x : Int)) []
 (AV.int IntKind.i64 (if stL bs < bs.length then (↑(stL bs) : Int) else (-1 : Int)),
 [])) ∧
 ((n == (34 : Int)) = false →
 (nat_lit 1 < nat_lit 2 →
 (true = true →
 ((n == (10 : Int)) = true →
 RetIs (AV.int IntKind.i64 (↑x : Int)) []
 (AV.int IntKind.i64
 (if stL bs < bs.length then (↑(stL bs) : Int) else (-1 : Int)),
 [])) ∧
 ((n == (10 : Int)) = false →
 (nat_lit 2 < nat_lit 2 →
 (true = true →
 ((n == (0 : Int)) = true →
 RetIs (AV.int IntKind.i64 (↑x : Int)) []
 (AV.int IntKind.i64
 (if stL bs < bs.length then (↑(stL bs) : Int)
 else (-1 : Int)),
 [])) ∧
 ((n == (0 : Int)) = false → False)) ∧
 (true = false → False)) ∧
 (nat_lit 2 ≤ nat_lit 2 →
 (false = true → False) ∧ (false = false → False)))) ∧
 (true = false → False)) ∧
 (nat_lit 2 ≤ nat_lit 1 → (false = true → False) ∧ (false = false → False)))) ∧
 (true = false → False)) ∧
 (nat_lit 2 ≤ nat_lit 0 → (false = true → False) ∧ (false = false → False))))) ∧
 (decide ((↑x : Int) < (↑(bytesL bs).length : Int)) = false →
 RetIs (AV.int IntKind.i64 (-1 : Int)) []
 (AV.int IntKind.i64 (if stL bs < bs.length then (↑(stL bs) : Int) else (-1 : Int)), [])))) ∧
 (b = false →
 (∃ (y : Nat),
 ValsAre [AV.sl (nat_lit 1) (bytesL bs) Own.no, AV.str [(34 : UInt8), (10 : UInt8)], AV.int IntKind.i64 (0 : Int)]
 [AV.sl (nat_lit 1) (bytesL bs) Own.no, AV.str [(34 : UInt8), (10 : UInt8)], AV.int IntKind.i64 (↑y : Int)] ∧
 StIs { boxes := [], live := [] } { boxes := [], live := [] } ∧ y ≤ stL bs ∧ True) ∧
 ∀ (x : Nat),
 x ≤ stL bs →
 (decide ((↑x : Int) < (↑(bytesL bs).length : Int)) = true →
 ((0 : Int) ≤ (↑x : Int) ∧ (↑x : Int) < (↑(bytesL bs).length : Int)) ∧
 ∃ (n : Int),
 takeAt PP (nat_lit 5) (bytesL bs) (↑x : Int).toNat (nat_lit 0) = some (AV.int IntKind.u8 n) ∧
 (decide (IntKind.i32.wrap n < (128 : Int)) = true →
 ((0 : Int) ≤ (↑x : Int) ∧ (↑x : Int) < (↑(bytesL bs).length : Int)) ∧
 ∃ (n : Int),
 takeAt PP (nat_lit 5) (bytesL bs) (↑x : Int).toNat (nat_lit 0) = some (AV.int IntKind.u8 n) ∧
 ∃ (n_1 : Int),
 CallIs (some (AV.int IntKind.i64 (Lib.indexByte [(34 : UInt8), (10 : UInt8)] n.toNat.toUInt8), []))
 (AV.int IntKind.i64 n_1) [] ∧
 (decide (n_1 ≥ (0 : Int)) = true →
 RetIs (AV.int IntKind.i64 (↑x : Int)) []
 (AV.int IntKind.i64 (if stL bs < bs.length then (↑(stL bs) : Int) else (-1 : Int)), [])) ∧
 (decide (n_1 ≥ (0 : Int)) = false →
 ∃ (y : Nat),
 ValsAre
 [AV.sl (nat_lit 1) (bytesL bs) Own.no, AV.str [(34 : UInt8), (10 : UInt8)],
 AV.int IntKind.i64 (IntKind.i64.wrap ((↑x : Int) + (1 : Int)))]
 [AV.sl (nat_lit 1) (bytesL bs) Own.no, AV.str [(34 : UInt8), (10 : UInt8)],
 AV.int IntKind.i64 (↑y : Int)] ∧
 StIs { boxes := [], live := [] } { boxes := [], live := [] } ∧
 y ≤ stL bs ∧ bs.length - y < bs.length - x)) ∧
 (decide (IntKind.i32.wrap n < (128 : Int)) = false →
 (0 : Int) ≤ (↑x : Int) ∧
 ((↑x : Int).toNat ≤ (bytesL bs).length ∧ (bytesL bs).length ≤ (bytesL bs).length) ∧
 (nat_lit 1 = nat_lit 1 ∨ bytesL bs = []) ∧
 ∃ (n : Int),
 ∃ (n_1 : Int),
 CallIs
 (tbl
 [(nat_lit 53, sIndexByteString), (nat_lit 55, s55), (nat_lit 56, s56), (nat_lit 58, s58),
 (nat_lit 59, s59 m)]
 (nat_lit 58)
 [AV.sl (nat_lit 1) (List.drop (↑x : Int).toNat (List.take (bytesL bs).length (bytesL bs))) Own.no])
 (AV.tup [AV.int IntKind.i32 n, AV.int IntKind.i64 n_1]) [] ∧
 ((n != (65533 : Int)) = true →
 (((2 : Int) == n_1) = true →
 (([(34 : UInt8), (10 : UInt8)] == (Utf8.encode n).data.toList) = true →
 RetIs (AV.int IntKind.i64 (↑x : Int)) []
 (AV.int IntKind.i64 (if stL bs < bs.length then (↑(stL bs) : Int) else (-1 : Int)), [])) ∧
 (([(34 : UInt8), (10 : UInt8)] == (Utf8.encode n).data.toList) = false →
 ∃ (y : Nat),
 ValsAre
 [AV.sl (nat_lit 1) (bytesL bs) Own.no, AV.str [(34 : UInt8), (10 : UInt8)],
 AV.int IntKind.i64 (IntKind.i64.wrap ((↑x : Int) + n_1))]
 [AV.sl (nat_lit 1) (bytesL bs) Own.no, AV.str [(34 : UInt8), (10 : UInt8)],
 AV.int IntKind.i64 (↑y : Int)] ∧
 StIs { boxes := [], live := [] } { boxes := [], live := [] } ∧
 y ≤ stL bs ∧ bs.length - y < bs.length - x)) ∧
 (((2 : Int) == n_1) = false →
 ∃ (n_2 : Int),
 some (AV.int IntKind.i64 m) = some (AV.int IntKind.i64 n_2) ∧
 (decide (n_2 ≥ n_1) = true →
 ∃ (n_3 : Int),
 CallIs
 (tbl
 [(nat_lit 53, sIndexByteString), (nat_lit 55, s55), (nat_lit 56, s56),
 (nat_lit 58, s58), (nat_lit 59, s59 m)]
 (nat_lit 59)
 [AV.str [(34 : UInt8), (10 : UInt8)], AV.str (Utf8.encode n).data.toList])
 (AV.int IntKind.i64 n_3) [] ∧
 (decide (n_3 ≥ (0 : Int)) = true →
 RetIs (AV.int IntKind.i64 (↑x : Int)) []
 (AV.int IntKind.i64
 (if stL bs < bs.length then (↑(stL bs) : Int) else (-1 : Int)),
 [])) ∧
 (decide (n_3 ≥ (0 : Int)) = false →
 ∃ (y : Nat),
 ValsAre
 [AV.sl (nat_lit 1) (bytesL bs) Own.no, AV.str [(34 : UInt8), (10 : UInt8)],
 AV.int IntKind.i64 (IntKind.i64.wrap ((↑x : Int) + n_1))]
 [AV.sl (nat_lit 1) (bytesL bs) Own.no, AV.str [(34 : UInt8), (10 : UInt8)],
 AV.int IntKind.i64 (↑y : Int)] ∧
 StIs { boxes := [], live := [] } { boxes := [], live := [] } ∧
 y ≤ stL bs ∧ bs.length - y < bs.length - x)) ∧
 (decide (n_2 ≥ n_1) = false →
 (nat_lit 0 < nat_lit 2 →
 (true = true →
 ((n == (34 : Int)) = true →
 RetIs (AV.int IntKind.i64 (↑x : Int)) []
 (AV.int IntKind.i64
 (if stL bs < bs.length then (↑(stL bs) : Int) else (-1 : Int)),
 [])) ∧
 ((n == (34 : Int)) = false →
 (nat_lit 1 < nat_lit 2 →
 (true = true →
 ((n == (10 : Int)) = true →
 RetIs (AV.int IntKind.i64 (↑x : Int)) []
 (AV.int IntKind.i64
 (if stL bs < bs.length then (↑(stL bs) : Int)
 else (-1 : Int)),
 [])) ∧
 ((n == (10 : Int)) = false →
 (nat_lit 2 < nat_lit 2 →
 (true = true →
 ((n == (0 : Int)) = true →
 RetIs (AV.int IntKind.i64 (↑x : Int)) []
 (AV.int IntKind.i64
 (if stL bs < bs.length then (↑(stL bs) : Int)
 else (-1 : Int)),
 [])) ∧
 ((n == (0 : Int)) = false → False)) ∧
 (true = false →
 ∃ (y : Nat),
 ValsAre
 [AV.sl (nat_lit 1) (bytesL bs) Own.no,
 AV.str [(34 : UInt8), (10 : UInt8)],
 AV.int IntKind.i64
 (IntKind.i64.wrap ((↑x : Int) + n_1))]
 [AV.sl (nat_lit 1) (bytesL bs) Own.no,
 AV.str [(34 : UInt8), (10 : UInt8)],
 AV.int IntKind.i64 (↑y : Int)] ∧
 StIs { boxes := [], live := [] }
 { boxes := [], live := [] } ∧
 y ≤ stL bs ∧ bs.length - y < bs.length - x)) ∧
 (nat_lit 2 ≤ nat_lit 2 →
 (false = true → False) ∧
 (false = false →
 ∃ (y : Nat),
 ValsAre
 [AV.sl (nat_lit 1) (bytesL bs) Own.no,
 AV.str [(34 : UInt8), (10 : UInt8)],
 AV.int IntKind.i64
 (IntKind.i64.wrap ((↑x : Int) + n_1))]
 [AV.sl (nat_lit 1) (bytesL bs) Own.no,
 AV.str [(34 : UInt8), (10 : UInt8)],
 AV.int IntKind.i64 (↑y : Int)] ∧
 StIs { boxes := [], live := [] }
 { boxes := [], live := [] } ∧
 y ≤ stL bs ∧ bs.length - y < bs.length - x)))) ∧
 (true = false →
 ∃ (y : Nat),
 ValsAre
 [AV.sl (nat_lit 1) (bytesL bs) Own.no,
 AV.str [(34 : UInt8), (10 : UInt8)],
 AV.int IntKind.i64 (IntKind.i64.wrap ((↑x : Int) + n_1))]
 [AV.sl (nat_lit 1) (bytesL bs) Own.no,
 AV.str [(34 : UInt8), (10 : UInt8)],
 AV.int IntKind.i64 (↑y : Int)] ∧
 StIs { boxes := [], live := [] } { boxes := [], live := [] } ∧
 y ≤ stL bs ∧ bs.length - y < bs.length - x)) ∧
 (nat_lit 2 ≤ nat_lit 1 →
 (false = true → False) ∧
 (false = false →
 ∃ (y : Nat),
 ValsAre
 [AV.sl (nat_lit 1) (bytesL bs) Own.no,
 AV.str [(34 : UInt8), (10 : UInt8)],
 AV.int IntKind.i64 (IntKind.i64.wrap ((↑x : Int) + n_1))]
 [AV.sl (nat_lit 1) (bytesL bs) Own.no,
 AV.str [(34 : UInt8), (10 : UInt8)],
 AV.int IntKind.i64 (↑y : Int)] ∧
 StIs { boxes := [], live := [] } { boxes := [], live := [] } ∧
 y ≤ stL bs ∧ bs.length - y < bs.length - x)))) ∧
 (true = false →
 ∃ (y : Nat),
 ValsAre
 [AV.sl (nat_lit 1) (bytesL bs) Own.no, AV.str [(34 : UInt8), (10 : UInt8)],
 AV.int IntKind.i64 (IntKind.i64.wrap ((↑x : Int) + n_1))]
 [AV.sl (nat_lit 1) (bytesL bs) Own.no, AV.str [(34 : UInt8), (10 : UInt8)],
 AV.int IntKind.i64 (↑y : Int)] ∧
 StIs { boxes := [], live := [] } { boxes := [], live := [] } ∧
 y ≤ stL bs ∧ bs.length - y < bs.length - x)) ∧
 (nat_lit 2 ≤ nat_lit 0 →
 (false = true → False) ∧
 (false = false →
 ∃ (y : Nat),
 ValsAre
 [AV.sl (nat_lit 1) (bytesL bs) Own.no, AV.str [(34 : UInt8), (10 : UInt8)],
 AV.int IntKind.i64 (IntKind.i64.wrap ((↑x : Int) + n_1))]
 [AV.sl (nat_lit 1) (bytesL bs) Own.no, AV.str [(34 : UInt8), (10 : UInt8)],
 AV.int IntKind.i64 (↑y : Int)] ∧
 StIs { boxes := [], live := [] } { boxes := [], live := [] } ∧
 y ≤ stL bs ∧ bs.length - y < bs.length - x))))) ∧
 ((n != (65533 : Int)) = false →
 (nat_lit 0 < nat_lit 2 →
 (true = true →
 ((n == (34 : Int)) = true →
 RetIs (AV.int IntKind.i64 (↑x : Int)) []
 (AV.int IntKind.i64 (if stL bs < bs.length then (↑(stL bs) : Int) else (-1 : Int)), [])) ∧
 ((n == (34 : Int)) = false →
 (nat_lit 1 < nat_lit 2 →
 (true = true →
 ((n == (10 : Int)) = true →
 RetIs (AV.int IntKind.i64 (↑x : Int)) []
 (AV.int IntKind.i64
 (if stL bs < bs.length then (↑(stL bs) : Int) else (-1 : Int)),
 [])) ∧
 ((n == (10 : Int)) = false →
 (nat_lit 2 < nat_lit 2 →
 (true = true →
 ((n == (0 : Int)) = true →
 RetIs (AV.int IntKind.i64 (↑x : Int)) []
 (AV.int IntKind.i64
 (if stL bs < bs.length then (↑(stL bs) : Int)
 else (-1 : Int)),
 [])) ∧
 ((n == (0 : Int)) = false → False)) ∧
 (true = false →
 ∃ (y : Nat),
 ValsAre
 [AV.sl (nat_lit 1) (bytesL bs) Own.no,
 AV.str [(34 : UInt8), (10 : UInt8)],
 AV.int IntKind.i64 (IntKind.i64.wrap ((↑x : Int) + n_1))]
 [AV.sl (nat_lit 1) (bytesL bs) Own.no,
 AV.str [(34 : UInt8), (10 : UInt8)],
 AV.int IntKind.i64 (↑y : Int)] ∧
 StIs { boxes := [], live := [] } { boxes := [], live := [] } ∧
 y ≤ stL bs ∧ bs.length - y < bs.length - x)) ∧
 (nat_lit 2 ≤ nat_lit 2 →
 (false = true → False) ∧
 (false = false →
 ∃ (y : Nat),
 ValsAre
 [AV.sl (nat_lit 1) (bytesL bs) Own.no,
 AV.str [(34 : UInt8), (10 : UInt8)],
 AV.int IntKind.i64 (IntKind.i64.wrap ((↑x : Int) + n_1))]
 [AV.sl (nat_lit 1) (bytesL bs) Own.no,
 AV.str [(34 : UInt8), (10 : UInt8)],
 AV.int IntKind.i64 (↑y : Int)] ∧
 StIs { boxes := [], live := [] } { boxes := [], live := [] } ∧
 y ≤ stL bs ∧ bs.length - y < bs.length - x)))) ∧
 (true = false →
 ∃ (y : Nat),
 ValsAre
 [AV.sl (nat_lit 1) (bytesL bs) Own.no, AV.str [(34 : UInt8), (10 : UInt8)],
 AV.int IntKind.i64 (IntKind.i64.wrap ((↑x : Int) + n_1))]
 [AV.sl (nat_lit 1) (bytesL bs) Own.no, AV.str [(34 : UInt8), (10 : UInt8)],
 AV.int IntKind.i64 (↑y : Int)] ∧
 StIs { boxes := [], live := [] } { boxes := [], live := [] } ∧
 y ≤ stL bs ∧ bs.length - y < bs.length - x)) ∧
 (nat_lit 2 ≤ nat_lit 1 →
 (false = true → False) ∧
 (false = false →
 ∃ (y : Nat),
 ValsAre
 [AV.sl (nat_lit 1) (bytesL bs) Own.no, AV.str [(34 : UInt8), (10 : UInt8)],
 AV.int IntKind.i64 (IntKind.i64.wrap ((↑x : Int) + n_1))]
 [AV.sl (nat_lit 1) (bytesL bs) Own.no, AV.str [(34 : UInt8), (10 : UInt8)],
 AV.int IntKind.i64 (↑y : Int)] ∧
 StIs { boxes := [], live := [] } { boxes := [], live := [] } ∧
 y ≤ stL bs ∧ bs.length - y < bs.length - x)))) ∧
 (true = false →
 ∃ (y : Nat),
 ValsAre
 [AV.sl (nat_lit 1) (bytesL bs) Own.no, AV.str [(34 : UInt8), (10 : UInt8)],
 AV.int IntKind.i64 (IntKind.i64.wrap ((↑x : Int) + n_1))]
 [AV.sl (nat_lit 1) (bytesL bs) Own.no, AV.str [(34 : UInt8), (10 : UInt8)],
 AV.int IntKind.i64 (↑y : Int)] ∧
 StIs { boxes := [], live := [] } { boxes := [], live := [] } ∧
 y ≤ stL bs ∧ bs.length - y < bs.length - x)) ∧
 (nat_lit 2 ≤ nat_lit 0 →
 (false = true → False) ∧
 (false = false →
 ∃ (y : Nat),
 ValsAre
 [AV.sl (nat_lit 1) (bytesL bs) Own.no, AV.str [(34 : UInt8), (10 : UInt8)],
 AV.int IntKind.i64 (IntKind.i64.wrap ((↑x : Int) + n_1))]
 [AV.sl (nat_lit 1) (bytesL bs) Own.no, AV.str [(34 : UInt8), (10 : UInt8)],
 AV.int IntKind.i64 (↑y : Int)] ∧
 StIs { boxes := [], live := [] } { boxes := [], live := [] } ∧
 y ≤ stL bs ∧ bs.length - y < bs.length - x))))) ∧
 (decide ((↑x : Int) < (↑(bytesL bs).length : Int)) = false →
 RetIs (AV.int IntKind.i64 (-1 : Int)) []
 (AV.int IntKind.i64 (if stL bs < bs.length then (↑(stL bs) : Int) else (-1 : Int)), []))))))) := by kernel_rfl
end Go.Abs

namespace Go.Abs
open Go.Proofs L8

theorem ff_imp {p : Prop} : (false = false → p) ↔ p := ⟨fun h => h rfl, fun h _ => h⟩
theorem ft_imp {p : Prop} : (false = true → p) ↔ True := ⟨fun _ => trivial, fun _ h => nomatch h⟩
theorem ib_iff (c : UInt8) : 0 ≤ Lib.indexByte [34, 10] c ↔ (c = 34 ∨ c = 10) := by
  simp only [Lib.indexByte]
  by_cases h1 : c = 34
  · subst h1; decide
  · by_cases h2 : c = 10
    · subst h2; decide
    · have e1 : ¬ 34 = c := fun h => h1 h.symm
      have e2 : ¬ 10 = c := fun h => h2 h.symm
      simp [h1, h2, e1, e2]
theorem lineB_iff (c : UInt8) : lineB c = true ↔ ¬ (c = 34 ∨ c = 10) := by simp [lineB]
theorem lineB_false (c : UInt8) : lineB c = false ↔ (c = 34 ∨ c = 10) := by
  rw [← Bool.not_eq_true, lineB_iff]; exact ⟨fun h => Classical.byContradiction fun h' => h h', fun h h' => h' h⟩
theorem u8_of (c : UInt8) : ((c.toNat : Int)).toNat.toUInt8 = c := by simp
theorem nat_eq_u8 {c : UInt8} {k : Nat} (hk : k < 256) : ((c.toNat : Int) = k) ↔ c = UInt8.ofNat k := by
  rw [← UInt8.toNat_inj]; simp; omega
theorem st_stop {bs : List UInt8} {x : Nat} (hx : x ≤ stL bs) (hlt : x < bs.length) (h : bs.getD x 0 = 34 ∨ bs.getD x 0 = 10) : (x : Int) = if stL bs < bs.length then (stL bs : Int) else -1 := by
  have : x = stL bs := tw_stop hx fun _ => (lineB_false _).2 h
  rw [if_pos (by omega), this]
theorem st_next {bs : List UInt8} {x : Nat} (hx : x ≤ stL bs) (hlt : x < bs.length) (h : ¬ (bs.getD x 0 = 34 ∨ bs.getD x 0 = 10)) : x + 1 ≤ stL bs := tw_next hx hlt ((lineB_iff _).2 h)
set_option maxHeartbeats 4000000 in
theorem p40 (m : Int) (bs : List UInt8) (hl : bs.length ≤ 1000000) : PureOk PP (G8 m) XA (tbl [(53, sIndexByteString), (55, s55), (56, s56), (58, s58), (59, s59 m)]) (itbl [(57, s57)]) (a40 bs) [] 40 [.sl 1 (bytesL bs) .no, .str [34, 10]] (.int .i64 (if stL bs < bs.length then (stL bs : Int) else -1), []) := by
  constructor
  rw [w40]
  have e02 : (0 < 2) = True := by simp
  have e12 : (1 < 2) = True := by simp
  have e22 : (2 < 2) = False := by simp
  have f22 : (2 ≤ 2) = True := by simp
  have f21 : (2 ≤ 1) = False := by simp
  have f20 : (2 ≤ 0) = False := by simp
  simp only [callIs_iff, valsAre_iff, stIs_iff, retIs_iff, bytesL_length, Option.some.injEq, Prod.mk.injEq, AV.int.injEq, AV.bool.injEq, List.cons.injEq, and_true, true_and, decide_eq_true_eq, decide_eq_false_iff_not, beq_iff_eq, beq_eq_false_iff_ne, bne_iff_ne, bne_eq_false_iff_eq, tf_imp, ft_imp, true_implies, Int.toNat_natCast, ge_iff_le, e02, e12, e22, f22, f21, f20, false_implies, true_or, ne_eq]
  have hle : stL bs ≤ bs.length := tw_le bs
  have hb : ∀ i, (bs.getD i 0).toNat < 256 := fun i => (bs.getD i 0).toNat_lt
  have fin : ∀ x : Nat, x ≤ stL bs → ¬ (x : Int) < bs.length → (-1 : Int) = if stL bs < bs.length then (stL bs : Int) else -1 := fun x hx h => by rw [if_neg (by omega)]
  have h34 : ∀ i, (((bs.getD i 0).toNat : Int) = 34 ↔ bs.getD i 0 = 34) := fun i => nat_eq_u8 (k := 34) (by omega)
  have h10 : ∀ i, (((bs.getD i 0).toNat : Int) = 10 ↔ bs.getD i 0 = 10) := fun i => nat_eq_u8 (k := 10) (by omega)
  have w32 : ∀ i, IntKind.i32.wrap ((bs.getD i 0).toNat : Int) = ((bs.getD i 0).toNat : Int) := fun i => wrap32_in (by omega) (by have := hb i; omega)
  have low : ∀ i, 128 ≤ (bs.getD i 0).toNat → lineB (bs.getD i 0) = true := fun i h => by
    rw [lineB_iff]; rintro (h' | h') <;> rw [h'] at h <;> simp at h
  have land : ∀ x k : Nat, x < bs.length → 1 ≤ k → x + k ≤ stL bs → ∃ y : Nat, IntKind.i64.wrap ((x : Int) + (k : Int)) = y ∧ y ≤ stL bs ∧ bs.length - y < bs.length - x := fun x k h0 h1 h2 =>
    ⟨x + k, by rw [wrap64_in (by omega) (by omega)]; simp, h2, by omega⟩
  refine ⟨fun h1 => ⟨by omega, _, u8at (i := 0) (by omega), fun hhi => ?_, fun hlo => ⟨by omega, _, u8at (i := 0) (by omega), _, rfl, fun h => ?_, fun h => ?_⟩⟩, fun h1 => ⟨_, rfl, fun h8 => ⟨⟨0, rfl, Nat.zero_le _⟩, fun x hx => ⟨fun hlt => ⟨by omega, _, u8at (i := x) (by omega), ⟨by omega, by have := hb x; omega⟩, fun h => ?_, fun h => ?_⟩, fin x hx⟩⟩, fun h8 => ⟨⟨0, rfl, Nat.zero_le _⟩, fun x hx => ⟨fun hlt => ⟨by omega, _, u8at (i := x) (by omega), fun hlo => ⟨by omega, _, u8at (i := x) (by omega), _, rfl, fun h => ?_, fun h => ?_⟩, fun hhi => ⟨by omega, by omega, ?_⟩⟩, fin x hx⟩⟩⟩⟩
  · rw [w32] at hhi
    have := tw_next (p := lineB) (l := bs) (k := 0) (by omega) (by omega) (low 0 (by omega))
    have : 1 ≤ stL bs := this
    rw [if_neg (by omega)]
  · rw [u8_of, ib_iff] at h
    exact st_stop (x := 0) (by omega) (by omega) h
  · rw [u8_of, ib_iff] at h
    have := st_next (x := 0) (by omega) (by omega) h
    rw [if_neg (by omega)]
  · rw [h34, h10] at h
    exact st_stop hx (by omega) h.symm
  · rw [h34, h10] at h
    have := st_next hx (by omega) fun h' => h h'.symm
    exact land x 1 (by omega) (by omega) this
  · rw [u8_of, ib_iff] at h
    exact st_stop hx (by omega) h
  · rw [u8_of, ib_iff] at h
    exact land x 1 (by omega) (by omega) (st_next hx (by omega) h)
  · rw [w32] at hhi
    have hd := decF (n := (bs.drop x).length) (b0 := ((bs.drop x).getD 0 0).toNat) (b1 := ((bs.drop x).getD 1 0).toNat) (b2 := ((bs.drop x).getD 2 0).toNat) (b3 := ((bs.drop x).getD 3 0).toNat) (by rw [List.length_drop]; omega) (by rw [getD_drop', Nat.add_zero]; omega) (UInt8.toNat_lt _) (UInt8.toNat_lt _) (UInt8.toNat_lt _) (UInt8.toNat_lt _)
    rw [← decodeL_eq] at hd
    have t58 : tbl [(53, sIndexByteString), (55, s55), (56, s56), (58, s58), (59, s59 m)] 58 [AV.sl 1 (List.drop x (List.take bs.length (bytesL bs))) Own.no] = some (decA (bs.drop x), []) := by
      rw [tbl_miss (fun h => absurd h (by decide)), tbl_miss (fun h => absurd h (by decide)), tbl_miss (fun h => absurd h (by decide)), tbl_hit]
      have e : List.drop x (List.take bs.length (bytesL bs)) = bytesL (bs.drop x) := by
        rw [List.take_of_length_le (by rw [bytesL_length]; exact Nat.le_refl _)]; simp [bytesL]
      rw [e]
      simp only [s58, onBs, onBytes, unBytes_mk, if_true]
      rw [if_pos ⟨by rw [← List.length_pos_iff, List.length_drop]; omega, by rw [List.length_drop]; omega⟩]
    refine ⟨_, _, t58, ?_⟩
    obtain ⟨d1, d2, d3, d4, d5, d6, d7, d8, d9⟩ := hd
    simp only [getD_drop', List.length_drop] at d3 d5 d6 d7
    generalize decodeL (bs.drop x) 0 = d at *
    obtain ⟨e0, u, he, hge, hlen⟩ := encF d.1 d4
    have hadv : x + d.2 ≤ stL bs := tw_add hx fun i hi => by
      refine ⟨by omega, low _ ?_⟩
      have hi4 : i = 0 ∨ i = 1 ∨ i = 2 ∨ i = 3 := by omega
      rcases hi4 with rfl | rfl | rfl | rfl
      · rw [Nat.add_zero]; omega
      · exact d5 (by omega)
      · exact d6 (by omega)
      · exact d7 (by omega)
    have hland := land x d.2 (by omega) d1 hadv
    have n34 : ¬ (d.1 : Int) = 34 := by omega
    have n10 : ¬ (d.1 : Int) = 10 := by omega
    refine ⟨fun h3 => ⟨fun h2 => ⟨fun h => ?_, fun _ => hland⟩, fun h2 => ⟨m, rfl, fun hm => ⟨-1, ?_, fun h => absurd h (by omega), fun _ => hland⟩, fun _ => ⟨fun h => absurd h n34, fun _ => ⟨fun h => absurd h n10, fun _ => hland⟩⟩⟩⟩, fun _ => ⟨fun h => absurd h n34, fun _ => ⟨fun h => absurd h n10, fun _ => hland⟩⟩⟩
    · rw [he] at h
      have h0 : 34 = e0 := (List.cons.inj h).1
      rw [← h0] at hge
      exact absurd hge (by decide)
    · rw [tbl_miss (fun h => absurd h (by decide)), tbl_miss (fun h => absurd h (by decide)), tbl_miss (fun h => absurd h (by decide)), tbl_miss (fun h => absurd h (by decide)), tbl_hit, he]
      simp only [s59]
      have hsz := d8 (by omega)
      obtain ⟨l2, l3, l4⟩ := hlen (by omega)
      have hu : u.length + 1 = d.2 := by
        rcases hsz with ⟨a, b⟩ | ⟨a, b, c⟩ | ⟨a, b⟩
        · rw [l2 b]; omega
        · rw [l3 b c]; omega
        · rw [l4 b]; omega
      rw [if_pos ⟨by simp only [List.length_cons]; omega, by simp only [List.length_cons]; omega, by simp only [List.length_cons, List.length_nil]; omega⟩, idx_none hge]

def nsA (k : Nat) : Prop := k = k
theorem p58 (m : Int) (bs : List UInt8) (hne : bs ≠ []) (hl : bs.length ≤ 1000000) : PureOk PP (G8 m) XA (tbl [(71, s71)]) (itbl []) (a58 bs) [] 58 [.sl 1 (bytesL bs) .no] (decA bs, []) := by
  constructor
  rw [w58]
  have hlen : 0 < bs.length := List.length_pos_iff.2 hne
  simp only [callIs_iff, valsAre_iff, stIs_iff, retIs_iff, bytesL_length, Prod.mk.injEq, AV.int.injEq, AV.tup.injEq, List.cons.injEq, and_true, true_and, and_self, decide_eq_true_eq, decide_eq_false_iff_not, true_implies]
  refine ⟨⟨(), trivial⟩, fun _ => ⟨fun _ => ⟨by omega, _, u8at (i := 0) hlen, fun hlo => ?_, fun hhi => ?_⟩, fun h => by omega⟩⟩
  · rw [decodeL_eq, Lib.decodeN, if_pos (by omega)]
    exact ⟨wrap32_in (by omega) (by omega), rfl⟩
  · refine ⟨_, _, ?_, rfl, rfl⟩
    rw [tbl_hit]
    simp only [s71, onBs, onBytes, unBytes_mk, if_true]
    have hh : hiB bs := by
      cases bs with
      | nil => exact absurd rfl hne
      | cons c t => exact ⟨c, t, rfl, by simp at hhi; omega⟩
    rw [if_pos ⟨hh, hl⟩]
    rfl
theorem p57 (m c : Int) (h0 : 0 ≤ c) (h1 : c < 256) : OpenOk PP (G8 m) XA (tbl []) (itbl []) nAn [] 57 [.ptr 0 0, .int .u8 c] ⟨[some keptSet], []⟩ (.bool (decide (c = 10 ∨ c = 34)), ⟨[some keptSet], []⟩) := by
  constructor
  rw [w57]
  refine ⟨⟨h0, h1⟩, decide (c = 10 ∨ c = 34), ?_, fun h => ⟨rfl, by rw [h]⟩, fun h => ⟨rfl, by rw [h]⟩⟩
  have hlt : c.toNat < 256 := by omega
  simp only [takeA, Nat.zero_add, Nat.mul_one, keptSet, List.getElem?_map, List.getElem?_range hlt, Option.map_some]
  have e : decide (c.toNat = 10 ∨ c.toNat = 34) = decide (c = 10 ∨ c = 34) := decide_eq_decide.2 (by omega)
  rw [e]
set_option maxRecDepth 100000 in
theorem run56 (m : Int) : (evs PP (G8 m) (tbl lib8) (fun _ => []) 60).1 56 [.str [34, 10]] = some (.tup [keptSetA, .bool true], []) := by kernel_rfl
theorem o56 (m : Int) : SpecOk PP (G8 m) 56 s56 := spec_run mixed8 (lib8_ok m) fun args r h => by
  unfold s56 at h
  split at h
  · injection h with h; subst h; exact ⟨60, run56 m⟩
  · cases h
theorem o55 (m : Int) : SpecOk PP (G8 m) 55 s55 := spec_of (X := XA) (m := []) mixed8 tbl_nil itbl_nil fun args r h => by
  unfold s55 at h
  split at h
  · injection h with h; subst h; exact ⟨nAn, p55 m _⟩
  · cases h
theorem onBs_some {f : List UInt8 → Option (AV × List (Nat × TypeId))} {args : List AV} {r : AV × List (Nat × TypeId)} (h : onBs f args = some r) : ∃ bs, args = [.sl 1 (bytesL bs) .no] ∧ f bs = some r := by
  unfold onBs at h
  split at h
  · split at h
    · rename_i hsz
      subst hsz
      unfold onBytes at h
      split at h
      · rename_i bs hb
        obtain rfl := unBytes_some hb
        exact ⟨bs, rfl, h⟩
      · cases h
    · cases h
  · cases h
theorem o71 (m : Int) : SpecOk PP (G8 m) 71 s71 := spec_of (X := XA) (m := []) mixed8 tbl_nil itbl_nil fun args r h => by
  obtain ⟨bs, rfl, h2⟩ := onBs_some h
  clear h
  split at h2
  · rename_i hc; injection h2 with h2; subst h2; exact ⟨nAn, p71 m _ hc.1 hc.2⟩
  · cases h2
theorem o58 (m : Int) : SpecOk PP (G8 m) 58 s58 := spec_of (X := XA) (m := []) mixed8 (tbl_cons (o71 m) tbl_nil) itbl_nil fun args r h => by
  obtain ⟨bs, rfl, h2⟩ := onBs_some h
  clear h
  split at h2
  · rename_i hc; injection h2 with h2; subst h2; exact ⟨a58 bs, p58 m _ hc.1 hc.2⟩
  · cases h2
theorem o57 (m : Int) : ISpecOk PP (G8 m) 57 s57 := ispec_of (X := XA) (m := []) mixed8 tbl_nil itbl_nil fun args S p r h hp => by
  unfold s57 at h
  split at h
  · simp only [Option.some.injEq, Prod.mk.injEq] at h
    obtain ⟨h1, h2⟩ := h
    subst h1
    obtain ⟨rfl, k1, k2⟩ := hp
    rw [← h2]
    exact ⟨nAn, p57 m _ k1 k2⟩
  · cases h
theorem o59 (m : Int) : SpecOk PP (G8 m) 59 (s59 m) := by
  intro g args r lv h E w vs hI hG hn' hv hcl
  simp only at h
  split at h
  case isFalse => cases h
  case isTrue e =>
  subst e
  unfold s59 at h
  split at h
  case h_2 => cases h
  case h_1 a b =>
  split at h
  case isFalse => cases h
  case isTrue hc =>
  simp only [Option.some.injEq, Prod.mk.injEq] at h
  obtain ⟨rfl, rfl⟩ := h
  obtain ⟨x, y, rfl⟩ := vs_two hn'
  obtain ⟨s, rfl, hs⟩ := rep_str (hv 0 _ _ rfl rfl)
  obtain ⟨t, rfl, ht⟩ := rep_str (hv 1 _ _ rfl rfl)
  have h1 : s.size = a.length := by rw [size_data, hs]
  have h2 : t.size = b.length := by rw [size_data, ht]
  refine .inr ⟨_, w, extern_value (fn := Tryd.f59) (by kernel_rfl) (by kernel_rfl) (by kernel_rfl) (by kernel_rfl) (by kernel_rfl) (Lib.run_indexString s t w 0 m (by kernel_rfl) (glob_int hG rfl) (by omega) (by omega) (by omega)), _, rfl, res_same fun B K => ?_⟩
  rw [hs, ht]
  exact .int _ _
theorem o40 (m : Int) : SpecOk PP (G8 m) 40 s40 := spec_of (X := XA) (m := []) mixed8 (tbl_cons (o_indexByteString (f := 53) (fn := Tryd.f53) (by kernel_rfl) (by kernel_rfl) (by kernel_rfl) (by kernel_rfl) (by kernel_rfl)) (tbl_cons (o55 m) (tbl_cons (o56 m) (tbl_cons (o58 m) (tbl_cons (o59 m) tbl_nil))))) (itbl_cons (o57 m) itbl_nil) fun args r h => by
  unfold s40 at h
  split at h
  · split at h
    · rename_i hsz
      subst hsz
      unfold onBytes at h
      split at h
      · rename_i bs hb
        obtain rfl := unBytes_some hb
        simp only at h
        split at h
        · rename_i hl
          injection h with h; subst h; exact ⟨a40 bs, p40 m bs hl⟩
        · cases h
      · cases h
    · cases h
  · cases h
end Go.Abs

namespace Go.Abs
open Go.Proofs L8

theorem p73 (m n : Int) : PureOk PP (G8 m) XF (tbl []) (itbl []) ⟨nA, nA⟩ [] 73 [.int .u8 n] (.bool (decide (48 ≤ n ∧ n ≤ 57)), []) := by
  constructor
  rw [w73]
  simp only [retIs_iff, Prod.mk.injEq, AV.bool.injEq, and_true, decide_eq_true_eq, decide_eq_false_iff_not]
  refine ⟨fun h1 => ⟨fun h2 => (decide_eq_true (by omega)).symm, fun h2 => (decide_eq_false (by omega)).symm⟩, fun h1 => (decide_eq_false (by omega)).symm⟩
theorem dig_dec (c : UInt8) : decide (48 ≤ (c.toNat : Int) ∧ (c.toNat : Int) ≤ 57) = digitB c := by
  by_cases h : digitB c = true
  · rw [h]; rw [digitB_iff] at h; exact decide_eq_true (by omega)
  · have h' := h
    rw [digitB_iff] at h'
    rw [Bool.not_eq_true] at h; rw [h]; exact decide_eq_false (by omega)
theorem eq45 (c : UInt8) : ((c.toNat : Int) = 45) ↔ c = 45 := nat_eq_u8 (k := 45) (by omega)
theorem eq46 (c : UInt8) : ((c.toNat : Int) = 46) ↔ c = 46 := nat_eq_u8 (k := 46) (by omega)
theorem sAtOpt {l : List UInt8} {i : Nat} (h : i < l.length) : l[i]? = some (l.getD i 0) := by
  simp [List.getElem?_eq_getElem h]
theorem p81 (m : Int) (l : List UInt8) (a : Nat) (ha : a ≤ l.length) (hl : l.length ≤ 1000000) : PureOk PP (G8 m) XF (tbl [(73, s73)]) (itbl []) (a81 l a) [] 81 [.str l, .int .i64 a] (.int .i64 ((l.drop a).takeWhile digitB).length, []) := by
  constructor
  rw [w81]
  have htw := tw_le (p := digitB) (l.drop a)
  rw [List.length_drop] at htw
  simp only [callIs_iff, dig_dec, valsAre_iff, stIs_iff, retIs_iff, Option.some.injEq, Prod.mk.injEq, AV.bool.injEq, AV.int.injEq, List.cons.injEq, and_true, true_and, decide_eq_true_eq, decide_eq_false_iff_not]
  refine ⟨⟨0, rfl, by omega⟩, fun x hx => ?_⟩
  rw [wrap64_in (n := (a : Int) + x) (by omega) (by omega), wrap64_in (n := (x : Int) + 1) (by omega) (by omega), show ((a : Int) + x).toNat = a + x by omega]
  refine ⟨fun hlt => ⟨by omega, _, sAtOpt (i := a + x) (by omega), _, rfl, fun hd => ?_, fun hd => ?_⟩, fun hge => ?_⟩
  · exact ⟨x + 1, by omega, tw_next hx (by rw [List.length_drop]; omega) (by rw [getD_drop']; exact hd), by omega⟩
  · have := tw_stop (p := digitB) (l := l.drop a) (k := x) hx (fun _ => by rw [getD_drop']; exact hd)
    omega
  · have := tw_stop (p := digitB) (l := l.drop a) (k := x) hx (fun h => by rw [List.length_drop] at h; omega)
    omega
theorem restB_drop (s : List UInt8) : restB s = s.drop (dAt s) := by
  unfold restB dAt
  split <;> simp
theorem p72 (m : Int) (s : List UInt8) (hl : s.length ≤ 1000000) : PureOk PP (G8 m) XF (tbl [(81, s81)]) (itbl []) (a72 s) [] 72 [.str s] (.bool (formP s), []) := by
  constructor
  rw [w72]
  have t81 : ∀ a : Nat, a ≤ s.length → tbl [(81, s81)] 81 [.str s, .int .i64 (a : Nat)] = some (.int .i64 ((s.drop a).takeWhile digitB).length, []) := fun a ha => by
    rw [tbl_hit]; simp only [s81]; rw [if_pos ⟨by omega, by simpa using ha, hl⟩, Int.toNat_natCast]
  have hd : dAt s ≤ s.length ∧ dAt s ≤ 1 := by
    unfold dAt negB
    cases s with
    | nil => exact ⟨by simp, by simp⟩
    | cons c t => split <;> exact ⟨by simp, by omega⟩
  have htw := tw_le (p := digitB) (s.drop (dAt s))
  rw [List.length_drop] at htw
  simp only [callIs_iff, valsAre_iff, stIs_iff, retIs_iff, Prod.mk.injEq, AV.bool.injEq, AV.int.injEq, List.cons.injEq, and_true, true_and, decide_eq_true_eq, decide_eq_false_iff_not, beq_iff_eq, beq_eq_false_iff_ne, ne_eq, gt_iff_lt, ge_iff_le, true_implies]
  have hneg : ∀ c, s[0]? = some c → ((c.toNat : Int) = 45 ↔ negB s = true) := fun c hc => by
    cases s with
    | nil => simp at hc
    | cons x t =>
      simp at hc; subst hc
      rw [eq45]
      simp [negB]
  refine ⟨⟨fun h => ⟨by omega, _, sAtOpt (i := 0) (by omega), fun h' => ⟨(), ?_⟩, fun h' => ⟨(), ?_⟩⟩, fun h => ⟨(), ?_⟩⟩, fun _ => ?_⟩
  · rw [hneg _ (sAtOpt (by omega))] at h'
    simp [dAt, h']
  · rw [hneg _ (sAtOpt (by omega))] at h'
    simp [dAt, h']
  · have : s = [] := List.length_eq_zero_iff.1 (by omega)
    subst this; rfl
  · refine ⟨_, t81 _ hd.1, ?_⟩
    have hr := restB_drop s
    simp only [formP, formR, hr]
    generalize hn : ((s.drop (dAt s)).takeWhile digitB).length = n at *
    generalize hdd : dAt s = d at *
    refine ⟨fun h => ?_, fun h => ⟨fun h1 => ?_, fun h1 => ?_⟩⟩
    · have : n = 0 := by omega
      simp [this]
    · rw [wrap64_in (by omega) (by omega)] at h1
      have : n = (s.drop d).length := by rw [List.length_drop]; omega
      have h0 : n ≠ 0 := by omega
      simp [← this, h0]
    · rw [wrap64_in (by omega) (by omega)] at h1
      have hne : n ≠ (s.drop d).length := by rw [List.length_drop]; omega
      have hlt : d + n < s.length := by
        have : n ≤ s.length - d := htw
        omega
      rw [wrap64_in (n := (d : Int) + n) (by omega) (by omega), wrap64_in (n := (d : Int) + n + 1) (by omega) (by omega)]
      have e1 : ((d : Int) + n + 1) = ((d + n + 1 : Nat) : Int) := by omega
      have e2 : ((d : Int) + n).toNat = d + n := by omega
      refine ⟨_, by rw [e1]; exact t81 _ (by omega), by omega, _, by rw [e2]; exact sAtOpt (i := d + n) (by omega), ?_⟩
      rw [eq46]
      have e3 : (s.drop d).drop (n + 1) = s.drop (d + n + 1) := by rw [List.drop_drop]; congr 1
      have e4 : (s.drop d)[n]? = some (s.getD (d + n) 0) := by rw [List.getElem?_drop]; exact sAtOpt hlt
      have htw2 := tw_le (p := digitB) (s.drop (d + n + 1))
      rw [List.length_drop] at htw2
      rw [e3, e4]
      have h0 : n ≠ 0 := by omega
      generalize ((s.drop (d + n + 1)).takeWhile digitB).length = q at *
      rw [wrap64_in (n := (d : Int) + n + 1 + q) (by omega) (by omega)]
      have hL : (s.drop d).length = s.length - d := List.length_drop
      have hne' : ¬ n = s.length - d := by omega
      rw [hL]
      clear e4
      generalize s.getD (d + n) 0 = c0
      refine ⟨fun c1 => ⟨fun c2 => ⟨fun c3 => ⟨fun c4 => ?_, fun c4 => ?_⟩, fun c3 => ?_⟩, fun c2 => ?_⟩, fun c1 => ?_⟩
      · have c4' : n + 1 + q = s.length - d := by omega
        have c2' : 1 ≤ q := by omega
        have c3' : q ≤ 6 := by omega
        simp [h0, c1, c4', c2', c3']
      · have c4' : ¬ n + 1 + q = s.length - d := by omega
        simp [hne', c4']
      · have c3' : ¬ q ≤ 6 := by omega
        simp [hne', c3']
      · have c2' : ¬ 1 ≤ q := by omega
        simp [hne', c2']
      · simp [hne', c1]

theorem xfold_succ {s : List UInt8} {i : Nat} (h : i < s.length) : xfold (s.take (i + 1)) = xstep (xfold (s.take i)) (s.getD i 0) := by
  unfold xfold
  rw [List.take_succ_eq_append_getElem h, List.foldl_append]
  simp [List.getElem?_eq_getElem h]
theorem bfold_succ {s : List UInt8} {i : Nat} (h : i < s.length) : bfold (s.take (i + 1)) = bstep (bfold (s.take i)) (s.getD i 0) := by
  unfold bfold
  rw [List.take_succ_eq_append_getElem h, List.foldl_append]
  simp [List.getElem?_eq_getElem h]
theorem bfold_le : ∀ (s : List UInt8) (i : Nat), i ≤ s.length → -1 ≤ bfold (s.take i) ∧ bfold (s.take i) ≤ i
  | s, 0, _ => by simp [bfold]
  | s, i + 1, h => by
    have ih := bfold_le s i (by omega)
    rw [bfold_succ (by omega)]
    unfold bstep
    repeat' split
    all_goals omega
theorem xstep_le {x : Nat} (h : x ≤ capM) (c : UInt8) : xstep x c ≤ capM := by
  unfold xstep
  split
  · exact Nat.min_le_right _ _
  · exact h
theorem xfold_le (s : List UInt8) : xfold s ≤ capM := by
  unfold xfold
  have : ∀ (l : List UInt8) (x : Nat), x ≤ capM → l.foldl xstep x ≤ capM := by
    intro l
    induction l with
    | nil => exact fun x h => h
    | cons c l ih => exact fun x h => ih _ (xstep_le h c)
  exact this s 0 (by decide)
theorem xmore_le {x : Nat} (h : x ≤ capM) : ∀ n, xmore x n ≤ capM
  | 0 => h
  | _n + 1 => Nat.min_le_right _ _
theorem xstep_dig {x : Nat} {c : UInt8} (_hx : x ≤ capM) (hc : digitB c = true) : (min (IntKind.i64.wrap (IntKind.i64.wrap (10 * min (x : Int) 115292150460684698) + IntKind.i64.wrap (IntKind.u8.wrap ((c.toNat : Int) - 48)))) 1152921504606846977 : Int) = (xstep x c : Nat) := by
  have h := digitB_iff.1 hc
  rw [wrap8_in (n := (c.toNat : Int) - 48) (by omega) (by omega), wrap64_in (n := (c.toNat : Int) - 48) (by omega) (by omega), wrap64_in (n := 10 * min (x : Int) 115292150460684698) (by omega) (by omega), wrap64_in (by omega) (by omega)]
  simp only [xstep, hc, if_true, capM]
  omega
theorem xmore_step {x : Nat} {n : Nat} : (min (IntKind.i64.wrap (10 * min (xmore x n : Int) 115292150460684698)) 1152921504606846977 : Int) = (xmore x (n + 1) : Nat) := by
  rw [wrap64_in (by omega) (by omega)]
  simp only [xmore, capM]
  omega
theorem bfold_whole (s : List UInt8) : -1 ≤ bfold s ∧ bfold s ≤ s.length := by
  have := bfold_le s s.length (Nat.le_refl _)
  rw [List.take_length] at this
  exact this
theorem p62 (m : Int) (s : List UInt8) (hl : s.length ≤ 1000000) : PureOk PP (G8 m) XF (tbl [(72, s72), (73, s73)]) (itbl []) (a62 s) [] 62 [.str s] (.tup [.int .i64 (refP s).1, .int .i64 (refP s).2], []) := by
  constructor
  rw [w62]
  have t72 : tbl [(72, s72), (73, s73)] 72 [.str s] = some (.bool (formP s), []) := by rw [tbl_hit]; simp only [s72]; rw [if_pos hl]
  simp only [callIs_iff, t72, dig_dec, valsAre_iff, stIs_iff, retIs_iff, Option.some.injEq, Prod.mk.injEq, AV.bool.injEq, AV.int.injEq, AV.tup.injEq, List.cons.injEq, and_true, true_and, decide_eq_true_eq, decide_eq_false_iff_not, Int.toNat_natCast, beq_iff_eq, beq_eq_false_iff_ne, ne_eq, gt_iff_lt, ge_iff_le, true_implies, tf_imp, eq46, eq45]
  have hbw := bfold_whole s
  have land : ∀ (x : Nat) (v b : Int), x < s.length → v = (xfold (s.take (x + 1)) : Nat) → b = bfold (s.take (x + 1)) → ∃ y : Nat, (v = (xfold (s.take y) : Nat) ∧ b = bfold (s.take y) ∧ IntKind.i64.wrap ((x : Int) + 1) = y) ∧ y ≤ s.length ∧ s.length - y < s.length - x := fun x v b hlt h1 h2 =>
    ⟨x + 1, ⟨h1, h2, by rw [wrap64_in (by omega) (by omega)]; rfl⟩, by omega, by omega⟩
  refine ⟨_, rfl, fun hf => ⟨⟨0, by simp [xfold, bfold]⟩, fun x hx => ⟨fun hlt => ⟨by omega, _, sAtOpt (i := x) (by omega), fun h46 => ⟨by omega, _, sAtOpt (i := x) (by omega), _, rfl, fun hd => ?_, fun hd => ?_⟩, fun h46 => ⟨by omega, _, sAtOpt (i := x) (by omega), _, rfl, fun hd => ⟨by omega, _, sAtOpt (i := x) (by omega), fun hb => ?_, fun hb => ?_⟩, fun hd => ?_⟩⟩, fun hge => ?_⟩⟩, fun hf => ?_⟩
  · rw [h46] at hd; exact absurd hd (by decide)
  · refine land x _ _ (by omega) ?_ ?_
    · rw [xfold_succ (by omega), xstep, hd]; rfl
    · rw [bfold_succ (by omega), bstep, if_pos h46]
  · have hbl := bfold_le s x hx
    refine land x _ _ (by omega) ?_ ?_
    · rw [xfold_succ (by omega)]; exact xstep_dig (xfold_le _) hd
    · rw [bfold_succ (by omega), bstep, if_neg h46, if_pos hd, if_pos hb, wrap64_in (by omega) (by omega)]
  · refine land x _ _ (by omega) ?_ ?_
    · rw [xfold_succ (by omega)]; exact xstep_dig (xfold_le _) hd
    · rw [bfold_succ (by omega), bstep, if_neg h46, if_pos hd, if_neg hb]
  · refine land x _ _ (by omega) ?_ ?_
    · rw [xfold_succ (by omega), xstep, hd]; rfl
    · rw [bfold_succ (by omega), bstep, if_neg h46, if_neg (by rw [hd]; decide)]
  · have hxl : x = s.length := by omega
    subst hxl
    rw [List.take_length]
    refine ⟨⟨0, by simp [xmore]⟩, fun j hj => ⟨fun hlt => ⟨j + 1, ⟨xmore_step, ?_⟩, by omega, by omega⟩, fun hge => ?_⟩⟩
    · rw [wrap64_in (by omega) (by omega)]; simp; omega
    · have hje : j = (6 - max (bfold s) 0).toNat := by omega
      have hne : 0 < s.length := by
        cases s with
        | nil => simp [formP, formR, restB, negB] at hf
        | cons c t => simp
      have hcap := xmore_le (xfold_le s) j
      simp only [refP, hf, ← hje, Bool.true_eq_false, if_false]
      have h45 : (s.head? = some 45) ↔ s.getD 0 0 = 45 := by
        cases s with
        | nil => simp at hne
        | cons c t => simp
      refine ⟨fun hgt => ?_, fun hle => ⟨by omega, _, sAtOpt (i := 0) hne, fun h => ?_, fun h => ?_⟩⟩
      · rw [if_pos (by unfold capM; omega)]; exact ⟨rfl, rfl⟩
      · rw [if_neg (by unfold capM; omega)]
        simp only [h45, h, if_true]
        rw [wrap64_in (by omega) (by omega)]
        exact ⟨by omega, trivial⟩
      · rw [if_neg (by unfold capM; omega)]
        simp only [h45, h, if_false]
        trivial
  · simp only [refP, hf, if_true]; trivial
end Go.Abs

namespace Go.Abs
open Go.Proofs L8

theorem dfold_snoc (l : List UInt8) (c : UInt8) : dfold (l ++ [c]) = dstep (dfold l) c := by unfold dfold; rw [List.foldl_append]; rfl
theorem all_snoc {l : List UInt8} {c : UInt8} (h : l.all digitB = true) (hc : digitB c = true) : (l ++ [c]).all digitB = true := by simp [List.all_append, h, hc]
theorem dfold_shape : ∀ (n : Nat) (r : List UInt8), r.length = n → ∀ ds k, dfold r = some (ds, k) → (k = none ∧ ds = r ∧ r.all digitB = true) ∨ (∃ a b, r = a ++ 46 :: b ∧ a ≠ [] ∧ a.all digitB = true ∧ b.all digitB = true ∧ ds = a ++ b ∧ k = some b.length) := by
  intro n
  induction n with
  | zero =>
    intro r hr ds k h
    have : r = [] := List.length_eq_zero_iff.1 hr
    subst this
    simp [dfold] at h
    exact .inl ⟨h.2.symm, h.1, rfl⟩
  | succ n ih =>
    intro r hr ds k h
    have hne : r ≠ [] := by rintro rfl; simp at hr
    obtain ⟨l, c, rfl⟩ : ∃ l c, r = l ++ [c] := ⟨r.dropLast, r.getLast hne, (List.dropLast_concat_getLast hne).symm⟩
    rw [dfold_snoc] at h
    have hl : l.length = n := by simp at hr; exact hr
    cases hd : dfold l with
    | none => rw [hd] at h; simp [dstep] at h
    | some p =>
      obtain ⟨ds', k'⟩ := p
      rw [hd] at h
      have hs := ih l hl ds' k' hd
      simp only [dstep] at h
      split at h
      · rename_i hc
        obtain ⟨rfl, rfl, hne'⟩ := hc
        simp only [Option.some.injEq, Prod.mk.injEq] at h
        obtain ⟨rfl, rfl⟩ := h
        rcases hs with ⟨_, rfl, ha⟩ | ⟨a, b, _, _, _, _, _, hk⟩
        · exact .inr ⟨ds', [], rfl, hne', ha, rfl, by simp, rfl⟩
        · cases hk
      · split at h
        · rename_i hdg
          simp only [Option.some.injEq, Prod.mk.injEq] at h
          obtain ⟨rfl, rfl⟩ := h
          rcases hs with ⟨rfl, rfl, ha⟩ | ⟨a, b, rfl, h1, h2, h3, rfl, rfl⟩
          · exact .inl ⟨rfl, rfl, all_snoc ha hdg⟩
          · exact .inr ⟨a, b ++ [c], by simp, h1, h2, all_snoc h3 hdg, by simp, by simp⟩
        · cases h
theorem tw_all {a : List UInt8} (h : a.all digitB = true) : a.takeWhile digitB = a := by
  induction a with
  | nil => rfl
  | cons c t ih =>
    simp only [List.all_cons, Bool.and_eq_true] at h
    rw [List.takeWhile_cons, if_pos h.1, ih h.2]
theorem tw_split {a b : List UInt8} (h : a.all digitB = true) : (a ++ 46 :: b).takeWhile digitB = a := by
  induction a with
  | nil => simp [digitB]
  | cons c t ih =>
    simp only [List.all_cons, Bool.and_eq_true] at h
    rw [List.cons_append, List.takeWhile_cons, if_pos h.1, ih h.2]
theorem drop_split {a b : List UInt8} : (a ++ 46 :: b).drop (a.length + 1) = b := by
  rw [List.drop_append]; simp
theorem formR_dig {r : List UInt8} (h : r.all digitB = true) : formR r = decide (r ≠ []) := by
  simp only [formR, tw_all h]
  cases r <;> simp
theorem formR_point {a b : List UInt8} (ha : a.all digitB = true) (hne : a ≠ []) (hb : b.all digitB = true) : formR (a ++ 46 :: b) = (decide (1 ≤ b.length) && decide (b.length ≤ 6)) := by
  have h0 : a.length ≠ 0 := fun h => hne (List.length_eq_zero_iff.1 h)
  simp only [formR, tw_split ha, drop_split, tw_all hb]
  have e : (a ++ 46 :: b)[a.length]? = some 46 := by simp
  have e2 : (a ++ 46 :: b).length = a.length + 1 + b.length := by simp; omega
  rw [e, e2]
  have e3 : ¬ a.length = a.length + 1 + b.length := by omega
  simp [h0, e3]
/-- what is formed splits -/
theorem formR_shape {r : List UInt8} (h : formR r = true) : (r.all digitB = true ∧ r ≠ []) ∨ ∃ a b, r = a ++ 46 :: b ∧ a ≠ [] ∧ a.all digitB = true ∧ b.all digitB = true ∧ 1 ≤ b.length ∧ b.length ≤ 6 := by
  simp only [formR, Bool.and_eq_true, Bool.or_eq_true, decide_eq_true_eq] at h
  have hall := takeWhile_all digitB r
  have hpre : r.takeWhile digitB = r.take (r.takeWhile digitB).length := (List.prefix_iff_eq_take.1 (List.takeWhile_prefix digitB))
  obtain ⟨h0, h | ⟨⟨⟨h1, h2⟩, h3⟩, h4⟩⟩ := h
  · rw [h, List.take_length] at hpre
    rw [hpre] at hall
    exact .inl ⟨hall, fun e => h0 (by rw [e]; rfl)⟩
  · generalize hn : (r.takeWhile digitB).length = n at *
    have hlt := (List.getElem?_eq_some_iff.1 h1).1
    have hv := (List.getElem?_eq_some_iff.1 h1).2
    have hall2 := takeWhile_all digitB (r.drop (n + 1))
    have hpre2 : (r.drop (n + 1)).takeWhile digitB = (r.drop (n + 1)).take ((r.drop (n + 1)).takeWhile digitB).length := (List.prefix_iff_eq_take.1 (List.takeWhile_prefix digitB))
    have e2 : (r.drop (n + 1)).takeWhile digitB = r.drop (n + 1) := by
      rw [hpre2]
      exact List.take_of_length_le (by rw [List.length_drop]; omega)
    rw [e2] at hall2 h2 h3
    refine .inr ⟨r.takeWhile digitB, r.drop (n + 1), ?_, fun e => h0 (by rw [← hn, e]; rfl), hall, hall2, h2, h3⟩
    conv => lhs; rw [← List.take_append_drop n r, List.drop_eq_getElem_cons hlt, hv]
    rw [hpre]
theorem decR_bad {neg : Bool} {r : List UInt8} (h : formR r = false) : decR neg r = (0, 3) := by
  unfold decR
  split
  · rfl
  · rename_i ds k hd
    split
    · rfl
    · rename_i hc
      simp only [not_or] at hc
      rcases dfold_shape _ r rfl ds k hd with ⟨rfl, rfl, ha⟩ | ⟨a, b, rfl, h1, h2, h3, rfl, rfl⟩
      · rw [formR_dig ha] at h
        simp at h
        exact absurd h hc.1
      · rw [formR_point h2 h1 h3] at h
        simp only [Option.getD_some, Option.some.injEq] at hc
        have g1 : 1 ≤ b.length := by have := hc.2.1; omega
        have g2 : b.length ≤ 6 := by have := hc.2.2; omega
        simp [g1, g2] at h
theorem xfold_dig : ∀ (l : List UInt8) (v : Nat), l.all digitB = true → l.foldl xstep (min v capM) = min (valF v l) capM
  | [], v, _ => rfl
  | c :: l, v, h => by
    simp only [List.all_cons, Bool.and_eq_true] at h
    have hc := digitB_iff.1 h.1
    have e : xstep (min v capM) c = min (10 * v + (c.toNat - 48)) capM := by
      simp only [xstep, h.1, if_true, capM]; omega
    rw [List.foldl_cons, e, xfold_dig l _ h.2]
    rfl
theorem xstep_other {x : Nat} {c : UInt8} (h : digitB c = false) : xstep x c = x := by simp [xstep, h]
theorem xmore_eq (v : Nat) : ∀ n, xmore (min v capM) n = min (v * 10 ^ n) capM
  | 0 => by simp [xmore]
  | n + 1 => by
    have ih := xmore_eq v n
    simp only [xmore, ih, Nat.pow_succ, ← Nat.mul_assoc]
    generalize v * 10 ^ n = u
    simp only [capM]
    omega
theorem bfold_dig : ∀ (l : List UInt8) (k : Int), l.all digitB = true → l.foldl bstep k = if 0 ≤ k then k + l.length else k
  | [], k, _ => by simp
  | c :: l, k, h => by
    simp only [List.all_cons, Bool.and_eq_true] at h
    have hc : ¬ c = 46 := by rintro rfl; exact absurd h.1 (by decide)
    have e : bstep k c = if 0 ≤ k then k + 1 else k := by unfold bstep; rw [if_neg hc, if_pos h.1]
    rw [List.foldl_cons, e, bfold_dig l _ h.2]
    by_cases hk : 0 ≤ k
    · rw [if_pos hk, if_pos hk, if_pos (by omega), List.length_cons]; omega
    · rw [if_neg hk, if_neg hk, if_neg hk]
theorem capM_val : capM = 2 ^ 60 + 1 := rfl
/-- with a sign or without -/
theorem folds (s : List UInt8) : xfold s = xfold (restB s) ∧ bfold s = bfold (restB s) ∧ (s.head? = some 45 ↔ negB s = true) := by
  cases s with
  | nil => exact ⟨rfl, rfl, by simp [negB]⟩
  | cons c t =>
    by_cases h : c = 45
    · subst h
      have e : restB (45 :: t) = t := rfl
      rw [e]
      exact ⟨rfl, rfl, by simp [negB]⟩
    · have e : restB (c :: t) = c :: t := by simp [restB, negB, h]
      rw [e]
      exact ⟨rfl, rfl, by simp [negB]⟩
theorem refP_eq (s : List UInt8) : refP s = decP s := by
  have hdec : decP s = decR (negB s) (restB s) := rfl
  obtain ⟨f1, f2, f3⟩ := folds s
  by_cases hf : formR (restB s) = true
  · have fin : ∀ (v k : Nat), xfold (restB s) = min v capM → (6 - max (bfold (restB s)) 0).toNat = 6 - k → refP s = decFin (negB s) v k := fun v k h1 h2 => by
      have hfp : formP s = true := hf
      simp only [refP, hfp, Bool.true_eq_false, if_false, f1, f2, h1, h2, xmore_eq, decFin]
      by_cases hgt : 2 ^ 60 < v * 10 ^ (6 - k)
      · rw [if_pos hgt, if_pos (by rw [capM_val]; omega)]
      · rw [if_neg hgt, if_neg (by rw [capM_val]; omega), Nat.min_eq_left (by rw [capM_val]; omega)]
        simp only [f3]
    rw [hdec]
    rcases formR_shape hf with ⟨ha, hne⟩ | ⟨a, b, hr, hne, ha, hb, h1, h6⟩
    · have hd : dfold (restB s) = some (restB s, none) := by
        unfold dfold; rw [dfold_digits _ [] none ha]; simp
      have hx : xfold (restB s) = min (valL (restB s)) capM := xfold_dig (restB s) 0 ha
      have hb' : bfold (restB s) = -1 := by unfold bfold; rw [bfold_dig _ _ ha]; rfl
      rw [fin _ 0 hx (by rw [hb']; rfl), decR, hd]
      simp [hne]
    · have hd : dfold (restB s) = some (a ++ b, some b.length) := by rw [hr]; exact dfold_point ha hne hb
      have hx : xfold (restB s) = min (valL (a ++ b)) capM := by
        unfold xfold
        rw [hr, List.foldl_append, List.foldl_cons]
        have e1 := xfold_dig a 0 ha
        have e0 : min 0 capM = 0 := by decide
        rw [e0] at e1
        rw [e1, xstep_other (by decide), xfold_dig b _ hb, valL_eq, valF_append]
      have hb' : bfold (restB s) = b.length := by
        unfold bfold
        rw [hr, List.foldl_append, List.foldl_cons, bfold_dig _ _ ha]
        have e : ∀ k, bstep k 46 = 0 := fun k => by simp [bstep]
        rw [e, bfold_dig _ _ hb]; simp
      rw [fin _ b.length hx (by rw [hb']; omega), decR, hd]
      have hno : ¬ (a ++ b = [] ∨ some b.length = some 0 ∨ 6 < (some b.length).getD 0) := by
        rintro (h | h | h)
        · simp [hne] at h
        · simp only [Option.some.injEq] at h; omega
        · simp only [Option.getD_some] at h; omega
      simp only [hno, if_false]
      rfl
  · rw [Bool.not_eq_true] at hf
    rw [hdec, decR_bad hf]
    have hfp : formP s = false := hf
    simp [refP, hfp]
theorem o73 (m : Int) : SpecOk PP (G8 m) 73 s73 := spec_of (X := XF) (m := []) mixed8 tbl_nil itbl_nil fun args r h => by
  unfold s73 at h
  split at h
  · injection h with h; subst h; exact ⟨⟨nA, nA⟩, p73 m _⟩
  · cases h
theorem o81 (m : Int) : SpecOk PP (G8 m) 81 s81 := spec_of (X := XF) (m := []) mixed8 (tbl_cons (o73 m) tbl_nil) itbl_nil fun args r h => by
  unfold s81 at h
  split at h
  · rename_i l n
    split at h
    · rename_i hc
      injection h with h; subst h
      obtain ⟨k, rfl⟩ : ∃ k : Nat, n = k := ⟨n.toNat, by omega⟩
      rw [Int.toNat_natCast] at hc ⊢
      exact ⟨a81 l k, p81 m l k hc.2.1 hc.2.2⟩
    · cases h
  · cases h
theorem o72 (m : Int) : SpecOk PP (G8 m) 72 s72 := spec_of (X := XF) (m := []) mixed8 (tbl_cons (o81 m) tbl_nil) itbl_nil fun args r h => by
  unfold s72 at h
  split at h
  · split at h
    · rename_i hl
      injection h with h; subst h; exact ⟨a72 _, p72 m _ hl⟩
    · cases h
  · cases h
theorem o62 (m : Int) : SpecOk PP (G8 m) 62 s51 := spec_of (X := XF) (m := []) mixed8 (tbl_cons (o72 m) (tbl_cons (o73 m) tbl_nil)) itbl_nil fun args r h => by
  unfold s51 at h
  split at h
  · split at h
    · rename_i hl
      injection h with h; subst h
      have := p62 m _ hl
      rw [refP_eq] at this
      exact ⟨a62 _, this⟩
    · cases h
  · cases h
theorem o13' (m : Int) : SpecOk PP (G8 m) 13 s12 := o13 m (o62 m)
theorem o12' (m : Int) : SpecOk PP (G8 m) 12 s12 := o12 m (o39' m) (o40 m)
end Go.Abs

namespace Go.Abs
open Go.Proofs L8

structure TI where
  kind : Int
  text : List UInt8
  at_ : Int
  deriving DecidableEq
structure PI where
  at_ : Int
  code : Int
  deriving DecidableEq
def tiA (t : TI) : AV := .agg [.int .i64 t.kind, .str t.text, .int .i64 t.at_]
def piA (p : PI) : AV := .agg [.int .i64 p.at_, .int .i64 p.code]
def toTI (t : Tk) : TI := ⟨t.kind, t.text, t.at_⟩
def toPI (p : Pb) : PI := ⟨p.at_, p.code⟩
theorem tokA_ti (t : Tk) : tokA t = tiA (toTI t) := rfl
theorem pbA_pi (p : Pb) : pbA p = piA (toPI p) := rfl
abbrev tksL (l : List TI) : List AV := l.map tiA
abbrev pbsL (l : List PI) : List AV := l.map piA
def unTI : AV → Option TI
  | .agg [.int .i64 k, .str s, .int .i64 a] => some ⟨k, s, a⟩
  | _ => none
def unPI : AV → Option PI
  | .agg [.int .i64 a, .int .i64 c] => some ⟨a, c⟩
  | _ => none
def unL {α : Type} (f : AV → Option α) : List AV → Option (List α)
  | [] => some []
  | x :: l => match f x, unL f l with
    | some a, some b => some (a :: b)
    | _, _ => none
theorem unTI_some {x : AV} {t : TI} (h : unTI x = some t) : x = tiA t := by
  unfold unTI at h
  split at h
  · injection h with h; subst h; rfl
  · cases h
theorem unPI_some {x : AV} {t : PI} (h : unPI x = some t) : x = piA t := by
  unfold unPI at h
  split at h
  · injection h with h; subst h; rfl
  · cases h
theorem unL_mk {α : Type} {f : AV → Option α} {g : α → AV} (h : ∀ a, f (g a) = some a) : ∀ l : List α, unL f (l.map g) = some l
  | [] => rfl
  | a :: l => by simp only [List.map_cons, unL, h, unL_mk h l]
theorem unL_some {α : Type} {f : AV → Option α} {g : α → AV} (h : ∀ x a, f x = some a → x = g a) : ∀ {es : List AV} {l : List α}, unL f es = some l → es = l.map g
  | [], l, he => by simp only [unL, Option.some.injEq] at he; subst he; rfl
  | x :: es, l, he => by
    simp only [unL] at he
    split at he
    · rename_i a b h1 h2
      injection he with he; subst he
      rw [h x a h1, unL_some h h2]; rfl
    · cases he
theorem unTIs (l : List TI) : unL unTI (tksL l) = some l := unL_mk (g := tiA) (fun _ => rfl) l
theorem unPIs (l : List PI) : unL unPI (pbsL l) = some l := unL_mk (g := piA) (fun _ => rfl) l
def sameT (far : Bool) (more : Int) (a b : TI) : Bool := a.kind == b.kind && a.text == b.text && (!far || IntKind.i64.wrap (a.at_ + more) == b.at_)
def all2B {α : Type} (p : α → α → Bool) : List α → List α → Bool
  | [], [] => true
  | a :: l, b :: m => p a b && all2B p l m
  | _, _ => false
def s14 : Spec := fun args => match args with
  | [.sl sz es .no, .sl sz' fs .no, .bool far, .int .i64 more] => if sz = 3 ∧ sz' = 3 then match unL unTI es, unL unTI fs with
    | some l, some k => if l.length ≤ 1000000 ∧ k.length ≤ 1000000 then some (.bool (all2B (sameT far more) l k), []) else none
    | _, _ => none else none
  | _ => none
def s15 : Spec := fun args => match args with
  | [.sl sz es .no, .sl sz' fs .no] => if sz = 2 ∧ sz' = 2 then match unL unPI es, unL unPI fs with
    | some l, some k => if l.length ≤ 1000000 ∧ k.length ≤ 1000000 then some (.bool (all2B (fun a b => decide (a = b)) l k), []) else none
    | _, _ => none else none
  | _ => none
def shToks : Sh × Option TypeId := (.tup [.one (.sl 3 .no), .one (.sl 2 .no), .one (.int .i64)], none)
def XS : Shapes := fun f => match f with
  | 11 | 14 | 15 | 16 | 17 | 18 | 19 | 20 => some shB
  | 12 | 13 => some shToks
  | _ => none
def a14 (l k : List TI) (far : Bool) (more : Int) : Anns := ⟨fun r => if r = 4 then some { α := Nat, slots := [0, 1, 2, 3, 9], nb := 0, vals := fun i => [.sl 3 (tksL l) .no, .sl 3 (tksL k) .no, .bool far, .int .i64 more, .int .i64 i], sS := fun _ => ⟨[], []⟩, I := fun i => i ≤ l.length ∧ all2B (sameT far more) (l.take i) (k.take i) = true, μ := fun i => l.length - i, bools := [2] } else none, nA⟩
def a15 (l k : List PI) : Anns := ⟨fun r => if r = 4 then some { α := Nat, slots := [0, 1, 5], nb := 0, vals := fun i => [.sl 2 (pbsL l) .no, .sl 2 (pbsL k) .no, .int .i64 i], sS := fun _ => ⟨[], []⟩, I := fun i => i ≤ l.length ∧ l.take i = k.take i, μ := fun i => l.length - i } else none, nA⟩
end Go.Abs

namespace Go.Abs
open Go.Proofs L8
theorem w14 (m : Int) (l k : List TI) (far : Bool) (more : Int) : (pureW PP (G8 m) XS (tbl []) (itbl []) (a14 l k far more) [] 14 [.sl 3 (tksL l) .no, .sl 3 (tksL k) .no, .bool far, .int .i64 more] (.bool (all2B (sameT far more) l k), [])) =
((((↑(tksL l).length : Int) != (↑(tksL k).length : Int)) = true → RetIs (AV.bool false) [] (AV.bool (all2B (sameT far more) l k), [])) ∧
  (((↑(tksL l).length : Int) != (↑(tksL k).length : Int)) = false →
    (∃ (y : Nat),
        ValsAre [AV.sl (nat_lit 3) (tksL l) Own.no, AV.sl (nat_lit 3) (tksL k) Own.no, AV.bool far, AV.int IntKind.i64 more, AV.int IntKind.i64 (0 : Int)]
 [AV.sl (nat_lit 3) (tksL l) Own.no, AV.sl (nat_lit 3) (tksL k) Own.no, AV.bool far, AV.int IntKind.i64 more, AV.int IntKind.i64 (↑y : Int)] ∧
 StIs { boxes := [], live := [] } { boxes := [], live := [] } ∧
 (y ≤ l.length ∧ all2B (sameT far more) (List.take y l) (List.take y k) = true) ∧ True) ∧
      ∀ (x : Nat),
        x ≤ l.length ∧ all2B (sameT far more) (List.take x l) (List.take x k) = true →
 (far = true →
 (decide ((↑x : Int) < (↑(tksL l).length : Int)) = true →
 ((0 : Int) ≤ (↑x : Int) ∧ (↑x : Int) < (↑(tksL l).length : Int)) ∧
 ∃ (n : Int),
 takeAt PP (nat_lit 3) (tksL l) (↑x : Int).toNat (nat_lit 0) = some (AV.int IntKind.i64 n) ∧
 ((0 : Int) ≤ (↑x : Int) ∧ (↑x : Int) < (↑(tksL k).length : Int)) ∧
 ∃ (n_1 : Int),
 takeAt PP (nat_lit 3) (tksL k) (↑x : Int).toNat (nat_lit 0) = some (AV.int IntKind.i64 n_1) ∧
 ((n != n_1) = true → RetIs (AV.bool false) [] (AV.bool (all2B (sameT far more) l k), [])) ∧
 ((n != n_1) = false →
 ((0 : Int) ≤ (↑x : Int) ∧ (↑x : Int) < (↑(tksL l).length : Int)) ∧
 ∃ (s : List UInt8),
 takeAt PP (nat_lit 9) (tksL l) (↑x : Int).toNat (nat_lit 1) = some (AV.str s) ∧
 ((0 : Int) ≤ (↑x : Int) ∧ (↑x : Int) < (↑(tksL k).length : Int)) ∧
 ∃ (s_1 : List UInt8),
 takeAt PP (nat_lit 9) (tksL k) (↑x : Int).toNat (nat_lit 1) = some (AV.str s_1) ∧
 ((!s == s_1) = true → RetIs (AV.bool false) [] (AV.bool (all2B (sameT far more) l k), [])) ∧
 ((!s == s_1) = false →
 ((0 : Int) ≤ (↑x : Int) ∧ (↑x : Int) < (↑(tksL l).length : Int)) ∧
 ∃ (n : Int),
 takeAt PP (nat_lit 3) (tksL l) (↑x : Int).toNat (nat_lit 2) = some (AV.int IntKind.i64 n) ∧
 ((0 : Int) ≤ (↑x : Int) ∧ (↑x : Int) < (↑(tksL k).length : Int)) ∧
 ∃ (n_2 : Int),
 takeAt PP (nat_lit 3) (tksL k) (↑x : Int).toNat (nat_lit 2) = some (AV.int IntKind.i64 n_2) ∧
 ((IntKind.i64.wrap (n + more) != n_2) = true →
 RetIs (AV.bool false) [] (AV.bool (all2B (sameT far more) l k), [])) ∧
 ((IntKind.i64.wrap (n + more) != n_2) = false →
 ∃ (y : Nat),
 ValsAre
 [AV.sl (nat_lit 3) (tksL l) Own.no, AV.sl (nat_lit 3) (tksL k) Own.no, AV.bool true,
 AV.int IntKind.i64 more,
 AV.int IntKind.i64 (IntKind.i64.wrap ((↑x : Int) + (1 : Int)))]
 [AV.sl (nat_lit 3) (tksL l) Own.no, AV.sl (nat_lit 3) (tksL k) Own.no, AV.bool far,
 AV.int IntKind.i64 more, AV.int IntKind.i64 (↑y : Int)] ∧
 StIs { boxes := [], live := [] } { boxes := [], live := [] } ∧
 (y ≤ l.length ∧ all2B (sameT far more) (List.take y l) (List.take y k) = true) ∧
 l.length - y < l.length - x)))) ∧
 (decide ((↑x : Int) < (↑(tksL l).length : Int)) = false → RetIs (AV.bool true) [] (AV.bool (all2B (sameT far more) l k), []))) ∧
 (far = false →
 (decide ((↑x : Int) < (↑(tksL l).length : Int)) = true →
 ((0 : Int) ≤ (↑x : Int) ∧ (↑x : Int) < (↑(tksL l).length : Int)) ∧
 ∃ (n : Int),
 takeAt PP (nat_lit 3) (tksL l) (↑x : Int).toNat (nat_lit 0) = some (AV.int IntKind.i64 n) ∧
 ((0 : Int) ≤ (↑x : Int) ∧ (↑x : Int) < (↑(tksL k).length : Int)) ∧
 ∃ (n_1 : Int),
 takeAt PP (nat_lit 3) (tksL k) (↑x : Int).toNat (nat_lit 0) = some (AV.int IntKind.i64 n_1) ∧
 ((n != n_1) = true → RetIs (AV.bool false) [] (AV.bool (all2B (sameT far more) l k), [])) ∧
 ((n != n_1) = false →
 ((0 : Int) ≤ (↑x : Int) ∧ (↑x : Int) < (↑(tksL l).length : Int)) ∧
 ∃ (s : List UInt8),
 takeAt PP (nat_lit 9) (tksL l) (↑x : Int).toNat (nat_lit 1) = some (AV.str s) ∧
 ((0 : Int) ≤ (↑x : Int) ∧ (↑x : Int) < (↑(tksL k).length : Int)) ∧
 ∃ (s_1 : List UInt8),
 takeAt PP (nat_lit 9) (tksL k) (↑x : Int).toNat (nat_lit 1) = some (AV.str s_1) ∧
 ((!s == s_1) = true → RetIs (AV.bool false) [] (AV.bool (all2B (sameT far more) l k), [])) ∧
 ((!s == s_1) = false →
 ∃ (y : Nat),
 ValsAre
 [AV.sl (nat_lit 3) (tksL l) Own.no, AV.sl (nat_lit 3) (tksL k) Own.no, AV.bool false,
 AV.int IntKind.i64 more, AV.int IntKind.i64 (IntKind.i64.wrap ((↑x : Int) + (1 : Int)))]
 [AV.sl (nat_lit 3) (tksL l) Own.no, AV.sl (nat_lit 3) (tksL k) Own.no, AV.bool far,
 AV.int IntKind.i64 more, AV.int IntKind.i64 (↑y : Int)] ∧
 StIs { boxes := [], live := [] } { boxes := [], live := [] } ∧
 (y ≤ l.length ∧ all2B (sameT far more) (List.take y l) (List.take y k) = true) ∧
 l.length - y < l.length - x))) ∧
 (decide ((↑x : Int) < (↑(tksL l).length : Int)) = false → RetIs (AV.bool true) [] (AV.bool (all2B (sameT far more) l k), []))))) := by kernel_rfl
theorem w15 (m : Int) (l k : List PI) : (pureW PP (G8 m) XS (tbl []) (itbl []) (a15 l k) [] 15 [.sl 2 (pbsL l) .no, .sl 2 (pbsL k) .no] (.bool (all2B (fun a b => decide (a = b)) l k), [])) =
((((↑(pbsL l).length : Int) != (↑(pbsL k).length : Int)) = true → RetIs (AV.bool false) [] (AV.bool (all2B (fun (a b : PI) => decide (a = b)) l k), [])) ∧
  (((↑(pbsL l).length : Int) != (↑(pbsL k).length : Int)) = false →
    (∃ (y : Nat),
        ValsAre [AV.sl (nat_lit 2) (pbsL l) Own.no, AV.sl (nat_lit 2) (pbsL k) Own.no, AV.int IntKind.i64 (0 : Int)]
 [AV.sl (nat_lit 2) (pbsL l) Own.no, AV.sl (nat_lit 2) (pbsL k) Own.no, AV.int IntKind.i64 (↑y : Int)] ∧
 StIs { boxes := [], live := [] } { boxes := [], live := [] } ∧ (y ≤ l.length ∧ List.take y l = List.take y k) ∧ True) ∧
      ∀ (x : Nat),
        x ≤ l.length ∧ List.take x l = List.take x k →
 (decide ((↑x : Int) < (↑(pbsL l).length : Int)) = true →
 ((0 : Int) ≤ (↑x : Int) ∧ (↑x : Int) < (↑(pbsL l).length : Int)) ∧
 ∃ (n : Int),
 ∃ (n_1 : Int),
 takeAt PP (nat_lit 40) (pbsL l) (↑x : Int).toNat (nat_lit 0) = some (AV.agg [AV.int IntKind.i64 n, AV.int IntKind.i64 n_1]) ∧
 ((0 : Int) ≤ (↑x : Int) ∧ (↑x : Int) < (↑(pbsL k).length : Int)) ∧
 ∃ (n_2 : Int),
 ∃ (n_3 : Int),
 takeAt PP (nat_lit 40) (pbsL k) (↑x : Int).toNat (nat_lit 0) = some (AV.agg [AV.int IntKind.i64 n_2, AV.int IntKind.i64 n_3]) ∧
 ((!(n == n_2 && (n_1 == n_3 && true))) = true →
 RetIs (AV.bool false) [] (AV.bool (all2B (fun (a b : PI) => decide (a = b)) l k), [])) ∧
 ((!(n == n_2 && (n_1 == n_3 && true))) = false →
 ∃ (y : Nat),
 ValsAre
 [AV.sl (nat_lit 2) (pbsL l) Own.no, AV.sl (nat_lit 2) (pbsL k) Own.no,
 AV.int IntKind.i64 (IntKind.i64.wrap ((↑x : Int) + (1 : Int)))]
 [AV.sl (nat_lit 2) (pbsL l) Own.no, AV.sl (nat_lit 2) (pbsL k) Own.no, AV.int IntKind.i64 (↑y : Int)] ∧
 StIs { boxes := [], live := [] } { boxes := [], live := [] } ∧
 (y ≤ l.length ∧ List.take y l = List.take y k) ∧ l.length - y < l.length - x)) ∧
 (decide ((↑x : Int) < (↑(pbsL l).length : Int)) = false → RetIs (AV.bool true) [] (AV.bool (all2B (fun (a b : PI) => decide (a = b)) l k), [])))) := by kernel_rfl
theorem w3 (m : Int) (bs : List UInt8) (s11 : Spec) : (pureW PP (G8 m) XS (tbl [(11, s11), (12, s12), (13, s12), (14, s14), (15, s15)]) (itbl []) nAn [] 3 [bytesA bs] (.bool true, [])) =
(∃ (b : Bool),
  CallIs (tbl [(nat_lit 11, s11), (nat_lit 12, s12), (nat_lit 13, s12), (nat_lit 14, s14), (nat_lit 15, s15)] (nat_lit 11) []) (AV.bool b) [] ∧
    (b = true →
        (decide ((↑(bytesL bs).length : Int) > (17000 : Int)) = true → RetIs (AV.bool true) [] (AV.bool true, [])) ∧
 (decide ((↑(bytesL bs).length : Int) > (17000 : Int)) = false →
 ∃ (es : List AV),
 ∃ (es_1 : List AV),
 ∃ (n : Int),
 CallIs
 (tbl [(nat_lit 11, s11), (nat_lit 12, s12), (nat_lit 13, s12), (nat_lit 14, s14), (nat_lit 15, s15)] (nat_lit 12)
 [AV.sl (nat_lit 1) (bytesL bs) Own.no])
 (AV.tup [AV.sl (nat_lit 3) es Own.no, AV.sl (nat_lit 2) es_1 Own.no, AV.int IntKind.i64 n]) [] ∧
 ∃ (es_2 : List AV),
 ∃ (es_3 : List AV),
 ∃ (n_1 : Int),
 CallIs
 (tbl [(nat_lit 11, s11), (nat_lit 12, s12), (nat_lit 13, s12), (nat_lit 14, s14), (nat_lit 15, s15)] (nat_lit 13)
 [AV.sl (nat_lit 1) (bytesL bs) Own.no])
 (AV.tup [AV.sl (nat_lit 3) es_2 Own.no, AV.sl (nat_lit 2) es_3 Own.no, AV.int IntKind.i64 n_1]) [] ∧
 ((n == n_1) = true →
 ∃ (b : Bool),
 CallIs
 (tbl [(nat_lit 11, s11), (nat_lit 12, s12), (nat_lit 13, s12), (nat_lit 14, s14), (nat_lit 15, s15)] (nat_lit 14)
 [AV.sl (nat_lit 3) es Own.no, AV.sl (nat_lit 3) es_2 Own.no, AV.bool true, AV.int IntKind.i64 (0 : Int)])
 (AV.bool b) [] ∧
 (b = true →
 ∃ (b : Bool),
 CallIs
 (tbl [(nat_lit 11, s11), (nat_lit 12, s12), (nat_lit 13, s12), (nat_lit 14, s14), (nat_lit 15, s15)] (nat_lit 15)
 [AV.sl (nat_lit 2) es_1 Own.no, AV.sl (nat_lit 2) es_3 Own.no])
 (AV.bool b) [] ∧
 (b = true → RetIs (AV.bool true) [] (AV.bool true, [])) ∧
 (b = false → RetIs (AV.bool false) [] (AV.bool true, []))) ∧
 (b = false → RetIs (AV.bool false) [] (AV.bool true, []))) ∧
 ((n == n_1) = false → RetIs (AV.bool false) [] (AV.bool true, [])))) ∧
      (b = false → RetIs (AV.bool false) [] (AV.bool true, []))) := by kernel_rfl
end Go.Abs
