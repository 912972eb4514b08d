/- Own texts, part 5. -/
import Derived.Test.YtpijifiekgbjnaaGreatDoorPart4
import Derived.WideMake

namespace Go.Abs
open Go.Proofs
def digitB (c : UInt8) : Bool := decide (48 ≤ c.toNat ∧ c.toNat ≤ 57)
theorem getD_drop' {bs : List UInt8} {i k : Nat} : (bs.drop i).getD k 0 = bs.getD (i + k) 0 := by
  simp [List.getElem?_drop]
end Go.Abs
namespace Go.Abs.L8
open Go.Abs
def valL (s : List UInt8) : Nat := s.foldl (fun n c => 10 * n + (c.toNat - 48)) 0
theorem tw_le {p : UInt8 → Bool} (l : List UInt8) : (l.takeWhile p).length ≤ l.length := (List.takeWhile_prefix p).length_le
end Go.Abs.L8
namespace Go.Abs
open Go.Proofs L8
def shTI : Sh × Option TypeId := (.tup [.one (.int .i64), .one (.int .i64)], none)
def shTE : Sh × Option TypeId := (.tup [.one (.int .i64), .one .err], none)
def XL : Shapes := fun f => match f with
  | 45 => some shTI
  | 46 => some shTE
  | _ => none
def valF (n : Nat) (l : List UInt8) : Nat := l.foldl (fun n c => 10 * n + (c.toNat - 48)) n
theorem valL_eq (l : List UInt8) : valL l = valF 0 l := rfl
theorem valF_append (l k : List UInt8) (n : Nat) : valF n (l ++ k) = valF (valF n l) k := by simp [valF]
theorem digitB_iff {c : UInt8} : digitB c = true ↔ 48 ≤ c.toNat ∧ c.toNat ≤ 57 := by simp [digitB]
/-- a decimal: its millionths, its problem -/
def dstep (s : Option (List UInt8 × Option Nat)) (c : UInt8) : Option (List UInt8 × Option Nat) :=
  match s with
  | none => none
  | some (ds, k) =>
    if c = 46 ∧ k = none ∧ ds ≠ [] then some (ds, some 0)
    else if digitB c = true then some (ds ++ [c], k.map (· + 1))
    else none
def dfold (l : List UInt8) : Option (List UInt8 × Option Nat) := l.foldl dstep (some ([], none))
def decFin (neg : Bool) (v k : Nat) : Int × Int :=
  if 2 ^ 60 < v * 10 ^ (6 - k) then (0, 2) else (if neg then -((v * 10 ^ (6 - k) : Nat) : Int) else ((v * 10 ^ (6 - k) : Nat) : Int), 0)
def decR (neg : Bool) (r : List UInt8) : Int × Int :=
  match dfold r with
  | none => (0, 3)
  | some (ds, k) => if ds = [] ∨ k = some 0 ∨ 6 < k.getD 0 then (0, 3) else decFin neg (valL ds) (k.getD 0)
def negB (s : List UInt8) : Bool := s.head? == some 45
def decP (s : List UInt8) : Int × Int := decR (negB s) (if negB s then s.drop 1 else s)
theorem dfold_none (l : List UInt8) : l.foldl dstep none = none := by
  induction l with
  | nil => rfl
  | cons c l ih => simpa [dstep] using ih
theorem dfold_digits : ∀ (a : List UInt8) (ds : List UInt8) (k : Option Nat), a.all digitB = true → a.foldl dstep (some (ds, k)) = some (ds ++ a, k.map (· + a.length))
  | [], ds, k, _ => by cases k <;> simp
  | c :: a, ds, k, h => by
    simp only [List.all_cons, Bool.and_eq_true] at h
    have hc : ¬ (c = 46) := by rintro rfl; simp [digitB] at h
    rw [List.foldl_cons]
    have : dstep (some (ds, k)) c = some (ds ++ [c], k.map (· + 1)) := by
      simp only [dstep]; rw [if_neg (fun h => hc h.1), if_pos h.1]
    rw [this, dfold_digits a _ _ h.2]
    cases k <;> simp; omega
theorem dfold_point {a b : List UInt8} (ha : a.all digitB = true) (hne : a ≠ []) (hb : b.all digitB = true) : dfold (a ++ 46 :: b) = some (a ++ b, some b.length) := by
  unfold dfold
  rw [List.foldl_append, dfold_digits a [] none ha, List.foldl_cons]
  have : dstep (some ([] ++ a, Option.map (· + a.length) none)) 46 = some (a, some 0) := by
    simp [dstep, hne]
  rw [this, dfold_digits b a (some 0) hb]
  simp
theorem takeWhile_all (p : UInt8 → Bool) (l : List UInt8) : (l.takeWhile p).all p = true := by
  induction l with
  | nil => rfl
  | cons c l ih =>
    rw [List.takeWhile_cons]
    split
    · rename_i h; simp [h, ih]
    · rfl
structure X45 where
  i : Nat
  ds : List UInt8
  k : Option Nat
  x : Int
  big : Bool
def ptv (i : Nat) : Option Nat → Int
  | none => -1
  | some j => (i : Int) - j - 1
structure Inv45 (r : List UInt8) (y : X45) : Prop where
  i : y.i ≤ r.length
  fold : dfold (r.take y.i) = some (y.ds, y.k)
  k : ∀ j, y.k = some j → j + 1 ≤ y.i ∧ y.ds ≠ []
  k0 : y.k = none → y.ds.length = y.i
  small : y.big = false → y.x = valL y.ds ∧ valL y.ds ≤ 1152921504606846976
  great : y.big = true → 1152921504606846976 < valL y.ds
  x : 0 ≤ y.x ∧ y.x ≤ 1152921504606846976
def restB (s : List UInt8) : List UInt8 := if negB s then s.drop 1 else s
structure End45 (r : List UInt8) (y : X45) : Prop where
  inv : Inv45 r y
  i : y.i = r.length
def a45 (s : List UInt8) : Anns := ⟨fun k => match k with
  | 6 => some { α := X45, slots := [2, 4, 5, 6, 7, 8], nb := 0, vals := fun y => [.int .i64 y.x, .str (restB s), .bool (negB s), .int .i64 (ptv y.i y.k), .bool y.big, .int .i64 y.i], sS := fun _ => ⟨[], []⟩, I := Inv45 (restB s), μ := fun y => (restB s).length - y.i, bools := [7] }
  | 1000004 => some { α := Unit, slots := [2, 4, 5], nb := 0, vals := fun _ => [.int .i64 0, .str (restB s), .bool (negB s)], sS := fun _ => ⟨[], []⟩, I := fun _ => True, μ := fun _ => 0 }
  | 1000018 => some { α := X45, slots := [2, 4, 5, 6, 7], nb := 0, vals := fun y => [.int .i64 y.x, .str (restB s), .bool (negB s), .int .i64 (ptv y.i y.k), .bool y.big], sS := fun _ => ⟨[], []⟩, I := End45 (restB s), μ := fun _ => 0, bools := [7, 5] }
  | _ => none, nA⟩
def s45 : Spec := fun args => match args with
  | [.str l] => if l.length ≤ 1000000 then some (.tup [.int .i64 (decP l).1, .int .i64 (decP l).2], []) else none
  | _ => none
theorem w45 (m : Int) (s : List UInt8) : (pureW PZ (GZ m) XL (tbl []) (itbl []) (a45 s) [] 45 [.str s] (.tup [.int .i64 (decP s).1, .int .i64 (decP s).2], [])) =
(((((!s == []) = true →
        (0 : Int) ≤ (0 : Int) ∧
          ∃ (c : UInt8),
            s[nat_lit 0]? = some c ∧
              (((↑c.toNat : Int) == (45 : Int)) = true →
                  (0 : Int) ≤ (1 : Int) ∧
                    (nat_lit 1 ≤ s.length ∧ s.length ≤ s.length) ∧
                      ∃ (_y : Unit),
                        ValsAre [AV.int IntKind.i64 (0 : Int), AV.str (List.drop (nat_lit 1) (List.take s.length s)), AV.bool true]
                            [AV.int IntKind.i64 (0 : Int), AV.str (restB s), AV.bool (negB s)] ∧
                          StIs { boxes := [], live := [] } { boxes := [], live := [] } ∧ True ∧ True) ∧
                (((↑c.toNat : Int) == (45 : Int)) = false →
                  ∃ (_y : Unit),
                    ValsAre [AV.int IntKind.i64 (0 : Int), AV.str s, AV.bool false] [AV.int IntKind.i64 (0 : Int), AV.str (restB s), AV.bool (negB s)] ∧
                      StIs { boxes := [], live := [] } { boxes := [], live := [] } ∧ True ∧ True)) ∧
      ((!s == []) = false →
        ∃ (_y : Unit),
          ValsAre [AV.int IntKind.i64 (0 : Int), AV.str s, AV.bool false] [AV.int IntKind.i64 (0 : Int), AV.str (restB s), AV.bool (negB s)] ∧
            StIs { boxes := [], live := [] } { boxes := [], live := [] } ∧ True ∧ True)) ∧
    ∀ (_x : Unit),
      True →
        True →
          ((∃ (y : X45),
                ValsAre
                    [AV.int IntKind.i64 (0 : Int), AV.str (restB s), AV.bool (negB s), AV.int IntKind.i64 (-1 : Int), AV.bool false,
                      AV.int IntKind.i64 (0 : Int)]
                    [AV.int IntKind.i64 y.x, AV.str (restB s), AV.bool (negB s), AV.int IntKind.i64 (ptv y.i y.k), AV.bool y.big,
                      AV.int IntKind.i64 (↑y.i : Int)] ∧
                  StIs { boxes := [], live := [] } { boxes := [], live := [] } ∧ Inv45 (restB s) y ∧ True) ∧
              ∀ (x : X45),
                Inv45 (restB s) x →
                  (x.big = true →
                      (decide ((↑x.i : Int) < (↑(restB s).length : Int)) = true →
                          (0 : Int) ≤ (↑x.i : Int) ∧
                            ∃ (c : UInt8),
                              (restB s)[(↑x.i : Int).toNat]? = some c ∧
                                (((↑c.toNat : Int) == (46 : Int)) = true →
                                    (decide (ptv x.i x.k < (0 : Int)) = true →
                                        (decide ((↑x.i : Int) > (0 : Int)) = true →
                                            ∃ (y : X45),
                                              ValsAre
                                                  [AV.int IntKind.i64 x.x, AV.str (restB s), AV.bool (negB s), AV.int IntKind.i64 (↑x.i : Int), AV.bool true,
                                                    AV.int IntKind.i64 (IntKind.i64.wrap ((↑x.i : Int) + (1 : Int)))]
                                                  [AV.int IntKind.i64 y.x, AV.str (restB s), AV.bool (negB s), AV.int IntKind.i64 (ptv y.i y.k), AV.bool y.big,
                                                    AV.int IntKind.i64 (↑y.i : Int)] ∧
                                                StIs { boxes := [], live := [] } { boxes := [], live := [] } ∧
                                                  Inv45 (restB s) y ∧ (restB s).length - y.i < (restB s).length - x.i) ∧
                                          (decide ((↑x.i : Int) > (0 : Int)) = false →
                                            (decide ((↑c.toNat : Int) < (48 : Int)) = true →
                                                RetIs (AV.tup [AV.int IntKind.i64 (0 : Int), AV.int IntKind.i64 (3 : Int)]) []
                                                  (AV.tup [AV.int IntKind.i64 (decP s).fst, AV.int IntKind.i64 (decP s).snd], [])) ∧
                                              (decide ((↑c.toNat : Int) < (48 : Int)) = false →
                                                (decide ((↑c.toNat : Int) > (57 : Int)) = true →
                                                    RetIs (AV.tup [AV.int IntKind.i64 (0 : Int), AV.int IntKind.i64 (3 : Int)]) []
                                                      (AV.tup [AV.int IntKind.i64 (decP s).fst, AV.int IntKind.i64 (decP s).snd], [])) ∧
                                                  (decide ((↑c.toNat : Int) > (57 : Int)) = false →
                                                    ∃ (y : X45),
                                                      ValsAre
                                                          [AV.int IntKind.i64 x.x, AV.str (restB s), AV.bool (negB s), AV.int IntKind.i64 (ptv x.i x.k),
                                                            AV.bool true, AV.int IntKind.i64 (IntKind.i64.wrap ((↑x.i : Int) + (1 : Int)))]
                                                          [AV.int IntKind.i64 y.x, AV.str (restB s), AV.bool (negB s), AV.int IntKind.i64 (ptv y.i y.k),
                                                            AV.bool y.big, AV.int IntKind.i64 (↑y.i : Int)] ∧
                                                        StIs { boxes := [], live := [] } { boxes := [], live := [] } ∧
                                                          Inv45 (restB s) y ∧ (restB s).length - y.i < (restB s).length - x.i)))) ∧
                                      (decide (ptv x.i x.k < (0 : Int)) = false →
                                        (decide ((↑c.toNat : Int) < (48 : Int)) = true →
                                            RetIs (AV.tup [AV.int IntKind.i64 (0 : Int), AV.int IntKind.i64 (3 : Int)]) []
                                              (AV.tup [AV.int IntKind.i64 (decP s).fst, AV.int IntKind.i64 (decP s).snd], [])) ∧
                                          (decide ((↑c.toNat : Int) < (48 : Int)) = false →
                                            (decide ((↑c.toNat : Int) > (57 : Int)) = true →
                                                RetIs (AV.tup [AV.int IntKind.i64 (0 : Int), AV.int IntKind.i64 (3 : Int)]) []
                                                  (AV.tup [AV.int IntKind.i64 (decP s).fst, AV.int IntKind.i64 (decP s).snd], [])) ∧
                                              (decide ((↑c.toNat : Int) > (57 : Int)) = false →
                                                ∃ (y : X45),
                                                  ValsAre
                                                      [AV.int IntKind.i64 x.x, AV.str (restB s), AV.bool (negB s), AV.int IntKind.i64 (ptv x.i x.k),
                                                        AV.bool true, AV.int IntKind.i64 (IntKind.i64.wrap ((↑x.i : Int) + (1 : Int)))]
                                                      [AV.int IntKind.i64 y.x, AV.str (restB s), AV.bool (negB s), AV.int IntKind.i64 (ptv y.i y.k),
                                                        AV.bool y.big, AV.int IntKind.i64 (↑y.i : Int)] ∧
                                                    StIs { boxes := [], live := [] } { boxes := [], live := [] } ∧
                                                      Inv45 (restB s) y ∧ (restB s).length - y.i < (restB s).length - x.i)))) ∧
                                  (((↑c.toNat : Int) == (46 : Int)) = false →
                                    (decide ((↑c.toNat : Int) < (48 : Int)) = true →
                                        RetIs (AV.tup [AV.int IntKind.i64 (0 : Int), AV.int IntKind.i64 (3 : Int)]) []
                                          (AV.tup [AV.int IntKind.i64 (decP s).fst, AV.int IntKind.i64 (decP s).snd], [])) ∧
                                      (decide ((↑c.toNat : Int) < (48 : Int)) = false →
                                        (decide ((↑c.toNat : Int) > (57 : Int)) = true →
                                            RetIs (AV.tup [AV.int IntKind.i64 (0 : Int), AV.int IntKind.i64 (3 : Int)]) []
                                              (AV.tup [AV.int IntKind.i64 (decP s).fst, AV.int IntKind.i64 (decP s).snd], [])) ∧
                                          (decide ((↑c.toNat : Int) > (57 : Int)) = false →
                                            ∃ (y : X45),
                                              ValsAre
                                                  [AV.int IntKind.i64 x.x, AV.str (restB s), AV.bool (negB s), AV.int IntKind.i64 (ptv x.i x.k), AV.bool true,
                                                    AV.int IntKind.i64 (IntKind.i64.wrap ((↑x.i : Int) + (1 : Int)))]
                                                  [AV.int IntKind.i64 y.x, AV.str (restB s), AV.bool (negB s), AV.int IntKind.i64 (ptv y.i y.k), AV.bool y.big,
                                                    AV.int IntKind.i64 (↑y.i : Int)] ∧
                                                StIs { boxes := [], live := [] } { boxes := [], live := [] } ∧
                                                  Inv45 (restB s) y ∧ (restB s).length - y.i < (restB s).length - x.i)))) ∧
                        (decide ((↑x.i : Int) < (↑(restB s).length : Int)) = false →
                          ∃ (y : X45),
                            ValsAre [AV.int IntKind.i64 x.x, AV.str (restB s), AV.bool (negB s), AV.int IntKind.i64 (ptv x.i x.k), AV.bool true]
                                [AV.int IntKind.i64 y.x, AV.str (restB s), AV.bool (negB s), AV.int IntKind.i64 (ptv y.i y.k), AV.bool y.big] ∧
                              StIs { boxes := [], live := [] } { boxes := [], live := [] } ∧ End45 (restB s) y ∧ True)) ∧
                    (x.big = false →
                      (decide ((↑x.i : Int) < (↑(restB s).length : Int)) = true →
                          (0 : Int) ≤ (↑x.i : Int) ∧
                            ∃ (c : UInt8),
                              (restB s)[(↑x.i : Int).toNat]? = some c ∧
                                (((↑c.toNat : Int) == (46 : Int)) = true →
                                    (decide (ptv x.i x.k < (0 : Int)) = true →
                                        (decide ((↑x.i : Int) > (0 : Int)) = true →
                                            ∃ (y : X45),
                                              ValsAre
                                                  [AV.int IntKind.i64 x.x, AV.str (restB s), AV.bool (negB s), AV.int IntKind.i64 (↑x.i : Int), AV.bool false,
                                                    AV.int IntKind.i64 (IntKind.i64.wrap ((↑x.i : Int) + (1 : Int)))]
                                                  [AV.int IntKind.i64 y.x, AV.str (restB s), AV.bool (negB s), AV.int IntKind.i64 (ptv y.i y.k), AV.bool y.big,
                                                    AV.int IntKind.i64 (↑y.i : Int)] ∧
                                                StIs { boxes := [], live := [] } { boxes := [], live := [] } ∧
                                                  Inv45 (restB s) y ∧ (restB s).length - y.i < (restB s).length - x.i) ∧
                                          (decide ((↑x.i : Int) > (0 : Int)) = false →
                                            (decide ((↑c.toNat : Int) < (48 : Int)) = true →
                                                RetIs (AV.tup [AV.int IntKind.i64 (0 : Int), AV.int IntKind.i64 (3 : Int)]) []
                                                  (AV.tup [AV.int IntKind.i64 (decP s).fst, AV.int IntKind.i64 (decP s).snd], [])) ∧
                                              (decide ((↑c.toNat : Int) < (48 : Int)) = false →
                                                (decide ((↑c.toNat : Int) > (57 : Int)) = true →
                                                    RetIs (AV.tup [AV.int IntKind.i64 (0 : Int), AV.int IntKind.i64 (3 : Int)]) []
                                                      (AV.tup [AV.int IntKind.i64 (decP s).fst, AV.int IntKind.i64 (decP s).snd], [])) ∧
                                                  (decide ((↑c.toNat : Int) > (57 : Int)) = false →
                                                    (10 : Int) ≠ (0 : Int) ∧
                                                      (decide
                                                              (x.x >
                                                                IntKind.i64.wrap
                                                                  ((IntKind.i64.wrap
                                                                        ((1152921504606846976 : Int) -
                                                                          IntKind.i64.wrap (IntKind.u8.wrap ((↑c.toNat : Int) - (48 : Int))))).tdiv
                                                                    (10 : Int))) =
                                                            true →
                                                          ∃ (y : X45),
                                                            ValsAre
                                                                [AV.int IntKind.i64 x.x, AV.str (restB s), AV.bool (negB s), AV.int IntKind.i64 (ptv x.i x.k),
                                                                  AV.bool true, AV.int IntKind.i64 (IntKind.i64.wrap ((↑x.i : Int) + (1 : Int)))]
                                                                [AV.int IntKind.i64 y.x, AV.str (restB s), AV.bool (negB s), AV.int IntKind.i64 (ptv y.i y.k),
                                                                  AV.bool y.big, AV.int IntKind.i64 (↑y.i : Int)] ∧
                                                              StIs { boxes := [], live := [] } { boxes := [], live := [] } ∧
                                                                Inv45 (restB s) y ∧ (restB s).length - y.i < (restB s).length - x.i) ∧
                                                        (decide
                                                              (x.x >
                                                                IntKind.i64.wrap
                                                                  ((IntKind.i64.wrap
                                                                        ((1152921504606846976 : Int) -
                                                                          IntKind.i64.wrap (IntKind.u8.wrap ((↑c.toNat : Int) - (48 : Int))))).tdiv
                                                                    (10 : Int))) =
                                                            false →
                                                          ∃ (y : X45),
                                                            ValsAre
                                                                [AV.int IntKind.i64
                                                                    (IntKind.i64.wrap
                                                                      (IntKind.i64.wrap ((10 : Int) * x.x) +
                                                                        IntKind.i64.wrap (IntKind.u8.wrap ((↑c.toNat : Int) - (48 : Int))))),
                                                                  AV.str (restB s), AV.bool (negB s), AV.int IntKind.i64 (ptv x.i x.k), AV.bool false,
                                                                  AV.int IntKind.i64 (IntKind.i64.wrap ((↑x.i : Int) + (1 : Int)))]
                                                                [AV.int IntKind.i64 y.x, AV.str (restB s), AV.bool (negB s), AV.int IntKind.i64 (ptv y.i y.k),
                                                                  AV.bool y.big, AV.int IntKind.i64 (↑y.i : Int)] ∧
                                                              StIs { boxes := [], live := [] } { boxes := [], live := [] } ∧
                                                                Inv45 (restB s) y ∧ (restB s).length - y.i < (restB s).length - x.i))))) ∧
                                      (decide (ptv x.i x.k < (0 : Int)) = false →
                                        (decide ((↑c.toNat : Int) < (48 : Int)) = true →
                                            RetIs (AV.tup [AV.int IntKind.i64 (0 : Int), AV.int IntKind.i64 (3 : Int)]) []
                                              (AV.tup [AV.int IntKind.i64 (decP s).fst, AV.int IntKind.i64 (decP s).snd], [])) ∧
                                          (decide ((↑c.toNat : Int) < (48 : Int)) = false →
                                            (decide ((↑c.toNat : Int) > (57 : Int)) = true →
                                                RetIs (AV.tup [AV.int IntKind.i64 (0 : Int), AV.int IntKind.i64 (3 : Int)]) []
                                                  (AV.tup [AV.int IntKind.i64 (decP s).fst, AV.int IntKind.i64 (decP s).snd], [])) ∧
                                              (decide ((↑c.toNat : Int) > (57 : Int)) = false →
                                                (10 : Int) ≠ (0 : Int) ∧
                                                  (decide
                                                          (x.x >
                                                            IntKind.i64.wrap
                                                              ((IntKind.i64.wrap
                                                                    ((1152921504606846976 : Int) -
                                                                      IntKind.i64.wrap (IntKind.u8.wrap ((↑c.toNat : Int) - (48 : Int))))).tdiv
                                                                (10 : Int))) =
                                                        true →
                                                      ∃ (y : X45),
                                                        ValsAre
                                                            [AV.int IntKind.i64 x.x, AV.str (restB s), AV.bool (negB s), AV.int IntKind.i64 (ptv x.i x.k),
                                                              AV.bool true, AV.int IntKind.i64 (IntKind.i64.wrap ((↑x.i : Int) + (1 : Int)))]
                                                            [AV.int IntKind.i64 y.x, AV.str (restB s), AV.bool (negB s), AV.int IntKind.i64 (ptv y.i y.k),
                                                              AV.bool y.big, AV.int IntKind.i64 (↑y.i : Int)] ∧
                                                          StIs { boxes := [], live := [] } { boxes := [], live := [] } ∧
                                                            Inv45 (restB s) y ∧ (restB s).length - y.i < (restB s).length - x.i) ∧
                                                    (decide
                                                          (x.x >
                                                            IntKind.i64.wrap
                                                              ((IntKind.i64.wrap
                                                                    ((1152921504606846976 : Int) -
                                                                      IntKind.i64.wrap (IntKind.u8.wrap ((↑c.toNat : Int) - (48 : Int))))).tdiv
                                                                (10 : Int))) =
                                                        false →
                                                      ∃ (y : X45),
                                                        ValsAre
                                                            [AV.int IntKind.i64
                                                                (IntKind.i64.wrap
                                                                  (IntKind.i64.wrap ((10 : Int) * x.x) +
                                                                    IntKind.i64.wrap (IntKind.u8.wrap ((↑c.toNat : Int) - (48 : Int))))),
                                                              AV.str (restB s), AV.bool (negB s), AV.int IntKind.i64 (ptv x.i x.k), AV.bool false,
                                                              AV.int IntKind.i64 (IntKind.i64.wrap ((↑x.i : Int) + (1 : Int)))]
                                                            [AV.int IntKind.i64 y.x, AV.str (restB s), AV.bool (negB s), AV.int IntKind.i64 (ptv y.i y.k),
                                                              AV.bool y.big, AV.int IntKind.i64 (↑y.i : Int)] ∧
                                                          StIs { boxes := [], live := [] } { boxes := [], live := [] } ∧
                                                            Inv45 (restB s) y ∧ (restB s).length - y.i < (restB s).length - x.i))))) ∧
                                  (((↑c.toNat : Int) == (46 : Int)) = false →
                                    (decide ((↑c.toNat : Int) < (48 : Int)) = true →
                                        RetIs (AV.tup [AV.int IntKind.i64 (0 : Int), AV.int IntKind.i64 (3 : Int)]) []
                                          (AV.tup [AV.int IntKind.i64 (decP s).fst, AV.int IntKind.i64 (decP s).snd], [])) ∧
                                      (decide ((↑c.toNat : Int) < (48 : Int)) = false →
                                        (decide ((↑c.toNat : Int) > (57 : Int)) = true →
                                            RetIs (AV.tup [AV.int IntKind.i64 (0 : Int), AV.int IntKind.i64 (3 : Int)]) []
                                              (AV.tup [AV.int IntKind.i64 (decP s).fst, AV.int IntKind.i64 (decP s).snd], [])) ∧
                                          (decide ((↑c.toNat : Int) > (57 : Int)) = false →
                                            (10 : Int) ≠ (0 : Int) ∧
                                              (decide
                                                      (x.x >
                                                        IntKind.i64.wrap
                                                          ((IntKind.i64.wrap
                                                                ((1152921504606846976 : Int) -
                                                                  IntKind.i64.wrap (IntKind.u8.wrap ((↑c.toNat : Int) - (48 : Int))))).tdiv
                                                            (10 : Int))) =
                                                    true →
                                                  ∃ (y : X45),
                                                    ValsAre
                                                        [AV.int IntKind.i64 x.x, AV.str (restB s), AV.bool (negB s), AV.int IntKind.i64 (ptv x.i x.k),
                                                          AV.bool true, AV.int IntKind.i64 (IntKind.i64.wrap ((↑x.i : Int) + (1 : Int)))]
                                                        [AV.int IntKind.i64 y.x, AV.str (restB s), AV.bool (negB s), AV.int IntKind.i64 (ptv y.i y.k),
                                                          AV.bool y.big, AV.int IntKind.i64 (↑y.i : Int)] ∧
                                                      StIs { boxes := [], live := [] } { boxes := [], live := [] } ∧
                                                        Inv45 (restB s) y ∧ (restB s).length - y.i < (restB s).length - x.i) ∧
                                                (decide
                                                      (x.x >
                                                        IntKind.i64.wrap
                                                          ((IntKind.i64.wrap
                                                                ((1152921504606846976 : Int) -
                                                                  IntKind.i64.wrap (IntKind.u8.wrap ((↑c.toNat : Int) - (48 : Int))))).tdiv
                                                            (10 : Int))) =
                                                    false →
                                                  ∃ (y : X45),
                                                    ValsAre
                                                        [AV.int IntKind.i64
                                                            (IntKind.i64.wrap
                                                              (IntKind.i64.wrap ((10 : Int) * x.x) +
                                                                IntKind.i64.wrap (IntKind.u8.wrap ((↑c.toNat : Int) - (48 : Int))))),
                                                          AV.str (restB s), AV.bool (negB s), AV.int IntKind.i64 (ptv x.i x.k), AV.bool false,
                                                          AV.int IntKind.i64 (IntKind.i64.wrap ((↑x.i : Int) + (1 : Int)))]
                                                        [AV.int IntKind.i64 y.x, AV.str (restB s), AV.bool (negB s), AV.int IntKind.i64 (ptv y.i y.k),
                                                          AV.bool y.big, AV.int IntKind.i64 (↑y.i : Int)] ∧
                                                      StIs { boxes := [], live := [] } { boxes := [], live := [] } ∧
                                                        Inv45 (restB s) y ∧ (restB s).length - y.i < (restB s).length - x.i))))) ∧
                        (decide ((↑x.i : Int) < (↑(restB s).length : Int)) = false →
                          ∃ (y : X45),
                            ValsAre [AV.int IntKind.i64 x.x, AV.str (restB s), AV.bool (negB s), AV.int IntKind.i64 (ptv x.i x.k), AV.bool false]
                                [AV.int IntKind.i64 y.x, AV.str (restB s), AV.bool (negB s), AV.int IntKind.i64 (ptv y.i y.k), AV.bool y.big] ∧
                              StIs { boxes := [], live := [] } { boxes := [], live := [] } ∧ End45 (restB s) y ∧ True))) ∧
            ∀ (x : X45),
              End45 (restB s) x →
                True →
                  (x.big = true →
                      (negB s = true →
                          (decide (ptv x.i x.k ≥ (0 : Int)) = true →
                              ((IntKind.i64.wrap (IntKind.i64.wrap ((↑(restB s).length : Int) - ptv x.i x.k) - (1 : Int)) == (0 : Int)) = true →
                                  RetIs (AV.tup [AV.int IntKind.i64 (0 : Int), AV.int IntKind.i64 (3 : Int)]) []
                                    (AV.tup [AV.int IntKind.i64 (decP s).fst, AV.int IntKind.i64 (decP s).snd], [])) ∧
                                ((IntKind.i64.wrap (IntKind.i64.wrap ((↑(restB s).length : Int) - ptv x.i x.k) - (1 : Int)) == (0 : Int)) = false →
                                  (decide (IntKind.i64.wrap (IntKind.i64.wrap ((↑(restB s).length : Int) - ptv x.i x.k) - (1 : Int)) > (6 : Int)) = true →
                                      RetIs (AV.tup [AV.int IntKind.i64 (0 : Int), AV.int IntKind.i64 (3 : Int)]) []
                                        (AV.tup [AV.int IntKind.i64 (decP s).fst, AV.int IntKind.i64 (decP s).snd], [])) ∧
                                    (decide (IntKind.i64.wrap (IntKind.i64.wrap ((↑(restB s).length : Int) - ptv x.i x.k) - (1 : Int)) > (6 : Int)) = false →
                                      ((restB s == []) = true →
                                          RetIs (AV.tup [AV.int IntKind.i64 (0 : Int), AV.int IntKind.i64 (3 : Int)]) []
                                            (AV.tup [AV.int IntKind.i64 (decP s).fst, AV.int IntKind.i64 (decP s).snd], [])) ∧
                                        ((restB s == []) = false →
                                          ((0 : Int) ≤
                                                IntKind.i64.wrap
                                                  ((6 : Int) - IntKind.i64.wrap (IntKind.i64.wrap ((↑(restB s).length : Int) - ptv x.i x.k) - (1 : Int))) ∧
                                              IntKind.i64.wrap
                                                  ((6 : Int) - IntKind.i64.wrap (IntKind.i64.wrap ((↑(restB s).length : Int) - ptv x.i x.k) - (1 : Int))) <
                                                (7 : Int)) ∧
                                            ∃ (n : Int),
                                              takeAt PZ (nat_lit 3)
                                                    [AV.agg
                                                        [AV.int IntKind.i64 (1 : Int), AV.int IntKind.i64 (10 : Int), AV.int IntKind.i64 (100 : Int),
                                                          AV.int IntKind.i64 (1000 : Int), AV.int IntKind.i64 (10000 : Int), AV.int IntKind.i64 (100000 : Int),
                                                          AV.int IntKind.i64 (1000000 : Int)]]
                                                    (nat_lit 0)
                                                    (nat_lit 0 +
                                                      (IntKind.i64.wrap
                                                            ((6 : Int) -
                                                              IntKind.i64.wrap
                                                                (IntKind.i64.wrap ((↑(restB s).length : Int) - ptv x.i x.k) - (1 : Int)))).toNat *
                                                        nat_lit 1) =
                                                  some (AV.int IntKind.i64 n) ∧
                                                RetIs (AV.tup [AV.int IntKind.i64 (0 : Int), AV.int IntKind.i64 (2 : Int)]) []
                                                  (AV.tup [AV.int IntKind.i64 (decP s).fst, AV.int IntKind.i64 (decP s).snd], []))))) ∧
                            (decide (ptv x.i x.k ≥ (0 : Int)) = false →
                              ((restB s == []) = true →
                                  RetIs (AV.tup [AV.int IntKind.i64 (0 : Int), AV.int IntKind.i64 (3 : Int)]) []
                                    (AV.tup [AV.int IntKind.i64 (decP s).fst, AV.int IntKind.i64 (decP s).snd], [])) ∧
                                ((restB s == []) = false →
                                  ((0 : Int) ≤ (6 : Int) ∧ (6 : Int) < (7 : Int)) ∧
                                    ∃ (n : Int),
                                      some (AV.int IntKind.i64 (1000000 : Int)) = some (AV.int IntKind.i64 n) ∧
                                        RetIs (AV.tup [AV.int IntKind.i64 (0 : Int), AV.int IntKind.i64 (2 : Int)]) []
                                          (AV.tup [AV.int IntKind.i64 (decP s).fst, AV.int IntKind.i64 (decP s).snd], [])))) ∧
                        (negB s = false →
                          (decide (ptv x.i x.k ≥ (0 : Int)) = true →
                              ((IntKind.i64.wrap (IntKind.i64.wrap ((↑(restB s).length : Int) - ptv x.i x.k) - (1 : Int)) == (0 : Int)) = true →
                                  RetIs (AV.tup [AV.int IntKind.i64 (0 : Int), AV.int IntKind.i64 (3 : Int)]) []
                                    (AV.tup [AV.int IntKind.i64 (decP s).fst, AV.int IntKind.i64 (decP s).snd], [])) ∧
                                ((IntKind.i64.wrap (IntKind.i64.wrap ((↑(restB s).length : Int) - ptv x.i x.k) - (1 : Int)) == (0 : Int)) = false →
                                  (decide (IntKind.i64.wrap (IntKind.i64.wrap ((↑(restB s).length : Int) - ptv x.i x.k) - (1 : Int)) > (6 : Int)) = true →
                                      RetIs (AV.tup [AV.int IntKind.i64 (0 : Int), AV.int IntKind.i64 (3 : Int)]) []
                                        (AV.tup [AV.int IntKind.i64 (decP s).fst, AV.int IntKind.i64 (decP s).snd], [])) ∧
                                    (decide (IntKind.i64.wrap (IntKind.i64.wrap ((↑(restB s).length : Int) - ptv x.i x.k) - (1 : Int)) > (6 : Int)) = false →
                                      ((restB s == []) = true →
                                          RetIs (AV.tup [AV.int IntKind.i64 (0 : Int), AV.int IntKind.i64 (3 : Int)]) []
                                            (AV.tup [AV.int IntKind.i64 (decP s).fst, AV.int IntKind.i64 (decP s).snd], [])) ∧
                                        ((restB s == []) = false →
                                          ((0 : Int) ≤
                                                IntKind.i64.wrap
                                                  ((6 : Int) - IntKind.i64.wrap (IntKind.i64.wrap ((↑(restB s).length : Int) - ptv x.i x.k) - (1 : Int))) ∧
                                              IntKind.i64.wrap
                                                  ((6 : Int) - IntKind.i64.wrap (IntKind.i64.wrap ((↑(restB s).length : Int) - ptv x.i x.k) - (1 : Int))) <
                                                (7 : Int)) ∧
                                            ∃ (n : Int),
                                              takeAt PZ (nat_lit 3)
                                                    [AV.agg
                                                        [AV.int IntKind.i64 (1 : Int), AV.int IntKind.i64 (10 : Int), AV.int IntKind.i64 (100 : Int),
                                                          AV.int IntKind.i64 (1000 : Int), AV.int IntKind.i64 (10000 : Int), AV.int IntKind.i64 (100000 : Int),
                                                          AV.int IntKind.i64 (1000000 : Int)]]
                                                    (nat_lit 0)
                                                    (nat_lit 0 +
                                                      (IntKind.i64.wrap
                                                            ((6 : Int) -
                                                              IntKind.i64.wrap
                                                                (IntKind.i64.wrap ((↑(restB s).length : Int) - ptv x.i x.k) - (1 : Int)))).toNat *
                                                        nat_lit 1) =
                                                  some (AV.int IntKind.i64 n) ∧
                                                RetIs (AV.tup [AV.int IntKind.i64 (0 : Int), AV.int IntKind.i64 (2 : Int)]) []
                                                  (AV.tup [AV.int IntKind.i64 (decP s).fst, AV.int IntKind.i64 (decP s).snd], []))))) ∧
                            (decide (ptv x.i x.k ≥ (0 : Int)) = false →
                              ((restB s == []) = true →
                                  RetIs (AV.tup [AV.int IntKind.i64 (0 : Int), AV.int IntKind.i64 (3 : Int)]) []
                                    (AV.tup [AV.int IntKind.i64 (decP s).fst, AV.int IntKind.i64 (decP s).snd], [])) ∧
                                ((restB s == []) = false →
                                  ((0 : Int) ≤ (6 : Int) ∧ (6 : Int) < (7 : Int)) ∧
                                    ∃ (n : Int),
                                      some (AV.int IntKind.i64 (1000000 : Int)) = some (AV.int IntKind.i64 n) ∧
                                        RetIs (AV.tup [AV.int IntKind.i64 (0 : Int), AV.int IntKind.i64 (2 : Int)]) []
                                          (AV.tup [AV.int IntKind.i64 (decP s).fst, AV.int IntKind.i64 (decP s).snd], []))))) ∧
                    (x.big = false →
                      (negB s = true →
                          (decide (ptv x.i x.k ≥ (0 : Int)) = true →
                              ((IntKind.i64.wrap (IntKind.i64.wrap ((↑(restB s).length : Int) - ptv x.i x.k) - (1 : Int)) == (0 : Int)) = true →
                                  RetIs (AV.tup [AV.int IntKind.i64 (0 : Int), AV.int IntKind.i64 (3 : Int)]) []
                                    (AV.tup [AV.int IntKind.i64 (decP s).fst, AV.int IntKind.i64 (decP s).snd], [])) ∧
                                ((IntKind.i64.wrap (IntKind.i64.wrap ((↑(restB s).length : Int) - ptv x.i x.k) - (1 : Int)) == (0 : Int)) = false →
                                  (decide (IntKind.i64.wrap (IntKind.i64.wrap ((↑(restB s).length : Int) - ptv x.i x.k) - (1 : Int)) > (6 : Int)) = true →
                                      RetIs (AV.tup [AV.int IntKind.i64 (0 : Int), AV.int IntKind.i64 (3 : Int)]) []
                                        (AV.tup [AV.int IntKind.i64 (decP s).fst, AV.int IntKind.i64 (decP s).snd], [])) ∧
                                    (decide (IntKind.i64.wrap (IntKind.i64.wrap ((↑(restB s).length : Int) - ptv x.i x.k) - (1 : Int)) > (6 : Int)) = false →
                                      ((restB s == []) = true →
                                          RetIs (AV.tup [AV.int IntKind.i64 (0 : Int), AV.int IntKind.i64 (3 : Int)]) []
                                            (AV.tup [AV.int IntKind.i64 (decP s).fst, AV.int IntKind.i64 (decP s).snd], [])) ∧
                                        ((restB s == []) = false →
                                          ((0 : Int) ≤
                                                IntKind.i64.wrap
                                                  ((6 : Int) - IntKind.i64.wrap (IntKind.i64.wrap ((↑(restB s).length : Int) - ptv x.i x.k) - (1 : Int))) ∧
                                              IntKind.i64.wrap
                                                  ((6 : Int) - IntKind.i64.wrap (IntKind.i64.wrap ((↑(restB s).length : Int) - ptv x.i x.k) - (1 : Int))) <
                                                (7 : Int)) ∧
                                            ∃ (n : Int),
                                              takeAt PZ (nat_lit 3)
                                                    [AV.agg
                                                        [AV.int IntKind.i64 (1 : Int), AV.int IntKind.i64 (10 : Int), AV.int IntKind.i64 (100 : Int),
                                                          AV.int IntKind.i64 (1000 : Int), AV.int IntKind.i64 (10000 : Int), AV.int IntKind.i64 (100000 : Int),
                                                          AV.int IntKind.i64 (1000000 : Int)]]
                                                    (nat_lit 0)
                                                    (nat_lit 0 +
                                                      (IntKind.i64.wrap
                                                            ((6 : Int) -
                                                              IntKind.i64.wrap
                                                                (IntKind.i64.wrap ((↑(restB s).length : Int) - ptv x.i x.k) - (1 : Int)))).toNat *
                                                        nat_lit 1) =
                                                  some (AV.int IntKind.i64 n) ∧
                                                n ≠ (0 : Int) ∧
                                                  (decide (x.x > IntKind.i64.wrap (Int.tdiv (1152921504606846976 : Int) n)) = true →
                                                      RetIs (AV.tup [AV.int IntKind.i64 (0 : Int), AV.int IntKind.i64 (2 : Int)]) []
                                                        (AV.tup [AV.int IntKind.i64 (decP s).fst, AV.int IntKind.i64 (decP s).snd], [])) ∧
                                                    (decide (x.x > IntKind.i64.wrap (Int.tdiv (1152921504606846976 : Int) n)) = false →
                                                      RetIs
                                                        (AV.tup
                                                          [AV.int IntKind.i64 (IntKind.i64.wrap ((0 : Int) - IntKind.i64.wrap (x.x * n))),
                                                            AV.int IntKind.i64 (0 : Int)])
                                                        [] (AV.tup [AV.int IntKind.i64 (decP s).fst, AV.int IntKind.i64 (decP s).snd], [])))))) ∧
                            (decide (ptv x.i x.k ≥ (0 : Int)) = false →
                              ((restB s == []) = true →
                                  RetIs (AV.tup [AV.int IntKind.i64 (0 : Int), AV.int IntKind.i64 (3 : Int)]) []
                                    (AV.tup [AV.int IntKind.i64 (decP s).fst, AV.int IntKind.i64 (decP s).snd], [])) ∧
                                ((restB s == []) = false →
                                  ((0 : Int) ≤ (6 : Int) ∧ (6 : Int) < (7 : Int)) ∧
                                    ∃ (n : Int),
                                      some (AV.int IntKind.i64 (1000000 : Int)) = some (AV.int IntKind.i64 n) ∧
                                        n ≠ (0 : Int) ∧
                                          (decide (x.x > IntKind.i64.wrap (Int.tdiv (1152921504606846976 : Int) n)) = true →
                                              RetIs (AV.tup [AV.int IntKind.i64 (0 : Int), AV.int IntKind.i64 (2 : Int)]) []
                                                (AV.tup [AV.int IntKind.i64 (decP s).fst, AV.int IntKind.i64 (decP s).snd], [])) ∧
                                            (decide (x.x > IntKind.i64.wrap (Int.tdiv (1152921504606846976 : Int) n)) = false →
                                              RetIs
                                                (AV.tup
                                                  [AV.int IntKind.i64 (IntKind.i64.wrap ((0 : Int) - IntKind.i64.wrap (x.x * n))),
                                                    AV.int IntKind.i64 (0 : Int)])
                                                [] (AV.tup [AV.int IntKind.i64 (decP s).fst, AV.int IntKind.i64 (decP s).snd], []))))) ∧
                        (negB s = false →
                          (decide (ptv x.i x.k ≥ (0 : Int)) = true →
                              ((IntKind.i64.wrap (IntKind.i64.wrap ((↑(restB s).length : Int) - ptv x.i x.k) - (1 : Int)) == (0 : Int)) = true →
                                  RetIs (AV.tup [AV.int IntKind.i64 (0 : Int), AV.int IntKind.i64 (3 : Int)]) []
                                    (AV.tup [AV.int IntKind.i64 (decP s).fst, AV.int IntKind.i64 (decP s).snd], [])) ∧
                                ((IntKind.i64.wrap (IntKind.i64.wrap ((↑(restB s).length : Int) - ptv x.i x.k) - (1 : Int)) == (0 : Int)) = false →
                                  (decide (IntKind.i64.wrap (IntKind.i64.wrap ((↑(restB s).length : Int) - ptv x.i x.k) - (1 : Int)) > (6 : Int)) = true →
                                      RetIs (AV.tup [AV.int IntKind.i64 (0 : Int), AV.int IntKind.i64 (3 : Int)]) []
                                        (AV.tup [AV.int IntKind.i64 (decP s).fst, AV.int IntKind.i64 (decP s).snd], [])) ∧
                                    (decide (IntKind.i64.wrap (IntKind.i64.wrap ((↑(restB s).length : Int) - ptv x.i x.k) - (1 : Int)) > (6 : Int)) = false →
                                      ((restB s == []) = true →
                                          RetIs (AV.tup [AV.int IntKind.i64 (0 : Int), AV.int IntKind.i64 (3 : Int)]) []
                                            (AV.tup [AV.int IntKind.i64 (decP s).fst, AV.int IntKind.i64 (decP s).snd], [])) ∧
                                        ((restB s == []) = false →
                                          ((0 : Int) ≤
                                                IntKind.i64.wrap
                                                  ((6 : Int) - IntKind.i64.wrap (IntKind.i64.wrap ((↑(restB s).length : Int) - ptv x.i x.k) - (1 : Int))) ∧
                                              IntKind.i64.wrap
                                                  ((6 : Int) - IntKind.i64.wrap (IntKind.i64.wrap ((↑(restB s).length : Int) - ptv x.i x.k) - (1 : Int))) <
                                                (7 : Int)) ∧
                                            ∃ (n : Int),
                                              takeAt PZ (nat_lit 3)
                                                    [AV.agg
                                                        [AV.int IntKind.i64 (1 : Int), AV.int IntKind.i64 (10 : Int), AV.int IntKind.i64 (100 : Int),
                                                          AV.int IntKind.i64 (1000 : Int), AV.int IntKind.i64 (10000 : Int), AV.int IntKind.i64 (100000 : Int),
                                                          AV.int IntKind.i64 (1000000 : Int)]]
                                                    (nat_lit 0)
                                                    (nat_lit 0 +
                                                      (IntKind.i64.wrap
                                                            ((6 : Int) -
                                                              IntKind.i64.wrap
                                                                (IntKind.i64.wrap ((↑(restB s).length : Int) - ptv x.i x.k) - (1 : Int)))).toNat *
                                                        nat_lit 1) =
                                                  some (AV.int IntKind.i64 n) ∧
                                                n ≠ (0 : Int) ∧
                                                  (decide (x.x > IntKind.i64.wrap (Int.tdiv (1152921504606846976 : Int) n)) = true →
                                                      RetIs (AV.tup [AV.int IntKind.i64 (0 : Int), AV.int IntKind.i64 (2 : Int)]) []
                                                        (AV.tup [AV.int IntKind.i64 (decP s).fst, AV.int IntKind.i64 (decP s).snd], [])) ∧
                                                    (decide (x.x > IntKind.i64.wrap (Int.tdiv (1152921504606846976 : Int) n)) = false →
                                                      RetIs (AV.tup [AV.int IntKind.i64 (IntKind.i64.wrap (x.x * n)), AV.int IntKind.i64 (0 : Int)]) []
                                                        (AV.tup [AV.int IntKind.i64 (decP s).fst, AV.int IntKind.i64 (decP s).snd], [])))))) ∧
                            (decide (ptv x.i x.k ≥ (0 : Int)) = false →
                              ((restB s == []) = true →
                                  RetIs (AV.tup [AV.int IntKind.i64 (0 : Int), AV.int IntKind.i64 (3 : Int)]) []
                                    (AV.tup [AV.int IntKind.i64 (decP s).fst, AV.int IntKind.i64 (decP s).snd], [])) ∧
                                ((restB s == []) = false →
                                  ((0 : Int) ≤ (6 : Int) ∧ (6 : Int) < (7 : Int)) ∧
                                    ∃ (n : Int),
                                      some (AV.int IntKind.i64 (1000000 : Int)) = some (AV.int IntKind.i64 n) ∧
                                        n ≠ (0 : Int) ∧
                                          (decide (x.x > IntKind.i64.wrap (Int.tdiv (1152921504606846976 : Int) n)) = true →
                                              RetIs (AV.tup [AV.int IntKind.i64 (0 : Int), AV.int IntKind.i64 (2 : Int)]) []
                                                (AV.tup [AV.int IntKind.i64 (decP s).fst, AV.int IntKind.i64 (decP s).snd], [])) ∧
                                            (decide (x.x > IntKind.i64.wrap (Int.tdiv (1152921504606846976 : Int) n)) = false →
                                              RetIs (AV.tup [AV.int IntKind.i64 (IntKind.i64.wrap (x.x * n)), AV.int IntKind.i64 (0 : Int)]) []
                                                (AV.tup [AV.int IntKind.i64 (decP s).fst, AV.int IntKind.i64 (decP s).snd], []))))))) ∧
  True ∧ True) := by kernel_rfl
theorem dfold_succ {r : List UInt8} {i : Nat} (h : i < r.length) : dfold (r.take (i + 1)) = dstep (dfold (r.take i)) r[i] := by
  unfold dfold
  rw [List.take_succ_eq_append_getElem h, List.foldl_append]
  rfl
theorem dfold_fail {r : List UInt8} {i : Nat} (h : i < r.length) (hn : dstep (dfold (r.take i)) r[i] = none) : dfold r = none := by
  have e : r = r.take (i + 1) ++ r.drop (i + 1) := (List.take_append_drop _ _).symm
  have := dfold_succ h
  rw [hn] at this
  conv => lhs; rw [e]
  unfold dfold at this ⊢
  rw [List.foldl_append, this, dfold_none]
theorem valL_snoc (l : List UInt8) (c : UInt8) : valL (l ++ [c]) = 10 * valL l + (c.toNat - 48) := by simp [valL]
theorem tens_at {j : Nat} (h : j ≤ 6) : takeAt PZ 3 [tensA] 0 j = some (.int .i64 ((10 ^ j : Nat) : Int)) := by
  have ha : aggA PZ 3 = some false := by kernel_rfl
  have hs : ∃ s, sizeA PZ 3 = some s := ⟨1, by kernel_rfl⟩
  obtain ⟨s, hs⟩ := hs
  match j, h with
  | 0, _ | 1, _ | 2, _ | 3, _ | 4, _ | 5, _ | 6, _ => simp only [takeAt, List.getElem?_cons_zero, ha, hs, takeA, tensA, AV.cells]; rfl
theorem tdiv10 {x d : Int} (_hx : 0 ≤ x) (hd : 0 ≤ d) (hd9 : d ≤ 9) : (IntKind.i64.wrap ((IntKind.i64.wrap (1152921504606846976 - IntKind.i64.wrap d)).tdiv 10) < x) ↔ 1152921504606846976 < 10 * x + d := by
  rw [wrap64_in (n := d) (by omega) (by omega), wrap64_in (n := 1152921504606846976 - d) (by omega) (by omega), Int.tdiv_eq_ediv_of_nonneg (by omega), wrap64_in (by omega) (by omega)]
  omega
theorem tdivp {x : Int} {p : Nat} (_hx : 0 ≤ x) (hp : 0 < p) (hp6 : p ≤ 1000000) : (IntKind.i64.wrap (Int.tdiv 1152921504606846976 p) < x) ↔ 1152921504606846976 < x * p := by
  rw [Int.tdiv_eq_ediv_of_nonneg (by omega)]
  have h1 : (1152921504606846976 : Int) / p ≤ 1152921504606846976 := Int.ediv_le_self _ (by omega)
  have h2 : (0 : Int) ≤ 1152921504606846976 / p := Int.ediv_nonneg (by omega) (by omega)
  rw [wrap64_in (by omega) (by omega), Int.ediv_lt_iff_lt_mul (by omega)]
theorem wrap8_in {n : Int} (h0 : 0 ≤ n) (h1 : n < 256) : IntKind.u8.wrap n = n := by
  simp only [IntKind.wrap, IntKind.bits, IntKind.signed]
  simp
  omega
theorem p45 (m : Int) (s : List UInt8) (hl : s.length ≤ 1000000) : PureOk PZ (GZ m) XL (tbl []) (itbl []) (a45 s) [] 45 [.str s] (.tup [.int .i64 (decP s).1, .int .i64 (decP s).2], []) := by
  constructor
  rw [w45]
  have hdec : decP s = decR (negB s) (restB s) := rfl
  have hrl : (restB s).length ≤ 1000000 := by
    unfold restB; split
    · rw [List.length_drop]; omega
    · exact hl
  have fail : dfold (restB s) = none → decP s = (0, 3) := fun h => by rw [hdec, decR, h]
  simp only [valsAre_iff, stIs_iff, retIs_iff, decide_eq_true_eq, decide_eq_false_iff_not, gt_iff_lt, ge_iff_le, List.cons.injEq, AV.int.injEq, AV.tup.injEq, AV.str.injEq, AV.bool.injEq, Prod.mk.injEq, and_true, true_and, beq_iff_eq, beq_eq_false_iff_ne, ne_eq, Bool.not_eq_true', Bool.not_eq_false', Int.toNat_natCast, Nat.zero_add, Nat.mul_one, true_implies]
  have hptv : ∀ (x : X45), Inv45 (restB s) x → (ptv x.i x.k < 0 ↔ x.k = none) := fun x hx => by
    cases hk : x.k with
    | none => simp [ptv]
    | some j =>
      have := (hx.k j hk).1
      simp only [ptv, reduceCtorEq, iff_false]
      omega
  have hstep : ∀ (i : Nat) (k : Option Nat), ptv i k = ptv (i + 1) (k.map (· + 1)) := fun i k => by
    cases k with
    | none => rfl
    | some j => simp only [ptv, Option.map_some]; omega
  refine ⟨⟨fun hne => ⟨by omega, ?_⟩, fun he => ⟨(), ?_, ?_⟩⟩, fun _ => ⟨⟨⟨⟨0, [], none, 0, false⟩, ⟨rfl, rfl, rfl, rfl⟩, ?_⟩, fun x hx => ?_⟩, fun x hx => ?_⟩⟩
  · cases s with
    | nil => exact absurd rfl hne
    | cons c t =>
      refine ⟨c, rfl, fun h => ⟨by omega, ⟨by simp, Nat.le_refl _⟩, (), ?_, ?_⟩, fun h => ⟨(), ?_, ?_⟩⟩
      · have hc : c = 45 := by rw [← UInt8.toNat_inj]; show c.toNat = 45; omega
        simp [restB, negB, hc]
      · have hc : c = 45 := by rw [← UInt8.toNat_inj]; show c.toNat = 45; omega
        simp [negB, hc]
      · have hc : c ≠ 45 := by rintro rfl; exact h rfl
        simp [restB, negB, hc]
      · have hc : c ≠ 45 := by rintro rfl; exact h rfl
        simp [negB, hc]
  · subst he; rfl
  · subst he; rfl
  · exact ⟨by simp, rfl, fun j h => by simp at h, fun _ => rfl, fun _ => ⟨rfl, by simp [valL]⟩, fun h => by simp at h, by simp⟩
  · have hpt := hptv x hx
    obtain ⟨hi, hf, hk, hk0, hsm, hgr, hx0⟩ := hx
    have hend : ¬ (x.i : Int) < (restB s).length → End45 (restB s) x := fun h => ⟨⟨hi, hf, hk, hk0, hsm, hgr, hx0⟩, by omega⟩
    have core : ∀ (hlt : x.i < (restB s).length) (c : UInt8), (restB s)[x.i] = c →
        (dstep (some (x.ds, x.k)) c = none → 0 = (decP s).1 ∧ 3 = (decP s).2) ∧
        (∀ y : X45, y.i = x.i + 1 → dstep (some (x.ds, x.k)) c = some (y.ds, y.k) → (∀ j, y.k = some j → j + 1 ≤ y.i ∧ y.ds ≠ []) → (y.k = none → y.ds.length = y.i) → (y.big = false → y.x = valL y.ds ∧ valL y.ds ≤ 1152921504606846976) → (y.big = true → 1152921504606846976 < valL y.ds) → (0 ≤ y.x ∧ y.x ≤ 1152921504606846976) → Inv45 (restB s) y) := fun hlt c hc => by
      constructor
      · intro hn
        have := fail (dfold_fail hlt (by rw [hf, hc]; exact hn))
        rw [this]; exact ⟨rfl, rfl⟩
      · intro y hy hd h1 h2 h3 h4 h5
        exact ⟨by omega, by rw [hy, dfold_succ hlt, hf, hc]; exact hd, h1, h2, h3, h4, h5⟩
    have nodig : ∀ c : UInt8, ¬ (48 ≤ c.toNat ∧ c.toNat ≤ 57) → ¬ (c = 46 ∧ x.k = none ∧ x.ds ≠ []) → dstep (some (x.ds, x.k)) c = none := fun c h1 h2 => by
      simp only [dstep]; rw [if_neg h2, if_neg (by rw [digitB_iff]; exact h1)]
    have dig : ∀ c : UInt8, (48 ≤ c.toNat ∧ c.toNat ≤ 57) → dstep (some (x.ds, x.k)) c = some (x.ds ++ [c], x.k.map (· + 1)) := fun c h1 => by
      have : c ≠ 46 := by rintro rfl; simp at h1
      simp only [dstep]; rw [if_neg (fun h => this h.1), if_pos (by rw [digitB_iff]; exact h1)]
    have kdig : ∀ c : UInt8, (∀ j, x.k.map (· + 1) = some j → j + 1 ≤ x.i + 1 ∧ x.ds ++ [c] ≠ []) ∧ (x.k.map (· + 1) = none → (x.ds ++ [c]).length = x.i + 1) := fun c => by
      constructor
      · intro j hj
        cases hkk : x.k with
        | none => rw [hkk] at hj; simp at hj
        | some a => rw [hkk] at hj; simp at hj; have := (hk a hkk).1; exact ⟨by omega, by simp⟩
      · intro hj
        have : x.k = none := by simpa using hj
        rw [List.length_append, hk0 this]; rfl
    have pt : ∀ (hlt : x.i < (restB s).length) (c : UInt8), (restB s)[x.i] = c → (c.toNat : Int) = 46 → ptv x.i x.k < 0 → 0 < (x.i : Int) → ∃ y : X45, (x.x = y.x ∧ (x.i : Int) = ptv y.i y.k ∧ x.big = y.big ∧ IntKind.i64.wrap ((x.i : Int) + 1) = y.i) ∧ Inv45 (restB s) y ∧ (restB s).length - y.i < (restB s).length - x.i := fun hlt c hc h46 hp h0 => by
      have hc46 : c = 46 := by rw [← UInt8.toNat_inj]; show c.toNat = 46; omega
      have hkn := hpt.1 hp
      have hdn : x.ds ≠ [] := by intro e; have := hk0 hkn; rw [e] at this; simp at this; omega
      refine ⟨⟨x.i + 1, x.ds, some 0, x.x, x.big⟩, ⟨rfl, by simp only [ptv]; omega, rfl, by rw [wrap64_in (by omega) (by omega)]; simp⟩, ?_, by simp only; omega⟩
      refine (core hlt c hc).2 _ rfl ?_ ?_ ?_ hsm hgr hx0
      · simp only [dstep]; rw [if_pos ⟨hc46, hkn, hdn⟩]
      · intro j hj; simp at hj; subst hj; exact ⟨by simp, hdn⟩
      · intro hj; simp at hj
    have bad : ∀ (hlt : x.i < (restB s).length) (c : UInt8), (restB s)[x.i] = c → ¬ ((c.toNat : Int) = 46 ∧ ptv x.i x.k < 0 ∧ 0 < (x.i : Int)) → ((c.toNat : Int) < 48 ∨ 57 < (c.toNat : Int)) → 0 = (decP s).1 ∧ 3 = (decP s).2 := fun hlt c hc h1 h2 => by
      refine (core hlt c hc).1 (nodig c (by omega) ?_)
      rintro ⟨rfl, hkn, hdn⟩
      refine h1 ⟨rfl, hpt.2 hkn, ?_⟩
      have := hk0 hkn
      have := List.length_pos_iff.2 hdn
      omega
    have dbig : ∀ (hlt : x.i < (restB s).length) (c : UInt8), (restB s)[x.i] = c → ¬ (c.toNat : Int) < 48 → ¬ 57 < (c.toNat : Int) → 1152921504606846976 < valL (x.ds ++ [c]) → ∃ y : X45, (x.x = y.x ∧ ptv x.i x.k = ptv y.i y.k ∧ true = y.big ∧ IntKind.i64.wrap ((x.i : Int) + 1) = y.i) ∧ Inv45 (restB s) y ∧ (restB s).length - y.i < (restB s).length - x.i := fun hlt c hc h1 h2 hv => by
      refine ⟨⟨x.i + 1, x.ds ++ [c], x.k.map (· + 1), x.x, true⟩, ⟨rfl, hstep _ _, rfl, by rw [wrap64_in (by omega) (by omega)]; simp⟩, ?_, by simp only; omega⟩
      exact (core hlt c hc).2 _ rfl (dig c (by omega)) (kdig c).1 (kdig c).2 (fun h => by simp at h) (fun _ => hv) hx0
    refine ⟨fun hb => ⟨fun hlt => ?_, fun hge => ⟨x, ⟨rfl, rfl, hb.symm⟩, hend hge⟩⟩, fun hb => ⟨fun hlt => ?_, fun hge => ⟨x, ⟨rfl, rfl, hb.symm⟩, hend hge⟩⟩⟩
    · have hlt' : x.i < (restB s).length := by omega
      have hg := hgr hb
      have pt' := pt hlt' _ rfl
      rw [hb] at pt'
      have hv : 1152921504606846976 < valL (x.ds ++ [(restB s)[x.i]]) := by rw [valL_snoc]; omega
      have bad' := bad hlt' _ rfl
      have db := fun h1 h2 => dbig hlt' _ rfl h1 h2 hv
      refine ⟨by omega, (restB s)[x.i], List.getElem?_eq_getElem hlt', ?_⟩
      generalize (restB s)[x.i] = c at *
      exact ⟨fun h46 => ⟨fun hp => ⟨fun h0 => pt' h46 hp h0, fun h0 => ⟨fun h => bad' (fun h' => h0 h'.2.2) (.inl h), fun h => ⟨fun h' => bad' (fun h'' => h0 h''.2.2) (.inr h'), fun h' => db h h'⟩⟩⟩, fun hp => ⟨fun h => bad' (fun h' => hp h'.2.1) (.inl h), fun h => ⟨fun h' => bad' (fun h'' => hp h''.2.1) (.inr h'), fun h' => db h h'⟩⟩⟩, fun h46 => ⟨fun h => bad' (fun h' => h46 h'.1) (.inl h), fun h => ⟨fun h' => bad' (fun h'' => h46 h''.1) (.inr h'), fun h' => db h h'⟩⟩⟩
    · have hlt' : x.i < (restB s).length := by omega
      obtain ⟨hxv, hvm⟩ := hsm hb
      have pt' := pt hlt' _ rfl
      rw [hb] at pt'
      have bad' := bad hlt' _ rfl
      have db := dbig hlt' (restB s)[x.i] rfl
      have core' := (core hlt' (restB s)[x.i] rfl).2
      refine ⟨by omega, (restB s)[x.i], List.getElem?_eq_getElem hlt', ?_⟩
      generalize (restB s)[x.i] = c at *
      have dg : ¬ (c.toNat : Int) < 48 → ¬ 57 < (c.toNat : Int) → ¬ (10 : Int) = 0 ∧ (IntKind.i64.wrap ((IntKind.i64.wrap (1152921504606846976 - IntKind.i64.wrap (IntKind.u8.wrap ((c.toNat : Int) - 48)))).tdiv 10) < x.x → ∃ y : X45, (x.x = y.x ∧ ptv x.i x.k = ptv y.i y.k ∧ true = y.big ∧ IntKind.i64.wrap ((x.i : Int) + 1) = y.i) ∧ Inv45 (restB s) y ∧ (restB s).length - y.i < (restB s).length - x.i) ∧
          (¬ IntKind.i64.wrap ((IntKind.i64.wrap (1152921504606846976 - IntKind.i64.wrap (IntKind.u8.wrap ((c.toNat : Int) - 48)))).tdiv 10) < x.x → ∃ y : X45, (IntKind.i64.wrap (IntKind.i64.wrap (10 * x.x) + IntKind.i64.wrap (IntKind.u8.wrap ((c.toNat : Int) - 48))) = y.x ∧ ptv x.i x.k = ptv y.i y.k ∧ false = y.big ∧ IntKind.i64.wrap ((x.i : Int) + 1) = y.i) ∧ Inv45 (restB s) y ∧ (restB s).length - y.i < (restB s).length - x.i) := fun h1 h2 => by
        have hw8 : IntKind.u8.wrap ((c.toNat : Int) - 48) = (c.toNat : Int) - 48 := wrap8_in (by omega) (by omega)
        rw [hw8, tdiv10 hx0.1 (by omega) (by omega)]
        have hvs := valL_snoc x.ds c
        refine ⟨by omega, fun h => db h1 h2 (by rw [hvs]; omega), fun h => ?_⟩
        rw [wrap64_in (n := (c.toNat : Int) - 48) (by omega) (by omega), wrap64_in (n := 10 * x.x) (by omega) (by omega), wrap64_in (n := 10 * x.x + ((c.toNat : Int) - 48)) (by omega) (by omega)]
        refine ⟨⟨x.i + 1, x.ds ++ [c], x.k.map (· + 1), 10 * x.x + ((c.toNat : Int) - 48), false⟩, ⟨rfl, hstep _ _, rfl, by rw [wrap64_in (by omega) (by omega)]; simp⟩, ?_, by simp only; omega⟩
        exact core' _ rfl (dig c (by omega)) (kdig c).1 (kdig c).2 (fun _ => by dsimp only; rw [hvs]; constructor <;> omega) (fun h => by simp at h) (by simp only; omega)
      exact ⟨fun h46 => ⟨fun hp => ⟨fun h0 => pt' h46 hp h0, fun h0 => ⟨fun h => bad' (fun h' => h0 h'.2.2) (.inl h), fun h => ⟨fun h' => bad' (fun h'' => h0 h''.2.2) (.inr h'), fun h' => dg h h'⟩⟩⟩, fun hp => ⟨fun h => bad' (fun h' => hp h'.2.1) (.inl h), fun h => ⟨fun h' => bad' (fun h'' => hp h''.2.1) (.inr h'), fun h' => dg h h'⟩⟩⟩, fun h46 => ⟨fun h => bad' (fun h' => h46 h'.1) (.inl h), fun h => ⟨fun h' => bad' (fun h'' => h46 h''.1) (.inr h'), fun h' => dg h h'⟩⟩⟩
  · obtain ⟨hx, hie⟩ := hx
    have hpt := hptv x hx
    obtain ⟨hi, hf, hk, hk0, hsm, hgr, hx0⟩ := hx
    rw [hie, List.take_length] at hf
    have hR : decP s = if x.ds = [] ∨ x.k = some 0 ∨ 6 < x.k.getD 0 then (0, 3) else decFin (negB s) (valL x.ds) (x.k.getD 0) := by rw [hdec, decR, hf]
    have hnil : restB s = [] ↔ x.i = 0 := by rw [hie]; exact List.length_eq_zero_iff.symm
    have hdw : ∀ j, x.k = some j → IntKind.i64.wrap (IntKind.i64.wrap (((restB s).length : Int) - ptv x.i x.k) - 1) = j := fun j hj => by
      have := (hk j hj).1
      simp only [hj, ptv]
      rw [wrap64_in (n := ((restB s).length : Int) - (x.i - j - 1)) (by omega) (by omega), wrap64_in (by omega) (by omega)]
      omega
    have ten : ∀ j : Nat, j ≤ 6 → 0 < 10 ^ (6 - j) ∧ 10 ^ (6 - j) ≤ 1000000 := fun j hj => by
      constructor
      · exact Nat.pow_pos (by omega)
      · exact Nat.pow_le_pow_right (n := 10) (by omega) (show 6 - j ≤ 6 by omega)
    have nofail : ∀ j, x.ds ≠ [] → (x.k = some j ∧ j ≠ 0 ∧ j ≤ 6 ∨ x.k = none ∧ j = 0) → x.k.getD 0 = j → j ≤ 6 → ¬ (x.ds = [] ∨ x.k = some 0 ∨ 6 < x.k.getD 0) := fun j hd hj hkj h6 => by
      rintro (h | h | h)
      · exact hd h
      · rcases hj with ⟨h', h2, _⟩ | ⟨h', _⟩
        · rw [h'] at h; simp only [Option.some.injEq] at h; exact h2 h
        · rw [h'] at h; cases h
      · rw [hkj] at h; omega
    have great : x.big = true → ∀ j, x.ds ≠ [] → (x.k = some j ∧ j ≠ 0 ∧ j ≤ 6 ∨ x.k = none ∧ j = 0) → 0 = (decP s).1 ∧ 2 = (decP s).2 := fun hb j hd hj => by
      have hg := hgr hb
      have hkj : x.k.getD 0 = j := by rcases hj with ⟨h, _⟩ | ⟨h, h2⟩ <;> simp [h]; omega
      have h6 : j ≤ 6 := by omega
      rw [hR, if_neg (nofail j hd hj hkj h6), hkj, decFin, if_pos]
      · exact ⟨rfl, rfl⟩
      · have := Nat.le_mul_of_pos_right (valL x.ds) (ten j h6).1
        omega
    have small : x.big = false → ∀ j, x.ds ≠ [] → (x.k = some j ∧ j ≠ 0 ∧ j ≤ 6 ∨ x.k = none ∧ j = 0) → ¬ ((10 ^ (6 - j) : Nat) : Int) = 0 ∧ (IntKind.i64.wrap (Int.tdiv 1152921504606846976 ((10 ^ (6 - j) : Nat) : Int)) < x.x → 0 = (decP s).1 ∧ 2 = (decP s).2) ∧
        (¬ IntKind.i64.wrap (Int.tdiv 1152921504606846976 ((10 ^ (6 - j) : Nat) : Int)) < x.x → (negB s = true → IntKind.i64.wrap (0 - IntKind.i64.wrap (x.x * ((10 ^ (6 - j) : Nat) : Int))) = (decP s).1 ∧ 0 = (decP s).2) ∧ (negB s = false → IntKind.i64.wrap (x.x * ((10 ^ (6 - j) : Nat) : Int)) = (decP s).1 ∧ 0 = (decP s).2)) := fun hb j hd hj => by
      obtain ⟨hxv, hvm⟩ := hsm hb
      have hkj : x.k.getD 0 = j := by rcases hj with ⟨h, _⟩ | ⟨h, h2⟩ <;> simp [h]; omega
      have h6 : j ≤ 6 := by omega
      obtain ⟨t1, t2⟩ := ten j h6
      rw [hR, if_neg (nofail j hd hj hkj h6), hkj, decFin, tdivp hx0.1 t1 t2, hxv]
      generalize hp : 10 ^ (6 - j) = p at *
      have hmul : ((valL x.ds : Nat) : Int) * (p : Int) = ((valL x.ds * p : Nat) : Int) := by simp
      rw [hmul]
      generalize valL x.ds * p = q
      refine ⟨by omega, fun h => ?_, fun h => ?_⟩
      · rw [if_pos (by omega)]; exact ⟨rfl, rfl⟩
      · rw [if_neg (by omega), wrap64_in (n := (q : Int)) (by omega) (by omega), wrap64_in (n := 0 - (q : Int)) (by omega) (by omega)]
        refine ⟨fun hn => ?_, fun hn => ?_⟩
        · rw [hn, if_pos rfl]; exact ⟨by dsimp only; omega, rfl⟩
        · rw [hn, if_neg (by simp)]; exact ⟨rfl, rfl⟩
    have f0 : x.ds = [] → 0 = (decP s).1 ∧ 3 = (decP s).2 := fun h => by rw [hR, if_pos (.inl h)]; exact ⟨rfl, rfl⟩
    have fk : ∀ j, x.k = some j → (j = 0 ∨ 6 < j) → 0 = (decP s).1 ∧ 3 = (decP s).2 := fun j h h2 => by
      rw [hR, if_pos]
      · exact ⟨rfl, rfl⟩
      · rcases h2 with rfl | h2
        · exact .inr (.inl h)
        · exact .inr (.inr (by rw [h]; exact h2))
    cases hkx : x.k with
    | none =>
      have hneg : ¬ 0 ≤ ptv x.i none := by simp [ptv]
      have hl0 := hk0 hkx
      have hd1 : restB s = [] → x.ds = [] := fun h => List.length_eq_zero_iff.1 (by rw [hl0]; exact hnil.1 h)
      have hd2 : ¬ restB s = [] → x.ds ≠ [] := fun h e => h (hnil.2 (by rw [← hl0, e]; rfl))
      have g2 := fun hb hr => great hb 0 (hd2 hr) (.inr ⟨hkx, rfl⟩)
      have s2 := fun hb hr => small hb 0 (hd2 hr) (.inr ⟨hkx, rfl⟩)
      rw [show ((10 ^ (6 - 0) : Nat) : Int) = 1000000 from rfl] at s2
      refine ⟨fun hb => ⟨fun hn => ⟨fun h => absurd h hneg, fun _ => ⟨fun h => f0 (hd1 h), fun h => ⟨⟨by omega, by omega⟩, 1000000, rfl, g2 hb h⟩⟩⟩, fun hn => ⟨fun h => absurd h hneg, fun _ => ⟨fun h => f0 (hd1 h), fun h => ⟨⟨by omega, by omega⟩, 1000000, rfl, g2 hb h⟩⟩⟩⟩,
        fun hb => ⟨fun hn => ⟨fun h => absurd h hneg, fun _ => ⟨fun h => f0 (hd1 h), fun h => ⟨⟨by omega, by omega⟩, 1000000, rfl, (s2 hb h).1, (s2 hb h).2.1, fun h' => ((s2 hb h).2.2 h').1 hn⟩⟩⟩, fun hn => ⟨fun h => absurd h hneg, fun _ => ⟨fun h => f0 (hd1 h), fun h => ⟨⟨by omega, by omega⟩, 1000000, rfl, (s2 hb h).1, (s2 hb h).2.1, fun h' => ((s2 hb h).2.2 h').2 hn⟩⟩⟩⟩⟩
    | some j =>
      have hw := hdw j hkx
      rw [hkx] at hw
      have hkj := hk j hkx
      have hpos : 0 ≤ ptv x.i (some j) := by simp only [ptv]; omega
      have hw6 : j ≤ 6 → IntKind.i64.wrap (6 - (j : Int)) = ((6 - j : Nat) : Int) := fun h => by rw [wrap64_in (by omega) (by omega)]; omega
      simp only [hw]
      have g2 := fun hb (h1 : ¬ (j : Int) = 0) (h2 : ¬ 6 < (j : Int)) => great hb j hkj.2 (.inl ⟨hkx, by omega, by omega⟩)
      have s2 := fun hb (h1 : ¬ (j : Int) = 0) (h2 : ¬ 6 < (j : Int)) => small hb j hkj.2 (.inl ⟨hkx, by omega, by omega⟩)
      have tk := fun (h2 : ¬ 6 < (j : Int)) => show takeAt PZ 3 [tensA] 0 (IntKind.i64.wrap (6 - (j : Int))).toNat = some (.int .i64 ((10 ^ (6 - j) : Nat) : Int)) by rw [hw6 (by omega), Int.toNat_natCast]; exact tens_at (by omega)
      have bd := fun (h2 : ¬ 6 < (j : Int)) => show 0 ≤ IntKind.i64.wrap (6 - (j : Int)) ∧ IntKind.i64.wrap (6 - (j : Int)) < 7 by rw [hw6 (by omega)]; omega
      have e0 : restB s = [] → 0 = (decP s).1 ∧ 3 = (decP s).2 := fun h => by have := hnil.1 h; omega
      refine ⟨fun hb => ⟨fun hn => ⟨fun _ => ⟨fun h => fk j hkx (.inl (by omega)), fun h1 => ⟨fun h => fk j hkx (.inr (by omega)), fun h2 => ⟨e0, fun _ => ⟨bd h2, _, tk h2, g2 hb h1 h2⟩⟩⟩⟩, fun h => absurd hpos h⟩, fun hn => ⟨fun _ => ⟨fun h => fk j hkx (.inl (by omega)), fun h1 => ⟨fun h => fk j hkx (.inr (by omega)), fun h2 => ⟨e0, fun _ => ⟨bd h2, _, tk h2, g2 hb h1 h2⟩⟩⟩⟩, fun h => absurd hpos h⟩⟩,
        fun hb => ⟨fun hn => ⟨fun _ => ⟨fun h => fk j hkx (.inl (by omega)), fun h1 => ⟨fun h => fk j hkx (.inr (by omega)), fun h2 => ⟨e0, fun _ => ⟨bd h2, _, tk h2, (s2 hb h1 h2).1, (s2 hb h1 h2).2.1, fun h' => ((s2 hb h1 h2).2.2 h').1 hn⟩⟩⟩⟩, fun h => absurd hpos h⟩, fun hn => ⟨fun _ => ⟨fun h => fk j hkx (.inl (by omega)), fun h1 => ⟨fun h => fk j hkx (.inr (by omega)), fun h2 => ⟨e0, fun _ => ⟨bd h2, _, tk h2, (s2 hb h1 h2).1, (s2 hb h1 h2).2.1, fun h' => ((s2 hb h1 h2).2.2 h').2 hn⟩⟩⟩⟩, fun h => absurd hpos h⟩⟩⟩
theorem o45 (m : Int) : SpecOk PZ (GZ m) 45 s45 := spec_of (X := XL) (m := []) mixedZ tbl_nil itbl_nil fun args r h => by
  unfold s45 at h
  split at h
  · split at h
    · rename_i hl
      injection h with h; subst h; exact ⟨a45 _, p45 m _ hl⟩
    · cases h
  · cases h
theorem nat_eq_u8 {c : UInt8} {k : Nat} (hk : k < 256) : ((c.toNat : Int) = k) ↔ c = UInt8.ofNat k := by
  rw [← UInt8.toNat_inj]; simp; omega
def s101 : Spec := fun args => match args with | [.int .u8 n] => some (.bool (decide (48 ≤ n ∧ n ≤ 57)), []) | _ => none
def s116 : Spec := fun args => match args with
  | [.str l, .int .i64 n] => if 0 ≤ n ∧ n.toNat ≤ l.length ∧ l.length ≤ 1000000 then some (.int .i64 ((l.drop n.toNat).takeWhile digitB).length, []) else none
  | _ => none
def dAt (s : List UInt8) : Nat := if negB s then 1 else 0
/-- is it a decimal? -/
def formR (r : List UInt8) : Bool :=
  let n := (r.takeWhile digitB).length
  let m := ((r.drop (n + 1)).takeWhile digitB).length
  decide (n ≠ 0) && (decide (n = r.length) || (decide (r[n]? = some 46) && decide (1 ≤ m) && decide (m ≤ 6) && decide (n + 1 + m = r.length)))
def formP (s : List UInt8) : Bool := formR (restB s)
def s100 : Spec := fun args => match args with
  | [.str l] => if l.length ≤ 1000000 then some (.bool (formP l), []) else none
  | _ => none
def capM : Nat := 1152921504606846977
def xstep (x : Nat) (c : UInt8) : Nat := if digitB c then min (10 * min x 115292150460684698 + (c.toNat - 48)) capM else x
def xfold (l : List UInt8) : Nat := l.foldl xstep 0
def bstep (k : Int) (c : UInt8) : Int := if c = 46 then 0 else if digitB c then (if 0 ≤ k then k + 1 else k) else k
def bfold (l : List UInt8) : Int := l.foldl bstep (-1)
def xmore : Nat → Nat → Nat
  | x, 0 => x
  | x, n + 1 => min (10 * min (xmore x n) 115292150460684698) capM
def refP (s : List UInt8) : Int × Int :=
  if formP s = false then (0, 3) else
  let x := xmore (xfold s) (6 - (max (bfold s) 0)).toNat
  if capM ≤ x then (0, 2) else (if s.head? = some 45 then -(x : Int) else x, 0)
def a116 (l : List UInt8) (a : Nat) : Anns := ⟨fun k => if k = 2 then some { α := Nat, slots := [0, 1, 5], nb := 0, vals := fun n => [.str l, .int .i64 a, .int .i64 n], sS := fun _ => ⟨[], []⟩, I := fun n => n ≤ ((l.drop a).takeWhile digitB).length, μ := fun n => l.length - n } else none, nA⟩
def a100 (s : List UInt8) : Anns := ⟨fun k => match k with
  | 1000004 => some { α := Unit, slots := [0, 3], nb := 0, vals := fun _ => [.str s, .int .i64 (dAt s)], sS := fun _ => ⟨[], []⟩, I := fun _ => True, μ := fun _ => 0 }
  | _ => none, nA⟩
def a81 (s : List UInt8) : Anns := ⟨fun k => match k with
  | 6 => some { α := Nat, slots := [0, 4, 5, 6], nb := 0, vals := fun i => [.str s, .int .i64 (xfold (s.take i)), .int .i64 (bfold (s.take i)), .int .i64 i], sS := fun _ => ⟨[], []⟩, I := fun i => i ≤ s.length, μ := fun i => s.length - i }
  | 15 => some { α := Nat, slots := [0, 4, 7], nb := 0, vals := fun j => [.str s, .int .i64 (xmore (xfold s) j), .int .i64 (max (bfold s) 0 + j)], sS := fun _ => ⟨[], []⟩, I := fun j => j ≤ (6 - (max (bfold s) 0)).toNat, μ := fun j => 6 - j }
  | _ => none, nA⟩
def XF : Shapes := fun f => match f with
  | 100 | 101 => some shB
  | 116 => some shI
  | _ => none
theorem w101 (m n : Int) : (pureW PZ (GZ m) XF (tbl []) (itbl []) ⟨nA, nA⟩ [] 101 [.int .u8 n] (.bool (decide (48 ≤ n ∧ n ≤ 57)), [])) =
((decide (n ≥ (48 : Int)) = true →
    (decide (n ≤ (57 : Int)) = true → RetIs (AV.bool true) [] (AV.bool (decide ((48 : Int) ≤ n ∧ n ≤ (57 : Int))), [])) ∧
      (decide (n ≤ (57 : Int)) = false → RetIs (AV.bool false) [] (AV.bool (decide ((48 : Int) ≤ n ∧ n ≤ (57 : Int))), []))) ∧
  (decide (n ≥ (48 : Int)) = false → RetIs (AV.bool false) [] (AV.bool (decide ((48 : Int) ≤ n ∧ n ≤ (57 : Int))), []))) := by kernel_rfl
theorem w116 (m : Int) (l : List UInt8) (a : Nat) : (pureW PZ (GZ m) XF (tbl [(101, s101)]) (itbl []) (a116 l a) [] 116 [.str l, .int .i64 a] (.int .i64 ((l.drop a).takeWhile digitB).length, [])) =
((∃ (y : Nat),
    ValsAre [AV.str l, AV.int IntKind.i64 (↑a : Int), AV.int IntKind.i64 (0 : Int)] [AV.str l, AV.int IntKind.i64 (↑a : Int), AV.int IntKind.i64 (↑y : Int)] ∧
      StIs { boxes := [], live := [] } { boxes := [], live := [] } ∧ y ≤ (List.takeWhile digitB (List.drop a l)).length ∧ True) ∧
  ∀ (x : Nat),
    x ≤ (List.takeWhile digitB (List.drop a l)).length →
      (decide (IntKind.i64.wrap ((↑a : Int) + (↑x : Int)) < (↑l.length : Int)) = true →
          (0 : Int) ≤ IntKind.i64.wrap ((↑a : Int) + (↑x : Int)) ∧
            ∃ (c : UInt8),
              l[(IntKind.i64.wrap ((↑a : Int) + (↑x : Int))).toNat]? = some c ∧
                ∃ (b : Bool),
                  CallIs (some (AV.bool (decide ((48 : Int) ≤ (↑c.toNat : Int) ∧ (↑c.toNat : Int) ≤ (57 : Int))), [])) (AV.bool b) [] ∧
                    (b = true →
                        ∃ (y : Nat),
                          ValsAre [AV.str l, AV.int IntKind.i64 (↑a : Int), AV.int IntKind.i64 (IntKind.i64.wrap ((↑x : Int) + (1 : Int)))]
                              [AV.str l, AV.int IntKind.i64 (↑a : Int), AV.int IntKind.i64 (↑y : Int)] ∧
                            StIs { boxes := [], live := [] } { boxes := [], live := [] } ∧
                              y ≤ (List.takeWhile digitB (List.drop a l)).length ∧ l.length - y < l.length - x) ∧
                      (b = false → RetIs (AV.int IntKind.i64 (↑x : Int)) [] (AV.int IntKind.i64 (↑(List.takeWhile digitB (List.drop a l)).length : Int), []))) ∧
        (decide (IntKind.i64.wrap ((↑a : Int) + (↑x : Int)) < (↑l.length : Int)) = false →
          RetIs (AV.int IntKind.i64 (↑x : Int)) [] (AV.int IntKind.i64 (↑(List.takeWhile digitB (List.drop a l)).length : Int), []))) := by kernel_rfl
theorem w100 (m : Int) (s : List UInt8) : (pureW PZ (GZ m) XF (tbl [(116, s116)]) (itbl []) (a100 s) [] 100 [.str s] (.bool (formP s), [])) =
(((decide ((↑s.length : Int) > (0 : Int)) = true →
      (0 : Int) ≤ (0 : Int) ∧
        ∃ (c : UInt8),
          s[nat_lit 0]? = some c ∧
            (((↑c.toNat : Int) == (45 : Int)) = true →
                ∃ (_y : Unit),
                  ValsAre [AV.str s, AV.int IntKind.i64 (1 : Int)] [AV.str s, AV.int IntKind.i64 (↑(dAt s) : Int)] ∧
                    StIs { boxes := [], live := [] } { boxes := [], live := [] } ∧ True ∧ True) ∧
              (((↑c.toNat : Int) == (45 : Int)) = false →
                ∃ (_y : Unit),
                  ValsAre [AV.str s, AV.int IntKind.i64 (0 : Int)] [AV.str s, AV.int IntKind.i64 (↑(dAt s) : Int)] ∧
                    StIs { boxes := [], live := [] } { boxes := [], live := [] } ∧ True ∧ True)) ∧
    (decide ((↑s.length : Int) > (0 : Int)) = false →
      ∃ (_y : Unit),
        ValsAre [AV.str s, AV.int IntKind.i64 (0 : Int)] [AV.str s, AV.int IntKind.i64 (↑(dAt s) : Int)] ∧
          StIs { boxes := [], live := [] } { boxes := [], live := [] } ∧ True ∧ True)) ∧
  ∀ (_x : Unit),
    True →
      True →
        ∃ (n : Int),
          CallIs (tbl [(nat_lit 116, s116)] (nat_lit 116) [AV.str s, AV.int IntKind.i64 (↑(dAt s) : Int)]) (AV.int IntKind.i64 n) [] ∧
            ((n == (0 : Int)) = true → RetIs (AV.bool false) [] (AV.bool (formP s), [])) ∧
              ((n == (0 : Int)) = false →
                ((IntKind.i64.wrap ((↑(dAt s) : Int) + n) == (↑s.length : Int)) = true → RetIs (AV.bool true) [] (AV.bool (formP s), [])) ∧
                  ((IntKind.i64.wrap ((↑(dAt s) : Int) + n) == (↑s.length : Int)) = false →
                    ∃ (n_1 : Int),
                      CallIs
                          (tbl [(nat_lit 116, s116)] (nat_lit 116)
                            [AV.str s, AV.int IntKind.i64 (IntKind.i64.wrap (IntKind.i64.wrap ((↑(dAt s) : Int) + n) + (1 : Int)))])
                          (AV.int IntKind.i64 n_1) [] ∧
                        (0 : Int) ≤ IntKind.i64.wrap ((↑(dAt s) : Int) + n) ∧
                          ∃ (c : UInt8),
                            s[(IntKind.i64.wrap ((↑(dAt s) : Int) + n)).toNat]? = some c ∧
                              (((↑c.toNat : Int) == (46 : Int)) = true →
                                  (decide (n_1 ≥ (1 : Int)) = true →
                                      (decide (n_1 ≤ (6 : Int)) = true →
                                          ((IntKind.i64.wrap (IntKind.i64.wrap (IntKind.i64.wrap ((↑(dAt s) : Int) + n) + (1 : Int)) + n_1) ==
                                                  (↑s.length : Int)) =
                                                true →
                                              RetIs (AV.bool true) [] (AV.bool (formP s), [])) ∧
                                            ((IntKind.i64.wrap (IntKind.i64.wrap (IntKind.i64.wrap ((↑(dAt s) : Int) + n) + (1 : Int)) + n_1) ==
                                                  (↑s.length : Int)) =
                                                false →
                                              RetIs (AV.bool false) [] (AV.bool (formP s), []))) ∧
                                        (decide (n_1 ≤ (6 : Int)) = false → RetIs (AV.bool false) [] (AV.bool (formP s), []))) ∧
                                    (decide (n_1 ≥ (1 : Int)) = false → RetIs (AV.bool false) [] (AV.bool (formP s), []))) ∧
                                (((↑c.toNat : Int) == (46 : Int)) = false → RetIs (AV.bool false) [] (AV.bool (formP s), []))))) := by kernel_rfl
theorem w81 (m : Int) (s : List UInt8) : (pureW PZ (GZ m) XF (tbl [(100, s100), (101, s101)]) (itbl []) (a81 s) [] 81 [.str s] (.tup [.int .i64 (refP s).1, .int .i64 (refP s).2], [])) =
(∃ (b : Bool),
  CallIs (tbl [(nat_lit 100, s100), (nat_lit 101, s101)] (nat_lit 100) [AV.str s]) (AV.bool b) [] ∧
    (b = true →
        (∃ (y : Nat),
            ValsAre [AV.str s, AV.int IntKind.i64 (0 : Int), AV.int IntKind.i64 (-1 : Int), AV.int IntKind.i64 (0 : Int)]
                [AV.str s, AV.int IntKind.i64 (↑(xfold (List.take y s)) : Int), AV.int IntKind.i64 (bfold (List.take y s)), AV.int IntKind.i64 (↑y : Int)] ∧
              StIs { boxes := [], live := [] } { boxes := [], live := [] } ∧ y ≤ s.length ∧ True) ∧
          ∀ (x : Nat),
            x ≤ s.length →
              (decide ((↑x : Int) < (↑s.length : Int)) = true →
                  (0 : Int) ≤ (↑x : Int) ∧
                    ∃ (c : UInt8),
                      s[(↑x : Int).toNat]? = some c ∧
                        (((↑c.toNat : Int) == (46 : Int)) = true →
                            (0 : Int) ≤ (↑x : Int) ∧
                              ∃ (c : UInt8),
                                s[(↑x : Int).toNat]? = some c ∧
                                  ∃ (b : Bool),
                                    CallIs (some (AV.bool (decide ((48 : Int) ≤ (↑c.toNat : Int) ∧ (↑c.toNat : Int) ≤ (57 : Int))), [])) (AV.bool b) [] ∧
                                      (b = true →
                                          (0 : Int) ≤ (↑x : Int) ∧
                                            ∃ (c : UInt8),
                                              s[(↑x : Int).toNat]? = some c ∧
                                                (true = true →
                                                    ∃ (y : Nat),
                                                      ValsAre
                                                          [AV.str s,
                                                            AV.int IntKind.i64
                                                              (min
                                                                (IntKind.i64.wrap
                                                                  (IntKind.i64.wrap
                                                                      ((10 : Int) * min (↑(xfold (List.take x s)) : Int) (115292150460684698 : Int)) +
                                                                    IntKind.i64.wrap (IntKind.u8.wrap ((↑c.toNat : Int) - (48 : Int)))))
                                                                (1152921504606846977 : Int)),
                                                            AV.int IntKind.i64 (1 : Int), AV.int IntKind.i64 (IntKind.i64.wrap ((↑x : Int) + (1 : Int)))]
                                                          [AV.str s, AV.int IntKind.i64 (↑(xfold (List.take y s)) : Int),
                                                            AV.int IntKind.i64 (bfold (List.take y s)), AV.int IntKind.i64 (↑y : Int)] ∧
                                                        StIs { boxes := [], live := [] } { boxes := [], live := [] } ∧
                                                          y ≤ s.length ∧ s.length - y < s.length - x) ∧
                                                  (true = false →
                                                    ∃ (y : Nat),
                                                      ValsAre
                                                          [AV.str s,
                                                            AV.int IntKind.i64
                                                              (min
                                                                (IntKind.i64.wrap
                                                                  (IntKind.i64.wrap
                                                                      ((10 : Int) * min (↑(xfold (List.take x s)) : Int) (115292150460684698 : Int)) +
                                                                    IntKind.i64.wrap (IntKind.u8.wrap ((↑c.toNat : Int) - (48 : Int)))))
                                                                (1152921504606846977 : Int)),
                                                            AV.int IntKind.i64 (0 : Int), AV.int IntKind.i64 (IntKind.i64.wrap ((↑x : Int) + (1 : Int)))]
                                                          [AV.str s, AV.int IntKind.i64 (↑(xfold (List.take y s)) : Int),
                                                            AV.int IntKind.i64 (bfold (List.take y s)), AV.int IntKind.i64 (↑y : Int)] ∧
                                                        StIs { boxes := [], live := [] } { boxes := [], live := [] } ∧
                                                          y ≤ s.length ∧ s.length - y < s.length - x)) ∧
                                        (b = false →
                                          ∃ (y : Nat),
                                            ValsAre
                                                [AV.str s, AV.int IntKind.i64 (↑(xfold (List.take x s)) : Int), AV.int IntKind.i64 (0 : Int),
                                                  AV.int IntKind.i64 (IntKind.i64.wrap ((↑x : Int) + (1 : Int)))]
                                                [AV.str s, AV.int IntKind.i64 (↑(xfold (List.take y s)) : Int), AV.int IntKind.i64 (bfold (List.take y s)),
                                                  AV.int IntKind.i64 (↑y : Int)] ∧
                                              StIs { boxes := [], live := [] } { boxes := [], live := [] } ∧ y ≤ s.length ∧ s.length - y < s.length - x)) ∧
                          (((↑c.toNat : Int) == (46 : Int)) = false →
                            (0 : Int) ≤ (↑x : Int) ∧
                              ∃ (c : UInt8),
                                s[(↑x : Int).toNat]? = some c ∧
                                  ∃ (b : Bool),
                                    CallIs (some (AV.bool (decide ((48 : Int) ≤ (↑c.toNat : Int) ∧ (↑c.toNat : Int) ≤ (57 : Int))), [])) (AV.bool b) [] ∧
                                      (b = true →
                                          (0 : Int) ≤ (↑x : Int) ∧
                                            ∃ (c : UInt8),
                                              s[(↑x : Int).toNat]? = some c ∧
                                                (decide (bfold (List.take x s) ≥ (0 : Int)) = true →
                                                    ∃ (y : Nat),
                                                      ValsAre
                                                          [AV.str s,
                                                            AV.int IntKind.i64
                                                              (min
                                                                (IntKind.i64.wrap
                                                                  (IntKind.i64.wrap
                                                                      ((10 : Int) * min (↑(xfold (List.take x s)) : Int) (115292150460684698 : Int)) +
                                                                    IntKind.i64.wrap (IntKind.u8.wrap ((↑c.toNat : Int) - (48 : Int)))))
                                                                (1152921504606846977 : Int)),
                                                            AV.int IntKind.i64 (IntKind.i64.wrap (bfold (List.take x s) + (1 : Int))),
                                                            AV.int IntKind.i64 (IntKind.i64.wrap ((↑x : Int) + (1 : Int)))]
                                                          [AV.str s, AV.int IntKind.i64 (↑(xfold (List.take y s)) : Int),
                                                            AV.int IntKind.i64 (bfold (List.take y s)), AV.int IntKind.i64 (↑y : Int)] ∧
                                                        StIs { boxes := [], live := [] } { boxes := [], live := [] } ∧
                                                          y ≤ s.length ∧ s.length - y < s.length - x) ∧
                                                  (decide (bfold (List.take x s) ≥ (0 : Int)) = false →
                                                    ∃ (y : Nat),
                                                      ValsAre
                                                          [AV.str s,
                                                            AV.int IntKind.i64
                                                              (min
                                                                (IntKind.i64.wrap
                                                                  (IntKind.i64.wrap
                                                                      ((10 : Int) * min (↑(xfold (List.take x s)) : Int) (115292150460684698 : Int)) +
                                                                    IntKind.i64.wrap (IntKind.u8.wrap ((↑c.toNat : Int) - (48 : Int)))))
                                                                (1152921504606846977 : Int)),
                                                            AV.int IntKind.i64 (bfold (List.take x s)),
                                                            AV.int IntKind.i64 (IntKind.i64.wrap ((↑x : Int) + (1 : Int)))]
                                                          [AV.str s, AV.int IntKind.i64 (↑(xfold (List.take y s)) : Int),
                                                            AV.int IntKind.i64 (bfold (List.take y s)), AV.int IntKind.i64 (↑y : Int)] ∧
                                                        StIs { boxes := [], live := [] } { boxes := [], live := [] } ∧
                                                          y ≤ s.length ∧ s.length - y < s.length - x)) ∧
                                        (b = false →
                                          ∃ (y : Nat),
                                            ValsAre
                                                [AV.str s, AV.int IntKind.i64 (↑(xfold (List.take x s)) : Int), AV.int IntKind.i64 (bfold (List.take x s)),
                                                  AV.int IntKind.i64 (IntKind.i64.wrap ((↑x : Int) + (1 : Int)))]
                                                [AV.str s, AV.int IntKind.i64 (↑(xfold (List.take y s)) : Int), AV.int IntKind.i64 (bfold (List.take y s)),
                                                  AV.int IntKind.i64 (↑y : Int)] ∧
                                              StIs { boxes := [], live := [] } { boxes := [], live := [] } ∧ y ≤ s.length ∧ s.length - y < s.length - x))) ∧
                (decide ((↑x : Int) < (↑s.length : Int)) = false →
                  (∃ (y : Nat),
                      ValsAre [AV.str s, AV.int IntKind.i64 (↑(xfold (List.take x s)) : Int), AV.int IntKind.i64 (max (bfold (List.take x s)) (0 : Int))]
                          [AV.str s, AV.int IntKind.i64 (↑(xmore (xfold s) y) : Int), AV.int IntKind.i64 (max (bfold s) (0 : Int) + (↑y : Int))] ∧
                        StIs { boxes := [], live := [] } { boxes := [], live := [] } ∧ y ≤ ((6 : Int) - max (bfold s) (0 : Int)).toNat ∧ True) ∧
                    ∀ (x : Nat),
                      x ≤ ((6 : Int) - max (bfold s) (0 : Int)).toNat →
                        (decide (max (bfold s) (0 : Int) + (↑x : Int) < (6 : Int)) = true →
                            ∃ (y : Nat),
                              ValsAre
                                  [AV.str s,
                                    AV.int IntKind.i64
                                      (min (IntKind.i64.wrap ((10 : Int) * min (↑(xmore (xfold s) x) : Int) (115292150460684698 : Int)))
                                        (1152921504606846977 : Int)),
                                    AV.int IntKind.i64 (IntKind.i64.wrap (max (bfold s) (0 : Int) + (↑x : Int) + (1 : Int)))]
                                  [AV.str s, AV.int IntKind.i64 (↑(xmore (xfold s) y) : Int), AV.int IntKind.i64 (max (bfold s) (0 : Int) + (↑y : Int))] ∧
                                StIs { boxes := [], live := [] } { boxes := [], live := [] } ∧
                                  y ≤ ((6 : Int) - max (bfold s) (0 : Int)).toNat ∧ nat_lit 6 - y < nat_lit 6 - x) ∧
                          (decide (max (bfold s) (0 : Int) + (↑x : Int) < (6 : Int)) = false →
                            (decide ((↑(xmore (xfold s) x) : Int) > (1152921504606846976 : Int)) = true →
                                RetIs (AV.tup [AV.int IntKind.i64 (0 : Int), AV.int IntKind.i64 (2 : Int)]) []
                                  (AV.tup [AV.int IntKind.i64 (refP s).fst, AV.int IntKind.i64 (refP s).snd], [])) ∧
                              (decide ((↑(xmore (xfold s) x) : Int) > (1152921504606846976 : Int)) = false →
                                (0 : Int) ≤ (0 : Int) ∧
                                  ∃ (c : UInt8),
                                    s[nat_lit 0]? = some c ∧
                                      (((↑c.toNat : Int) == (45 : Int)) = true →
                                          RetIs
                                            (AV.tup
                                              [AV.int IntKind.i64 (IntKind.i64.wrap ((0 : Int) - (↑(xmore (xfold s) x) : Int))), AV.int IntKind.i64 (0 : Int)])
                                            [] (AV.tup [AV.int IntKind.i64 (refP s).fst, AV.int IntKind.i64 (refP s).snd], [])) ∧
                                        (((↑c.toNat : Int) == (45 : Int)) = false →
                                          RetIs (AV.tup [AV.int IntKind.i64 (↑(xmore (xfold s) x) : Int), AV.int IntKind.i64 (0 : Int)]) []
                                            (AV.tup [AV.int IntKind.i64 (refP s).fst, AV.int IntKind.i64 (refP s).snd], [])))))) ∧
      (b = false →
        RetIs (AV.tup [AV.int IntKind.i64 (0 : Int), AV.int IntKind.i64 (3 : Int)]) []
          (AV.tup [AV.int IntKind.i64 (refP s).fst, AV.int IntKind.i64 (refP s).snd], []))) := by kernel_rfl
theorem p101 (m n : Int) : PureOk PZ (GZ m) XF (tbl []) (itbl []) ⟨nA, nA⟩ [] 101 [.int .u8 n] (.bool (decide (48 ≤ n ∧ n ≤ 57)), []) := by
  constructor
  rw [w101]
  simp only [retIs_iff, Prod.mk.injEq, AV.bool.injEq, and_true, decide_eq_true_eq, decide_eq_false_iff_not]
  refine ⟨fun h1 => ⟨fun h2 => (decide_eq_true (by omega)).symm, fun h2 => (decide_eq_false (by omega)).symm⟩, fun h1 => (decide_eq_false (by omega)).symm⟩
theorem dig_dec (c : UInt8) : decide (48 ≤ (c.toNat : Int) ∧ (c.toNat : Int) ≤ 57) = digitB c := by
  by_cases h : digitB c = true
  · rw [h]; rw [digitB_iff] at h; exact decide_eq_true (by omega)
  · have h' := h
    rw [digitB_iff] at h'
    rw [Bool.not_eq_true] at h; rw [h]; exact decide_eq_false (by omega)
theorem eq45 (c : UInt8) : ((c.toNat : Int) = 45) ↔ c = 45 := nat_eq_u8 (k := 45) (by omega)
theorem eq46 (c : UInt8) : ((c.toNat : Int) = 46) ↔ c = 46 := nat_eq_u8 (k := 46) (by omega)
theorem sAtOpt {l : List UInt8} {i : Nat} (h : i < l.length) : l[i]? = some (l.getD i 0) := by
  simp [List.getElem?_eq_getElem h]
theorem p116 (m : Int) (l : List UInt8) (a : Nat) (ha : a ≤ l.length) (hl : l.length ≤ 1000000) : PureOk PZ (GZ m) XF (tbl [(101, s101)]) (itbl []) (a116 l a) [] 116 [.str l, .int .i64 a] (.int .i64 ((l.drop a).takeWhile digitB).length, []) := by
  constructor
  rw [w116]
  have htw := tw_le (p := digitB) (l.drop a)
  rw [List.length_drop] at htw
  simp only [callIs_iff, dig_dec, valsAre_iff, stIs_iff, retIs_iff, Option.some.injEq, Prod.mk.injEq, AV.bool.injEq, AV.int.injEq, List.cons.injEq, and_true, true_and, decide_eq_true_eq, decide_eq_false_iff_not]
  refine ⟨⟨0, rfl, by omega⟩, fun x hx => ?_⟩
  rw [wrap64_in (n := (a : Int) + x) (by omega) (by omega), wrap64_in (n := (x : Int) + 1) (by omega) (by omega), show ((a : Int) + x).toNat = a + x by omega]
  refine ⟨fun hlt => ⟨by omega, _, sAtOpt (i := a + x) (by omega), _, rfl, fun hd => ?_, fun hd => ?_⟩, fun hge => ?_⟩
  · exact ⟨x + 1, by omega, tw_next hx (by rw [List.length_drop]; omega) (by rw [getD_drop']; exact hd), by omega⟩
  · have := tw_stop (p := digitB) (l := l.drop a) (k := x) hx (fun _ => by rw [getD_drop']; exact hd)
    omega
  · have := tw_stop (p := digitB) (l := l.drop a) (k := x) hx (fun h => by rw [List.length_drop] at h; omega)
    omega
theorem restB_drop (s : List UInt8) : restB s = s.drop (dAt s) := by
  unfold restB dAt
  split <;> simp
theorem p100 (m : Int) (s : List UInt8) (hl : s.length ≤ 1000000) : PureOk PZ (GZ m) XF (tbl [(116, s116)]) (itbl []) (a100 s) [] 100 [.str s] (.bool (formP s), []) := by
  constructor
  rw [w100]
  have t81 : ∀ a : Nat, a ≤ s.length → tbl [(116, s116)] 116 [.str s, .int .i64 (a : Nat)] = some (.int .i64 ((s.drop a).takeWhile digitB).length, []) := fun a ha => by
    rw [tbl_hit]; simp only [s116]; rw [if_pos ⟨by omega, by simpa using ha, hl⟩, Int.toNat_natCast]
  have hd : dAt s ≤ s.length ∧ dAt s ≤ 1 := by
    unfold dAt negB
    cases s with
    | nil => exact ⟨by simp, by simp⟩
    | cons c t => split <;> exact ⟨by simp, by omega⟩
  have htw := tw_le (p := digitB) (s.drop (dAt s))
  rw [List.length_drop] at htw
  simp only [callIs_iff, valsAre_iff, stIs_iff, retIs_iff, Prod.mk.injEq, AV.bool.injEq, AV.int.injEq, List.cons.injEq, and_true, true_and, decide_eq_true_eq, decide_eq_false_iff_not, beq_iff_eq, beq_eq_false_iff_ne, ne_eq, gt_iff_lt, ge_iff_le, true_implies]
  have hneg : ∀ c, s[0]? = some c → ((c.toNat : Int) = 45 ↔ negB s = true) := fun c hc => by
    cases s with
    | nil => simp at hc
    | cons x t =>
      simp at hc; subst hc
      rw [eq45]
      simp [negB]
  refine ⟨⟨fun h => ⟨by omega, _, sAtOpt (i := 0) (by omega), fun h' => ⟨(), ?_⟩, fun h' => ⟨(), ?_⟩⟩, fun h => ⟨(), ?_⟩⟩, fun _ => ?_⟩
  · rw [hneg _ (sAtOpt (by omega))] at h'
    simp [dAt, h']
  · rw [hneg _ (sAtOpt (by omega))] at h'
    simp [dAt, h']
  · have : s = [] := List.length_eq_zero_iff.1 (by omega)
    subst this; rfl
  · refine ⟨_, t81 _ hd.1, ?_⟩
    have hr := restB_drop s
    simp only [formP, formR, hr]
    generalize hn : ((s.drop (dAt s)).takeWhile digitB).length = n at *
    generalize hdd : dAt s = d at *
    refine ⟨fun h => ?_, fun h => ⟨fun h1 => ?_, fun h1 => ?_⟩⟩
    · have : n = 0 := by omega
      simp [this]
    · rw [wrap64_in (by omega) (by omega)] at h1
      have : n = (s.drop d).length := by rw [List.length_drop]; omega
      have h0 : n ≠ 0 := by omega
      simp [← this, h0]
    · rw [wrap64_in (by omega) (by omega)] at h1
      have hne : n ≠ (s.drop d).length := by rw [List.length_drop]; omega
      have hlt : d + n < s.length := by
        have : n ≤ s.length - d := htw
        omega
      rw [wrap64_in (n := (d : Int) + n) (by omega) (by omega), wrap64_in (n := (d : Int) + n + 1) (by omega) (by omega)]
      have e1 : ((d : Int) + n + 1) = ((d + n + 1 : Nat) : Int) := by omega
      have e2 : ((d : Int) + n).toNat = d + n := by omega
      refine ⟨_, by rw [e1]; exact t81 _ (by omega), by omega, _, by rw [e2]; exact sAtOpt (i := d + n) (by omega), ?_⟩
      rw [eq46]
      have e3 : (s.drop d).drop (n + 1) = s.drop (d + n + 1) := by rw [List.drop_drop]; congr 1
      have e4 : (s.drop d)[n]? = some (s.getD (d + n) 0) := by rw [List.getElem?_drop]; exact sAtOpt hlt
      have htw2 := tw_le (p := digitB) (s.drop (d + n + 1))
      rw [List.length_drop] at htw2
      rw [e3, e4]
      have h0 : n ≠ 0 := by omega
      generalize ((s.drop (d + n + 1)).takeWhile digitB).length = q at *
      rw [wrap64_in (n := (d : Int) + n + 1 + q) (by omega) (by omega)]
      have hL : (s.drop d).length = s.length - d := List.length_drop
      have hne' : ¬ n = s.length - d := by omega
      rw [hL]
      clear e4
      generalize s.getD (d + n) 0 = c0
      refine ⟨fun c1 => ⟨fun c2 => ⟨fun c3 => ⟨fun c4 => ?_, fun c4 => ?_⟩, fun c3 => ?_⟩, fun c2 => ?_⟩, fun c1 => ?_⟩
      · have c4' : n + 1 + q = s.length - d := by omega
        have c2' : 1 ≤ q := by omega
        have c3' : q ≤ 6 := by omega
        simp [h0, c1, c4', c2', c3']
      · have c4' : ¬ n + 1 + q = s.length - d := by omega
        simp [hne', c4']
      · have c3' : ¬ q ≤ 6 := by omega
        simp [hne', c3']
      · have c2' : ¬ 1 ≤ q := by omega
        simp [hne', c2']
      · simp [hne', c1]
theorem xfold_succ {s : List UInt8} {i : Nat} (h : i < s.length) : xfold (s.take (i + 1)) = xstep (xfold (s.take i)) (s.getD i 0) := by
  unfold xfold
  rw [List.take_succ_eq_append_getElem h, List.foldl_append]
  simp [List.getElem?_eq_getElem h]
theorem bfold_succ {s : List UInt8} {i : Nat} (h : i < s.length) : bfold (s.take (i + 1)) = bstep (bfold (s.take i)) (s.getD i 0) := by
  unfold bfold
  rw [List.take_succ_eq_append_getElem h, List.foldl_append]
  simp [List.getElem?_eq_getElem h]
theorem bfold_le : ∀ (s : List UInt8) (i : Nat), i ≤ s.length → -1 ≤ bfold (s.take i) ∧ bfold (s.take i) ≤ i
  | s, 0, _ => by simp [bfold]
  | s, i + 1, h => by
    have ih := bfold_le s i (by omega)
    rw [bfold_succ (by omega)]
    unfold bstep
    repeat' split
    all_goals omega
theorem xstep_le {x : Nat} (h : x ≤ capM) (c : UInt8) : xstep x c ≤ capM := by
  unfold xstep
  split
  · exact Nat.min_le_right _ _
  · exact h
theorem xfold_le (s : List UInt8) : xfold s ≤ capM := by
  unfold xfold
  have : ∀ (l : List UInt8) (x : Nat), x ≤ capM → l.foldl xstep x ≤ capM := by
    intro l
    induction l with
    | nil => exact fun x h => h
    | cons c l ih => exact fun x h => ih _ (xstep_le h c)
  exact this s 0 (by decide)
theorem xmore_le {x : Nat} (h : x ≤ capM) : ∀ n, xmore x n ≤ capM
  | 0 => h
  | _n + 1 => Nat.min_le_right _ _
theorem xstep_dig {x : Nat} {c : UInt8} (_hx : x ≤ capM) (hc : digitB c = true) : (min (IntKind.i64.wrap (IntKind.i64.wrap (10 * min (x : Int) 115292150460684698) + IntKind.i64.wrap (IntKind.u8.wrap ((c.toNat : Int) - 48)))) 1152921504606846977 : Int) = (xstep x c : Nat) := by
  have h := digitB_iff.1 hc
  rw [wrap8_in (n := (c.toNat : Int) - 48) (by omega) (by omega), wrap64_in (n := (c.toNat : Int) - 48) (by omega) (by omega), wrap64_in (n := 10 * min (x : Int) 115292150460684698) (by omega) (by omega), wrap64_in (by omega) (by omega)]
  simp only [xstep, hc, if_true, capM]
  omega
theorem xmore_step {x : Nat} {n : Nat} : (min (IntKind.i64.wrap (10 * min (xmore x n : Int) 115292150460684698)) 1152921504606846977 : Int) = (xmore x (n + 1) : Nat) := by
  rw [wrap64_in (by omega) (by omega)]
  simp only [xmore, capM]
  omega
theorem bfold_whole (s : List UInt8) : -1 ≤ bfold s ∧ bfold s ≤ s.length := by
  have := bfold_le s s.length (Nat.le_refl _)
  rw [List.take_length] at this
  exact this
theorem p81 (m : Int) (s : List UInt8) (hl : s.length ≤ 1000000) : PureOk PZ (GZ m) XF (tbl [(100, s100), (101, s101)]) (itbl []) (a81 s) [] 81 [.str s] (.tup [.int .i64 (refP s).1, .int .i64 (refP s).2], []) := by
  constructor
  rw [w81]
  have t72 : tbl [(100, s100), (101, s101)] 100 [.str s] = some (.bool (formP s), []) := by rw [tbl_hit]; simp only [s100]; rw [if_pos hl]
  simp only [callIs_iff, t72, dig_dec, valsAre_iff, stIs_iff, retIs_iff, Option.some.injEq, Prod.mk.injEq, AV.bool.injEq, AV.int.injEq, AV.tup.injEq, List.cons.injEq, and_true, true_and, decide_eq_true_eq, decide_eq_false_iff_not, Int.toNat_natCast, beq_iff_eq, beq_eq_false_iff_ne, ne_eq, gt_iff_lt, ge_iff_le, true_implies, tf_imp, eq46, eq45]
  have hbw := bfold_whole s
  have land : ∀ (x : Nat) (v b : Int), x < s.length → v = (xfold (s.take (x + 1)) : Nat) → b = bfold (s.take (x + 1)) → ∃ y : Nat, (v = (xfold (s.take y) : Nat) ∧ b = bfold (s.take y) ∧ IntKind.i64.wrap ((x : Int) + 1) = y) ∧ y ≤ s.length ∧ s.length - y < s.length - x := fun x v b hlt h1 h2 =>
    ⟨x + 1, ⟨h1, h2, by rw [wrap64_in (by omega) (by omega)]; rfl⟩, by omega, by omega⟩
  refine ⟨_, rfl, fun hf => ⟨⟨0, by simp [xfold, bfold]⟩, fun x hx => ⟨fun hlt => ⟨by omega, _, sAtOpt (i := x) (by omega), fun h46 => ⟨by omega, _, sAtOpt (i := x) (by omega), _, rfl, fun hd => ?_, fun hd => ?_⟩, fun h46 => ⟨by omega, _, sAtOpt (i := x) (by omega), _, rfl, fun hd => ⟨by omega, _, sAtOpt (i := x) (by omega), fun hb => ?_, fun hb => ?_⟩, fun hd => ?_⟩⟩, fun hge => ?_⟩⟩, fun hf => ?_⟩
  · rw [h46] at hd; exact absurd hd (by decide)
  · refine land x _ _ (by omega) ?_ ?_
    · rw [xfold_succ (by omega), xstep, hd]; rfl
    · rw [bfold_succ (by omega), bstep, if_pos h46]
  · have hbl := bfold_le s x hx
    refine land x _ _ (by omega) ?_ ?_
    · rw [xfold_succ (by omega)]; exact xstep_dig (xfold_le _) hd
    · rw [bfold_succ (by omega), bstep, if_neg h46, if_pos hd, if_pos hb, wrap64_in (by omega) (by omega)]
  · refine land x _ _ (by omega) ?_ ?_
    · rw [xfold_succ (by omega)]; exact xstep_dig (xfold_le _) hd
    · rw [bfold_succ (by omega), bstep, if_neg h46, if_pos hd, if_neg hb]
  · refine land x _ _ (by omega) ?_ ?_
    · rw [xfold_succ (by omega), xstep, hd]; rfl
    · rw [bfold_succ (by omega), bstep, if_neg h46, if_neg (by rw [hd]; decide)]
  · have hxl : x = s.length := by omega
    subst hxl
    rw [List.take_length]
    refine ⟨⟨0, by simp [xmore]⟩, fun j hj => ⟨fun hlt => ⟨j + 1, ⟨xmore_step, ?_⟩, by omega, by omega⟩, fun hge => ?_⟩⟩
    · rw [wrap64_in (by omega) (by omega)]; simp; omega
    · have hje : j = (6 - max (bfold s) 0).toNat := by omega
      have hne : 0 < s.length := by
        cases s with
        | nil => simp [formP, formR, restB, negB] at hf
        | cons c t => simp
      have hcap := xmore_le (xfold_le s) j
      simp only [refP, hf, ← hje, Bool.true_eq_false, if_false]
      have h45 : (s.head? = some 45) ↔ s.getD 0 0 = 45 := by
        cases s with
        | nil => simp at hne
        | cons c t => simp
      refine ⟨fun hgt => ?_, fun hle => ⟨by omega, _, sAtOpt (i := 0) hne, fun h => ?_, fun h => ?_⟩⟩
      · rw [if_pos (by unfold capM; omega)]; exact ⟨rfl, rfl⟩
      · rw [if_neg (by unfold capM; omega)]
        simp only [h45, h, if_true]
        rw [wrap64_in (by omega) (by omega)]
        exact ⟨by omega, trivial⟩
      · rw [if_neg (by unfold capM; omega)]
        simp only [h45, h, if_false]
        trivial
  · simp only [refP, hf, if_true]; trivial
theorem dfold_snoc (l : List UInt8) (c : UInt8) : dfold (l ++ [c]) = dstep (dfold l) c := by unfold dfold; rw [List.foldl_append]; rfl
theorem all_snoc {l : List UInt8} {c : UInt8} (h : l.all digitB = true) (hc : digitB c = true) : (l ++ [c]).all digitB = true := by simp [List.all_append, h, hc]
theorem dfold_shape : ∀ (n : Nat) (r : List UInt8), r.length = n → ∀ ds k, dfold r = some (ds, k) → (k = none ∧ ds = r ∧ r.all digitB = true) ∨ (∃ a b, r = a ++ 46 :: b ∧ a ≠ [] ∧ a.all digitB = true ∧ b.all digitB = true ∧ ds = a ++ b ∧ k = some b.length) := by
  intro n
  induction n with
  | zero =>
    intro r hr ds k h
    have : r = [] := List.length_eq_zero_iff.1 hr
    subst this
    simp [dfold] at h
    exact .inl ⟨h.2.symm, h.1, rfl⟩
  | succ n ih =>
    intro r hr ds k h
    have hne : r ≠ [] := by rintro rfl; simp at hr
    obtain ⟨l, c, rfl⟩ : ∃ l c, r = l ++ [c] := ⟨r.dropLast, r.getLast hne, (List.dropLast_concat_getLast hne).symm⟩
    rw [dfold_snoc] at h
    have hl : l.length = n := by simp at hr; exact hr
    cases hd : dfold l with
    | none => rw [hd] at h; simp [dstep] at h
    | some p =>
      obtain ⟨ds', k'⟩ := p
      rw [hd] at h
      have hs := ih l hl ds' k' hd
      simp only [dstep] at h
      split at h
      · rename_i hc
        obtain ⟨rfl, rfl, hne'⟩ := hc
        simp only [Option.some.injEq, Prod.mk.injEq] at h
        obtain ⟨rfl, rfl⟩ := h
        rcases hs with ⟨_, rfl, ha⟩ | ⟨a, b, _, _, _, _, _, hk⟩
        · exact .inr ⟨ds', [], rfl, hne', ha, rfl, by simp, rfl⟩
        · cases hk
      · split at h
        · rename_i hdg
          simp only [Option.some.injEq, Prod.mk.injEq] at h
          obtain ⟨rfl, rfl⟩ := h
          rcases hs with ⟨rfl, rfl, ha⟩ | ⟨a, b, rfl, h1, h2, h3, rfl, rfl⟩
          · exact .inl ⟨rfl, rfl, all_snoc ha hdg⟩
          · exact .inr ⟨a, b ++ [c], by simp, h1, h2, all_snoc h3 hdg, by simp, by simp⟩
        · cases h
theorem tw_all {a : List UInt8} (h : a.all digitB = true) : a.takeWhile digitB = a := by
  induction a with
  | nil => rfl
  | cons c t ih =>
    simp only [List.all_cons, Bool.and_eq_true] at h
    rw [List.takeWhile_cons, if_pos h.1, ih h.2]
theorem tw_split {a b : List UInt8} (h : a.all digitB = true) : (a ++ 46 :: b).takeWhile digitB = a := by
  induction a with
  | nil => simp [digitB]
  | cons c t ih =>
    simp only [List.all_cons, Bool.and_eq_true] at h
    rw [List.cons_append, List.takeWhile_cons, if_pos h.1, ih h.2]
theorem drop_split {a b : List UInt8} : (a ++ 46 :: b).drop (a.length + 1) = b := by
  rw [List.drop_append]; simp
theorem formR_dig {r : List UInt8} (h : r.all digitB = true) : formR r = decide (r ≠ []) := by
  simp only [formR, tw_all h]
  cases r <;> simp
theorem formR_point {a b : List UInt8} (ha : a.all digitB = true) (hne : a ≠ []) (hb : b.all digitB = true) : formR (a ++ 46 :: b) = (decide (1 ≤ b.length) && decide (b.length ≤ 6)) := by
  have h0 : a.length ≠ 0 := fun h => hne (List.length_eq_zero_iff.1 h)
  simp only [formR, tw_split ha, drop_split, tw_all hb]
  have e : (a ++ 46 :: b)[a.length]? = some 46 := by simp
  have e2 : (a ++ 46 :: b).length = a.length + 1 + b.length := by simp; omega
  rw [e, e2]
  have e3 : ¬ a.length = a.length + 1 + b.length := by omega
  simp [h0, e3]
/-- what is formed splits -/
theorem formR_shape {r : List UInt8} (h : formR r = true) : (r.all digitB = true ∧ r ≠ []) ∨ ∃ a b, r = a ++ 46 :: b ∧ a ≠ [] ∧ a.all digitB = true ∧ b.all digitB = true ∧ 1 ≤ b.length ∧ b.length ≤ 6 := by
  simp only [formR, Bool.and_eq_true, Bool.or_eq_true, decide_eq_true_eq] at h
  have hall := takeWhile_all digitB r
  have hpre : r.takeWhile digitB = r.take (r.takeWhile digitB).length := (List.prefix_iff_eq_take.1 (List.takeWhile_prefix digitB))
  obtain ⟨h0, h | ⟨⟨⟨h1, h2⟩, h3⟩, h4⟩⟩ := h
  · rw [h, List.take_length] at hpre
    rw [hpre] at hall
    exact .inl ⟨hall, fun e => h0 (by rw [e]; rfl)⟩
  · generalize hn : (r.takeWhile digitB).length = n at *
    have hlt := (List.getElem?_eq_some_iff.1 h1).1
    have hv := (List.getElem?_eq_some_iff.1 h1).2
    have hall2 := takeWhile_all digitB (r.drop (n + 1))
    have hpre2 : (r.drop (n + 1)).takeWhile digitB = (r.drop (n + 1)).take ((r.drop (n + 1)).takeWhile digitB).length := (List.prefix_iff_eq_take.1 (List.takeWhile_prefix digitB))
    have e2 : (r.drop (n + 1)).takeWhile digitB = r.drop (n + 1) := by
      rw [hpre2]
      exact List.take_of_length_le (by rw [List.length_drop]; omega)
    rw [e2] at hall2 h2 h3
    refine .inr ⟨r.takeWhile digitB, r.drop (n + 1), ?_, fun e => h0 (by rw [← hn, e]; rfl), hall, hall2, h2, h3⟩
    conv => lhs; rw [← List.take_append_drop n r, List.drop_eq_getElem_cons hlt, hv]
    rw [hpre]
theorem decR_bad {neg : Bool} {r : List UInt8} (h : formR r = false) : decR neg r = (0, 3) := by
  unfold decR
  split
  · rfl
  · rename_i ds k hd
    split
    · rfl
    · rename_i hc
      simp only [not_or] at hc
      rcases dfold_shape _ r rfl ds k hd with ⟨rfl, rfl, ha⟩ | ⟨a, b, rfl, h1, h2, h3, rfl, rfl⟩
      · rw [formR_dig ha] at h
        simp at h
        exact absurd h hc.1
      · rw [formR_point h2 h1 h3] at h
        simp only [Option.getD_some, Option.some.injEq] at hc
        have g1 : 1 ≤ b.length := by have := hc.2.1; omega
        have g2 : b.length ≤ 6 := by have := hc.2.2; omega
        simp [g1, g2] at h
theorem xfold_dig : ∀ (l : List UInt8) (v : Nat), l.all digitB = true → l.foldl xstep (min v capM) = min (valF v l) capM
  | [], v, _ => rfl
  | c :: l, v, h => by
    simp only [List.all_cons, Bool.and_eq_true] at h
    have hc := digitB_iff.1 h.1
    have e : xstep (min v capM) c = min (10 * v + (c.toNat - 48)) capM := by
      simp only [xstep, h.1, if_true, capM]; omega
    rw [List.foldl_cons, e, xfold_dig l _ h.2]
    rfl
theorem xstep_other {x : Nat} {c : UInt8} (h : digitB c = false) : xstep x c = x := by simp [xstep, h]
theorem xmore_eq (v : Nat) : ∀ n, xmore (min v capM) n = min (v * 10 ^ n) capM
  | 0 => by simp [xmore]
  | n + 1 => by
    have ih := xmore_eq v n
    simp only [xmore, ih, Nat.pow_succ, ← Nat.mul_assoc]
    generalize v * 10 ^ n = u
    simp only [capM]
    omega
theorem bfold_dig : ∀ (l : List UInt8) (k : Int), l.all digitB = true → l.foldl bstep k = if 0 ≤ k then k + l.length else k
  | [], k, _ => by simp
  | c :: l, k, h => by
    simp only [List.all_cons, Bool.and_eq_true] at h
    have hc : ¬ c = 46 := by rintro rfl; exact absurd h.1 (by decide)
    have e : bstep k c = if 0 ≤ k then k + 1 else k := by unfold bstep; rw [if_neg hc, if_pos h.1]
    rw [List.foldl_cons, e, bfold_dig l _ h.2]
    by_cases hk : 0 ≤ k
    · rw [if_pos hk, if_pos hk, if_pos (by omega), List.length_cons]; omega
    · rw [if_neg hk, if_neg hk, if_neg hk]
theorem capM_val : capM = 2 ^ 60 + 1 := rfl
/-- with a sign or without -/
theorem folds (s : List UInt8) : xfold s = xfold (restB s) ∧ bfold s = bfold (restB s) ∧ (s.head? = some 45 ↔ negB s = true) := by
  cases s with
  | nil => exact ⟨rfl, rfl, by simp [negB]⟩
  | cons c t =>
    by_cases h : c = 45
    · subst h
      have e : restB (45 :: t) = t := rfl
      rw [e]
      exact ⟨rfl, rfl, by simp [negB]⟩
    · have e : restB (c :: t) = c :: t := by simp [restB, negB, h]
      rw [e]
      exact ⟨rfl, rfl, by simp [negB]⟩
theorem refP_eq (s : List UInt8) : refP s = decP s := by
  have hdec : decP s = decR (negB s) (restB s) := rfl
  obtain ⟨f1, f2, f3⟩ := folds s
  by_cases hf : formR (restB s) = true
  · have fin : ∀ (v k : Nat), xfold (restB s) = min v capM → (6 - max (bfold (restB s)) 0).toNat = 6 - k → refP s = decFin (negB s) v k := fun v k h1 h2 => by
      have hfp : formP s = true := hf
      simp only [refP, hfp, Bool.true_eq_false, if_false, f1, f2, h1, h2, xmore_eq, decFin]
      by_cases hgt : 2 ^ 60 < v * 10 ^ (6 - k)
      · rw [if_pos hgt, if_pos (by rw [capM_val]; omega)]
      · rw [if_neg hgt, if_neg (by rw [capM_val]; omega), Nat.min_eq_left (by rw [capM_val]; omega)]
        simp only [f3]
    rw [hdec]
    rcases formR_shape hf with ⟨ha, hne⟩ | ⟨a, b, hr, hne, ha, hb, h1, h6⟩
    · have hd : dfold (restB s) = some (restB s, none) := by
        unfold dfold; rw [dfold_digits _ [] none ha]; simp
      have hx : xfold (restB s) = min (valL (restB s)) capM := xfold_dig (restB s) 0 ha
      have hb' : bfold (restB s) = -1 := by unfold bfold; rw [bfold_dig _ _ ha]; rfl
      rw [fin _ 0 hx (by rw [hb']; rfl), decR, hd]
      simp [hne]
    · have hd : dfold (restB s) = some (a ++ b, some b.length) := by rw [hr]; exact dfold_point ha hne hb
      have hx : xfold (restB s) = min (valL (a ++ b)) capM := by
        unfold xfold
        rw [hr, List.foldl_append, List.foldl_cons]
        have e1 := xfold_dig a 0 ha
        have e0 : min 0 capM = 0 := by decide
        rw [e0] at e1
        rw [e1, xstep_other (by decide), xfold_dig b _ hb, valL_eq, valF_append]
      have hb' : bfold (restB s) = b.length := by
        unfold bfold
        rw [hr, List.foldl_append, List.foldl_cons, bfold_dig _ _ ha]
        have e : ∀ k, bstep k 46 = 0 := fun k => by simp [bstep]
        rw [e, bfold_dig _ _ hb]; simp
      rw [fin _ b.length hx (by rw [hb']; omega), decR, hd]
      have hno : ¬ (a ++ b = [] ∨ some b.length = some 0 ∨ 6 < (some b.length).getD 0) := by
        rintro (h | h | h)
        · simp [hne] at h
        · simp only [Option.some.injEq] at h; omega
        · simp only [Option.getD_some] at h; omega
      simp only [hno, if_false]
      rfl
  · rw [Bool.not_eq_true] at hf
    rw [hdec, decR_bad hf]
    have hfp : formP s = false := hf
    simp [refP, hfp]
theorem o101 (m : Int) : SpecOk PZ (GZ m) 101 s101 := spec_of (X := XF) (m := []) mixedZ tbl_nil itbl_nil fun args r h => by
  unfold s101 at h
  split at h
  · injection h with h; subst h; exact ⟨⟨nA, nA⟩, p101 m _⟩
  · cases h
theorem o116 (m : Int) : SpecOk PZ (GZ m) 116 s116 := spec_of (X := XF) (m := []) mixedZ (tbl_cons (o101 m) tbl_nil) itbl_nil fun args r h => by
  unfold s116 at h
  split at h
  · rename_i l n
    split at h
    · rename_i hc
      injection h with h; subst h
      obtain ⟨k, rfl⟩ : ∃ k : Nat, n = k := ⟨n.toNat, by omega⟩
      rw [Int.toNat_natCast] at hc ⊢
      exact ⟨a116 l k, p116 m l k hc.2.1 hc.2.2⟩
    · cases h
  · cases h
theorem o100 (m : Int) : SpecOk PZ (GZ m) 100 s100 := spec_of (X := XF) (m := []) mixedZ (tbl_cons (o116 m) tbl_nil) itbl_nil fun args r h => by
  unfold s100 at h
  split at h
  · split at h
    · rename_i hl
      injection h with h; subst h; exact ⟨a100 _, p100 m _ hl⟩
    · cases h
  · cases h
theorem o81 (m : Int) : SpecOk PZ (GZ m) 81 s45 := spec_of (X := XF) (m := []) mixedZ (tbl_cons (o100 m) (tbl_cons (o101 m) tbl_nil)) itbl_nil fun args r h => by
  unfold s45 at h
  split at h
  · split at h
    · rename_i hl
      injection h with h; subst h
      have := p81 m _ hl
      rw [refP_eq] at this
      exact ⟨a81 _, this⟩
    · cases h
  · cases h
end Go.Abs

namespace Go.Abs
open Go.Proofs L8
def lowD : Nat → Nat → List UInt8
  | 0, _ => []
  | k + 1, n => lowD k (n / 10) ++ [UInt8.ofNat (48 + n % 10)]
/-- digits that are still to come in front -/
def restD (i n : Nat) : List UInt8 := if n < 10 ^ (7 - i) then lowD (7 - i) n else Lib.decDigits n
def padD (n : Nat) : List UInt8 := restD 0 n
def signL (n : Int) : List UInt8 := if n < 0 then [45] else []
def pointL (l : List UInt8) : List UInt8 := l.take (l.length - 6) ++ 46 :: l.drop (l.length - 6)
/-- the text of a decimal -/
def decF (n : Int) : List UInt8 := signL n ++ pointL (padD n.natAbs)
def sInt (f : Int → AV) : Spec := fun args => match args with
  | [.int .i64 n] => if i64Ok n then some (f n, []) else none
  | _ => none
def s54 : Spec := sInt fun n => .str (Lib.itoa n)
def s55 : Spec := sInt fun n => .str (decF n)
def s102 : Spec := fun args => match args with
  | [.bool b] => some (.str (if b = true then [116, 114, 117, 101] else [102, 97, 108, 115, 101]), [])
  | _ => none
structure X54 where
  i : Nat
  m : Int
  s : List UInt8
structure I54 (n : Int) (x : X54) : Prop where
  i : x.i ≤ 20
  b : x.m.natAbs < 10 ^ (20 - x.i)
  p : 0 ≤ n → 0 ≤ x.m
  q : n < 0 → x.m ≤ 0
  l : x.m.natAbs ≤ n.natAbs
  e : (if 1 ≤ x.i ∧ x.m = 0 then [] else Lib.decDigits x.m.natAbs) ++ x.s = Lib.decDigits n.natAbs
def a54 (n : Int) : Anns := ⟨fun q => if q = 4 then some { α := X54, slots := [0, 3, 4, 5], nb := 0, vals := fun x => [.int .i64 n, .str x.s, .int .i64 x.m, .int .i64 x.i], sS := fun _ => ⟨[], []⟩, I := I54 n, μ := fun x => x.m.natAbs + (1 - x.i) } else none, nA⟩
structure I55 (n : Int) (x : X54) : Prop where
  i : x.i ≤ 20
  b : x.m.natAbs < 10 ^ (20 - x.i)
  p : 0 ≤ n → 0 ≤ x.m
  q : n < 0 → x.m ≤ 0
  l : x.m.natAbs ≤ n.natAbs
  e : x.i ≤ 6 → restD x.i x.m.natAbs ++ x.s = padD n.natAbs ∧ x.s.length = x.i
  f : 7 ≤ x.i → ∃ a b, x.s = a ++ 46 :: b ∧ b.length = 6 ∧ restD x.i x.m.natAbs ++ a ++ b = padD n.natAbs
def a55 (n : Int) : Anns := ⟨fun q => if q = 4 then some { α := X54, slots := [0, 3, 4, 5], nb := 0, vals := fun x => [.int .i64 n, .str x.s, .int .i64 x.m, .int .i64 x.i], sS := fun _ => ⟨[], []⟩, I := I55 n, μ := fun x => x.m.natAbs + (7 - x.i) } else none, nA⟩
structure I85 (n : Int) (s : List UInt8) : Prop where
  e : ∃ k, s = List.replicate k 48 ++ Lib.decDigits n.natAbs ∧ (k = 0 ∨ s.length ≤ 7)
def a85 (n : Int) : Anns := ⟨fun q => if q = 5 then some { α := List UInt8, slots := [3, 4], nb := 0, vals := fun s => [.str s, .str (signL n)], sS := fun _ => ⟨[], []⟩, I := I85 n, μ := fun s => 7 - s.length } else none, nA⟩
def fmtL (k n : Int) (s : List UInt8) : List UInt8 :=
  if validB k n s = false then [] else
  if k = 1 then (if n = 1 then [116, 114, 117, 101] else [102, 97, 108, 115, 101]) else
  if k = 2 then Lib.itoa n else if k = 3 then decF n else if k = 4 then [34] ++ s ++ [34] else if k = 5 then [64] ++ s else [110, 117, 108, 108]
def sVal' (f : Int → Int → List UInt8 → AV) : Spec := fun args => match args with
  | [.agg [.int .i64 k, .int .i64 n, .str s]] => if strOk s ∧ i64Ok n then some (f k n s, []) else none
  | _ => none
def s22 : Spec := sVal' fun k n s => .str (fmtL k n s)
def XT : Shapes := fun f => match f with
  | 48 | 49 | 50 | 51 | 52 | 53 | 54 | 55 | 83 | 102 | 84 | 85 | 22 | 23 | 43 | 71 | 72 => some shS
  | 42 | 70 | 44 => some shB
  | 45 | 81 => some (.tup [.one (.int .i64), .one (.int .i64)], none)
  | 46 => some (.tup [.one (.int .i64), .one .err], none)
  | 20 | 21 => some (.tup [.agg [.int .i64, .int .i64, .str], .one (.int .i64)], none)
  | 47 | 82 => some (.val (.agg [.int .i64, .int .i64, .str]), none)
  | f => XO f
end Go.Abs

namespace Go.Abs
open Go.Proofs L8
theorem w54 (m n : Int) (r : AV) : (pureW PZ (GZ m) XT (tbl []) (itbl []) (a54 n) [] 54 [.int .i64 n] (r, [])) =
((∃ (y : X54),
    ValsAre [AV.int IntKind.i64 n, AV.str [], AV.int IntKind.i64 n, AV.int IntKind.i64 (0 : Int)]
        [AV.int IntKind.i64 n, AV.str y.s, AV.int IntKind.i64 y.m, AV.int IntKind.i64 (↑y.i : Int)] ∧
      StIs { boxes := [], live := [] } { boxes := [], live := [] } ∧ I54 n y ∧ True) ∧
  ∀ (x : X54),
    I54 n x →
      (decide ((↑x.i : Int) < (1 : Int)) = true →
 (10 : Int) ≠ (0 : Int) ∧
 (decide (x.m.tmod (10 : Int) < (0 : Int)) = true →
 (nat_lit 1 = nat_lit 1 ∨
 [AV.int IntKind.u8 (IntKind.u8.wrap (IntKind.i64.wrap ((48 : Int) + IntKind.i64.wrap ((0 : Int) - x.m.tmod (10 : Int)))))] = []) ∧
 ∃ (l : List UInt8),
 some [UInt8.ofNat (IntKind.u8.wrap (IntKind.i64.wrap ((48 : Int) + IntKind.i64.wrap ((0 : Int) - x.m.tmod (10 : Int))))).toNat] = some l ∧
 l.length + x.s.length ≤ nat_lit 9223372036854775807 ∧
 (10 : Int) ≠ (0 : Int) ∧
 ∃ (y : X54),
 ValsAre
 [AV.int IntKind.i64 n, AV.str (l ++ x.s), AV.int IntKind.i64 (IntKind.i64.wrap (x.m.tdiv (10 : Int))),
 AV.int IntKind.i64 (IntKind.i64.wrap ((↑x.i : Int) + (1 : Int)))]
 [AV.int IntKind.i64 n, AV.str y.s, AV.int IntKind.i64 y.m, AV.int IntKind.i64 (↑y.i : Int)] ∧
 StIs { boxes := [], live := [] } { boxes := [], live := [] } ∧
 I54 n y ∧ y.m.natAbs + (nat_lit 1 - y.i) < x.m.natAbs + (nat_lit 1 - x.i)) ∧
 (decide (x.m.tmod (10 : Int) < (0 : Int)) = false →
 (nat_lit 1 = nat_lit 1 ∨ [AV.int IntKind.u8 (IntKind.u8.wrap (IntKind.i64.wrap ((48 : Int) + x.m.tmod (10 : Int))))] = []) ∧
 ∃ (l : List UInt8),
 some [UInt8.ofNat (IntKind.u8.wrap (IntKind.i64.wrap ((48 : Int) + x.m.tmod (10 : Int)))).toNat] = some l ∧
 l.length + x.s.length ≤ nat_lit 9223372036854775807 ∧
 (10 : Int) ≠ (0 : Int) ∧
 ∃ (y : X54),
 ValsAre
 [AV.int IntKind.i64 n, AV.str (l ++ x.s), AV.int IntKind.i64 (IntKind.i64.wrap (x.m.tdiv (10 : Int))),
 AV.int IntKind.i64 (IntKind.i64.wrap ((↑x.i : Int) + (1 : Int)))]
 [AV.int IntKind.i64 n, AV.str y.s, AV.int IntKind.i64 y.m, AV.int IntKind.i64 (↑y.i : Int)] ∧
 StIs { boxes := [], live := [] } { boxes := [], live := [] } ∧
 I54 n y ∧ y.m.natAbs + (nat_lit 1 - y.i) < x.m.natAbs + (nat_lit 1 - x.i))) ∧
        (decide ((↑x.i : Int) < (1 : Int)) = false →
 ((x.m != (0 : Int)) = true →
 (10 : Int) ≠ (0 : Int) ∧
 (decide (x.m.tmod (10 : Int) < (0 : Int)) = true →
 (nat_lit 1 = nat_lit 1 ∨
 [AV.int IntKind.u8 (IntKind.u8.wrap (IntKind.i64.wrap ((48 : Int) + IntKind.i64.wrap ((0 : Int) - x.m.tmod (10 : Int)))))] = []) ∧
 ∃ (l : List UInt8),
 some [UInt8.ofNat (IntKind.u8.wrap (IntKind.i64.wrap ((48 : Int) + IntKind.i64.wrap ((0 : Int) - x.m.tmod (10 : Int))))).toNat] =
 some l ∧
 l.length + x.s.length ≤ nat_lit 9223372036854775807 ∧
 (10 : Int) ≠ (0 : Int) ∧
 ∃ (y : X54),
 ValsAre
 [AV.int IntKind.i64 n, AV.str (l ++ x.s), AV.int IntKind.i64 (IntKind.i64.wrap (x.m.tdiv (10 : Int))),
 AV.int IntKind.i64 (IntKind.i64.wrap ((↑x.i : Int) + (1 : Int)))]
 [AV.int IntKind.i64 n, AV.str y.s, AV.int IntKind.i64 y.m, AV.int IntKind.i64 (↑y.i : Int)] ∧
 StIs { boxes := [], live := [] } { boxes := [], live := [] } ∧
 I54 n y ∧ y.m.natAbs + (nat_lit 1 - y.i) < x.m.natAbs + (nat_lit 1 - x.i)) ∧
 (decide (x.m.tmod (10 : Int) < (0 : Int)) = false →
 (nat_lit 1 = nat_lit 1 ∨ [AV.int IntKind.u8 (IntKind.u8.wrap (IntKind.i64.wrap ((48 : Int) + x.m.tmod (10 : Int))))] = []) ∧
 ∃ (l : List UInt8),
 some [UInt8.ofNat (IntKind.u8.wrap (IntKind.i64.wrap ((48 : Int) + x.m.tmod (10 : Int)))).toNat] = some l ∧
 l.length + x.s.length ≤ nat_lit 9223372036854775807 ∧
 (10 : Int) ≠ (0 : Int) ∧
 ∃ (y : X54),
 ValsAre
 [AV.int IntKind.i64 n, AV.str (l ++ x.s), AV.int IntKind.i64 (IntKind.i64.wrap (x.m.tdiv (10 : Int))),
 AV.int IntKind.i64 (IntKind.i64.wrap ((↑x.i : Int) + (1 : Int)))]
 [AV.int IntKind.i64 n, AV.str y.s, AV.int IntKind.i64 y.m, AV.int IntKind.i64 (↑y.i : Int)] ∧
 StIs { boxes := [], live := [] } { boxes := [], live := [] } ∧
 I54 n y ∧ y.m.natAbs + (nat_lit 1 - y.i) < x.m.natAbs + (nat_lit 1 - x.i))) ∧
 ((x.m != (0 : Int)) = false →
 (decide (n < (0 : Int)) = true → nat_lit 1 + x.s.length ≤ nat_lit 9223372036854775807 ∧ RetIs (AV.str ([(45 : UInt8)] ++ x.s)) [] (r, [])) ∧
 (decide (n < (0 : Int)) = false → RetIs (AV.str x.s) [] (r, []))))) := by kernel_rfl
theorem w55 (m n : Int) (r : AV) : (pureW PZ (GZ m) XT (tbl []) (itbl []) (a55 n) [] 55 [.int .i64 n] (r, [])) =
((∃ (y : X54),
    ValsAre [AV.int IntKind.i64 n, AV.str [], AV.int IntKind.i64 n, AV.int IntKind.i64 (0 : Int)]
        [AV.int IntKind.i64 n, AV.str y.s, AV.int IntKind.i64 y.m, AV.int IntKind.i64 (↑y.i : Int)] ∧
      StIs { boxes := [], live := [] } { boxes := [], live := [] } ∧ I55 n y ∧ True) ∧
  ∀ (x : X54),
    I55 n x →
      (decide ((↑x.i : Int) < (7 : Int)) = true →
 (10 : Int) ≠ (0 : Int) ∧
 (decide (x.m.tmod (10 : Int) < (0 : Int)) = true →
 (((↑x.i : Int) == (6 : Int)) = true →
 nat_lit 1 + x.s.length ≤ nat_lit 9223372036854775807 ∧
 (nat_lit 1 = nat_lit 1 ∨
 [AV.int IntKind.u8 (IntKind.u8.wrap (IntKind.i64.wrap ((48 : Int) + IntKind.i64.wrap ((0 : Int) - x.m.tmod (10 : Int)))))] = []) ∧
 ∃ (l : List UInt8),
 some [UInt8.ofNat (IntKind.u8.wrap (IntKind.i64.wrap ((48 : Int) + IntKind.i64.wrap ((0 : Int) - x.m.tmod (10 : Int))))).toNat] =
 some l ∧
 l.length + ([(46 : UInt8)] ++ x.s).length ≤ nat_lit 9223372036854775807 ∧
 (10 : Int) ≠ (0 : Int) ∧
 ∃ (y : X54),
 ValsAre
 [AV.int IntKind.i64 n, AV.str (l ++ ([(46 : UInt8)] ++ x.s)), AV.int IntKind.i64 (IntKind.i64.wrap (x.m.tdiv (10 : Int))),
 AV.int IntKind.i64 (IntKind.i64.wrap ((↑x.i : Int) + (1 : Int)))]
 [AV.int IntKind.i64 n, AV.str y.s, AV.int IntKind.i64 y.m, AV.int IntKind.i64 (↑y.i : Int)] ∧
 StIs { boxes := [], live := [] } { boxes := [], live := [] } ∧
 I55 n y ∧ y.m.natAbs + (nat_lit 7 - y.i) < x.m.natAbs + (nat_lit 7 - x.i)) ∧
 (((↑x.i : Int) == (6 : Int)) = false →
 (nat_lit 1 = nat_lit 1 ∨
 [AV.int IntKind.u8 (IntKind.u8.wrap (IntKind.i64.wrap ((48 : Int) + IntKind.i64.wrap ((0 : Int) - x.m.tmod (10 : Int)))))] = []) ∧
 ∃ (l : List UInt8),
 some [UInt8.ofNat (IntKind.u8.wrap (IntKind.i64.wrap ((48 : Int) + IntKind.i64.wrap ((0 : Int) - x.m.tmod (10 : Int))))).toNat] =
 some l ∧
 l.length + x.s.length ≤ nat_lit 9223372036854775807 ∧
 (10 : Int) ≠ (0 : Int) ∧
 ∃ (y : X54),
 ValsAre
 [AV.int IntKind.i64 n, AV.str (l ++ x.s), AV.int IntKind.i64 (IntKind.i64.wrap (x.m.tdiv (10 : Int))),
 AV.int IntKind.i64 (IntKind.i64.wrap ((↑x.i : Int) + (1 : Int)))]
 [AV.int IntKind.i64 n, AV.str y.s, AV.int IntKind.i64 y.m, AV.int IntKind.i64 (↑y.i : Int)] ∧
 StIs { boxes := [], live := [] } { boxes := [], live := [] } ∧
 I55 n y ∧ y.m.natAbs + (nat_lit 7 - y.i) < x.m.natAbs + (nat_lit 7 - x.i))) ∧
 (decide (x.m.tmod (10 : Int) < (0 : Int)) = false →
 (((↑x.i : Int) == (6 : Int)) = true →
 nat_lit 1 + x.s.length ≤ nat_lit 9223372036854775807 ∧
 (nat_lit 1 = nat_lit 1 ∨ [AV.int IntKind.u8 (IntKind.u8.wrap (IntKind.i64.wrap ((48 : Int) + x.m.tmod (10 : Int))))] = []) ∧
 ∃ (l : List UInt8),
 some [UInt8.ofNat (IntKind.u8.wrap (IntKind.i64.wrap ((48 : Int) + x.m.tmod (10 : Int)))).toNat] = some l ∧
 l.length + ([(46 : UInt8)] ++ x.s).length ≤ nat_lit 9223372036854775807 ∧
 (10 : Int) ≠ (0 : Int) ∧
 ∃ (y : X54),
 ValsAre
 [AV.int IntKind.i64 n, AV.str (l ++ ([(46 : UInt8)] ++ x.s)), AV.int IntKind.i64 (IntKind.i64.wrap (x.m.tdiv (10 : Int))),
 AV.int IntKind.i64 (IntKind.i64.wrap ((↑x.i : Int) + (1 : Int)))]
 [AV.int IntKind.i64 n, AV.str y.s, AV.int IntKind.i64 y.m, AV.int IntKind.i64 (↑y.i : Int)] ∧
 StIs { boxes := [], live := [] } { boxes := [], live := [] } ∧
 I55 n y ∧ y.m.natAbs + (nat_lit 7 - y.i) < x.m.natAbs + (nat_lit 7 - x.i)) ∧
 (((↑x.i : Int) == (6 : Int)) = false →
 (nat_lit 1 = nat_lit 1 ∨ [AV.int IntKind.u8 (IntKind.u8.wrap (IntKind.i64.wrap ((48 : Int) + x.m.tmod (10 : Int))))] = []) ∧
 ∃ (l : List UInt8),
 some [UInt8.ofNat (IntKind.u8.wrap (IntKind.i64.wrap ((48 : Int) + x.m.tmod (10 : Int)))).toNat] = some l ∧
 l.length + x.s.length ≤ nat_lit 9223372036854775807 ∧
 (10 : Int) ≠ (0 : Int) ∧
 ∃ (y : X54),
 ValsAre
 [AV.int IntKind.i64 n, AV.str (l ++ x.s), AV.int IntKind.i64 (IntKind.i64.wrap (x.m.tdiv (10 : Int))),
 AV.int IntKind.i64 (IntKind.i64.wrap ((↑x.i : Int) + (1 : Int)))]
 [AV.int IntKind.i64 n, AV.str y.s, AV.int IntKind.i64 y.m, AV.int IntKind.i64 (↑y.i : Int)] ∧
 StIs { boxes := [], live := [] } { boxes := [], live := [] } ∧
 I55 n y ∧ y.m.natAbs + (nat_lit 7 - y.i) < x.m.natAbs + (nat_lit 7 - x.i)))) ∧
        (decide ((↑x.i : Int) < (7 : Int)) = false →
 ((x.m != (0 : Int)) = true →
 (10 : Int) ≠ (0 : Int) ∧
 (decide (x.m.tmod (10 : Int) < (0 : Int)) = true →
 (((↑x.i : Int) == (6 : Int)) = true →
 nat_lit 1 + x.s.length ≤ nat_lit 9223372036854775807 ∧
 (nat_lit 1 = nat_lit 1 ∨
 [AV.int IntKind.u8 (IntKind.u8.wrap (IntKind.i64.wrap ((48 : Int) + IntKind.i64.wrap ((0 : Int) - x.m.tmod (10 : Int)))))] = []) ∧
 ∃ (l : List UInt8),
 some [UInt8.ofNat (IntKind.u8.wrap (IntKind.i64.wrap ((48 : Int) + IntKind.i64.wrap ((0 : Int) - x.m.tmod (10 : Int))))).toNat] =
 some l ∧
 l.length + ([(46 : UInt8)] ++ x.s).length ≤ nat_lit 9223372036854775807 ∧
 (10 : Int) ≠ (0 : Int) ∧
 ∃ (y : X54),
 ValsAre
 [AV.int IntKind.i64 n, AV.str (l ++ ([(46 : UInt8)] ++ x.s)),
 AV.int IntKind.i64 (IntKind.i64.wrap (x.m.tdiv (10 : Int))),
 AV.int IntKind.i64 (IntKind.i64.wrap ((↑x.i : Int) + (1 : Int)))]
 [AV.int IntKind.i64 n, AV.str y.s, AV.int IntKind.i64 y.m, AV.int IntKind.i64 (↑y.i : Int)] ∧
 StIs { boxes := [], live := [] } { boxes := [], live := [] } ∧
 I55 n y ∧ y.m.natAbs + (nat_lit 7 - y.i) < x.m.natAbs + (nat_lit 7 - x.i)) ∧
 (((↑x.i : Int) == (6 : Int)) = false →
 (nat_lit 1 = nat_lit 1 ∨
 [AV.int IntKind.u8 (IntKind.u8.wrap (IntKind.i64.wrap ((48 : Int) + IntKind.i64.wrap ((0 : Int) - x.m.tmod (10 : Int)))))] = []) ∧
 ∃ (l : List UInt8),
 some [UInt8.ofNat (IntKind.u8.wrap (IntKind.i64.wrap ((48 : Int) + IntKind.i64.wrap ((0 : Int) - x.m.tmod (10 : Int))))).toNat] =
 some l ∧
 l.length + x.s.length ≤ nat_lit 9223372036854775807 ∧
 (10 : Int) ≠ (0 : Int) ∧
 ∃ (y : X54),
 ValsAre
 [AV.int IntKind.i64 n, AV.str (l ++ x.s), AV.int IntKind.i64 (IntKind.i64.wrap (x.m.tdiv (10 : Int))),
 AV.int IntKind.i64 (IntKind.i64.wrap ((↑x.i : Int) + (1 : Int)))]
 [AV.int IntKind.i64 n, AV.str y.s, AV.int IntKind.i64 y.m, AV.int IntKind.i64 (↑y.i : Int)] ∧
 StIs { boxes := [], live := [] } { boxes := [], live := [] } ∧
 I55 n y ∧ y.m.natAbs + (nat_lit 7 - y.i) < x.m.natAbs + (nat_lit 7 - x.i))) ∧
 (decide (x.m.tmod (10 : Int) < (0 : Int)) = false →
 (((↑x.i : Int) == (6 : Int)) = true →
 nat_lit 1 + x.s.length ≤ nat_lit 9223372036854775807 ∧
 (nat_lit 1 = nat_lit 1 ∨ [AV.int IntKind.u8 (IntKind.u8.wrap (IntKind.i64.wrap ((48 : Int) + x.m.tmod (10 : Int))))] = []) ∧
 ∃ (l : List UInt8),
 some [UInt8.ofNat (IntKind.u8.wrap (IntKind.i64.wrap ((48 : Int) + x.m.tmod (10 : Int)))).toNat] = some l ∧
 l.length + ([(46 : UInt8)] ++ x.s).length ≤ nat_lit 9223372036854775807 ∧
 (10 : Int) ≠ (0 : Int) ∧
 ∃ (y : X54),
 ValsAre
 [AV.int IntKind.i64 n, AV.str (l ++ ([(46 : UInt8)] ++ x.s)),
 AV.int IntKind.i64 (IntKind.i64.wrap (x.m.tdiv (10 : Int))),
 AV.int IntKind.i64 (IntKind.i64.wrap ((↑x.i : Int) + (1 : Int)))]
 [AV.int IntKind.i64 n, AV.str y.s, AV.int IntKind.i64 y.m, AV.int IntKind.i64 (↑y.i : Int)] ∧
 StIs { boxes := [], live := [] } { boxes := [], live := [] } ∧
 I55 n y ∧ y.m.natAbs + (nat_lit 7 - y.i) < x.m.natAbs + (nat_lit 7 - x.i)) ∧
 (((↑x.i : Int) == (6 : Int)) = false →
 (nat_lit 1 = nat_lit 1 ∨ [AV.int IntKind.u8 (IntKind.u8.wrap (IntKind.i64.wrap ((48 : Int) + x.m.tmod (10 : Int))))] = []) ∧
 ∃ (l : List UInt8),
 some [UInt8.ofNat (IntKind.u8.wrap (IntKind.i64.wrap ((48 : Int) + x.m.tmod (10 : Int)))).toNat] = some l ∧
 l.length + x.s.length ≤ nat_lit 9223372036854775807 ∧
 (10 : Int) ≠ (0 : Int) ∧
 ∃ (y : X54),
 ValsAre
 [AV.int IntKind.i64 n, AV.str (l ++ x.s), AV.int IntKind.i64 (IntKind.i64.wrap (x.m.tdiv (10 : Int))),
 AV.int IntKind.i64 (IntKind.i64.wrap ((↑x.i : Int) + (1 : Int)))]
 [AV.int IntKind.i64 n, AV.str y.s, AV.int IntKind.i64 y.m, AV.int IntKind.i64 (↑y.i : Int)] ∧
 StIs { boxes := [], live := [] } { boxes := [], live := [] } ∧
 I55 n y ∧ y.m.natAbs + (nat_lit 7 - y.i) < x.m.natAbs + (nat_lit 7 - x.i)))) ∧
 ((x.m != (0 : Int)) = false →
 (decide (n < (0 : Int)) = true → nat_lit 1 + x.s.length ≤ nat_lit 9223372036854775807 ∧ RetIs (AV.str ([(45 : UInt8)] ++ x.s)) [] (r, [])) ∧
 (decide (n < (0 : Int)) = false → RetIs (AV.str x.s) [] (r, []))))) := by kernel_rfl
theorem w85 (m n : Int) (r : AV) : (pureW PZ (GZ m) XT (tbl [(84, s84)]) (itbl []) (a85 n) [] 85 [.int .i64 n] (r, [])) =
(∃ (s : List UInt8),
  CallIs (tbl [(nat_lit 84, s84)] (nat_lit 84) [AV.int IntKind.i64 n]) (AV.str s) [] ∧
    (decide (n < (0 : Int)) = true →
        (0 : Int) ≤ (1 : Int) ∧
 (nat_lit 1 ≤ s.length ∧ s.length ≤ s.length) ∧
 (∃ (y : List UInt8),
 ValsAre [AV.str (List.drop (nat_lit 1) (List.take s.length s)), AV.str [(45 : UInt8)]] [AV.str y, AV.str (signL n)] ∧
 StIs { boxes := [], live := [] } { boxes := [], live := [] } ∧ I85 n y ∧ True) ∧
 ∀ (x : List UInt8),
 I85 n x →
 (decide ((↑x.length : Int) ≤ (6 : Int)) = true →
 nat_lit 1 + x.length ≤ nat_lit 9223372036854775807 ∧
 ∃ (y : List UInt8),
 ValsAre [AV.str ([(48 : UInt8)] ++ x), AV.str (signL n)] [AV.str y, AV.str (signL n)] ∧
 StIs { boxes := [], live := [] } { boxes := [], live := [] } ∧ I85 n y ∧ nat_lit 7 - y.length < nat_lit 7 - x.length) ∧
 (decide ((↑x.length : Int) ≤ (6 : Int)) = false →
 (0 : Int) ≤ IntKind.i64.wrap ((↑x.length : Int) - (6 : Int)) ∧
 (nat_lit 0 ≤ (IntKind.i64.wrap ((↑x.length : Int) - (6 : Int))).toNat ∧
 (IntKind.i64.wrap ((↑x.length : Int) - (6 : Int))).toNat ≤ x.length) ∧
 (signL n).length + (List.drop (nat_lit 0) (List.take (IntKind.i64.wrap ((↑x.length : Int) - (6 : Int))).toNat x)).length ≤
 nat_lit 9223372036854775807 ∧
 (signL n ++ List.drop (nat_lit 0) (List.take (IntKind.i64.wrap ((↑x.length : Int) - (6 : Int))).toNat x)).length + nat_lit 1 ≤
 nat_lit 9223372036854775807 ∧
 (0 : Int) ≤ IntKind.i64.wrap ((↑x.length : Int) - (6 : Int)) ∧
 ((IntKind.i64.wrap ((↑x.length : Int) - (6 : Int))).toNat ≤ x.length ∧ x.length ≤ x.length) ∧
 (signL n ++ List.drop (nat_lit 0) (List.take (IntKind.i64.wrap ((↑x.length : Int) - (6 : Int))).toNat x) ++
 [(46 : UInt8)]).length +
 (List.drop (IntKind.i64.wrap ((↑x.length : Int) - (6 : Int))).toNat (List.take x.length x)).length ≤
 nat_lit 9223372036854775807 ∧
 RetIs
 (AV.str
 (signL n ++ List.drop (nat_lit 0) (List.take (IntKind.i64.wrap ((↑x.length : Int) - (6 : Int))).toNat x) ++
 [(46 : UInt8)] ++
 List.drop (IntKind.i64.wrap ((↑x.length : Int) - (6 : Int))).toNat (List.take x.length x)))
 [] (r, []))) ∧
      (decide (n < (0 : Int)) = false →
        (∃ (y : List UInt8),
 ValsAre [AV.str s, AV.str []] [AV.str y, AV.str (signL n)] ∧ StIs { boxes := [], live := [] } { boxes := [], live := [] } ∧ I85 n y ∧ True) ∧
 ∀ (x : List UInt8),
 I85 n x →
 (decide ((↑x.length : Int) ≤ (6 : Int)) = true →
 nat_lit 1 + x.length ≤ nat_lit 9223372036854775807 ∧
 ∃ (y : List UInt8),
 ValsAre [AV.str ([(48 : UInt8)] ++ x), AV.str (signL n)] [AV.str y, AV.str (signL n)] ∧
 StIs { boxes := [], live := [] } { boxes := [], live := [] } ∧ I85 n y ∧ nat_lit 7 - y.length < nat_lit 7 - x.length) ∧
 (decide ((↑x.length : Int) ≤ (6 : Int)) = false →
 (0 : Int) ≤ IntKind.i64.wrap ((↑x.length : Int) - (6 : Int)) ∧
 (nat_lit 0 ≤ (IntKind.i64.wrap ((↑x.length : Int) - (6 : Int))).toNat ∧
 (IntKind.i64.wrap ((↑x.length : Int) - (6 : Int))).toNat ≤ x.length) ∧
 (signL n).length + (List.drop (nat_lit 0) (List.take (IntKind.i64.wrap ((↑x.length : Int) - (6 : Int))).toNat x)).length ≤
 nat_lit 9223372036854775807 ∧
 (signL n ++ List.drop (nat_lit 0) (List.take (IntKind.i64.wrap ((↑x.length : Int) - (6 : Int))).toNat x)).length + nat_lit 1 ≤
 nat_lit 9223372036854775807 ∧
 (0 : Int) ≤ IntKind.i64.wrap ((↑x.length : Int) - (6 : Int)) ∧
 ((IntKind.i64.wrap ((↑x.length : Int) - (6 : Int))).toNat ≤ x.length ∧ x.length ≤ x.length) ∧
 (signL n ++ List.drop (nat_lit 0) (List.take (IntKind.i64.wrap ((↑x.length : Int) - (6 : Int))).toNat x) ++
 [(46 : UInt8)]).length +
 (List.drop (IntKind.i64.wrap ((↑x.length : Int) - (6 : Int))).toNat (List.take x.length x)).length ≤
 nat_lit 9223372036854775807 ∧
 RetIs
 (AV.str
 (signL n ++ List.drop (nat_lit 0) (List.take (IntKind.i64.wrap ((↑x.length : Int) - (6 : Int))).toNat x) ++
 [(46 : UInt8)] ++
 List.drop (IntKind.i64.wrap ((↑x.length : Int) - (6 : Int))).toNat (List.take x.length x)))
 [] (r, [])))) := by kernel_rfl
theorem w102t (m : Int) (r : AV) : (pureW PZ (GZ m) XT (tbl []) (itbl []) nAn [] 102 [.bool true] (r, [])) =
(RetIs (AV.str [(116 : UInt8), (114 : UInt8), (117 : UInt8), (101 : UInt8)]) [] (r, [])) := by kernel_rfl
theorem w102f (m : Int) (r : AV) : (pureW PZ (GZ m) XT (tbl []) (itbl []) nAn [] 102 [.bool false] (r, [])) =
(RetIs (AV.str [(102 : UInt8), (97 : UInt8), (108 : UInt8), (115 : UInt8), (101 : UInt8)]) [] (r, [])) := by kernel_rfl
theorem w83 (m : Int) (b : Bool) (r : AV) : (pureW PZ (GZ m) XT (tbl [(102, s102)]) (itbl []) nAn [] 83 [.bool b] (r, [])) =
(∃ (s : List UInt8),
  CallIs
      (some
        (AV.str
 (if b = true then [(116 : UInt8), (114 : UInt8), (117 : UInt8), (101 : UInt8)]
 else [(102 : UInt8), (97 : UInt8), (108 : UInt8), (115 : UInt8), (101 : UInt8)]),
 []))
      (AV.str s) [] ∧
    RetIs (AV.str s) [] (r, [])) := by kernel_rfl
theorem w48 (m k n : Int) (s : List UInt8) (r : AV) : (pureW PZ (GZ m) XT (tbl []) (itbl []) nAn [] 48 [vA k n s] (r, [])) =
(RetIs (AV.str [(110 : UInt8), (117 : UInt8), (108 : UInt8), (108 : UInt8)]) [] (r, [])) := by kernel_rfl
theorem w49 (m k n : Int) (s : List UInt8) (r : AV) : (pureW PZ (GZ m) XT (tbl [(83, s102)]) (itbl []) nAn [] 49 [vA k n s] (r, [])) =
(((n == (1 : Int)) = true →
    ∃ (s : List UInt8), CallIs (some (AV.str [(116 : UInt8), (114 : UInt8), (117 : UInt8), (101 : UInt8)], [])) (AV.str s) [] ∧ RetIs (AV.str s) [] (r, [])) ∧
  ((n == (1 : Int)) = false →
    ∃ (s : List UInt8),
      CallIs (some (AV.str [(102 : UInt8), (97 : UInt8), (108 : UInt8), (115 : UInt8), (101 : UInt8)], [])) (AV.str s) [] ∧ RetIs (AV.str s) [] (r, []))) := by kernel_rfl
theorem w50 (m k n : Int) (s : List UInt8) (r : AV) : (pureW PZ (GZ m) XT (tbl [(84, s84)]) (itbl []) nAn [] 50 [vA k n s] (r, [])) =
(∃ (s : List UInt8), CallIs (tbl [(nat_lit 84, s84)] (nat_lit 84) [AV.int IntKind.i64 n]) (AV.str s) [] ∧ RetIs (AV.str s) [] (r, [])) := by kernel_rfl
theorem w51 (m k n : Int) (s : List UInt8) (r : AV) : (pureW PZ (GZ m) XT (tbl [(85, s55)]) (itbl []) nAn [] 51 [vA k n s] (r, [])) =
(∃ (s : List UInt8), CallIs (tbl [(nat_lit 85, s55)] (nat_lit 85) [AV.int IntKind.i64 n]) (AV.str s) [] ∧ RetIs (AV.str s) [] (r, [])) := by kernel_rfl
theorem w52 (m k n : Int) (s : List UInt8) (r : AV) : (pureW PZ (GZ m) XT (tbl []) (itbl []) nAn [] 52 [vA k n s] (r, [])) =
(nat_lit 1 + s.length ≤ nat_lit 9223372036854775807 ∧
  ([(34 : UInt8)] ++ s).length + nat_lit 1 ≤ nat_lit 9223372036854775807 ∧ RetIs (AV.str ([(34 : UInt8)] ++ s ++ [(34 : UInt8)])) [] (r, [])) := by kernel_rfl
theorem w53 (m k n : Int) (s : List UInt8) (r : AV) : (pureW PZ (GZ m) XT (tbl []) (itbl []) nAn [] 53 [vA k n s] (r, [])) =
(nat_lit 1 + s.length ≤ nat_lit 9223372036854775807 ∧ RetIs (AV.str ([(64 : UInt8)] ++ s)) [] (r, [])) := by kernel_rfl
theorem w23 (m k n : Int) (s : List UInt8) (r : AV) : (pureW PZ (GZ m) XT (tbl [(24, s24), (54, s54), (55, s55)]) (itbl []) nAn [] 23 [vA k n s] (r, [])) =
(∃ (b : Bool),
  CallIs (tbl [(nat_lit 24, s24), (nat_lit 54, s54), (nat_lit 55, s55)] (nat_lit 24) [AV.agg [AV.int IntKind.i64 k, AV.int IntKind.i64 n, AV.str s]])
      (AV.bool b) [] ∧
    (b = true →
        ((k == (1 : Int)) = true →
 ((n == (1 : Int)) = true → RetIs (AV.str [(116 : UInt8), (114 : UInt8), (117 : UInt8), (101 : UInt8)]) [] (r, [])) ∧
 ((n == (1 : Int)) = false → RetIs (AV.str [(102 : UInt8), (97 : UInt8), (108 : UInt8), (115 : UInt8), (101 : UInt8)]) [] (r, []))) ∧
 ((k == (1 : Int)) = false →
 ((k == (2 : Int)) = true →
 ∃ (s : List UInt8),
 CallIs (tbl [(nat_lit 24, s24), (nat_lit 54, s54), (nat_lit 55, s55)] (nat_lit 54) [AV.int IntKind.i64 n]) (AV.str s) [] ∧
 RetIs (AV.str s) [] (r, [])) ∧
 ((k == (2 : Int)) = false →
 ((k == (3 : Int)) = true →
 ∃ (s : List UInt8),
 CallIs (tbl [(nat_lit 24, s24), (nat_lit 54, s54), (nat_lit 55, s55)] (nat_lit 55) [AV.int IntKind.i64 n]) (AV.str s) [] ∧
 RetIs (AV.str s) [] (r, [])) ∧
 ((k == (3 : Int)) = false →
 ((k == (4 : Int)) = true →
 nat_lit 1 + s.length ≤ nat_lit 9223372036854775807 ∧
 ([(34 : UInt8)] ++ s).length + nat_lit 1 ≤ nat_lit 9223372036854775807 ∧
 RetIs (AV.str ([(34 : UInt8)] ++ s ++ [(34 : UInt8)])) [] (r, [])) ∧
 ((k == (4 : Int)) = false →
 ((k == (5 : Int)) = true → nat_lit 1 + s.length ≤ nat_lit 9223372036854775807 ∧ RetIs (AV.str ([(64 : UInt8)] ++ s)) [] (r, [])) ∧
 ((k == (5 : Int)) = false → RetIs (AV.str [(110 : UInt8), (117 : UInt8), (108 : UInt8), (108 : UInt8)]) [] (r, []))))))) ∧
      (b = false → RetIs (AV.str []) [] (r, []))) := by kernel_rfl
end Go.Abs

namespace Go.Abs
open Go.Proofs L8
theorem natAbs_tdiv10 (m : Int) : (m.tdiv 10).natAbs = m.natAbs / 10 := by rw [Int.natAbs_tdiv]; rfl
theorem natAbs_tmod10 (m : Int) : (m.tmod 10).natAbs = m.natAbs % 10 := by rw [Int.natAbs_tmod]; rfl
theorem tdiv_nonneg10 {m : Int} (h : 0 ≤ m) : 0 ≤ m.tdiv 10 := Int.tdiv_nonneg h (by omega)
theorem tdiv_nonpos10 {m : Int} (h : m ≤ 0) : m.tdiv 10 ≤ 0 := by
  have : m.tdiv 10 = -((-m).tdiv 10) := by rw [Int.neg_tdiv]; omega
  have h2 : 0 ≤ (-m).tdiv 10 := Int.tdiv_nonneg (by omega) (by omega)
  omega
theorem digN {t : Int} (h : t < 0) (h9 : -10 < t) : UInt8.ofNat (IntKind.u8.wrap (IntKind.i64.wrap ((48 : Int) + IntKind.i64.wrap ((0 : Int) - t)))).toNat = UInt8.ofNat (48 + t.natAbs) := by
  rw [wrap64_in (n := 0 - t) (by omega) (by omega), wrap64_in (by omega) (by omega), wrapu8]
  congr 1; omega
theorem digP {t : Int} (h : ¬ t < 0) (h9 : t < 10) : UInt8.ofNat (IntKind.u8.wrap (IntKind.i64.wrap ((48 : Int) + t))).toNat = UInt8.ofNat (48 + t.natAbs) := by
  rw [wrap64_in (by omega) (by omega), wrapu8]
  congr 1; omega
theorem tmod_lt10 (m : Int) : -10 < m.tmod 10 ∧ m.tmod 10 < 10 := by
  have := natAbs_tmod10 m
  omega
theorem decD_step (n : Nat) : Lib.decDigits n = (if n < 10 then [] else Lib.decDigits (n / 10)) ++ [UInt8.ofNat (48 + n % 10)] := by
  rw [Lib.decDigits]
  by_cases h : n < 10
  · rw [dif_pos h, if_pos h, Nat.mod_eq_of_lt h]; rfl
  · rw [dif_neg h, if_neg h]
theorem wrapDiv {m n : Int} (hn : i64Ok n) (_p : 0 ≤ n → 0 ≤ m) (q : n < 0 → m ≤ 0) (h : m.natAbs ≤ n.natAbs) : IntKind.i64.wrap (m.tdiv 10) = m.tdiv 10 := by
  have h1 := natAbs_tdiv10 m
  obtain ⟨h2, h3⟩ := hn
  by_cases hm : 0 ≤ m
  · have := tdiv_nonneg10 hm
    by_cases h0 : 0 ≤ n
    · exact wrap64_in (by omega) (by omega)
    · have := q (by omega); exact wrap64_in (by omega) (by omega)
  · have := tdiv_nonpos10 (m := m) (by omega)
    exact wrap64_in (by omega) (by omega)
theorem pow20 (i : Nat) (h : i ≤ 20) : 10 ^ (20 - i) ≤ 10 ^ 20 := Nat.pow_le_pow_right (by omega) (by omega)
theorem b_next {M i : Nat} (hi : i ≤ 20) (h : M < 10 ^ (20 - i)) (h0 : i < 7 ∨ M ≠ 0) : i + 1 ≤ 20 ∧ M / 10 < 10 ^ (20 - (i + 1)) := by
  have h20 : i < 20 := by
    apply Classical.byContradiction
    intro hn
    have : i = 20 := by omega
    subst this
    simp at h; omega
  refine ⟨by omega, ?_⟩
  rw [show 20 - i = 20 - (i + 1) + 1 by omega, Nat.pow_succ] at h
  omega
theorem I54.next {n : Int} {x : X54} (h : I54 n x) (h0 : x.i < 1 ∨ x.m ≠ 0) : I54 n ⟨x.i + 1, x.m.tdiv 10, UInt8.ofNat (48 + x.m.natAbs % 10) :: x.s⟩ ∧ (x.m.tdiv 10).natAbs + (1 - (x.i + 1)) < x.m.natAbs + (1 - x.i) := by
  obtain ⟨hi, hb, hp, hq, hl, he⟩ := h
  obtain ⟨h1, h2⟩ := b_next hi hb (by omega)
  have hd := natAbs_tdiv10 x.m
  refine ⟨⟨h1, by simp only [hd]; exact h2, fun hn => tdiv_nonneg10 (hp hn), fun hn => tdiv_nonpos10 (hq hn), by simp only [hd]; omega, ?_⟩, by omega⟩
  simp only [hd]
  rw [if_neg (by omega)] at he
  rw [← he]
  conv => rhs; rw [decD_step]
  by_cases h10 : x.m.natAbs < 10
  · rw [if_pos ⟨by omega, by omega⟩, if_pos h10]; rfl
  · rw [if_neg (by omega), if_neg h10]; simp
theorem itoa_eq (n : Int) : Lib.itoa n = signL n ++ Lib.decDigits n.natAbs := by
  unfold Lib.itoa signL
  by_cases h : n < 0
  · rw [if_pos h, if_pos h]; rfl
  · rw [if_neg h, if_neg h, show n.toNat = n.natAbs by omega]; rfl
theorem nDig20 {N : Nat} (h : N < 10 ^ 20) : (Lib.decDigits N).length ≤ 20 := by
  rw [Lib.decDigits_length]
  apply Classical.byContradiction
  intro hn
  have h2 : ∀ (k M : Nat), k < Lib.nDigits M → 1 ≤ k → 10 ^ k ≤ M := by
    intro k
    induction k with
    | zero => intro M _ h; omega
    | succ k ih =>
      intro M hk _
      by_cases h10 : M < 10
      · rw [Lib.nDigits_small h10] at hk; omega
      · rw [Lib.nDigits_big h10] at hk
        by_cases hk0 : k = 0
        · subst hk0; simp; omega
        · have := ih (M / 10) (by omega) (by omega)
          rw [Nat.pow_succ]; omega
  have := h2 20 N (by omega) (by omega)
  omega
theorem natAbs20 {n : Int} (hn : i64Ok n) : n.natAbs < 10 ^ 20 := by
  obtain ⟨h2, h3⟩ := hn
  have e : (10 : Nat) ^ 20 = 100000000000000000000 := by decide
  omega
theorem I54.len {n : Int} {x : X54} (hn : i64Ok n) (h : I54 n x) : x.s.length ≤ 20 := by
  have h1 := congrArg List.length h.e
  have h2 := nDig20 (natAbs20 hn)
  simp only [List.length_append] at h1
  omega
theorem I54.start {n : Int} (hn : i64Ok n) : I54 n ⟨0, n, []⟩ := ⟨by simp, by simpa using natAbs20 hn, fun h => h, fun h => by simp only []; omega, Nat.le_refl _, by simp⟩
theorem p54 (m n : Int) (hn : i64Ok n) : PureOk PZ (GZ m) XT (tbl []) (itbl []) (a54 n) [] 54 [.int .i64 n] (.str (Lib.itoa n), []) := by
  constructor
  generalize hr : AV.str (Lib.itoa n) = r
  rw [w54]
  simp only [Option.some.injEq, AV.int.injEq, AV.str.injEq, List.cons.injEq, valsAre_iff, stIs_iff, true_and, and_true, bne_iff_ne, bne_eq_false_iff_eq, ne_eq, decide_eq_true_eq, decide_eq_false_iff_not, exists_eq_left', true_or]
  have body : ∀ x : X54, I54 n x → (x.i < 1 ∨ x.m ≠ 0) → ∀ c : UInt8, c = UInt8.ofNat (48 + x.m.natAbs % 10) → [c].length + x.s.length ≤ 9223372036854775807 ∧ ¬ (10 : Int) = 0 ∧
      ∃ y : X54, ([c] ++ x.s = y.s ∧ IntKind.i64.wrap (x.m.tdiv 10) = y.m ∧ IntKind.i64.wrap ((x.i : Int) + 1) = (y.i : Int)) ∧ I54 n y ∧ y.m.natAbs + (1 - y.i) < x.m.natAbs + (1 - x.i) := fun x hx h0 c hc => by
    obtain ⟨h1, h2⟩ := hx.next h0
    have h3 := hx.len hn
    have h4 := hx.i
    refine ⟨by simp; omega, by omega, _, ⟨by rw [hc]; rfl, ?_, ?_⟩, h1, h2⟩
    · exact wrapDiv hn hx.p hx.q hx.l
    · rw [wrap64_in (by omega) (by omega)]; rfl
  refine ⟨⟨⟨0, n, []⟩, ⟨rfl, rfl, rfl⟩, I54.start hn⟩, fun x hx => ?_⟩
  have ht := tmod_lt10 x.m
  have hm := natAbs_tmod10 x.m
  refine ⟨fun h0 => ⟨by omega, fun hd => ?_, fun hd => ?_⟩, fun h0 => ⟨fun h1 => ⟨by omega, fun hd => ?_, fun hd => ?_⟩, fun h1 => ⟨fun h2 => ⟨?_, ⟨?_⟩⟩, fun h2 => ⟨?_⟩⟩⟩⟩
  · exact body x hx (by omega) _ (by rw [digN hd ht.1, hm])
  · exact body x hx (by omega) _ (by rw [digP hd ht.2, hm])
  · exact body x hx (by omega) _ (by rw [digN hd ht.1, hm])
  · exact body x hx (by omega) _ (by rw [digP hd ht.2, hm])
  · have := hx.len hn; omega
  · have he := hx.e
    rw [if_pos ⟨by omega, h1⟩, List.nil_append] at he
    rw [← hr, itoa_eq, ← he]; unfold signL; rw [if_pos h2]
  · have he := hx.e
    rw [if_pos ⟨by omega, h1⟩, List.nil_append] at he
    rw [← hr, itoa_eq, ← he]; unfold signL; rw [if_neg h2]; rfl
theorem rest_step {i M : Nat} (h : i < 7 ∨ M ≠ 0) : restD i M = restD (i + 1) (M / 10) ++ [UInt8.ofNat (48 + M % 10)] := by
  unfold restD
  by_cases h7 : i < 7
  · obtain ⟨k, hk⟩ : ∃ k, 7 - i = k + 1 := ⟨6 - i, by omega⟩
    rw [hk, show 7 - (i + 1) = k by omega]
    by_cases hlt : M < 10 ^ (k + 1)
    · rw [if_pos hlt, if_pos (by rw [Nat.pow_succ] at hlt; omega)]; rfl
    · have h10 : 10 ^ 1 ≤ 10 ^ (k + 1) := Nat.pow_le_pow_right (by omega) (by omega)
      rw [if_neg hlt, if_neg (by rw [Nat.pow_succ] at hlt; omega), decD_step, if_neg (by omega)]
  · rw [show 7 - i = 0 by omega, show 7 - (i + 1) = 0 by omega, Nat.pow_zero, if_neg (by omega), decD_step]
    by_cases h10 : M < 10
    · rw [if_pos h10, if_pos (by omega)]; rfl
    · rw [if_neg h10, if_neg (by omega)]
theorem lowD_len : ∀ k n, (lowD k n).length = k
  | 0, _ => rfl
  | k + 1, n => by simp [lowD, lowD_len k]
theorem padD_len {N : Nat} (h : N < 10 ^ 20) : 7 ≤ (padD N).length ∧ (padD N).length ≤ 20 := by
  unfold padD restD
  by_cases hlt : N < 10 ^ (7 - 0)
  · rw [if_pos hlt, lowD_len]; omega
  · rw [if_neg hlt]
    refine ⟨?_, nDig20 h⟩
    rw [Lib.decDigits_length]
    have := Lib.lt_pow_nDigits N
    apply Classical.byContradiction
    intro hn
    have h2 : 10 ^ Lib.nDigits N ≤ 10 ^ (7 - 0) := Nat.pow_le_pow_right (by omega) (by omega)
    omega
theorem I55.next {n : Int} {x : X54} (h : I55 n x) (h0 : x.i < 7 ∨ x.m ≠ 0) : I55 n ⟨x.i + 1, x.m.tdiv 10, UInt8.ofNat (48 + x.m.natAbs % 10) :: ((if x.i = 6 then [46] else []) ++ x.s)⟩ ∧ (x.m.tdiv 10).natAbs + (7 - (x.i + 1)) < x.m.natAbs + (7 - x.i) := by
  obtain ⟨hi, hb, hp, hq, hl, he, hf⟩ := h
  obtain ⟨h1, h2⟩ := b_next hi hb (by omega)
  have hd := natAbs_tdiv10 x.m
  have hs := rest_step (i := x.i) (M := x.m.natAbs) (by clear hf he; omega)
  have hle : x.m.natAbs / 10 ≤ n.natAbs := by clear hf he hs; omega
  have hdec : (x.m.tdiv 10).natAbs + (7 - (x.i + 1)) < x.m.natAbs + (7 - x.i) := by clear hf he hs; omega
  refine ⟨⟨h1, by simp only [hd]; exact h2, fun hn => tdiv_nonneg10 (hp hn), fun hn => tdiv_nonpos10 (hq hn), by simp only [hd]; exact hle, fun h6 => ?_, fun h7 => ?_⟩, hdec⟩
  · simp only [hd] at h6 ⊢
    obtain ⟨h3, h4⟩ := he (by omega)
    rw [if_neg (by omega), ← h3, hs]
    simp [h4]
  · simp only [hd] at h7 ⊢
    by_cases h6 : x.i = 6
    · obtain ⟨h3, h4⟩ := he (by omega)
      rw [if_pos h6]
      refine ⟨[UInt8.ofNat (48 + x.m.natAbs % 10)], x.s, rfl, by omega, ?_⟩
      rw [← h3, hs]
    · obtain ⟨a, b, h3, h4, h5⟩ := hf (by omega)
      rw [if_neg h6, List.nil_append]
      refine ⟨UInt8.ofNat (48 + x.m.natAbs % 10) :: a, b, by rw [h3]; rfl, h4, ?_⟩
      rw [← h5, hs]; simp
theorem I55.len {n : Int} {x : X54} (hn : i64Ok n) (h : I55 n x) : x.s.length ≤ 21 := by
  have h2 := (padD_len (natAbs20 hn)).2
  by_cases h6 : x.i ≤ 6
  · have := (h.e h6).2; omega
  · obtain ⟨a, b, h3, h4, h5⟩ := h.f (by omega)
    have := congrArg List.length h5
    rw [h3]
    simp at this ⊢
    omega
theorem I55.done {n : Int} {x : X54} (h : I55 n x) (h7 : ¬ x.i < 7) (h0 : x.m = 0) : x.s = pointL (padD n.natAbs) := by
  obtain ⟨a, b, h3, h4, h5⟩ := h.f (by omega)
  have hz : restD x.i x.m.natAbs = [] := by
    unfold restD
    rw [h0, show 7 - x.i = 0 by omega, if_pos (by decide)]; rfl
  rw [hz, List.nil_append] at h5
  unfold pointL
  rw [← h5, h3]
  have hl : (a ++ b).length - 6 = a.length := by simp; omega
  rw [hl]; simp
theorem p55 (m n : Int) (hn : i64Ok n) : PureOk PZ (GZ m) XT (tbl []) (itbl []) (a55 n) [] 55 [.int .i64 n] (.str (decF n), []) := by
  constructor
  generalize hr : AV.str (decF n) = r
  rw [w55]
  simp only [Option.some.injEq, AV.int.injEq, AV.str.injEq, List.cons.injEq, valsAre_iff, stIs_iff, true_and, and_true, bne_iff_ne, bne_eq_false_iff_eq, ne_eq, decide_eq_true_eq, decide_eq_false_iff_not, exists_eq_left', true_or, beq_iff_eq, beq_eq_false_iff_ne]
  have body : ∀ x : X54, I55 n x → (x.i < 7 ∨ x.m ≠ 0) → ∀ c : UInt8, c = UInt8.ofNat (48 + x.m.natAbs % 10) → ∀ t, t = (if x.i = 6 then [46] else []) ++ x.s → [c].length + t.length ≤ 9223372036854775807 ∧ ¬ (10 : Int) = 0 ∧
      ∃ y : X54, ([c] ++ t = y.s ∧ IntKind.i64.wrap (x.m.tdiv 10) = y.m ∧ IntKind.i64.wrap ((x.i : Int) + 1) = (y.i : Int)) ∧ I55 n y ∧ y.m.natAbs + (7 - y.i) < x.m.natAbs + (7 - x.i) := fun x hx h0 c hc t ht => by
    obtain ⟨h1, h2⟩ := hx.next h0
    have h3 := hx.len hn
    have h4 := hx.i
    have h5 : t.length ≤ 22 := by rw [ht]; split <;> simp <;> omega
    refine ⟨by simp; omega, by omega, _, ⟨by rw [hc, ht]; rfl, ?_, ?_⟩, h1, h2⟩
    · exact wrapDiv hn hx.p hx.q hx.l
    · rw [wrap64_in (by omega) (by omega)]; rfl
  refine ⟨⟨⟨0, n, []⟩, ⟨rfl, rfl, rfl⟩, ⟨by simp, by simpa using natAbs20 hn, fun h => h, fun h => by simp only []; omega, Nat.le_refl _, fun _ => ⟨by simp [padD], rfl⟩, fun h => by simp only [] at h; omega⟩⟩, fun x hx => ?_⟩
  have ht := tmod_lt10 x.m
  have hm := natAbs_tmod10 x.m
  have hl := hx.len hn
  have cN : x.m.tmod 10 < 0 → UInt8.ofNat (IntKind.u8.wrap (IntKind.i64.wrap (48 + IntKind.i64.wrap (0 - x.m.tmod 10)))).toNat = UInt8.ofNat (48 + x.m.natAbs % 10) := fun hd => by rw [digN hd ht.1, hm]
  have cP : ¬ x.m.tmod 10 < 0 → UInt8.ofNat (IntKind.u8.wrap (IntKind.i64.wrap (48 + x.m.tmod 10))).toNat = UInt8.ofNat (48 + x.m.natAbs % 10) := fun hd => by rw [digP hd ht.2, hm]
  have s6 : (x.i : Int) = 6 → [46] ++ x.s = (if x.i = 6 then [46] else []) ++ x.s := fun h => by rw [if_pos (by omega)]
  have s7 : ¬ (x.i : Int) = 6 → x.s = (if x.i = 6 then [46] else []) ++ x.s := fun h => by rw [if_neg (by omega)]; rfl
  refine ⟨fun h0 => ⟨by omega, fun hd => ⟨fun h6 => ⟨by omega, body x hx (by omega) _ (cN hd) _ (s6 h6)⟩, fun h6 => body x hx (by omega) _ (cN hd) _ (s7 h6)⟩, fun hd => ⟨fun h6 => ⟨by omega, body x hx (by omega) _ (cP hd) _ (s6 h6)⟩, fun h6 => body x hx (by omega) _ (cP hd) _ (s7 h6)⟩⟩, fun h0 => ⟨fun h1 => ⟨by omega, fun hd => ⟨fun h6 => ⟨by omega, body x hx (by omega) _ (cN hd) _ (s6 h6)⟩, fun h6 => body x hx (by omega) _ (cN hd) _ (s7 h6)⟩, fun hd => ⟨fun h6 => ⟨by omega, body x hx (by omega) _ (cP hd) _ (s6 h6)⟩, fun h6 => body x hx (by omega) _ (cP hd) _ (s7 h6)⟩⟩, fun h1 => ⟨fun h2 => ⟨by omega, ⟨?_⟩⟩, fun h2 => ⟨?_⟩⟩⟩⟩
  · rw [hx.done (by omega) h1, ← hr]; unfold decF signL; rw [if_pos h2]
  · rw [hx.done (by omega) h1, ← hr]; unfold decF signL; rw [if_neg h2]; rfl
theorem lowD_rep : ∀ (k N : Nat), Lib.nDigits N ≤ k → lowD k N = List.replicate (k - Lib.nDigits N) 48 ++ Lib.decDigits N
  | 0, N, h => by have := Lib.nDigits_pos N; omega
  | k + 1, N, h => by
    rw [lowD]
    by_cases h10 : N < 10
    · have hz : ∀ k, lowD k 0 = List.replicate k 48 := by
        intro k
        induction k with
        | zero => rfl
        | succ k ih => rw [lowD, Nat.zero_div, ih]; exact (List.replicate_succ' (n := k) (a := (48 : UInt8))).symm
      rw [show N / 10 = 0 by omega, hz, Lib.nDigits_small h10, decD_step, if_pos h10]; simp
    · rw [Lib.nDigits_big h10] at h ⊢
      rw [lowD_rep k (N / 10) (by omega), decD_step N, if_neg h10, show k + 1 - (Lib.nDigits (N / 10) + 1) = k - Lib.nDigits (N / 10) by omega, List.append_assoc]
theorem lt_pow_of {N k : Nat} (h : Lib.nDigits N ≤ k) : N < 10 ^ k := Nat.lt_of_lt_of_le (Lib.lt_pow_nDigits N) (Nat.pow_le_pow_right (by omega) h)
theorem pow_le_of : ∀ (k N : Nat), k < Lib.nDigits N → 1 ≤ k → 10 ^ k ≤ N := by
  intro k
  induction k with
  | zero => intro N _ h; omega
  | succ k ih =>
    intro M hk _
    by_cases h10 : M < 10
    · rw [Lib.nDigits_small h10] at hk; omega
    · rw [Lib.nDigits_big h10] at hk
      by_cases hk0 : k = 0
      · subst hk0; simp; omega
      · have := ih (M / 10) (by omega) (by omega)
        rw [Nat.pow_succ]; omega
theorem I85.done {n : Int} {s : List UInt8} (h : I85 n s) (hl : ¬ s.length ≤ 6) : s = padD n.natAbs := by
  obtain ⟨k, he, hk⟩ := h.e
  have hlen := congrArg List.length he
  rw [List.length_append, List.length_replicate, Lib.decDigits_length] at hlen
  unfold padD restD
  simp only [Nat.sub_zero]
  by_cases h7 : Lib.nDigits n.natAbs ≤ 7
  · rw [if_pos (lt_pow_of h7), lowD_rep _ _ h7, he]
    congr 2
    omega
  · have := pow_le_of 7 n.natAbs (by omega) (by omega)
    rw [if_neg (by omega)]
    have : k = 0 := by omega
    subst this
    rw [he]; rfl
theorem p85 (m n : Int) (hn : i64Ok n) : PureOk PZ (GZ m) XT (tbl [(84, s84)]) (itbl []) (a85 n) [] 85 [.int .i64 n] (.str (decF n), []) := by
  have t1 : tbl [(84, s84)] 84 [.int .i64 n] = some (.str (Lib.itoa n), []) := by rw [tbl_hit]; simp only [s84, hn, if_true]
  constructor
  generalize hr : AV.str (decF n) = r
  rw [w85]
  simp only [t1, callIs_iff, Option.some.injEq, Prod.mk.injEq, AV.str.injEq, List.cons.injEq, valsAre_iff, stIs_iff, true_and, and_true, decide_eq_true_eq, decide_eq_false_iff_not, exists_eq_left']
  have h20 := nDig20 (natAbs20 hn)
  have hlen : ∀ s, I85 n s → s.length ≤ 20 := fun s hs => by
    obtain ⟨k, he, hk⟩ := hs.e
    have hl := congrArg List.length he
    rw [List.length_append, List.length_replicate] at hl
    omega
  have hsg : (signL n).length ≤ 1 := by unfold signL; split <;> simp
  have loop : ∀ x : List UInt8, I85 n x → _ ∧ _ := fun x hx => And.intro
      (show (x.length : Int) ≤ 6 → 1 + x.length ≤ 9223372036854775807 ∧ I85 n ([48] ++ x) ∧ 7 - ([48] ++ x).length < 7 - x.length from fun h6 => by
        have := hlen x hx
        obtain ⟨k, he, hk⟩ := hx.e
        refine ⟨by omega, ⟨k + 1, ?_, .inr (by simp; omega)⟩, by simp; omega⟩
        rw [he, List.replicate_succ]; rfl)
      (show ¬ (x.length : Int) ≤ 6 → x = padD n.natAbs ∧ x.length ≤ 20 ∧ IntKind.i64.wrap ((x.length : Int) - 6) = ((x.length - 6 : Nat) : Int) from fun h6 => ⟨hx.done (by omega), hlen x hx, by
        have := hlen x hx
        rw [wrap64_in (by omega) (by omega)]; omega⟩)
  have fin : ∀ x : List UInt8, x = padD n.natAbs → RetIs (AV.str (signL n ++ List.drop 0 (List.take (x.length - 6) x) ++ [46] ++ List.drop (x.length - 6) (List.take x.length x))) [] (r, []) := fun x hx => ⟨by
    rw [← hr, List.take_length, List.drop_zero, hx]; unfold decF pointL; simp⟩
  have ends : ∀ x : List UInt8, I85 n x → ¬ (x.length : Int) ≤ 6 → 0 ≤ IntKind.i64.wrap ((x.length : Int) - 6) ∧ (0 ≤ (IntKind.i64.wrap ((x.length : Int) - 6)).toNat ∧ (IntKind.i64.wrap ((x.length : Int) - 6)).toNat ≤ x.length) ∧
      (signL n).length + (List.drop 0 (List.take (IntKind.i64.wrap ((x.length : Int) - 6)).toNat x)).length ≤ 9223372036854775807 ∧
      (signL n ++ List.drop 0 (List.take (IntKind.i64.wrap ((x.length : Int) - 6)).toNat x)).length + 1 ≤ 9223372036854775807 ∧
      0 ≤ IntKind.i64.wrap ((x.length : Int) - 6) ∧ ((IntKind.i64.wrap ((x.length : Int) - 6)).toNat ≤ x.length ∧ x.length ≤ x.length) ∧
      (signL n ++ List.drop 0 (List.take (IntKind.i64.wrap ((x.length : Int) - 6)).toNat x) ++ [46]).length + (List.drop (IntKind.i64.wrap ((x.length : Int) - 6)).toNat (List.take x.length x)).length ≤ 9223372036854775807 ∧
      RetIs (AV.str (signL n ++ List.drop 0 (List.take (IntKind.i64.wrap ((x.length : Int) - 6)).toNat x) ++ [46] ++ List.drop (IntKind.i64.wrap ((x.length : Int) - 6)).toNat (List.take x.length x))) [] (r, []) := fun x hx h6 => by
    obtain ⟨h1, h2, h3⟩ := (loop x hx).2 h6
    rw [h3, Int.toNat_natCast]
    refine ⟨by omega, by omega, ?_, ?_, by omega, by omega, ?_, fin x h1⟩
    · simp; omega
    · simp; omega
    · simp; omega
  have hI : I85 n (Lib.decDigits n.natAbs) := ⟨0, by simp, .inl rfl⟩
  refine ⟨fun h => ⟨by omega, ?_, ⟨_, ⟨rfl, ?_⟩, ?_⟩, fun x hx => ⟨(loop x hx).1, ends x hx⟩⟩, fun h => ⟨⟨_, ⟨rfl, ?_⟩, ?_⟩, fun x hx => ⟨(loop x hx).1, ends x hx⟩⟩⟩
  · rw [itoa_eq]; unfold signL; rw [if_pos h]; simp
  · unfold signL; rw [if_pos h]
  · rw [itoa_eq]; unfold signL; rw [if_pos h, List.take_length]; exact hI
  · unfold signL; rw [if_neg h]
  · rw [itoa_eq]; unfold signL; rw [if_neg h]; exact hI
end Go.Abs

namespace Go.Abs
open Go.Proofs L8
theorem sInt_of {X : Shapes} {R : Callee} {C : CCallee} {m : Int} {g : FuncId} {f : Int → AV} (hR : CalleeOk PZ (GZ m) R) (hC : ICalleeOk PZ (GZ m) (lowC C))
    (h : ∀ n, i64Ok n → ∃ A, PureOk PZ (GZ m) X R C A [] g [.int .i64 n] (f n, [])) : SpecOk PZ (GZ m) g (sInt f) := spec_of (X := X) (m := []) mixedZ hR hC fun args r h' => by
  unfold sInt at h'
  split at h'
  · split at h'
    · rename_i hn
      injection h' with h'; subst h'; exact h _ hn
    · cases h'
  · cases h'
theorem sVal'_of {X : Shapes} {R : Callee} {C : CCallee} {m : Int} {g : FuncId} {f : Int → Int → List UInt8 → AV} (hR : CalleeOk PZ (GZ m) R) (hC : ICalleeOk PZ (GZ m) (lowC C))
    (h : ∀ k n s, strOk s → i64Ok n → ∃ A, PureOk PZ (GZ m) X R C A [] g [vA k n s] (f k n s, [])) : SpecOk PZ (GZ m) g (sVal' f) := spec_of (X := X) (m := []) mixedZ hR hC fun args r h' => by
  unfold sVal' at h'
  split at h'
  · split at h'
    · rename_i hs
      injection h' with h'; subst h'; exact h _ _ _ hs.1 hs.2
    · cases h'
  · cases h'
theorem o54 (m : Int) : SpecOk PZ (GZ m) 54 s54 := sInt_of (X := XT) tbl_nil itbl_nil fun n hn => ⟨a54 n, p54 m n hn⟩
theorem o55 (m : Int) : SpecOk PZ (GZ m) 55 s55 := sInt_of (X := XT) tbl_nil itbl_nil fun n hn => ⟨a55 n, p55 m n hn⟩
theorem o85 (m : Int) : SpecOk PZ (GZ m) 85 s55 := sInt_of (X := XT) (tbl_cons (o84 m) tbl_nil) itbl_nil fun n hn => ⟨a85 n, p85 m n hn⟩
theorem o102 (m : Int) : SpecOk PZ (GZ m) 102 s102 := spec_of (X := XT) (m := []) mixedZ tbl_nil itbl_nil fun args r h => by
  unfold s102 at h
  split at h
  · rename_i b
    injection h with h; subst h
    cases b with
    | true => exact ⟨nAn, ⟨by rw [w102t]; exact ⟨rfl⟩⟩⟩
    | false => exact ⟨nAn, ⟨by rw [w102f]; exact ⟨rfl⟩⟩⟩
  · cases h
theorem o83 (m : Int) : SpecOk PZ (GZ m) 83 s102 := spec_of (X := XT) (m := []) mixedZ (tbl_cons (o102 m) tbl_nil) itbl_nil fun args r h => by
  unfold s102 at h
  split at h
  · rename_i b
    injection h with h; subst h
    exact ⟨nAn, ⟨by rw [w83]; exact ⟨_, ⟨rfl⟩, ⟨rfl⟩⟩⟩⟩
  · cases h
def s48 : Spec := sVal' fun _ _ _ => .str [110, 117, 108, 108]
def s49 : Spec := sVal' fun _ n _ => .str (if n = 1 then [116, 114, 117, 101] else [102, 97, 108, 115, 101])
def s50 : Spec := sVal' fun _ n _ => .str (Lib.itoa n)
def s51 : Spec := sVal' fun _ n _ => .str (decF n)
def s52 : Spec := sVal' fun _ _ s => .str ([34] ++ s ++ [34])
def s53 : Spec := sVal' fun _ _ s => .str ([64] ++ s)
theorem o48 (m : Int) : SpecOk PZ (GZ m) 48 s48 := sVal'_of (X := XT) tbl_nil itbl_nil fun k n s hs hn => ⟨nAn, ⟨by rw [w48]; exact ⟨rfl⟩⟩⟩
theorem o49 (m : Int) : SpecOk PZ (GZ m) 49 s49 := sVal'_of (X := XT) (tbl_cons (o83 m) tbl_nil) itbl_nil fun k n s hs hn => ⟨nAn, ⟨by
  rw [w49]
  simp only [beq_iff_eq, beq_eq_false_iff_ne]
  exact ⟨fun h => ⟨_, ⟨rfl⟩, ⟨by rw [if_pos h]⟩⟩, fun h => ⟨_, ⟨rfl⟩, ⟨by rw [if_neg h]⟩⟩⟩⟩⟩
theorem o50 (m : Int) : SpecOk PZ (GZ m) 50 s50 := sVal'_of (X := XT) (tbl_cons (o84 m) tbl_nil) itbl_nil fun k n s hs hn => ⟨nAn, ⟨by
  rw [w50, tbl_hit]
  exact ⟨_, ⟨by simp only [s84, hn, if_true]⟩, ⟨rfl⟩⟩⟩⟩
theorem o51 (m : Int) : SpecOk PZ (GZ m) 51 s51 := sVal'_of (X := XT) (tbl_cons (o85 m) tbl_nil) itbl_nil fun k n s hs hn => ⟨nAn, ⟨by
  rw [w51, tbl_hit]
  exact ⟨_, ⟨by simp only [s55, sInt, hn, if_true]⟩, ⟨rfl⟩⟩⟩⟩
theorem o52 (m : Int) : SpecOk PZ (GZ m) 52 s52 := sVal'_of (X := XT) tbl_nil itbl_nil fun k n s hs hn => ⟨nAn, ⟨by
  have h1 : s.length ≤ 1000000 := hs
  rw [w52]; exact ⟨by show 1 + s.length ≤ 9223372036854775807; omega, by show ([34] ++ s).length + 1 ≤ 9223372036854775807; simp; omega, ⟨rfl⟩⟩⟩⟩
theorem o53 (m : Int) : SpecOk PZ (GZ m) 53 s53 := sVal'_of (X := XT) tbl_nil itbl_nil fun k n s hs hn => ⟨nAn, ⟨by
  have h1 : s.length ≤ 1000000 := hs
  rw [w53]; exact ⟨by show 1 + s.length ≤ 9223372036854775807; omega, ⟨rfl⟩⟩⟩⟩
theorem p23 (m k n : Int) (s : List UInt8) (hs : strOk s) (hn : i64Ok n) : PureOk PZ (GZ m) XT (tbl [(24, s24), (54, s54), (55, s55)]) (itbl []) nAn [] 23 [vA k n s] (.str (fmtL k n s), []) := by
  have h1 : s.length ≤ 1000000 := hs
  have t1 : tbl [(24, s24), (54, s54), (55, s55)] 24 [.agg [.int .i64 k, .int .i64 n, .str s]] = some (.bool (validB k n s), []) := by rw [tbl_hit, s24_at hs]
  have t2 : tbl [(24, s24), (54, s54), (55, s55)] 54 [.int .i64 n] = some (.str (Lib.itoa n), []) := by rw [tbl_miss (by decide), tbl_hit]; simp only [s54, sInt, hn, if_true]
  have t3 : tbl [(24, s24), (54, s54), (55, s55)] 55 [.int .i64 n] = some (.str (decF n), []) := by rw [tbl_miss (by decide), tbl_miss (by decide), tbl_hit]; simp only [s55, sInt, hn, if_true]
  constructor
  generalize hr : AV.str (fmtL k n s) = r
  rw [w23]
  simp only [t1, t2, t3, callIs_iff, Option.some.injEq, Prod.mk.injEq, AV.bool.injEq, AV.str.injEq, and_true, beq_iff_eq, beq_eq_false_iff_ne, ne_eq, exists_eq_left']
  unfold fmtL at hr
  refine ⟨fun hv => ?_, fun hv => ⟨by rw [if_pos hv] at hr; rw [← hr]⟩⟩
  rw [if_neg (by rw [hv]; simp)] at hr
  refine ⟨fun c1 => ⟨fun n1 => ⟨?_⟩, fun n1 => ⟨?_⟩⟩, fun c1 => ⟨fun c2 => ⟨?_⟩, fun c2 => ⟨fun c3 => ⟨?_⟩, fun c3 => ⟨fun c4 => ⟨by omega, by simp; omega, ⟨?_⟩⟩, fun c4 => ⟨fun c5 => ⟨by omega, ⟨?_⟩⟩, fun c5 => ⟨?_⟩⟩⟩⟩⟩⟩
  · rw [if_pos c1, if_pos n1] at hr; rw [← hr]
  · rw [if_pos c1, if_neg n1] at hr; rw [← hr]
  · rw [if_neg c1, if_pos c2] at hr; rw [← hr]
  · rw [if_neg c1, if_neg c2, if_pos c3] at hr; rw [← hr]
  · rw [if_neg c1, if_neg c2, if_neg c3, if_pos c4] at hr; rw [← hr]
  · rw [if_neg c1, if_neg c2, if_neg c3, if_neg c4, if_pos c5] at hr; rw [← hr]
  · rw [if_neg c1, if_neg c2, if_neg c3, if_neg c4, if_neg c5] at hr; rw [← hr]
theorem o23 (m : Int) : SpecOk PZ (GZ m) 23 s22 := sVal'_of (X := XT) (tbl_cons (o24 m) (tbl_cons (o54 m) (tbl_cons (o55 m) tbl_nil))) itbl_nil fun k n s hs hn => ⟨nAn, p23 m k n s hs hn⟩
end Go.Abs

namespace Go.Abs
open Go.Proofs Go.RowKit
section
variable {P : Program} {G : Glob} {E : Env} {w w1 : World}
theorem le_below (hb : Below w.heap.size w w1) (hI : ∀ b o, E.I b o → b < w.heap.size) : Env.Le E E w w1 := ⟨fun b o h => ⟨h, hb.cell (p := ⟨b, o, none⟩) (hI b o h)⟩, fun _ _ h => h, fun _ _ _ h => h⟩
theorem spec_calls {f : FuncId} {s : Spec} (hs : SpecOk P G f s) (hg : goodFn P f) {args : List AV} {r : AV} (h : s args = some (r, [])) {vs : Array Value} (hI : ∀ b o, E.I b o → b < w.heap.size) (hG : GlobOk G E w) (hn : vs.size = args.length)
    (hv : ∀ (i : Nat) (c : AV) (v : Value), args[i]? = some c → vs[i]? = some v → Rep E w c v) (hcl : ∀ c ∈ args, c.closed1 = true) : Calls P f vs w fun e w' => ∃ v, e = .returned v ∧ Below w.heap.size w w' ∧ ∃ I', ∀ B K, Rep ⟨I', B, K⟩ w' r v := by
  have hc := hs f args r [] (by simp only [if_true]; exact h) E w vs hI hG hn hv hcl
  rcases hc with ⟨_, hc⟩ | ⟨v, w', hrun, _⟩
  · refine hc.mono fun e w' ⟨v, he, I', _, _, hb, hr⟩ => ?_
    rcases hr with ⟨_, hr⟩ | ⟨n, e', hv', sz, xs, hlv, _⟩
    · exact ⟨v, he, hb, I', hr⟩
    · cases hlv
  · rw [run_callFunc hg] at hrun
    cases hrun
theorem findNow_int (n : Int) : ∀ (l : List MapEntry) (i : Nat), (∀ e ∈ l, ∃ k : Int, e.key = .int .i64 k ∧ k ≠ n) → Instr.findNow (.int .i64) (.int .i64 n) l i = some none
  | [], i, _ => rfl
  | e :: l, i, h => by
    obtain ⟨k, hk, hne⟩ := h e (by simp)
    have : Instr.sameNow (.int .i64) (.int .i64 n) e.key = some false := by
      rw [hk]; simp [Instr.sameNow]; omega
    rw [Instr.findNow, this]
    exact findNow_int n l (i + 1) fun x hx => h x (by simp [hx])
theorem run_mapUpdate_new (mty kt et : TypeId) (r clock : Nat) (es : Array MapEntry) (n : Int) (val : Value) (hm : P.underlying mty = some (.map kt et)) (hk : P.underlying kt = some (.int .i64)) (hb : w.heap[r]? = some (.map es clock))
    (hf : ∀ e ∈ es.toList, ∃ k : Int, e.key = .int .i64 k ∧ k ≠ n) :
    (Instr.mapUpdate mty (.map (some r)) (.int .i64 n) val).run P w = .ok () { w with heap := w.heap.setIfInBounds r (.map (es.push { key := .int .i64 n, val := val, born := clock }) (clock + 1)) } := by
  have hc : (Instr.checkKey false 10000 kt (.int .i64 n)).run P w = .ok () w := MapKept.run_checkKey (k := .int .i64 n) hk (by simp [MapKept.IsKey]) false 9999
  simp [Instr.mapUpdate, run_underlying hm, MapKept.run_getObj_map hb, hc, MapKept.run_findKey hk (findNow_int n es.toList 0 hf), MapKept.run_setObj_map _ hb, Result.andThen]
end
theorem run_lookup_int {P : Program} {w : World} (mty kt et : TypeId) (r clock : Nat) (es : Array MapEntry) (n : Int) (i : Nat) (v : Value) (hm : P.underlying mty = some (.map kt et)) (hk : P.underlying kt = some (.int .i64)) (hb : w.heap[r]? = some (.map es clock))
    (hf : Instr.findNow (.int .i64) (.int .i64 n) es.toList 0 = some (some (i, v))) :
    (Instr.lookup mty (.map (some r)) (.int .i64 n) false).run P w = .ok v w := by
  have hc : (Instr.checkKey es.isEmpty 10000 kt (.int .i64 n)).run P w = .ok () w := MapKept.run_checkKey (k := .int .i64 n) hk (by simp [MapKept.IsKey]) _ 9999
  simp [Instr.lookup, run_underlying hm, MapKept.run_getObj_map hb, hc, MapKept.run_findKey hk hf, Result.andThen]
theorem mk_val {E : Env} {w : World} {k n : Int} {s : ByteArray} : Rep E w (vA k n s.data.toList) (.agg #[.int .i64 k, .int .i64 n, .string s]) := by
  refine .agg _ _ rfl (fun i v h => ?_) fun i c v hc hv => ?_
  · match i, h with
    | 0, h => simp at h; subst h; rfl
    | 1, h => simp at h; subst h; rfl
    | 2, h => simp at h; subst h; rfl
    | i + 3, h => simp at h
  · match i, hc, hv with
    | 0, hc, hv => simp at hc hv; subst hc; subst hv; exact .int _ _
    | 1, hc, hv => simp at hc hv; subst hc; subst hv; exact .int _ _
    | 2, hc, hv => simp at hc hv; subst hc; subst hv; exact .str _ _ rfl
    | i + 3, hc, hv => simp at hc
theorem one_arg {E : Env} {w : World} {a : AV} {v : Value} (h : Rep E w a v) : ∀ (i : Nat) (c : AV) (x : Value), [a][i]? = some c → (#[v])[i]? = some x → Rep E w c x := by
  intro i c x hi hx
  match i, hi, hx with
  | 0, hi, hx => simp at hi hx; subst hi; subst hx; exact h
  | i + 1, hi, hx => simp at hi
theorem agg3 {E : Env} {w : World} {k n : Int} {s : List UInt8} {v : Value} (h : Rep E w (vA k n s) v) : ∃ b : ByteArray, v = .agg #[.int .i64 k, .int .i64 n, .string b] ∧ b.data.toList = s := by
  cases h with | agg _ vs hn h1 hc =>
  obtain ⟨l⟩ := vs
  match l, hn with
  | [a, b, c], _ =>
    obtain rfl := rep_int (hc 0 _ _ rfl rfl)
    obtain rfl := rep_int (hc 1 _ _ rfl rfl)
    obtain ⟨t, rfl, ht⟩ := rep_str (hc 2 _ _ rfl rfl)
    exact ⟨t, rfl, ht⟩
theorem alloc_at (w : World) (o : Obj) : (w.alloc o).heap[w.heap.size]? = some o := Array.getElem?_push_size
/-- the world while the map is being filled -/
structure FM (w : World) (a b r : Nat) (k n : Int) (s : ByteArray) (es : Array MapEntry) (c : Nat) (W : World) : Prop where
  map : W.heap[r]? = some (.map es c)
  ak : W.cell? ⟨a, 0, none⟩ = some (.int .i64 k)
  b0 : W.cell? ⟨b, 0, none⟩ = some (.int .i64 k)
  b1 : W.cell? ⟨b, 1, none⟩ = some (.int .i64 n)
  b2 : W.cell? ⟨b, 2, none⟩ = some (.string s)
  below : Below w.heap.size w W
  hr : w.heap.size ≤ r
  ne1 : a ≠ r
  ne2 : b ≠ r
theorem cell_other {W : World} {r b j : Nat} {o : Obj} (h : b ≠ r) : ({ W with heap := W.heap.setIfInBounds r o } : World).cell? ⟨b, j, none⟩ = W.cell? ⟨b, j, none⟩ := by
  unfold World.cell?
  simp only
  rw [Array.getElem?_setIfInBounds_ne (by omega)]
theorem FM.upd {w : World} {a b r : Nat} {k n : Int} {s : ByteArray} {es : Array MapEntry} {c : Nat} {W : World} (h : FM w a b r k n s es c W) (j : Int) (val : Value) (hf : ∀ e ∈ es.toList, ∃ i : Int, e.key = .int .i64 i ∧ i ≠ j) :
    ∃ W', (Instr.mapUpdate 73 (.map (some r)) (.int .i64 j) val).run PZ W = .ok () W' ∧ FM w a b r k n s (es.push { key := .int .i64 j, val := val, born := c }) (c + 1) W' := by
  refine ⟨_, run_mapUpdate_new 73 3 72 r c es j val (by kernel_rfl) (by kernel_rfl) h.map hf, ?_, ?_, ?_, ?_, ?_, ?_, h.hr, h.ne1, h.ne2⟩
  · have : r < W.heap.size := (Array.getElem?_eq_some_iff.1 h.map).1
    simp [this]
  · rw [cell_other h.ne1]; exact h.ak
  · rw [cell_other h.ne2]; exact h.b0
  · rw [cell_other h.ne2]; exact h.b1
  · rw [cell_other h.ne2]; exact h.b2
  · exact ⟨h.below.os, h.below.tape, h.below.output, by simpa using h.below.size, fun q hq => by
      simp only
      rw [Array.getElem?_setIfInBounds_ne (by have := h.hr; omega)]
      exact h.below.block q hq⟩
set_option maxHeartbeats 4000000 in
set_option maxRecDepth 100000 in
theorem fmt_walk (k n : Int) (s : ByteArray) (m : Int) {E : Env} (w : World) (hs : strOk s.data.toList) (hn : i64Ok n) (hI : ∀ b o, E.I b o → b < w.heap.size) (hG : GlobOk (GZ m) E w) :
    Calls PZ 22 #[.agg #[.int .i64 k, .int .i64 n, .string s]] w fun e w' => (∃ b : ByteArray, e = .returned (.string b) ∧ b.data.toList = fmtL k n s.data.toList) ∧ Below w.heap.size w w' := by
  have hmm := @run_makeMap PZ
  have hmf : ∀ (fn : Fn) (first cap : Array Value) (w : World), (Instr.makeFunc fn first cap).run PZ w = .ok (.func fn first cap) w := fun _ _ _ _ => rfl
  go_enter Tryz.func22, Tryz.ntmps22
  go_wp2_with fail
  have hb0 : Below w.heap.size w (w.alloc (Obj.cells #[Value.int IntKind.i64 k, Value.int IntKind.i64 n, Value.string s] 23)) := (Below.refl w.heap.size w).alloc (Nat.le_refl _) _
  refine (spec_calls (E := E) (o12 m) (goodZ (by kernel_rfl)) (s12_at (k := k) (n := n) hs) (fun b o h => by have := hI b o h; simp [go_sem]; omega) (hG.le (le_below hb0 hI)) rfl (one_arg mk_val) (by simp [AV.closed1, AV.closed])).mono ?_
  rintro e w1 ⟨v, rfl, hb1, I', hr⟩
  obtain rfl := rep_int (hr (fun _ => none) (fun _ _ _ => False))
  have hsz : (w.alloc (Obj.cells #[Value.int IntKind.i64 k, Value.int IntKind.i64 n, Value.string s] 23)).heap.size = w.heap.size + 1 := by simp [go_sem]
  rw [hsz] at hb1
  have hc0 : ∀ j, w1.cell? ⟨w.heap.size, j, none⟩ = (#[Value.int IntKind.i64 k, Value.int IntKind.i64 n, Value.string s])[j]? := fun j => by
    rw [hb1.cell (p := ⟨w.heap.size, j, none⟩) (by show w.heap.size < _; omega)]; simp [go_sem]
  have h0 := hc0 0; have h1 := hc0 1; have h2 := hc0 2
  simp at h0 h1 h2
  have hb2 := hb0.trans (hb1.mono (by omega))
  have hle : w.heap.size + 1 ≤ w1.heap.size := by have := hb1.size; omega
  have hGw := hG.le (le_below hb2 hI)
  clear hb0 hb1 hc0 hr hsz
  generalize hck : checkI k n s.data.toList = ck
  go_wp2_with fail
  · have hf : fmtL k n s.data.toList = [] := by
      unfold fmtL validB
      rw [if_pos]
      rw [hck]; simp only [decide_eq_false_iff_not]; simpa using ‹(ck != 0) = true›
    go_ret
    exact ⟨⟨_, rfl, by rw [hf]⟩, hb2⟩
  · have hck0 : ck = 0 := by simpa using ‹(ck != 0) = false›
    have F0 : FM w w.heap.size w1.heap.size (w1.heap.size + 1) k n s #[] 0 ((w1.alloc (Obj.cells #[Value.int IntKind.i64 k, Value.int IntKind.i64 n, Value.string s] 71)).alloc (Obj.map #[] 0)) := by
      refine ⟨?_, ?_, by simp [go_sem], by simp [go_sem], by simp [go_sem], ?_, by omega, by omega, by omega⟩
      · have := alloc_at (w1.alloc (Obj.cells #[Value.int IntKind.i64 k, Value.int IntKind.i64 n, Value.string s] 71)) (Obj.map #[] 0)
        rw [show (w1.alloc (Obj.cells #[Value.int IntKind.i64 k, Value.int IntKind.i64 n, Value.string s] 71)).heap.size = w1.heap.size + 1 by simp [go_sem]] at this
        exact this
      · have hb3 : Below (w.heap.size + 1) w1 ((w1.alloc (Obj.cells #[Value.int IntKind.i64 k, Value.int IntKind.i64 n, Value.string s] 71)).alloc (Obj.map #[] 0)) := ((Below.refl _ w1).alloc hle _).alloc (by simp [go_sem]; omega) _
        rw [hb3.cell (p := ⟨w.heap.size, 0, none⟩) (by show w.heap.size < _; omega)]; exact h0
      · exact (hb2.alloc (by omega) _).alloc (by simp [go_sem]; omega) _
    generalize ((w1.alloc (Obj.cells #[Value.int IntKind.i64 k, Value.int IntKind.i64 n, Value.string s] 71)).alloc (Obj.map #[] 0)) = W0 at *
    clear h0 h1 h2 hmm
    generalize hv : Value.agg #[Value.int IntKind.i64 k, Value.int IntKind.i64 n, Value.string s] = V at *
    obtain ⟨W1, r1, F1⟩ := F0.upd 0 (.func (.func 48) #[V] #[]) (by simp)
    rw [r1]
    clear r1
    have b0 := F1.b0; have b1 := F1.b1; have b2 := F1.b2
    go_wp2_with fail
    clear b0 b1 b2 F0
    obtain ⟨W2, r2, F2⟩ := F1.upd 1 (.func (.func 49) #[V] #[]) (by simp)
    rw [r2]
    clear r2
    have b0 := F2.b0; have b1 := F2.b1; have b2 := F2.b2
    go_wp2_with fail
    clear b0 b1 b2 F1
    obtain ⟨W3, r3, F3⟩ := F2.upd 2 (.func (.func 50) #[V] #[]) (by simp)
    rw [r3]
    clear r3
    have b0 := F3.b0; have b1 := F3.b1; have b2 := F3.b2
    go_wp2_with fail
    clear b0 b1 b2 F2
    obtain ⟨W4, r4, F4⟩ := F3.upd 3 (.func (.func 51) #[V] #[]) (by simp)
    rw [r4]
    clear r4
    have b0 := F4.b0; have b1 := F4.b1; have b2 := F4.b2
    go_wp2_with fail
    clear b0 b1 b2 F3
    obtain ⟨W5, r5, F5⟩ := F4.upd 4 (.func (.func 52) #[V] #[]) (by simp)
    rw [r5]
    clear r5
    have b0 := F5.b0; have b1 := F5.b1; have b2 := F5.b2
    go_wp2_with fail
    clear b0 b1 b2 F4
    obtain ⟨W6, r6, F6⟩ := F5.upd 5 (.func (.func 53) #[V] #[]) (by simp)
    rw [r6]
    clear r6
    have b0 := F6.b0; have b1 := F6.b1; have b2 := F6.b2
    have ak := F6.ak
    go_wp2_with fail
    have hkk : k = 0 ∨ k = 1 ∨ k = 2 ∨ k = 3 ∨ k = 4 ∨ k = 5 := by
      rw [hck0] at hck
      unfold checkI at hck
      split at hck
      · cases hck
      · rename_i hf
        unfold fieldsB at hf
        by_cases h0 : k = 0
        · omega
        · by_cases h1 : k = 1
          · omega
          · by_cases h2 : k = 2 ∨ k = 3
            · omega
            · by_cases h3 : k = 4 ∨ k = 5
              · omega
              · rw [if_neg h0, if_neg h1, if_neg h2, if_neg h3] at hf; simp at hf
    have hvd : validB k n s.data.toList = true := by unfold validB; rw [hck, hck0]; rfl
    have hbW := F6.below
    have hGW := hG.le (le_below hbW hI)
    have hIW : ∀ b o, E.I b o → b < W6.heap.size := fun b o h => by have := hI b o h; have := hbW.size; omega
    have hmap := F6.map
    clear F6 b0 b1 b2 F5 hGw hle hb2 hck
    subst hv
    rcases hkk with rfl | rfl | rfl | rfl | rfl | rfl
    · rw [run_lookup_int 73 3 72 _ _ _ 0 0 (.func (.func 48) #[.agg #[.int .i64 0, .int .i64 n, .string s]] #[]) (by kernel_rfl) (by kernel_rfl) hmap rfl]
      go_wp2_with fail
      refine (spec_calls (E := E) (o48 m) (goodZ (by kernel_rfl)) (by unfold s48 sVal'; simp only [hs, hn, and_self, if_true]; rfl) hIW hGW rfl (one_arg mk_val) (by simp [AV.closed1, AV.closed])).mono ?_
      rintro e w7 ⟨v, rfl, hb7, I'', hr7⟩
      obtain ⟨t, rfl, ht⟩ := rep_str (hr7 (fun _ => none) (fun _ _ _ => False))
      have hb8 := hbW.trans (hb7.mono hbW.size)
      clear hmap hbW hGW hIW hr7 hb7 ak hG hI
      go_wp2_with fail
      go_ret
      refine ⟨⟨t, rfl, ?_⟩, hb8⟩
      rw [ht]; unfold fmtL; rw [hvd]; rfl
    · rw [run_lookup_int 73 3 72 _ _ _ 1 1 (.func (.func 49) #[.agg #[.int .i64 1, .int .i64 n, .string s]] #[]) (by kernel_rfl) (by kernel_rfl) hmap rfl]
      go_wp2_with fail
      refine (spec_calls (E := E) (o49 m) (goodZ (by kernel_rfl)) (by unfold s49 sVal'; simp only [hs, hn, and_self, if_true]; rfl) hIW hGW rfl (one_arg mk_val) (by simp [AV.closed1, AV.closed])).mono ?_
      rintro e w7 ⟨v, rfl, hb7, I'', hr7⟩
      obtain ⟨t, rfl, ht⟩ := rep_str (hr7 (fun _ => none) (fun _ _ _ => False))
      have hb8 := hbW.trans (hb7.mono hbW.size)
      clear hmap hbW hGW hIW hr7 hb7 ak hG hI
      go_wp2_with fail
      go_ret
      refine ⟨⟨t, rfl, ?_⟩, hb8⟩
      rw [ht]; unfold fmtL; rw [hvd]; rfl
    · rw [run_lookup_int 73 3 72 _ _ _ 2 2 (.func (.func 50) #[.agg #[.int .i64 2, .int .i64 n, .string s]] #[]) (by kernel_rfl) (by kernel_rfl) hmap rfl]
      go_wp2_with fail
      refine (spec_calls (E := E) (o50 m) (goodZ (by kernel_rfl)) (by unfold s50 sVal'; simp only [hs, hn, and_self, if_true]; rfl) hIW hGW rfl (one_arg mk_val) (by simp [AV.closed1, AV.closed])).mono ?_
      rintro e w7 ⟨v, rfl, hb7, I'', hr7⟩
      obtain ⟨t, rfl, ht⟩ := rep_str (hr7 (fun _ => none) (fun _ _ _ => False))
      have hb8 := hbW.trans (hb7.mono hbW.size)
      clear hmap hbW hGW hIW hr7 hb7 ak hG hI
      go_wp2_with fail
      go_ret
      refine ⟨⟨t, rfl, ?_⟩, hb8⟩
      rw [ht]; unfold fmtL; rw [hvd]; rfl
    · rw [run_lookup_int 73 3 72 _ _ _ 3 3 (.func (.func 51) #[.agg #[.int .i64 3, .int .i64 n, .string s]] #[]) (by kernel_rfl) (by kernel_rfl) hmap rfl]
      go_wp2_with fail
      refine (spec_calls (E := E) (o51 m) (goodZ (by kernel_rfl)) (by unfold s51 sVal'; simp only [hs, hn, and_self, if_true]; rfl) hIW hGW rfl (one_arg mk_val) (by simp [AV.closed1, AV.closed])).mono ?_
      rintro e w7 ⟨v, rfl, hb7, I'', hr7⟩
      obtain ⟨t, rfl, ht⟩ := rep_str (hr7 (fun _ => none) (fun _ _ _ => False))
      have hb8 := hbW.trans (hb7.mono hbW.size)
      clear hmap hbW hGW hIW hr7 hb7 ak hG hI
      go_wp2_with fail
      go_ret
      refine ⟨⟨t, rfl, ?_⟩, hb8⟩
      rw [ht]; unfold fmtL; rw [hvd]; rfl
    · rw [run_lookup_int 73 3 72 _ _ _ 4 4 (.func (.func 52) #[.agg #[.int .i64 4, .int .i64 n, .string s]] #[]) (by kernel_rfl) (by kernel_rfl) hmap rfl]
      go_wp2_with fail
      refine (spec_calls (E := E) (o52 m) (goodZ (by kernel_rfl)) (by unfold s52 sVal'; simp only [hs, hn, and_self, if_true]; rfl) hIW hGW rfl (one_arg mk_val) (by simp [AV.closed1, AV.closed])).mono ?_
      rintro e w7 ⟨v, rfl, hb7, I'', hr7⟩
      obtain ⟨t, rfl, ht⟩ := rep_str (hr7 (fun _ => none) (fun _ _ _ => False))
      have hb8 := hbW.trans (hb7.mono hbW.size)
      clear hmap hbW hGW hIW hr7 hb7 ak hG hI
      go_wp2_with fail
      go_ret
      refine ⟨⟨t, rfl, ?_⟩, hb8⟩
      rw [ht]; unfold fmtL; rw [hvd]; rfl
    · rw [run_lookup_int 73 3 72 _ _ _ 5 5 (.func (.func 53) #[.agg #[.int .i64 5, .int .i64 n, .string s]] #[]) (by kernel_rfl) (by kernel_rfl) hmap rfl]
      go_wp2_with fail
      refine (spec_calls (E := E) (o53 m) (goodZ (by kernel_rfl)) (by unfold s53 sVal'; simp only [hs, hn, and_self, if_true]; rfl) hIW hGW rfl (one_arg mk_val) (by simp [AV.closed1, AV.closed])).mono ?_
      rintro e w7 ⟨v, rfl, hb7, I'', hr7⟩
      obtain ⟨t, rfl, ht⟩ := rep_str (hr7 (fun _ => none) (fun _ _ _ => False))
      have hb8 := hbW.trans (hb7.mono hbW.size)
      clear hmap hbW hGW hIW hr7 hb7 ak hG hI
      go_wp2_with fail
      go_ret
      refine ⟨⟨t, rfl, ?_⟩, hb8⟩
      rw [ht]; unfold fmtL; rw [hvd]; rfl
theorem o22 (m : Int) : SpecOk PZ (GZ m) 22 s22 := by
  intro g args r lv h E w vs hI hG hn' hv hcl
  simp only at h
  split at h
  case isFalse => cases h
  case isTrue e =>
  subst e
  unfold s22 sVal' at h
  split at h
  case h_2 => cases h
  case h_1 k n s =>
  split at h
  case isFalse => cases h
  case isTrue hl =>
  simp only [Option.some.injEq, Prod.mk.injEq] at h
  obtain ⟨rfl, rfl⟩ := h
  obtain ⟨a, rfl⟩ := vs_one hn'
  obtain ⟨b, rfl, hb⟩ := agg3 (hv 0 _ _ rfl rfl)
  subst hb
  refine .inl ⟨goodZ (by kernel_rfl), (fmt_walk k n b m w hl.1 hl.2 hI hG).mono fun e w' ⟨⟨t, he, ht⟩, hbw⟩ => ⟨_, he, ?_⟩⟩
  exact res_below hbw fun B K => by rw [← ht]; exact .str _ _ rfl
end Go.Abs

namespace Go.Abs
open Go.Proofs Go.RowKit
/-- one bit of the register -/
def crcB (x : Int) : Int := if bits .and .u32 x 1 = 1 then bits .xor .u32 (x / 2) 3988292384 else x / 2
def crcR : Nat → Int → Int
  | 0, x => x
  | j + 1, x => crcB (crcR j x)
theorem crc_bits (b i : Nat) (w : World) (hi : i < 256) (v : Value) (hv : w.cell? ⟨b, i, none⟩ = some v) (hf : w.frozen? ⟨b, i, none⟩ = false) :
    Calls PZ 118 #[.int .i64 i, .pointer (some ⟨b, 0, none⟩)] w fun e w' => e = .returned (.tuple #[]) ∧ w' = w.setCell ⟨b, i, none⟩ (.int .u32 (crcR 8 i)) := by
  go_enter Tryz.func118, Tryz.ntmps118
  go_wp2_with fail
  go_loopw [3, 6] (fun x c wr => ∃ j : Nat, j ≤ 8 ∧ x = .int .u32 (crcR j i) ∧ c = .int .i64 j ∧ wr = w)
    (fun _ c _ => 8 - (intOf c).toNat)
  case atStart => exact ⟨0, by omega, rfl, rfl, rfl⟩
  case round =>
    obtain ⟨j, hj, rfl, rfl, rfl⟩ := hrel
    go_wp2_with fail
    · rename_i h1 h2
      have h3 : bits .and .u32 (crcR j i) 1 = 1 := by simpa using h2
      refine ⟨⟨j + 1, by omega, ?_, by simp, trivial⟩, by simp [intOf]; omega⟩
      rw [crcR, crcB, if_pos h3]
    · rename_i h1 h2
      have h3 : ¬ bits .and .u32 (crcR j i) 1 = 1 := by simpa using h2
      refine ⟨⟨j + 1, by omega, ?_, by simp, trivial⟩, by simp [intOf]; omega⟩
      rw [crcR, crcB, if_neg h3]
    · have h8 : j = 8 := by omega
      subst h8
      first
        | (go_ret; exact ⟨rfl, rfl⟩)
        | simp [bodyPost, results, Tryz.results118, go_sem]
/-- the table as it is being filled -/
def tabV (k : Nat) : Array Value := ((List.range k).map fun (i : Nat) => Value.int .u32 (crcR 8 (i : Int))).toArray ++ Array.replicate (256 - k) (.int .u32 0)
theorem tabV_size {k : Nat} (h : k ≤ 256) : (tabV k).size = 256 := by simp [tabV]; omega
theorem tabV_set {k : Nat} (h : k < 256) : (tabV k).setIfInBounds k (.int .u32 (crcR 8 (k : Int))) = tabV (k + 1) := by
  apply Array.ext_getElem?
  intro j
  unfold tabV
  by_cases hj : j = k
  · subst hj
    rw [Array.getElem?_setIfInBounds_self_of_lt (by simp; omega)]
    rw [Array.getElem?_append_left (by simp)]
    simp
  · rw [Array.getElem?_setIfInBounds_ne (by omega)]
    by_cases hlt : j < k
    · rw [Array.getElem?_append_left (by simpa using hlt), Array.getElem?_append_left (by simp; omega)]
      simp [hlt, Nat.lt_succ_of_lt hlt]
    · rw [Array.getElem?_append_right (by simp; omega), Array.getElem?_append_right (by simp; omega)]
      simp only [List.size_toArray, List.length_map, List.length_range]
      by_cases h2 : j < 256
      · rw [Array.getElem?_eq_getElem (by simp; omega), Array.getElem?_eq_getElem (by simp; omega)]; simp
      · rw [Array.getElem?_eq_none (by simp; omega), Array.getElem?_eq_none (by simp; omega)]
theorem heap_setCell {w : World} {b o : Nat} {cs : Array Value} {t : TypeId} {v : Value} (h : w.heap[b]? = some (.cells cs t (0, 0))) : (w.setCell ⟨b, o, none⟩ v).heap[b]? = some (.cells (cs.setIfInBounds o v) t (0, 0)) := by
  unfold World.setCell
  simp only [Array.getElem?_modify, if_true, h, Option.map_some]
  rfl
theorem tabV_zero : tabV 0 = Tryz.zeroCells120 := by
  unfold tabV
  rw [show ((List.range 0).map fun (i : Nat) => Value.int .u32 (crcR 8 (i : Int))).toArray = #[] from rfl, Array.empty_append]
  kernel_rfl
theorem info120 : (PZ.info? 120).map (·.size) = some 256 := by kernel_rfl
theorem und120 : ∃ e : TypeId, PZ.underlying 120 = some (.array 256 e) := by
  have h : (match PZ.underlying 120 with | some (.array 256 _) => true | _ => false) = true := by kernel_rfl
  split at h
  · rename_i e he; exact ⟨e, he⟩
  · exact absurd h (by simp)
theorem tabV_one (k : Nat) : (tabV k).all (·.oneCell') = true := by
  rw [Array.all_eq_true_iff_forall_mem]
  intro v hv
  simp only [tabV, Array.mem_append, Array.mem_replicate, List.mem_toArray, List.mem_map] at hv
  rcases hv with ⟨i, _, rfl⟩ | ⟨_, rfl⟩ <;> rfl
theorem zero_size : (Tryz.zeroCells120).size = 256 := by rw [← tabV_zero]; exact tabV_size (by omega)
set_option maxHeartbeats 2000000 in
set_option maxRecDepth 100000 in
theorem table_calls (w : World) : Calls PZ 104 #[] w fun e w' => e = .returned (.agg (tabV 256)) ∧ Below w.heap.size w w' := by
  have hmf : ∀ (fn : Fn) (first cap : Array Value) (w : World), (Instr.makeFunc fn first cap).run PZ w = .ok (.func fn first cap) w := fun _ _ _ _ => rfl
  go_enter Tryz.func104, Tryz.ntmps104
  go_wp2_with fail
  go_loopw [5] (fun c wr => ∃ k : Nat, k ≤ 256 ∧ c = .int .i64 k ∧ wr.heap[w.heap.size]? = some (.cells Tryz.zeroCells120 120 (0, 0)) ∧ wr.heap[w.heap.size + 1]? = some (.cells (tabV k) 120 (0, 0)) ∧ Below w.heap.size w wr)
    (fun c _ => 256 - (intOf c).toNat)
  case atStart =>
    have h1 : ∀ o : Obj, (w.alloc o).heap.size = w.heap.size + 1 := fun o => by show (w.heap.push o).size = _; simp
    refine ⟨0, by omega, rfl, ?_, ?_, ((Below.refl w.heap.size w).alloc (Nat.le_refl _) _).alloc (by rw [h1]; omega) _⟩
    · rw [Below.heap_alloc _ _ _ (by rw [h1]; omega)]; exact alloc_at _ _
    · have := alloc_at (w.alloc (Obj.cells Tryz.zeroCells120 120)) (Obj.cells Tryz.zeroCells120 120)
      rw [h1] at this
      rw [this, tabV_zero]
  case round =>
    obtain ⟨k, hk, rfl, hA, hB, hb⟩ := hrel
    go_wp2_with fail
    · rename_i hlt _ _ _ _
      have hlt : k < 256 := by omega
      have hsz := tabV_size hk
      refine (crc_bits (w.heap.size + 1) k wr hlt ((tabV k)[k]'(by omega)) ?_ ?_).mono ?_
      · unfold World.cell?; simp only [hB]; simp [hsz, hlt]
      · unfold World.frozen?; simp only [hB]; simp
      rintro e w' ⟨rfl, rfl⟩
      have hB' := heap_setCell (o := k) (v := .int .u32 (crcR 8 (k : Int))) hB
      rw [tabV_set hlt] at hB'
      have hA' : (wr.setCell ⟨w.heap.size + 1, k, none⟩ (.int .u32 (crcR 8 (k : Int)))).heap[w.heap.size]? = some (Obj.cells Tryz.zeroCells120 120) := by
        rw [Below.heap_setCell _ _ _ _ (by show w.heap.size ≠ w.heap.size + 1; omega)]; exact hA
      have hb' := hb.setCell (p := ⟨w.heap.size + 1, k, none⟩) (by show w.heap.size ≤ w.heap.size + 1; omega) (.int .u32 (crcR 8 (k : Int)))
      generalize (wr.setCell ⟨w.heap.size + 1, k, none⟩ (.int .u32 (crcR 8 (k : Int)))) = w5 at *
      clear hA hB hb hsz
      go_wp2_with fail
      exact ⟨⟨k + 1, by omega, by simp, hA', hB', hb'⟩, by simp [intOf]; omega⟩
    · rename_i h9 K3 hK3 K2 hK2
      have h256 : k = 256 := by omega
      clear h9
      subst h256
      obtain ⟨e0, hu⟩ := und120
      have hs256 := tabV_size (Nat.le_refl 256)
      refine wp_load_row 120 (.tmp 1) rfl (w.heap.size + 1) rfl 120 (tabV 256) (0, 0) _ hB hu rfl (by rw [info120, hs256]) ?_
      apply hK2
      refine wpList_store_row rfl 120 (.tmp 0) (.tmp 12) rfl w.heap.size (tabV 256) rfl rfl 120 Tryz.zeroCells120 hA (by rw [info120, hs256]) (by rw [zero_size, hs256]) (tabV_one _) ?_
      have hb2 : Below w.heap.size w (wr.setRow w.heap.size (tabV 256)) := hb.trans ⟨rfl, rfl, rfl, by simp [World.setRow], fun k hk => setRow_other _ _ _ _ (by omega)⟩
      have hA2 := setRow_heap wr w.heap.size Tryz.zeroCells120 (tabV 256) 120 (0, 0) hA
      generalize wr.setRow w.heap.size (tabV 256) = w9 at hb2 hA2 ⊢
      clear hA hB hb hK2
      apply hK3
      have hres : ∀ tmps : Array Value, tmps.getD 0 undef = .pointer (some ⟨w.heap.size, 0, none⟩) → (results Tryz.f104 tmps).run PZ w9 = .ok (.agg (tabV 256)) w9 := fun tmps ht =>
        results_cell_row (P := PZ) (fn := Tryz.f104) (p := 0) (ty := 120) rfl tmps w9 w.heap.size 120 (tabV 256) (0, 0) _ ht hA2 hu rfl (by rw [info120, hs256])
      refine wp_ret ?_
      exact ⟨rfl, _, hres _ rfl, rfl, hb2⟩
end Go.Abs

namespace Go.Abs
open Go.Proofs Go.RowKit Go.Wire
def crcE (i : Nat) : AV := .int .u32 (crcR 8 (i : Int))
def keptTab : List AV := (List.range 256).map crcE
def keptTabA : AV := .agg keptTab
def s104 : Spec := fun args => match args with
  | [] => some (keptTabA, [])
  | _ => none
/-- the register behind one byte -/
def ext1 (x : Int) (b : UInt8) : Int := bits .xor .u32 (x.fdiv 256) (crcR 8 (bits .xor .u8 (IntKind.u8.wrap x) b.toNat))
def extR (x : Int) (l : List UInt8) : Int := l.foldl ext1 x
def notC (x : Int) : Int := bits .xor .u32 (if IntKind.u32.signed = true then (-1 : Int) else IntKind.u32.max) x
def extC (c : Int) (l : List UInt8) : Int := notC (extR (notC c) l)
def u32Ok (n : Int) : Prop := 0 ≤ n ∧ n < 4294967296
instance (n : Int) : Decidable (u32Ok n) := inferInstanceAs (Decidable (_ ∧ _))
def s86 : Spec := fun args => match args with
  | [.int .u32 c, .sl sz es _] => if sz = 1 ∨ es = [] then onBytes es fun bs => if strOk bs ∧ u32Ok c then some (.int .u32 (extC c bs), []) else none else none
  | _ => none
def s57 : Spec := fun args => match args with
  | [.sl sz es _] => if sz = 1 ∨ es = [] then onBytes es fun bs => if strOk bs then some (.int .u32 (extC 0 bs), []) else none else none
  | _ => none
def a86 (c : Int) (bs : List UInt8) : Anns := ⟨fun q => if q = 4 then some { α := Nat, slots := [5, 6, 12, 13, 14], nb := 1, vals := fun i => [.ptr 0 0, .int .u32 (extR (notC c) (bs.take i)), bytesA bs, .int .i64 bs.length, .int .i64 i], sS := fun _ => ⟨[some keptTab], []⟩, I := fun i => i ≤ bs.length, μ := fun i => bs.length - i } else none, nA⟩
def le4 (x : Int) : List UInt8 := [UInt8.ofNat (IntKind.u8.wrap x).toNat, UInt8.ofNat (IntKind.u8.wrap (x.fdiv 256)).toNat, UInt8.ofNat (IntKind.u8.wrap (x.fdiv 65536)).toNat, UInt8.ofNat (IntKind.u8.wrap (x.fdiv 16777216)).toNat]
def frameL (cs : List UInt8) : List UInt8 := uintL cs.length ++ (cs ++ le4 (extC 0 cs))
def s25 : Spec := fun args => match args with
  | [.sl sz es _, .sl sz' es' _] => if (sz = 1 ∨ es = []) ∧ (sz' = 1 ∨ es' = []) then onBytes es fun bs => onBytes es' fun cs => if strOk bs ∧ strOk cs then some (ownR (bs ++ frameL cs)) else none else none
  | _ => none
def shTab : Sh × Option TypeId := (.val (.one (.is keptTabA)), none)
def XC : Shapes := fun f => match f with
  | 104 => some shTab
  | 86 | 57 => some (.val (.one (.int .u32)), none)
  | 25 => some shOwn
  | f => XN f
theorem keptTab_vals : (tabV 256).toList.map some = (keptTab.map fun a => match a with | .int k n => some (Value.int k n) | _ => none) := by
  unfold tabV keptTab crcE
  simp
end Go.Abs

namespace Go.Abs
open Go.Proofs Go.Wire
theorem w86 (m c r : Int) (bs : List UInt8) : (pureW PZ (GZ m) XC (tbl [(104, s104)]) (itbl []) (a86 c bs) [] 86 [.int .u32 c, bytesA bs] (.int .u32 r, [])) =
(CallIs (some (keptTabA, [])) keptTabA [] ∧
  (∃ (y : Nat),
      ValsAre
 [AV.ptr (nat_lit 0) (nat_lit 0),
 AV.int IntKind.u32
 (IntKind.u32.wrap
 (↑(BitVec.ofInt IntKind.u32.bits (if IntKind.u32.signed = true then (-1 : Int) else IntKind.u32.max) ^^^
 BitVec.ofInt IntKind.u32.bits c).toNat :
 Int)),
 AV.sl (nat_lit 1) (bytesL bs) Own.no, AV.int IntKind.i64 (↑(bytesL bs).length : Int), AV.int IntKind.i64 (0 : Int)]
 [AV.ptr (nat_lit 0) (nat_lit 0), AV.int IntKind.u32 (extR (notC c) (List.take y bs)), AV.sl (nat_lit 1) (bytesL bs) Own.no,
 AV.int IntKind.i64 (↑bs.length : Int), AV.int IntKind.i64 (↑y : Int)] ∧
        StIs
 { boxes := [some [AV.int IntKind.u32 (0 : Int), AV.int IntKind.u32 (1996959894 : Int), AV.int IntKind.u32 (3993919788 : Int), AV.int IntKind.u32 (2567524794 : Int), AV.int IntKind.u32 (124634137 : Int), AV.int IntKind.u32 (1886057615 : Int), AV.int IntKind.u32 (3915621685 : Int), AV.int IntKind.u32 (2657392035 : Int), AV.int IntKind.u32 (249268274 : Int), AV.int IntKind.u32 (2044508324 : Int), AV.int IntKind.u32 (3772115230 : Int), AV.int IntKind.u32 (2547177864 : Int), AV.int IntKind.u32 (162941995 : Int), AV.int IntKind.u32 (2125561021 : Int), AV.int IntKind.u32 (3887607047 : Int), AV.int IntKind.u32 (2428444049 : Int), AV.int IntKind.u32 (498536548 : Int), AV.int IntKind.u32 (1789927666 : Int), AV.int IntKind.u32 (4089016648 : Int), AV.int IntKind.u32 (2227061214 : Int), AV.int IntKind.u32 (450548861 : Int), AV.int IntKind.u32 (1843258603 : Int), AV.int IntKind.u32 (4107580753 : Int), AV.int IntKind.u32 (2211677639 : Int), AV.int IntKind.u32 (325883990 : Int), AV.int IntKind.u32 (1684777152 : Int), AV.int IntKind.u32 (4251122042 : Int), AV.int IntKind.u32 (2321926636 : Int), AV.int IntKind.u32 (335633487 : Int), AV.int IntKind.u32 (1661365465 : Int), AV.int IntKind.u32 (4195302755 : Int), AV.int IntKind.u32 (2366115317 : Int), AV.int IntKind.u32 (997073096 : Int), AV.int IntKind.u32 (1281953886 : Int), AV.int IntKind.u32 (3579855332 : Int), AV.int IntKind.u32 (2724688242 : Int), AV.int IntKind.u32 (1006888145 : Int), AV.int IntKind.u32 (1258607687 : Int), AV.int IntKind.u32 (3524101629 : Int), AV.int IntKind.u32 (2768942443 : Int), AV.int IntKind.u32 (901097722 : Int), AV.int IntKind.u32 (1119000684 : Int), AV.int IntKind.u32 (3686517206 : Int), AV.int IntKind.u32 (2898065728 : Int), AV.int IntKind.u32 (853044451 : Int), AV.int IntKind.u32 (1172266101 : Int), AV.int IntKind.u32 (3705015759 : Int), AV.int IntKind.u32 (2882616665 : Int), AV.int IntKind.u32 (651767980 : Int), AV.int IntKind.u32 (1373503546 : Int), AV.int IntKind.u32 (3369554304 : Int), AV.int IntKind.u32 (3218104598 : Int), AV.int IntKind.u32 (565507253 : Int), AV.int IntKind.u32 (1454621731 : Int), AV.int IntKind.u32 (3485111705 : Int), AV.int IntKind.u32 (3099436303 : Int), AV.int IntKind.u32 (671266974 : Int), AV.int IntKind.u32 (1594198024 : Int), AV.int IntKind.u32 (3322730930 : Int), AV.int IntKind.u32 (2970347812 : Int), AV.int IntKind.u32 (795835527 : Int), AV.int IntKind.u32 (1483230225 : Int), AV.int IntKind.u32 (3244367275 : Int), AV.int IntKind.u32 (3060149565 : Int), AV.int IntKind.u32 (1994146192 : Int), AV.int IntKind.u32 (31158534 : Int), AV.int IntKind.u32 (2563907772 : Int), AV.int IntKind.u32 (4023717930 : Int), AV.int IntKind.u32 (1907459465 : Int), AV.int IntKind.u32 (112637215 : Int), AV.int IntKind.u32 (2680153253 : Int), AV.int IntKind.u32 (3904427059 : Int), AV.int IntKind.u32 (2013776290 : Int), AV.int IntKind.u32 (251722036 : Int), AV.int IntKind.u32 (2517215374 : Int), AV.int IntKind.u32 (3775830040 : Int), AV.int IntKind.u32 (2137656763 : Int), AV.int IntKind.u32 (141376813 : Int), AV.int IntKind.u32 (2439277719 : Int), AV.int IntKind.u32 (3865271297 : Int), AV.int IntKind.u32 (1802195444 : Int), AV.int IntKind.u32 (476864866 : Int), AV.int IntKind.u32 (2238001368 : Int), AV.int IntKind.u32 (4066508878 : Int), AV.int IntKind.u32 (1812370925 : Int), AV.int IntKind.u32 (453092731 : Int), AV.int IntKind.u32 (2181625025 : Int), AV.int IntKind.u32 (4111451223 : Int), AV.int IntKind.u32 (1706088902 : Int), AV.int IntKind.u32 (314042704 : Int), AV.int IntKind.u32 (2344532202 : Int), AV.int IntKind.u32 (4240017532 : Int), AV.int IntKind.u32 (1658658271 : Int), AV.int IntKind.u32 (366619977 : Int), AV.int IntKind.u32 (2362670323 : Int), AV.int IntKind.u32 (4224994405 : Int), AV.int IntKind.u32 (1303535960 : Int), AV.int IntKind.u32 (984961486 : Int), AV.int IntKind.u32 (2747007092 : Int), AV.int IntKind.u32 (3569037538 : Int), AV.int IntKind.u32 (1256170817 : Int), AV.int IntKind.u32 (1037604311 : Int), AV.int IntKind.u32 (2765210733 : Int), AV.int IntKind.u32 (3554079995 : Int), AV.int IntKind.u32 (1131014506 : Int), AV.int IntKind.u32 (879679996 : Int), AV.int IntKind.u32 (2909243462 : Int), AV.int IntKind.u32 (3663771856 : Int), AV.int IntKind.u32 (1141124467 : Int), AV.int IntKind.u32 (855842277 : Int), AV.int IntKind.u32 (2852801631 : Int), AV.int IntKind.u32 (3708648649 : Int), AV.int IntKind.u32 (1342533948 : Int), AV.int IntKind.u32 (654459306 : Int), AV.int IntKind.u32 (3188396048 : Int), AV.int IntKind.u32 (3373015174 : Int), AV.int IntKind.u32 (1466479909 : Int), AV.int IntKind.u32 (544179635 : Int), AV.int IntKind.u32 (3110523913 : Int), AV.int IntKind.u32 (3462522015 : Int), AV.int IntKind.u32 (1591671054 : Int), AV.int IntKind.u32 (702138776 : Int), AV.int IntKind.u32 (2966460450 : Int), AV.int IntKind.u32 (3352799412 : Int), AV.int IntKind.u32 (1504918807 : Int), AV.int IntKind.u32 (783551873 : Int), AV.int IntKind.u32 (3082640443 : Int), AV.int IntKind.u32 (3233442989 : Int), AV.int IntKind.u32 (3988292384 : Int), AV.int IntKind.u32 (2596254646 : Int), AV.int IntKind.u32 (62317068 : Int), AV.int IntKind.u32 (1957810842 : Int), AV.int IntKind.u32 (3939845945 : Int), AV.int IntKind.u32 (2647816111 : Int), AV.int IntKind.u32 (81470997 : Int), AV.int IntKind.u32 (1943803523 : Int), AV.int IntKind.u32 (3814918930 : Int), AV.int IntKind.u32 (2489596804 : Int), AV.int IntKind.u32 (225274430 : Int), AV.int IntKind.u32 (2053790376 : Int), AV.int IntKind.u32 (3826175755 : Int), AV.int IntKind.u32 (2466906013 : Int), AV.int IntKind.u32 (167816743 : Int), AV.int IntKind.u32 (2097651377 : Int), AV.int IntKind.u32 (4027552580 : Int), AV.int IntKind.u32 (2265490386 : Int), AV.int IntKind.u32 (503444072 : Int), AV.int IntKind.u32 (1762050814 : Int), AV.int IntKind.u32 (4150417245 : Int), AV.int IntKind.u32 (2154129355 : Int), AV.int IntKind.u32 (426522225 : Int), AV.int IntKind.u32 (1852507879 : Int), AV.int IntKind.u32 (4275313526 : Int), AV.int IntKind.u32 (2312317920 : Int), AV.int IntKind.u32 (282753626 : Int), AV.int IntKind.u32 (1742555852 : Int), AV.int IntKind.u32 (4189708143 : Int), AV.int IntKind.u32 (2394877945 : Int), AV.int IntKind.u32 (397917763 : Int), AV.int IntKind.u32 (1622183637 : Int), AV.int IntKind.u32 (3604390888 : Int), AV.int IntKind.u32 (2714866558 : Int), AV.int IntKind.u32 (953729732 : Int), AV.int IntKind.u32 (1340076626 : Int), AV.int IntKind.u32 (3518719985 : Int), AV.int IntKind.u32 (2797360999 : Int), AV.int IntKind.u32 (1068828381 : Int), AV.int IntKind.u32 (1219638859 : Int), AV.int IntKind.u32 (3624741850 : Int), AV.int IntKind.u32 (2936675148 : Int), AV.int IntKind.u32 (906185462 : Int), AV.int IntKind.u32 (1090812512 : Int), AV.int IntKind.u32 (3747672003 : Int), AV.int IntKind.u32 (2825379669 : Int), AV.int IntKind.u32 (829329135 : Int), AV.int IntKind.u32 (1181335161 : Int), AV.int IntKind.u32 (3412177804 : Int), AV.int IntKind.u32 (3160834842 : Int), AV.int IntKind.u32 (628085408 : Int), AV.int IntKind.u32 (1382605366 : Int), AV.int IntKind.u32 (3423369109 : Int), AV.int IntKind.u32 (3138078467 : Int), AV.int IntKind.u32 (570562233 : Int), AV.int IntKind.u32 (1426400815 : Int), AV.int IntKind.u32 (3317316542 : Int), AV.int IntKind.u32 (2998733608 : Int), AV.int IntKind.u32 (733239954 : Int), AV.int IntKind.u32 (1555261956 : Int), AV.int IntKind.u32 (3268935591 : Int), AV.int IntKind.u32 (3050360625 : Int), AV.int IntKind.u32 (752459403 : Int), AV.int IntKind.u32 (1541320221 : Int), AV.int IntKind.u32 (2607071920 : Int), AV.int IntKind.u32 (3965973030 : Int), AV.int IntKind.u32 (1969922972 : Int), AV.int IntKind.u32 (40735498 : Int), AV.int IntKind.u32 (2617837225 : Int), AV.int IntKind.u32 (3943577151 : Int), AV.int IntKind.u32 (1913087877 : Int), AV.int IntKind.u32 (83908371 : Int), AV.int IntKind.u32 (2512341634 : Int), AV.int IntKind.u32 (3803740692 : Int), AV.int IntKind.u32 (2075208622 : Int), AV.int IntKind.u32 (213261112 : Int), AV.int IntKind.u32 (2463272603 : Int), AV.int IntKind.u32 (3855990285 : Int), AV.int IntKind.u32 (2094854071 : Int), AV.int IntKind.u32 (198958881 : Int), AV.int IntKind.u32 (2262029012 : Int), AV.int IntKind.u32 (4057260610 : Int), AV.int IntKind.u32 (1759359992 : Int), AV.int IntKind.u32 (534414190 : Int), AV.int IntKind.u32 (2176718541 : Int), AV.int IntKind.u32 (4139329115 : Int), AV.int IntKind.u32 (1873836001 : Int), AV.int IntKind.u32 (414664567 : Int), AV.int IntKind.u32 (2282248934 : Int), AV.int IntKind.u32 (4279200368 : Int), AV.int IntKind.u32 (1711684554 : Int), AV.int IntKind.u32 (285281116 : Int), AV.int IntKind.u32 (2405801727 : Int), AV.int IntKind.u32 (4167216745 : Int), AV.int IntKind.u32 (1634467795 : Int), AV.int IntKind.u32 (376229701 : Int), AV.int IntKind.u32 (2685067896 : Int), AV.int IntKind.u32 (3608007406 : Int), AV.int IntKind.u32 (1308918612 : Int), AV.int IntKind.u32 (956543938 : Int), AV.int IntKind.u32 (2808555105 : Int), AV.int IntKind.u32 (3495958263 : Int), AV.int IntKind.u32 (1231636301 : Int), AV.int IntKind.u32 (1047427035 : Int), AV.int IntKind.u32 (2932959818 : Int), AV.int IntKind.u32 (3654703836 : Int), AV.int IntKind.u32 (1088359270 : Int), AV.int IntKind.u32 (936918000 : Int), AV.int IntKind.u32 (2847714899 : Int), AV.int IntKind.u32 (3736837829 : Int), AV.int IntKind.u32 (1202900863 : Int), AV.int IntKind.u32 (817233897 : Int), AV.int IntKind.u32 (3183342108 : Int), AV.int IntKind.u32 (3401237130 : Int), AV.int IntKind.u32 (1404277552 : Int), AV.int IntKind.u32 (615818150 : Int), AV.int IntKind.u32 (3134207493 : Int), AV.int IntKind.u32 (3453421203 : Int), AV.int IntKind.u32 (1423857449 : Int), AV.int IntKind.u32 (601450431 : Int), AV.int IntKind.u32 (3009837614 : Int), AV.int IntKind.u32 (3294710456 : Int), AV.int IntKind.u32 (1567103746 : Int), AV.int IntKind.u32 (711928724 : Int), AV.int IntKind.u32 (3020668471 : Int), AV.int IntKind.u32 (3272380065 : Int), AV.int IntKind.u32 (1510334235 : Int), AV.int IntKind.u32 (755167117 : Int)]], live := [] }
 { boxes := [some keptTab], live := [] } ∧
 y ≤ bs.length ∧ True) ∧
    ∀ (x : Nat),
      x ≤ bs.length →
        (decide ((↑x : Int) < (↑bs.length : Int)) = true →
 ((0 : Int) ≤ (↑x : Int) ∧ (↑x : Int) < (↑(bytesL bs).length : Int)) ∧
 ∃ (n : Int),
 takeAt PZ (nat_lit 5) (bytesL bs) (↑x : Int).toNat (nat_lit 0) = some (AV.int IntKind.u8 n) ∧
 (0 : Int) ≤ (8 : Int) ∧
 ((0 : Int) ≤
 IntKind.u8.wrap
 (↑(BitVec.ofInt IntKind.u8.bits (IntKind.u8.wrap (extR (notC c) (List.take x bs))) ^^^ BitVec.ofInt IntKind.u8.bits n).toNat :
 Int) ∧
 IntKind.u8.wrap
 (↑(BitVec.ofInt IntKind.u8.bits (IntKind.u8.wrap (extR (notC c) (List.take x bs))) ^^^ BitVec.ofInt IntKind.u8.bits n).toNat :
 Int) <
 (256 : Int)) ∧
 ∃ (n_1 : Int),
 takeA (some false) (some (nat_lit 1)) keptTab
 (nat_lit 0 +
 (IntKind.u8.wrap
 (↑(BitVec.ofInt IntKind.u8.bits (IntKind.u8.wrap (extR (notC c) (List.take x bs))) ^^^
 BitVec.ofInt IntKind.u8.bits n).toNat :
 Int)).toNat *
 nat_lit 1) =
 some (AV.int IntKind.u32 n_1) ∧
 ∃ (y : Nat),
 ValsAre
 [AV.ptr (nat_lit 0) (nat_lit 0),
 AV.int IntKind.u32
 (IntKind.u32.wrap
 (↑(BitVec.ofInt IntKind.u32.bits
 ((extR (notC c) (List.take x bs)).fdiv ((2 : Int) ^ min (Int.toNat (8 : Int)) IntKind.u32.bits)) ^^^
 BitVec.ofInt IntKind.u32.bits n_1).toNat :
 Int)),
 AV.sl (nat_lit 1) (bytesL bs) Own.no, AV.int IntKind.i64 (↑bs.length : Int),
 AV.int IntKind.i64 (IntKind.i64.wrap ((↑x : Int) + (1 : Int)))]
 [AV.ptr (nat_lit 0) (nat_lit 0), AV.int IntKind.u32 (extR (notC c) (List.take y bs)), AV.sl (nat_lit 1) (bytesL bs) Own.no,
 AV.int IntKind.i64 (↑bs.length : Int), AV.int IntKind.i64 (↑y : Int)] ∧
 StIs { boxes := [some keptTab], live := [] } { boxes := [some keptTab], live := [] } ∧
 y ≤ bs.length ∧ bs.length - y < bs.length - x) ∧
 (decide ((↑x : Int) < (↑bs.length : Int)) = false →
 RetIs
 (AV.int IntKind.u32
 (IntKind.u32.wrap
 (↑(BitVec.ofInt IntKind.u32.bits (if IntKind.u32.signed = true then (-1 : Int) else IntKind.u32.max) ^^^
 BitVec.ofInt IntKind.u32.bits (extR (notC c) (List.take x bs))).toNat :
 Int)))
 [] (AV.int IntKind.u32 r, []))) := by kernel_rfl
theorem w57 (m r : Int) (bs : List UInt8) : (pureW PZ (GZ m) XC (tbl [(86, s86)]) (itbl []) nAn [] 57 [bytesA bs] (.int .u32 r, [])) =
(∃ (n : Int),
  CallIs (tbl [(nat_lit 86, s86)] (nat_lit 86) [AV.int IntKind.u32 (0 : Int), AV.sl (nat_lit 1) (bytesL bs) Own.no]) (AV.int IntKind.u32 n) [] ∧
    RetIs (AV.int IntKind.u32 n) [] (AV.int IntKind.u32 r, [])) := by kernel_rfl
theorem w25 (m : Int) (bs cs r : List UInt8) : (pureW PZ (GZ m) XC (tbl [(56, s56), (57, s57)]) (itbl []) nAn [] 25 [bytesA bs, bytesA cs] (ownR r)) =
(∃ (es : List AV),
  CallIs
      (tbl [(nat_lit 56, s56), (nat_lit 57, s57)] (nat_lit 56)
        [AV.sl (nat_lit 1) (bytesL bs) Own.no, AV.int IntKind.u64 (IntKind.u64.wrap (↑(bytesL cs).length : Int))])
      (AV.sl (nat_lit 1) es (Own.tok (nat_lit 0))) [(es.length, nat_lit 5)] ∧
    (nat_lit 1 = nat_lit 1 ∨ es = []) ∧
      (es.length + (bytesL cs).length) * nat_lit 2 ≤ nat_lit 70368744177664 ∧
        es.length = es.length ∧
 ∃ (n : Int),
 CallIs (tbl [(nat_lit 56, s56), (nat_lit 57, s57)] (nat_lit 57) [AV.sl (nat_lit 1) (bytesL cs) Own.no]) (AV.int IntKind.u32 n) [] ∧
 (0 : Int) ≤ (8 : Int) ∧
 (0 : Int) ≤ (16 : Int) ∧
 (0 : Int) ≤ (24 : Int) ∧
 (nat_lit 1 = nat_lit 1 ∨ es ++ bytesL cs = []) ∧
 ((es ++ bytesL cs).length + (4 : Nat)) * nat_lit 2 ≤ nat_lit 70368744177664 ∧
 es.length + (bytesL cs).length = (es ++ bytesL cs).length ∧
 ((es ++ bytesL cs).length + nat_lit 4, nat_lit 5).fst =
 (es ++ bytesL cs ++
 [AV.int IntKind.u8 (IntKind.u8.wrap n), AV.int IntKind.u8 (IntKind.u8.wrap (n.fdiv (256 : Int))),
 AV.int IntKind.u8 (IntKind.u8.wrap (n.fdiv (65536 : Int))),
 AV.int IntKind.u8 (IntKind.u8.wrap (n.fdiv (16777216 : Int)))]).length ∧
 RetIs
 (AV.sl (nat_lit 1)
 (es ++ bytesL cs ++
 [AV.int IntKind.u8 (IntKind.u8.wrap n), AV.int IntKind.u8 (IntKind.u8.wrap (n.fdiv (256 : Int))),
 AV.int IntKind.u8 (IntKind.u8.wrap (n.fdiv (65536 : Int))), AV.int IntKind.u8 (IntKind.u8.wrap (n.fdiv (16777216 : Int)))])
 (Own.tok (nat_lit 0)))
 [((es ++ bytesL cs).length + nat_lit 4, nat_lit 5)] (AV.sl (nat_lit 1) (bytesL r) (Own.tok (nat_lit 0)), [(r.length, nat_lit 5)])) := by kernel_rfl
end Go.Abs

namespace Go.Abs
open Go.Proofs Go.RowKit Go.Wire
theorem tabV_get {i : Nat} (h : i < 256) : (tabV 256)[i]? = some (.int .u32 (crcR 8 (i : Int))) := by
  unfold tabV
  rw [Array.getElem?_append_left (by simpa using h)]
  simp [h]
theorem o104 (m : Int) : SpecOk PZ (GZ m) 104 s104 := by
  intro g args r lv h E w vs hI hG hn' hv hcl
  simp only at h
  split at h
  · rename_i e
    subst e
    unfold s104 at h
    split at h
    · simp only [Option.some.injEq, Prod.mk.injEq] at h
      obtain ⟨rfl, rfl⟩ := h
      obtain rfl : vs = #[] := by simpa using hn'
      refine .inl ⟨goodZ (by kernel_rfl), (table_calls w).mono fun e w' ⟨he, hb⟩ => ⟨_, he, res_below hb fun B K => ?_⟩⟩
      refine .agg _ _ (by rw [tabV_size (Nat.le_refl _)]; simp [keptTab]) (fun i v hi => ?_) fun i c v hc hi => ?_
      · exact (Array.all_eq_true_iff_forall_mem.1 (tabV_one 256)) v (Array.mem_of_getElem? hi)
      · have hlt : i < 256 := by
          have := (List.getElem?_eq_some_iff.1 hc).1
          simpa [keptTab] using this
        rw [tabV_get hlt] at hi
        injection hi with hi; subst hi
        simp only [keptTab, List.getElem?_map, List.getElem?_range hlt, Option.map_some, Option.some.injEq] at hc
        subst hc
        exact .int _ _
    · cases h
  · cases h
theorem tabAt {i : Nat} (h : i < 256) : takeA (some false) (some 1) keptTab i = some (.int .u32 (crcR 8 (i : Int))) := by
  simp only [takeA, keptTab, List.getElem?_map, List.getElem?_range h, Option.map_some, crcE]
theorem takeByte {l : List UInt8} {x : Nat} (h : x < l.length) : takeAt PZ 5 (bytesL l) x 0 = some (.int .u8 (l.getD x 0).toNat) := by
  have ha : aggA PZ 5 = some false := by kernel_rfl
  have hs : ∃ s, sizeA PZ 5 = some s := ⟨1, by kernel_rfl⟩
  obtain ⟨s, hs⟩ := hs
  simp [takeAt, ha, hs, takeA, bytesL, h, AV.cells]
theorem ext_take (x : Int) (l : List UInt8) (i : Nat) (h : i < l.length) : extR x (l.take (i + 1)) = ext1 (extR x (l.take i)) (l.getD i 0) := by
  unfold extR
  rw [List.take_succ_eq_append_getElem h, List.foldl_append]
  simp [h]
theorem keptTab_eq : keptTab = (keptTab.map id) := by simp
theorem p86 (m c : Int) (bs : List UInt8) (hs : strOk bs) : PureOk PZ (GZ m) XC (tbl [(104, s104)]) (itbl []) (a86 c bs) [] 86 [.int .u32 c, bytesA bs] (.int .u32 (extC c bs), []) := by
  have h1 : bs.length ≤ 1000000 := hs
  constructor
  generalize hr : extC c bs = r
  rw [w86]
  refine ⟨⟨rfl⟩, ⟨0, ⟨?_⟩, ⟨by kernel_rfl⟩, Nat.zero_le _, trivial⟩, fun x hx => ⟨fun hlt => ?_, fun hge => ?_⟩⟩
  · simp only [List.take_zero, bytesL_length]
    rfl
  · have hlt' : x < bs.length := by simpa using hlt
    refine ⟨⟨by omega, by rw [bytesL_length]; omega⟩, _, takeByte hlt', by omega, ?_, ?_⟩
    · rw [wrapu8]; omega
    · have hw : ∀ y : Int, (IntKind.u8.wrap y).toNat < 256 ∧ ((IntKind.u8.wrap y).toNat : Int) = IntKind.u8.wrap y := fun y => by rw [wrapu8]; omega
      refine ⟨_, by rw [Nat.zero_add, Nat.mul_one]; exact tabAt (hw _).1, x + 1, ⟨?_⟩, ⟨rfl⟩, by omega, by omega⟩
      rw [(hw _).2, ext_take _ _ _ hlt']
      have : IntKind.i64.wrap ((x : Int) + 1) = ((x + 1 : Nat) : Int) := by rw [wrapi64]; omega
      rw [this]
      rfl
  · have : bs.length ≤ x := by simpa using hge
    obtain rfl : x = bs.length := by omega
    refine ⟨?_⟩
    rw [List.take_length, ← hr]
    rfl
end Go.Abs
