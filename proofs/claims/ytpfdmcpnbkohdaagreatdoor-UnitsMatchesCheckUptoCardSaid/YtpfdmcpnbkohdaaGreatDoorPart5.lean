/- Own texts, part 5. -/
import Derived.Test.YtpfdmcpnbkohdaaGreatDoorPart4
import Derived.Sort.Walk0
import Derived.BigQuiet
import Derived.Lib.AtoiErrMem
import Derived.Lib.AppendIntMem
import Derived.Lib.ItoaLen

namespace Go.Abs
open Go.Proofs Go.RowKit
structure Fac where
  s : List UInt8
  e : Int
  deriving DecidableEq
instance : Inhabited Fac := ⟨⟨[], 0⟩⟩
def facA (a : Fac) : AV := .agg [.str a.s, .int .i64 a.e]
abbrev facsL (l : List Fac) : List AV := l.map facA
def unF : AV → Option Fac
  | .agg [.str s, .int .i64 e] => some ⟨s, e⟩
  | _ => none
def unL {α : Type} (f : AV → Option α) : List AV → Option (List α)
  | [] => some []
  | x :: l => match f x, unL f l with
    | some a, some b => some (a :: b)
    | _, _ => none
theorem unF_some {x : AV} {t : Fac} (h : unF x = some t) : x = facA t := by
  unfold unF at h
  split at h
  · injection h with h; subst h; rfl
  · cases h
theorem unL_mk {α : Type} {f : AV → Option α} {g : α → AV} (h : ∀ a, f (g a) = some a) : ∀ l : List α, unL f (l.map g) = some l
  | [] => rfl
  | a :: l => by simp only [List.map_cons, unL, h, unL_mk h l]
theorem unL_some {α : Type} {f : AV → Option α} {g : α → AV} (h : ∀ x a, f x = some a → x = g a) : ∀ {es : List AV} {l : List α}, unL f es = some l → es = l.map g
  | [], l, he => by simp only [unL, Option.some.injEq] at he; subst he; rfl
  | x :: es, l, he => by
    simp only [unL] at he
    split at he
    · rename_i a b h1 h2
      injection he with he; subst he
      rw [h x a h1, unL_some h h2]; rfl
    · cases he
theorem unFs (l : List Fac) : unL unF (facsL l) = some l := unL_mk (g := facA) (fun _ => rfl) l
theorem unFs_some {es : List AV} {l : List Fac} (h : unL unF es = some l) : es = facsL l := unL_some (fun _ _ h => unF_some h) h
theorem wkF {sz : Nat} {es : List AV} {o : Own} {l : List Fac} (hz : sz = 2 ∨ es = []) (hb : unL unF es = some l) : wkA 2 (.sl sz es o) = .sl 2 (facsL l) .no := by
  obtain rfl := unFs_some hb
  rcases hz with rfl | hz
  · cases l <;> rfl
  · have : l = [] := by simpa using hz
    subst this; rfl
/-- a list of factors as an argument -/
def sF (f : List Fac → Option (AV × List (Nat × TypeId))) : Spec := fun args => match args with
  | [.sl sz es _] => if sz = 2 ∨ es = [] then (unL unF es).bind f else none
  | _ => none
def sF2 (f : List Fac → List Fac → Option (AV × List (Nat × TypeId))) : Spec := fun args => match args with
  | [.sl sz es _, .sl sz' es' _] => if (sz = 2 ∨ es = []) ∧ (sz' = 2 ∨ es' = []) then (unL unF es).bind fun l => (unL unF es').bind fun r => f l r else none
  | _ => none
/-- no list that a machine can hold is longer -/
def lenOk (l : List Fac) : Prop := l.length ≤ 1000000000
instance (l : List Fac) : Decidable (lenOk l) := inferInstanceAs (Decidable (_ ≤ _))
/-! ### Check -/
def farB (n : Int) : Bool := decide (8 < n ∨ n < -8)
def leP (p : Option (List UInt8)) (s : List UInt8) : Bool :=
  match p with
  | some q => Op.bytesLess s q || s == q
  | none => false
def chk (p : Option (List UInt8)) : List Fac → Int
  | [] => 0
  | f :: t =>
    if wordB f.s = false then 1
    else if f.e = 0 ∨ farB f.e = true then 70
    else if leP p f.s = true then 3
    else chk (some f.s) t
def checkF (l : List Fac) : Int := if 4 < l.length then 2 else chk none l
def s13 : Spec := sF fun l => some (.int .i64 (checkF l), [])
/-! ### Normal -/
def putS : List (List UInt8 × Int) → List UInt8 → Int → List (List UInt8 × Int)
  | [], s, e => [(s, e)]
  | (t, x) :: m, s, e => if t == s then (t, x + e) :: m else (t, x) :: putS m s e
def sumsL : List Fac → List (List UInt8 × Int) → List (List UInt8 × Int)
  | [], m => m
  | f :: l, m => sumsL l (putS m f.s f.e)
def encP (p : List UInt8 × Int) : AV := .tup [.str p.1, wideA p.2]
def getS (m : List (List UInt8 × Int)) (s : List UInt8) : Int :=
  match m with
  | [] => 0
  | (t, x) :: m => if t == s then x else getS m s
def namesOf (l : List Fac) : List (List UInt8) := keptSort ((sumsL l []).map (·.1))
def pickF (m : List (List UInt8 × Int)) : List (List UInt8) → List Fac
  | [] => []
  | s :: t => if getS m s = 0 then pickF m t else ⟨s, getS m s⟩ :: pickF m t
def normP (l : List Fac) : List Fac × Int :=
  if (l.all fun f => wordB f.s) = false then ([], 1)
  else if (namesOf l).any (fun s => farB (getS (sumsL l []) s)) then ([], 70)
  else if 4 < (pickF (sumsL l []) (namesOf l)).length then ([], 2)
  else (pickF (sumsL l []) (namesOf l), 0)
def facR (r : List Fac × Int) : AV × List (Nat × TypeId) := (.tup [.sl 2 (facsL r.1) .no, .int .i64 r.2], [])
def s11 : Spec := sF fun l => if lenOk l ∧ (∀ f ∈ l, iOk f.e) then some (facR (normP l)) else none
def shFI : Sh × Option TypeId := (.tup [.one (.sl 2 .no), .one (.int .i64)], none)
def XF : Shapes := fun f => match f with
  | 47 | 121 | 50 => some sh2U
  | 28 | 97 | 65 | 29 => some shW
  | 49 => some shU2
  | 31 => some shIB
  | 27 | 32 | 20 | 39 => some shB
  | 13 => some shI
  | 11 | 37 | 16 | 18 => some shFI
  | _ => none
def a13 (l : List Fac) : Anns := ⟨fun k => if k = 4 then some { α := Nat, slots := [0, 8, 9, 10], nb := 0, vals := fun i => [.sl 2 (facsL l) .no, .sl 2 (facsL l) .no, .int .i64 l.length, .int .i64 i], sS := fun _ => ⟨[], []⟩, I := fun i => i ≤ l.length ∧ l.length ≤ 4 ∧ chk none l = chk (if i = 0 then none else some (l.getD (i - 1) default).s) (l.drop i), μ := fun i => l.length - i } else none, nA⟩
def mapL (l : List Fac) (i : Nat) : List (List UInt8 × Int) := sumsL (l.take i) []
def boxM (n : Nat) (m : List (List UInt8 × Int)) : List AV := mapC 41 n (m.map encP)
def outL (l : List Fac) (i : Nat) : List Fac := pickF (sumsL l []) ((namesOf l).take i)
def a11 (l : List Fac) : Anns := ⟨fun k => match k with
  | 3 => some { α := Nat, slots := [2, 4, 12, 13, 14], nb := 1, vals := fun i => [.sl 0 [] .nil, .mp 0, .sl 2 (facsL l) .no, .int .i64 l.length, .int .i64 i], sS := fun i => ⟨[some (boxM i (mapL l i))], []⟩, I := fun i => i ≤ l.length ∧ ((l.take i).all fun f => wordB f.s) = true, μ := fun i => l.length - i }
  | 10 => some { α := Nat, slots := [2, 4, 35, 36, 37], nb := 1, vals := fun i => [.sl 2 (facsL (outL l i)) (.tok 0), .mp 0, .sl 1 ((namesOf l).map AV.str) .no, .int .i64 (namesOf l).length, .int .i64 i], sS := fun i => ⟨[some (boxM l.length (sumsL l []))], [((outL l i).length, 37)]⟩, I := fun i => i ≤ (namesOf l).length ∧ ((namesOf l).take i).any (fun s => farB (getS (sumsL l []) s)) = false, μ := fun i => (namesOf l).length - i, mint := [(2, 37)] }
  | _ => none, nA⟩
end Go.Abs

namespace Go.Abs
open Go.Proofs Go.RowKit
theorem w13 (m : Int) (l : List Fac) : (pureW PU (GU m) XF (tbl [(27, s27), (32, s32)]) (itbl []) (a13 l) [] 13 [.sl 2 (facsL l) .no] (.int .i64 (checkF l), [])) =
((decide ((↑(facsL l).length : Int) > (4 : Int)) = true → RetIs (AV.int IntKind.i64 (2 : Int)) [] (AV.int IntKind.i64 (checkF l), [])) ∧
  (decide ((↑(facsL l).length : Int) > (4 : Int)) = false →
    (∃ (y : Nat),
        ValsAre
 [AV.sl (nat_lit 2) (facsL l) Own.no, AV.sl (nat_lit 2) (facsL l) Own.no, AV.int IntKind.i64 (↑(facsL l).length : Int), AV.int IntKind.i64 (0 : Int)]
 [AV.sl (nat_lit 2) (facsL l) Own.no, AV.sl (nat_lit 2) (facsL l) Own.no, AV.int IntKind.i64 (↑l.length : Int), AV.int IntKind.i64 (↑y : Int)] ∧
 StIs { boxes := [], live := [] } { boxes := [], live := [] } ∧
 (y ≤ l.length ∧ l.length ≤ (4 : Nat) ∧ chk none l = chk (if y = (0 : Nat) then none else some (l.getD (y - (1 : Nat)) default).s) (List.drop y l)) ∧
 True) ∧
      ∀ (x : Nat),
        x ≤ l.length ∧ l.length ≤ (4 : Nat) ∧ chk none l = chk (if x = (0 : Nat) then none else some (l.getD (x - (1 : Nat)) default).s) (List.drop x l) →
 (decide ((↑x : Int) < (↑l.length : Int)) = true →
 ((0 : Int) ≤ (↑x : Int) ∧ (↑x : Int) < (↑(facsL l).length : Int)) ∧
 ∃ (s : List UInt8),
 ∃ (n : Int),
 takeAt PU (nat_lit 37) (facsL l) (↑x : Int).toNat (nat_lit 0) = some (AV.agg [AV.str s, AV.int IntKind.i64 n]) ∧
 ∃ (b : Bool),
 CallIs (some (AV.bool (wordB s), [])) (AV.bool b) [] ∧
 (b = true →
 ((n == (0 : Int)) = true → RetIs (AV.int IntKind.i64 (70 : Int)) [] (AV.int IntKind.i64 (checkF l), [])) ∧
 ((n == (0 : Int)) = false →
 ∃ (b : Bool),
 CallIs (some (AV.bool (decide ((8 : Int) < n ∨ n < (-8 : Int))), [])) (AV.bool b) [] ∧
 (b = true → RetIs (AV.int IntKind.i64 (70 : Int)) [] (AV.int IntKind.i64 (checkF l), [])) ∧
 (b = false →
 (decide ((↑x : Int) > (0 : Int)) = true →
 ((0 : Int) ≤ IntKind.i64.wrap ((↑x : Int) - (1 : Int)) ∧
 IntKind.i64.wrap ((↑x : Int) - (1 : Int)) < (↑(facsL l).length : Int)) ∧
 ∃ (s_1 : List UInt8),
 takeAt PU (nat_lit 9) (facsL l) (IntKind.i64.wrap ((↑x : Int) - (1 : Int))).toNat (nat_lit 0) =
 some (AV.str s_1) ∧
 ((Op.bytesLess s s_1 || s == s_1) = true →
 RetIs (AV.int IntKind.i64 (3 : Int)) [] (AV.int IntKind.i64 (checkF l), [])) ∧
 ((Op.bytesLess s s_1 || s == s_1) = false →
 ∃ (y : Nat),
 ValsAre
 [AV.sl (nat_lit 2) (facsL l) Own.no, AV.sl (nat_lit 2) (facsL l) Own.no,
 AV.int IntKind.i64 (↑l.length : Int),
 AV.int IntKind.i64 (IntKind.i64.wrap ((↑x : Int) + (1 : Int)))]
 [AV.sl (nat_lit 2) (facsL l) Own.no, AV.sl (nat_lit 2) (facsL l) Own.no,
 AV.int IntKind.i64 (↑l.length : Int), AV.int IntKind.i64 (↑y : Int)] ∧
 StIs { boxes := [], live := [] } { boxes := [], live := [] } ∧
 (y ≤ l.length ∧
 l.length ≤ (4 : Nat) ∧
 chk none l =
 chk (if y = (0 : Nat) then none else some (l.getD (y - (1 : Nat)) default).s)
 (List.drop y l)) ∧
 l.length - y < l.length - x)) ∧
 (decide ((↑x : Int) > (0 : Int)) = false →
 ∃ (y : Nat),
 ValsAre
 [AV.sl (nat_lit 2) (facsL l) Own.no, AV.sl (nat_lit 2) (facsL l) Own.no,
 AV.int IntKind.i64 (↑l.length : Int), AV.int IntKind.i64 (IntKind.i64.wrap ((↑x : Int) + (1 : Int)))]
 [AV.sl (nat_lit 2) (facsL l) Own.no, AV.sl (nat_lit 2) (facsL l) Own.no,
 AV.int IntKind.i64 (↑l.length : Int), AV.int IntKind.i64 (↑y : Int)] ∧
 StIs { boxes := [], live := [] } { boxes := [], live := [] } ∧
 (y ≤ l.length ∧
 l.length ≤ (4 : Nat) ∧
 chk none l =
 chk (if y = (0 : Nat) then none else some (l.getD (y - (1 : Nat)) default).s) (List.drop y l)) ∧
 l.length - y < l.length - x)))) ∧
 (b = false → RetIs (AV.int IntKind.i64 (1 : Int)) [] (AV.int IntKind.i64 (checkF l), []))) ∧
 (decide ((↑x : Int) < (↑l.length : Int)) = false → RetIs (AV.int IntKind.i64 (0 : Int)) [] (AV.int IntKind.i64 (checkF l), [])))) := by kernel_rfl
theorem w11 (m : Int) (l : List Fac) : (laxW PU (GU m) XF (tbl [(27, s27), (28, s28), (29, s29), (31, s31), (32, s32)]) (itbl [(30, s30)]) (a11 l) [] 11 [.sl 2 (facsL l) .no] (facR (normP l))) =
((∃ (y : Nat),
    ValsAre
        [AV.sl (nat_lit 0) [] Own.nil, AV.mp (nat_lit 0), AV.sl (nat_lit 2) (facsL l) Own.no, AV.int IntKind.i64 (↑(facsL l).length : Int),
 AV.int IntKind.i64 (0 : Int)]
        [AV.sl (nat_lit 0) [] Own.nil, AV.mp (nat_lit 0), AV.sl (nat_lit 2) (facsL l) Own.no, AV.int IntKind.i64 (↑l.length : Int),
 AV.int IntKind.i64 (↑y : Int)] ∧
      StIs { boxes := [some [AV.tup [AV.int IntKind.i64 (41 : Int), AV.int IntKind.i64 (0 : Int), AV.tup []]]], live := [] }
 { boxes := [some [AV.tup [AV.int IntKind.i64 (41 : Int), AV.int IntKind.i64 (↑y : Int), AV.tup (List.map encP (mapL l y))]]], live := [] } ∧
        (y ≤ l.length ∧ ((List.take y l).all fun (f : Fac) => wordB f.s) = true) ∧ True) ∧
  ∀ (x : Nat),
    x ≤ l.length ∧ ((List.take x l).all fun (f : Fac) => wordB f.s) = true →
      (decide ((↑x : Int) < (↑l.length : Int)) = true →
 ((0 : Int) ≤ (↑x : Int) ∧ (↑x : Int) < (↑(facsL l).length : Int)) ∧
 ∃ (s : List UInt8),
 ∃ (n : Int),
 takeAt PU (nat_lit 37) (facsL l) (↑x : Int).toNat (nat_lit 0) = some (AV.agg [AV.str s, AV.int IntKind.i64 n]) ∧
 ∃ (b : Bool),
 CallIs (some (AV.bool (wordB s), [])) (AV.bool b) [] ∧
 (b = true →
 KeyIs PU (nat_lit 9) (AV.str s) ∧
 ∃ (n_1 : Int),
 ∃ (n_2 : Int),
 LookIs (List.map encP (mapL l x)) (AV.str s) (AV.agg [AV.int IntKind.i64 (0 : Int), AV.int IntKind.u64 (0 : Int)])
 (AV.agg [AV.int IntKind.i64 n_1, AV.int IntKind.u64 n_2]) ∧
 ∃ (n_3 : Int),
 ∃ (n_4 : Int),
 CallIs
 (tbl [(nat_lit 27, s27), (nat_lit 28, s28), (nat_lit 29, s29), (nat_lit 31, s31), (nat_lit 32, s32)] (nat_lit 29)
 [AV.int IntKind.i64 n])
 (AV.agg [AV.int IntKind.i64 n_3, AV.int IntKind.u64 n_4]) [] ∧
 ∃ (n : Int),
 ∃ (n_5 : Int),
 CallIs
 (tbl [(nat_lit 27, s27), (nat_lit 28, s28), (nat_lit 29, s29), (nat_lit 31, s31), (nat_lit 32, s32)]
 (nat_lit 28)
 [AV.agg [AV.int IntKind.i64 n_1, AV.int IntKind.u64 n_2],
 AV.agg [AV.int IntKind.i64 n_3, AV.int IntKind.u64 n_4]])
 (AV.agg [AV.int IntKind.i64 n, AV.int IntKind.u64 n_5]) [] ∧
 True ∧
 KeyIs PU (nat_lit 9) (AV.str s) ∧
 ValIs (AV.agg [AV.int IntKind.i64 n, AV.int IntKind.u64 n_5]) ∧
 (0 : Int) ≤ (↑x : Int) ∧
 (↑x : Int) < (70368744177664 : Int) ∧
 ∃ (y : Nat),
 ValsAre
 [AV.sl (nat_lit 0) [] Own.nil, AV.mp (nat_lit 0), AV.sl (nat_lit 2) (facsL l) Own.no,
 AV.int IntKind.i64 (↑l.length : Int),
 AV.int IntKind.i64 (IntKind.i64.wrap ((↑x : Int) + (1 : Int)))]
 [AV.sl (nat_lit 0) [] Own.nil, AV.mp (nat_lit 0), AV.sl (nat_lit 2) (facsL l) Own.no,
 AV.int IntKind.i64 (↑l.length : Int), AV.int IntKind.i64 (↑y : Int)] ∧
 StIs
 { boxes := [some [AV.tup [AV.int IntKind.i64 (41 : Int), AV.int IntKind.i64 ((↑x : Int) + (1 : Int)), AV.tup (keptPutM (List.map encP (mapL l x)) (AV.str s) (AV.agg [AV.int IntKind.i64 n, AV.int IntKind.u64 n_5]))]]], live := [] }
 { boxes := [some [AV.tup [AV.int IntKind.i64 (41 : Int), AV.int IntKind.i64 (↑y : Int), AV.tup (List.map encP (mapL l y))]]], live := [] } ∧
 (y ≤ l.length ∧ ((List.take y l).all fun (f : Fac) => wordB f.s) = true) ∧
 l.length - y < l.length - x) ∧
 (b = false →
 RetLax (AV.tup [AV.sl (nat_lit 0) [] Own.nil, AV.int IntKind.i64 (1 : Int)])
 (AV.tup [AV.sl (nat_lit 2) (facsL (normP l).fst) Own.no, AV.int IntKind.i64 (normP l).snd], []))) ∧
        (decide ((↑x : Int) < (↑l.length : Int)) = false →
 ((keysM (List.map encP (mapL l x))).Nodup ∧ (↑x : Int) ≤ (1000000000000 : Int)) ∧
 (∃ (y : Nat),
 ValsAre
 [AV.sl (nat_lit 2) [] (Own.tok (0 : Nat)), AV.mp (nat_lit 0),
 AV.sl (nat_lit 1) (List.map AV.str (keptSort (keysM (List.map encP (mapL l x))))) Own.no,
 AV.int IntKind.i64 (↑(List.map AV.str (keptSort (keysM (List.map encP (mapL l x))))).length : Int), AV.int IntKind.i64 (0 : Int)]
 [AV.sl (nat_lit 2) (facsL (outL l y)) (Own.tok (nat_lit 0)), AV.mp (nat_lit 0), AV.sl (nat_lit 1) (List.map AV.str (namesOf l)) Own.no,
 AV.int IntKind.i64 (↑(namesOf l).length : Int), AV.int IntKind.i64 (↑y : Int)] ∧
 StIs
 { boxes := [some [AV.tup [AV.int IntKind.i64 (41 : Int), AV.int IntKind.i64 (↑x : Int), AV.tup (List.map encP (mapL l x))]]], live := [(nat_lit 0, nat_lit 37)] }
 { boxes := [some [AV.tup [AV.int IntKind.i64 (41 : Int), AV.int IntKind.i64 (↑l.length : Int), AV.tup (List.map encP (sumsL l []))]]], live := [((outL l y).length, nat_lit 37)] } ∧
 (y ≤ (namesOf l).length ∧ ((List.take y (namesOf l)).any fun (s : List UInt8) => farB (getS (sumsL l []) s)) = false) ∧ True) ∧
 ∀ (x : Nat),
 x ≤ (namesOf l).length ∧ ((List.take x (namesOf l)).any fun (s : List UInt8) => farB (getS (sumsL l []) s)) = false →
 (decide ((↑x : Int) < (↑(namesOf l).length : Int)) = true →
 ((0 : Int) ≤ (↑x : Int) ∧ (↑x : Int) < (↑(List.map AV.str (namesOf l)).length : Int)) ∧
 ∃ (s : List UInt8),
 takeAt PU (nat_lit 9) (List.map AV.str (namesOf l)) (↑x : Int).toNat (nat_lit 0) = some (AV.str s) ∧
 KeyIs PU (nat_lit 9) (AV.str s) ∧
 ∃ (n : Int),
 ∃ (n_1 : Int),
 LookIs (List.map encP (sumsL l [])) (AV.str s) (AV.agg [AV.int IntKind.i64 (0 : Int), AV.int IntKind.u64 (0 : Int)])
 (AV.agg [AV.int IntKind.i64 n, AV.int IntKind.u64 n_1]) ∧
 ∃ (n_2 : Int),
 ∃ (b : Bool),
 CallIs
 (tbl [(nat_lit 27, s27), (nat_lit 28, s28), (nat_lit 29, s29), (nat_lit 31, s31), (nat_lit 32, s32)] (nat_lit 31)
 [AV.agg [AV.int IntKind.i64 n, AV.int IntKind.u64 n_1], AV.int IntKind.i64 (1 : Int)])
 (AV.tup [AV.int IntKind.i64 n_2, AV.bool b]) [] ∧
 (b = true →
 ∃ (b : Bool),
 CallIs (some (AV.bool (decide ((8 : Int) < n_2 ∨ n_2 < (-8 : Int))), [])) (AV.bool b) [] ∧
 (b = true →
 RetLax (AV.tup [AV.sl (nat_lit 0) [] Own.nil, AV.int IntKind.i64 (70 : Int)])
 (AV.tup [AV.sl (nat_lit 2) (facsL (normP l).fst) Own.no, AV.int IntKind.i64 (normP l).snd], [])) ∧
 (b = false →
 ((n_2 != (0 : Int)) = true →
 (nat_lit 2 = nat_lit 2 ∨ facsL (outL l x) = []) ∧
 ((facsL (outL l x)).length + (1 : Nat)) * nat_lit 25 ≤ nat_lit 70368744177664 ∧
 (outL l x).length = (facsL (outL l x)).length ∧
 ∃ (y : Nat),
 ValsAre
 [AV.sl (nat_lit 2) (facsL (outL l x) ++ [AV.agg [AV.str s, AV.int IntKind.i64 n_2]])
 (Own.tok (nat_lit 0)),
 AV.mp (nat_lit 0), AV.sl (nat_lit 1) (List.map AV.str (namesOf l)) Own.no,
 AV.int IntKind.i64 (↑(namesOf l).length : Int),
 AV.int IntKind.i64 (IntKind.i64.wrap ((↑x : Int) + (1 : Int)))]
 [AV.sl (nat_lit 2) (facsL (outL l y)) (Own.tok (nat_lit 0)), AV.mp (nat_lit 0),
 AV.sl (nat_lit 1) (List.map AV.str (namesOf l)) Own.no,
 AV.int IntKind.i64 (↑(namesOf l).length : Int), AV.int IntKind.i64 (↑y : Int)] ∧
 StIs
 { boxes := [some [AV.tup [AV.int IntKind.i64 (41 : Int), AV.int IntKind.i64 (↑l.length : Int), AV.tup (List.map encP (sumsL l []))]]], live := [((facsL (outL l x)).length + nat_lit 1, nat_lit 37)] }
 { boxes := [some [AV.tup [AV.int IntKind.i64 (41 : Int), AV.int IntKind.i64 (↑l.length : Int), AV.tup (List.map encP (sumsL l []))]]], live := [((outL l y).length, nat_lit 37)] } ∧
 (y ≤ (namesOf l).length ∧
 ((List.take y (namesOf l)).any fun (s : List UInt8) => farB (getS (sumsL l []) s)) =
 false) ∧
 (namesOf l).length - y < (namesOf l).length - x) ∧
 ((n_2 != (0 : Int)) = false →
 ∃ (y : Nat),
 ValsAre
 [AV.sl (nat_lit 2) (facsL (outL l x)) (Own.tok (nat_lit 0)), AV.mp (nat_lit 0),
 AV.sl (nat_lit 1) (List.map AV.str (namesOf l)) Own.no,
 AV.int IntKind.i64 (↑(namesOf l).length : Int),
 AV.int IntKind.i64 (IntKind.i64.wrap ((↑x : Int) + (1 : Int)))]
 [AV.sl (nat_lit 2) (facsL (outL l y)) (Own.tok (nat_lit 0)), AV.mp (nat_lit 0),
 AV.sl (nat_lit 1) (List.map AV.str (namesOf l)) Own.no,
 AV.int IntKind.i64 (↑(namesOf l).length : Int), AV.int IntKind.i64 (↑y : Int)] ∧
 StIs
 { boxes := [some [AV.tup [AV.int IntKind.i64 (41 : Int), AV.int IntKind.i64 (↑l.length : Int), AV.tup (List.map encP (sumsL l []))]]], live := [((outL l x).length, nat_lit 37)] }
 { boxes := [some [AV.tup [AV.int IntKind.i64 (41 : Int), AV.int IntKind.i64 (↑l.length : Int), AV.tup (List.map encP (sumsL l []))]]], live := [((outL l y).length, nat_lit 37)] } ∧
 (y ≤ (namesOf l).length ∧
 ((List.take y (namesOf l)).any fun (s : List UInt8) => farB (getS (sumsL l []) s)) =
 false) ∧
 (namesOf l).length - y < (namesOf l).length - x))) ∧
 (b = false →
 RetLax (AV.tup [AV.sl (nat_lit 0) [] Own.nil, AV.int IntKind.i64 (70 : Int)])
 (AV.tup [AV.sl (nat_lit 2) (facsL (normP l).fst) Own.no, AV.int IntKind.i64 (normP l).snd], []))) ∧
 (decide ((↑x : Int) < (↑(namesOf l).length : Int)) = false →
 (decide ((↑(facsL (outL l x)).length : Int) > (4 : Int)) = true →
 RetLax (AV.tup [AV.sl (nat_lit 0) [] Own.nil, AV.int IntKind.i64 (2 : Int)])
 (AV.tup [AV.sl (nat_lit 2) (facsL (normP l).fst) Own.no, AV.int IntKind.i64 (normP l).snd], [])) ∧
 (decide ((↑(facsL (outL l x)).length : Int) > (4 : Int)) = false →
 RetLax (AV.tup [AV.sl (nat_lit 2) (facsL (outL l x)) (Own.tok (nat_lit 0)), AV.int IntKind.i64 (0 : Int)])
 (AV.tup [AV.sl (nat_lit 2) (facsL (normP l).fst) Own.no, AV.int IntKind.i64 (normP l).snd], []))))) := by kernel_rfl
end Go.Abs

namespace Go.Abs
open Go.Proofs Go.RowKit Go.Maps Go.Sort
theorem keysM_enc (m : List (List UInt8 × Int)) : keysM (m.map encP) = m.map (·.1) := by
  induction m with
  | nil => rfl
  | cons p m ih => simp only [List.map_cons, encP, keysM]; rw [ih]
theorem wide0 : (AV.agg [.int .i64 0, .int .u64 0]) = wideA 0 := by
  unfold wideA; congr 4
theorem look_enc (m : List (List UInt8 × Int)) (s : List UInt8) : (lookM (m.map encP) (.str s)).getD (.agg [.int .i64 0, .int .u64 0]) = wideA (getS m s) := by
  induction m with
  | nil => exact wide0
  | cons p m ih =>
    obtain ⟨t, x⟩ := p
    simp only [List.map_cons, encP, lookM, getS]
    by_cases h : t = s
    · subst h; rw [if_pos (by simp [keyEq]), if_pos (by simp)]; rfl
    · rw [if_neg (by simpa [keyEq] using h), if_neg (by simpa using h)]; exact ih
theorem put_enc (m : List (List UInt8 × Int)) (s : List UInt8) (e : Int) : keptPutM (m.map encP) (.str s) (wideA (getS m s + e)) = (putS m s e).map encP := by
  induction m with
  | nil =>
    simp only [List.map_nil, keptPutM, getS, putS, List.map_cons, encP, Int.zero_add]
  | cons p m ih =>
    obtain ⟨t, x⟩ := p
    simp only [List.map_cons, encP, keptPutM, getS, putS]
    by_cases h : t = s
    · subst h
      rw [if_pos (by simp [keyEq]), if_pos (by simp), if_pos (by simp)]; rfl
    · rw [if_neg (by simpa [keyEq] using h), if_neg (by simpa using h), if_neg (by simpa using h), ih]; rfl
theorem put_keys (m : List (List UInt8 × Int)) (s : List UInt8) (e : Int) : ∀ t, t ∈ (putS m s e).map (·.1) ↔ (t = s ∨ t ∈ m.map (·.1)) := by
  induction m with
  | nil => intro t; simp [putS]
  | cons p m ih =>
    obtain ⟨u, x⟩ := p
    intro t
    simp only [putS]
    by_cases h : u = s
    · subst h; rw [if_pos (by simp)]; simp
    · rw [if_neg (by simpa using h)]
      simp only [List.map_cons, List.mem_cons, ih t]
      constructor
      · rintro (h | h | h)
        · exact .inr (.inl h)
        · exact .inl h
        · exact .inr (.inr h)
      · rintro (h | h | h)
        · exact .inr (.inl h)
        · exact .inl h
        · exact .inr (.inr h)
theorem put_nodup (m : List (List UInt8 × Int)) (s : List UInt8) (e : Int) (h : (m.map (·.1)).Nodup) : ((putS m s e).map (·.1)).Nodup := by
  induction m with
  | nil => simp [putS]
  | cons p m ih =>
    obtain ⟨u, x⟩ := p
    simp only [List.map_cons, List.nodup_cons] at h
    simp only [putS]
    by_cases hu : u = s
    · subst hu; rw [if_pos (by simp)]; simpa using h
    · rw [if_neg (by simpa using hu)]
      simp only [List.map_cons, List.nodup_cons]
      refine ⟨fun hm => ?_, ih h.2⟩
      rcases (put_keys m s e u).1 hm with h' | h'
      · exact hu h'
      · exact h.1 h'
theorem get_put (m : List (List UInt8 × Int)) (s t : List UInt8) (e : Int) : getS (putS m s e) t = if s = t then getS m t + e else getS m t := by
  induction m with
  | nil =>
    simp only [putS, getS]
    by_cases h : s = t
    · rw [if_pos (by simpa using h), if_pos h]; simp
    · rw [if_neg (by simpa using h), if_neg h]
  | cons p m ih =>
    obtain ⟨u, x⟩ := p
    simp only [putS]
    by_cases hu : u = s
    · subst hu
      rw [if_pos (by simp)]
      simp only [getS]
      by_cases h : u = t
      · rw [if_pos (by simpa using h), if_pos h, if_pos (by simpa using h)]
      · rw [if_neg (by simpa using h), if_neg h, if_neg (by simpa using h)]
    · rw [if_neg (by simpa using hu)]
      simp only [getS]
      by_cases h : u = t
      · subst h
        rw [if_pos (by simp), if_neg (Ne.symm hu), if_pos (by simp)]
      · have hut : (u == t) = false := by simpa using h
        rw [ih]; simp [hut]
/-- the sum of the exponents of a name -/
def sumN : List Fac → List UInt8 → Int
  | [], _ => 0
  | f :: l, s => (if f.s = s then f.e else 0) + sumN l s
theorem get_sums : ∀ (l : List Fac) (m : List (List UInt8 × Int)) (s : List UInt8), getS (sumsL l m) s = getS m s + sumN l s
  | [], m, s => by simp [sumsL, sumN]
  | f :: l, m, s => by
    simp only [sumsL, sumN]
    rw [get_sums l _ s, get_put]
    split <;> omega
theorem sums_nodup : ∀ (l : List Fac) (m : List (List UInt8 × Int)), (m.map (·.1)).Nodup → ((sumsL l m).map (·.1)).Nodup
  | [], _m, h => h
  | f :: l, m, h => sums_nodup l _ (put_nodup m f.s f.e h)
theorem sums_keys : ∀ (l : List Fac) (m : List (List UInt8 × Int)) (t : List UInt8), t ∈ (sumsL l m).map (·.1) ↔ ((∃ f ∈ l, f.s = t) ∨ t ∈ m.map (·.1))
  | [], m, t => by simp [sumsL]
  | f :: l, m, t => by
    simp only [sumsL]
    rw [sums_keys l _ t, put_keys]
    constructor
    · rintro (⟨g, hg, rfl⟩ | rfl | h)
      · exact .inl ⟨g, by simp [hg], rfl⟩
      · exact .inl ⟨f, by simp, rfl⟩
      · exact .inr h
    · rintro (⟨g, hg, rfl⟩ | h)
      · rcases List.mem_cons.1 hg with rfl | hg
        · exact .inr (.inl rfl)
        · exact .inl ⟨g, hg, rfl⟩
      · exact .inr (.inr h)
theorem sums_snoc : ∀ (l : List Fac) (m : List (List UInt8 × Int)) (f : Fac), sumsL (l ++ [f]) m = putS (sumsL l m) f.s f.e
  | [], _m, _f => rfl
  | _g :: l, _m, f => sums_snoc l _ f
theorem mapL_succ {l : List Fac} {i : Nat} {f : Fac} (h : l[i]? = some f) : mapL l (i + 1) = putS (mapL l i) f.s f.e := by
  unfold mapL
  rw [List.take_add_one, h]
  exact sums_snoc _ _ _
theorem sumN_bound : ∀ (l : List Fac) (s : List UInt8), (∀ f ∈ l, iOk f.e) → -(l.length * 9223372036854775808 : Int) ≤ sumN l s ∧ sumN l s ≤ l.length * 9223372036854775808
  | [], s, _ => by simp [sumN]
  | f :: l, s, h => by
    have ih := sumN_bound l s fun g hg => h g (by simp [hg])
    have := h f (by simp)
    unfold iOk at this
    simp only [sumN, List.length_cons]
    split <;> omega
theorem getS_mapL (l : List Fac) (i : Nat) (s : List UInt8) : getS (mapL l i) s = sumN (l.take i) s := by
  unfold mapL; rw [get_sums]; simp [getS]
theorem getS_sums (l : List Fac) (s : List UInt8) : getS (sumsL l []) s = sumN l s := by rw [get_sums]; simp [getS]
theorem sum_big {l : List Fac} (hl : lenOk l) (h : ∀ f ∈ l, iOk f.e) (s : List UInt8) : bigOk (sumN l s) := by
  have := sumN_bound l s h
  unfold lenOk at hl
  unfold bigOk
  omega
theorem word_len {s : List UInt8} (h : wordB s = true) : s.length ≤ maxLen := by
  simp only [wordB, Bool.and_eq_true, decide_eq_true_eq] at h
  unfold maxLen; omega
theorem names_iff (l : List Fac) (s : List UInt8) : s ∈ namesOf l ↔ ∃ f ∈ l, f.s = s := by
  unfold namesOf
  rw [(keptSort_perm _).mem_iff, sums_keys]
  simp
theorem names_nodup (l : List Fac) : (namesOf l).Nodup := by
  unfold namesOf
  exact (keptSort_perm _).nodup_iff.2 (sums_nodup l [] (by simp))
theorem pick_snoc (m : List (List UInt8 × Int)) : ∀ (l : List (List UInt8)) (s : List UInt8), pickF m (l ++ [s]) = if getS m s = 0 then pickF m l else pickF m l ++ [⟨s, getS m s⟩]
  | [], s => by simp only [List.nil_append, pickF]
  | t :: l, s => by
    simp only [List.cons_append, pickF]
    rw [pick_snoc m l s]
    split <;> split <;> simp
theorem out_succ {l : List Fac} {i : Nat} {s : List UInt8} (h : (namesOf l)[i]? = some s) : outL l (i + 1) = if getS (sumsL l []) s = 0 then outL l i else outL l i ++ [⟨s, getS (sumsL l []) s⟩] := by
  unfold outL
  rw [List.take_add_one, h]
  exact pick_snoc _ _ _
theorem pick_len (m : List (List UInt8 × Int)) : ∀ l : List (List UInt8), (pickF m l).length ≤ l.length
  | [] => Nat.le_refl _
  | s :: l => by
    have := pick_len m l
    simp only [pickF]
    split
    · simp; omega
    · simp; omega
end Go.Abs

namespace Go.Abs
open Go.Proofs Go.RowKit Go.Maps Go.Sort
theorem retLax_iff {r : AV} {s : AV × List (Nat × TypeId)} : RetLax r s ↔ Lax2 r s.1 ∧ s.1.closed2 = true ∧ s.2 = [] := ⟨fun h => ⟨h.lax, h.closed, h.none⟩, fun h => ⟨h.1, h.2.1, h.2.2⟩⟩
theorem agg37 : aggA PU 37 = some true := by kernel_rfl
theorem size37 : sizeA PU 37 = some 2 := by kernel_rfl
theorem agg9 : aggA PU 9 = some false := by kernel_rfl
theorem size9 : (sizeA PU 9).isSome = true := by kernel_rfl
theorem take_fac {l : List Fac} {i : Nat} {f : Fac} (h : l[i]? = some f) : takeAt PU 37 (facsL l) i 0 = some (.agg [.str f.s, .int .i64 f.e]) := by
  simp only [takeAt, List.getElem?_map, h, Option.map_some, agg37, size37, takeA, facA, AV.cells]
  rfl
theorem take_str {l : List (List UInt8)} {i : Nat} {s : List UInt8} (h : l[i]? = some s) : takeAt PU 9 (l.map AV.str) i 0 = some (.str s) := take_one agg9 size9 (by rw [List.getElem?_map, h]; rfl) rfl
theorem facs_closed (l : List Fac) : ∀ x ∈ facsL l, x.closed1 = true := fun x hx => by obtain ⟨f, _, rfl⟩ := List.mem_map.1 hx; rfl
theorem facR_closed (r : List Fac × Int) : (facR r).1.closed2 = true := by
  unfold facR; rfl
/-- results, told of less -/
theorem retFac {r : List Fac × Int} {sz : Nat} {o : Own} {l : List Fac} {e : Int} (h : (l, e) = r) (hs : sz = 2 ∨ l = []) : RetLax (AV.tup [AV.sl sz (facsL l) o, AV.int .i64 e]) (AV.tup [AV.sl 2 (facsL r.1) Own.no, AV.int .i64 r.2], []) := by
  subst h
  refine retLax_iff.2 ⟨⟨⟨rfl, rfl, hs.elim .inl fun h => .inr (by rw [h]; rfl)⟩, rfl, trivial⟩, facR_closed (l, e), rfl⟩
theorem put_len : ∀ (m : List (List UInt8 × Int)) (s : List UInt8) (e : Int), (putS m s e).length ≤ m.length + 1
  | [], s, e => by simp [putS]
  | (t, x) :: m, s, e => by
    have := put_len m s e
    simp only [putS]
    split
    · simp
    · simp; omega
theorem sums_len : ∀ (l : List Fac) (m : List (List UInt8 × Int)), (sumsL l m).length ≤ l.length + m.length
  | [], m => by simp [sumsL]
  | f :: l, m => by
    have := sums_len l (putS m f.s f.e)
    have := put_len m f.s f.e
    simp only [sumsL, List.length_cons]; omega
abbrev T11 : List (FuncId × Spec) := [(27, s27), (28, s28), (29, s29), (31, s31), (32, s32)]
theorem t29 {n : Int} (h : iOk n) : tbl T11 29 [.int .i64 n] = some (wideA n, []) := by
  unfold T11
  rw [tb_miss (by decide), tb_miss (by decide), tb_hit]; simp only [s29]; rw [if_pos h]
theorem t28 {a b a' b' : Int} (h : wOk a b) (h' : wOk a' b') : tbl T11 28 [.agg [.int .i64 a, .int .u64 b], .agg [.int .i64 a', .int .u64 b']] = some (wideA (wv a b + wv a' b'), []) := by
  unfold T11
  rw [tb_miss (by decide), tb_hit]; simp only [s28, sW2]; rw [if_pos ⟨h, h'⟩]
theorem t31 {a b : Int} (h : wOk a b) : tbl T11 31 [.agg [.int .i64 a, .int .u64 b], .int .i64 1] = some (.tup [.int .i64 (if small (wv a b) then wv a b else 0), .bool (small (wv a b))], []) := by
  unfold T11
  rw [tb_miss (by decide), tb_miss (by decide), tb_miss (by decide), tb_hit]; simp only [s31]; rw [if_pos ⟨h, trivial⟩]
theorem iOk_big {n : Int} (h : iOk n) : bigOk n := by unfold iOk at h; unfold bigOk; omega
theorem far_small {x : Int} (h : farB x = false) : small x = true := by
  have := of_decide_eq_false h
  unfold small; rw [decide_eq_true]; omega
set_option maxHeartbeats 2000000 in
theorem p11 (m : Int) (l : List Fac) (hl : lenOk l) (he : ∀ f ∈ l, iOk f.e) : LaxOk PU (GU m) XF (tbl T11) (itbl [(30, s30)]) (a11 l) [] 11 [.sl 2 (facsL l) .no] (facR (normP l)) := by
  constructor
  rw [w11]
  have hlen : (facsL l).length = l.length := List.length_map ..
  have hlo := hl
  unfold lenOk at hlo
  have hS : ∀ {S : St}, StIs S S := stIs_iff.2 rfl
  refine ⟨⟨0, valsAre_iff.2 (by rw [hlen]; rfl), stIs_iff.2 rfl, ⟨Nat.zero_le _, rfl⟩, trivial⟩, fun x hx => ⟨fun hlt => ?_, fun hlt => ?_⟩⟩
  · obtain ⟨hx1, hx2⟩ := hx
    have hlt := of_decide_eq_true hlt
    have hlt' : x < l.length := by omega
    have hf := List.getElem?_eq_getElem hlt'
    have hm : l[x] ∈ l := List.getElem_mem hlt'
    generalize l[x] = f at hf hm
    have hfe := he f hm
    refine ⟨⟨by omega, by rw [hlen]; omega⟩, f.s, f.e, take_fac (by simpa using hf), wordB f.s, callIs_iff.2 rfl, fun hw => ?_, fun hw => ?_⟩
    · have hbig : bigOk (getS (mapL l x) f.s) := by
        rw [getS_mapL]
        exact sum_big (by unfold lenOk; rw [List.length_take]; omega) (fun g hg => he g (List.mem_of_mem_take hg)) _
      obtain ⟨a, b, hX, hwo, hwv⟩ := wideA_big hbig
      obtain ⟨a2, b2, hX2, hwo2, hwv2⟩ := wideA_big (iOk_big hfe)
      obtain ⟨a3, b3, hX3, hwo3, _⟩ := wideA_form (getS (mapL l x) f.s + f.e)
      have hk : KeyIs PU 9 (.str f.s) := ⟨by rw [keyL_str (word_len hw)]; rfl⟩
      refine ⟨hk, a, b, ⟨by rw [look_enc, hX]⟩, a2, b2, callIs_iff.2 (by rw [t29 hfe, hX2]), a3, b3, callIs_iff.2 (by rw [t28 hwo hwo2, hwv, hwv2, hX3]), trivial, hk, ⟨rfl⟩, by omega, by omega, x + 1, valsAre_iff.2 (by rw [wrap64_in (by omega) (by omega)]; rfl), stIs_iff.2 ?_, ⟨by omega, ?_⟩, by omega⟩
      · rw [← hX3, put_enc, mapL_succ hf]; rfl
      · rw [List.take_add_one, List.all_append, hx2, hf]; simpa using hw
    · refine retFac (r := normP l) (l := []) (e := 1) ?_ (.inr rfl)
      have hall : (l.all fun f => wordB f.s) = false := by
        rw [← Bool.not_eq_true, List.all_eq_true]
        intro h; rw [h f hm] at hw; cases hw
      unfold normP; rw [if_pos hall]
  · obtain ⟨hx1, hx2⟩ := hx
    have hlt := of_decide_eq_false hlt
    have hxl : x = l.length := by omega
    subst hxl
    rw [List.take_length] at hx2
    have hml : mapL l l.length = sumsL l [] := by unfold mapL; rw [List.take_length]
    have hkey : keptSort (keysM ((sumsL l []).map encP)) = namesOf l := by rw [keysM_enc]; rfl
    have hwords : ∀ s ∈ namesOf l, wordB s = true := fun s hs => by
      obtain ⟨f, hf, rfl⟩ := (names_iff l s).1 hs
      exact List.all_eq_true.1 hx2 f hf
    have hlm : ((namesOf l).map AV.str).length = (namesOf l).length := List.length_map ..
    have hnl : (namesOf l).length ≤ l.length := by
      have : (namesOf l).length = ((sumsL l []).map (·.1)).length := by unfold namesOf; exact (keptSort_perm _).length_eq
      rw [this, List.length_map]
      simpa using sums_len l []
    rw [hml, hkey]
    refine ⟨⟨by rw [keysM_enc]; exact sums_nodup l [] (by simp), by omega⟩, ⟨0, valsAre_iff.2 (by rw [hlm]; rfl), stIs_iff.2 rfl, ⟨Nat.zero_le _, rfl⟩, trivial⟩, fun x hx => ⟨fun hlt => ?_, fun hlt => ?_⟩⟩
    · obtain ⟨hy1, hy2⟩ := hx
      have hlt := of_decide_eq_true hlt
      have hlt' : x < (namesOf l).length := by omega
      have hf := List.getElem?_eq_getElem hlt'
      have hm : (namesOf l)[x] ∈ namesOf l := List.getElem_mem hlt'
      generalize (namesOf l)[x] = s at hf hm
      have hw := hwords s hm
      have hbig : bigOk (getS (sumsL l []) s) := by rw [getS_sums]; exact sum_big hl he s
      obtain ⟨a, b, hX, hwo, hwv⟩ := wideA_big hbig
      have hout := out_succ hf
      have hol : (outL l x).length ≤ x := by
        unfold outL
        have := pick_len (sumsL l []) ((namesOf l).take x)
        rw [List.length_take] at this; omega
      generalize hX0 : getS (sumsL l []) s = X at *
      have hany : farB X = true → ([], (70 : Int)) = normP l := fun hfar => by
        have : (namesOf l).any (fun s => farB (getS (sumsL l []) s)) = true := List.any_eq_true.2 ⟨s, hm, by rw [hX0]; exact hfar⟩
        unfold normP; rw [if_neg (by rw [hx2]; simp), if_pos this]
      have next : ∀ {L : List AV} {n : Nat}, farB X = false → L = facsL (outL l (x + 1)) → n = (outL l (x + 1)).length → ∃ y : Nat,
          ValsAre [AV.sl 2 L (Own.tok 0), AV.mp 0, AV.sl 1 ((namesOf l).map AV.str) Own.no, AV.int .i64 ((namesOf l).length : Int), AV.int .i64 (IntKind.i64.wrap ((x : Int) + 1))]
            [AV.sl 2 (facsL (outL l y)) (Own.tok 0), AV.mp 0, AV.sl 1 ((namesOf l).map AV.str) Own.no, AV.int .i64 ((namesOf l).length : Int), AV.int .i64 (y : Int)] ∧
          StIs { boxes := [some [AV.tup [AV.int .i64 41, AV.int .i64 (l.length : Int), AV.tup ((sumsL l []).map encP)]]], live := [(n, 37)] } { boxes := [some [AV.tup [AV.int .i64 41, AV.int .i64 (l.length : Int), AV.tup ((sumsL l []).map encP)]]], live := [((outL l y).length, 37)] } ∧
          (y ≤ (namesOf l).length ∧ (((namesOf l).take y).any fun s => farB (getS (sumsL l []) s)) = false) ∧ (namesOf l).length - y < (namesOf l).length - x := fun {L n} hfar h1 h2 => by
        subst h1; subst h2
        refine ⟨x + 1, valsAre_iff.2 (by rw [wrap64_in (by omega) (by omega)]; rfl), hS, ⟨by omega, ?_⟩, by omega⟩
        rw [List.take_add_one, List.any_append, hy2, hf]; simp [hX0, hfar]
      refine ⟨⟨by omega, by rw [hlm]; omega⟩, s, take_str (by simpa using hf), ⟨by rw [keyL_str (word_len hw)]; rfl⟩, a, b, ⟨by rw [look_enc, hX0, hX]⟩, _, _, callIs_iff.2 (by rw [t31 hwo, hwv]), fun hsm => ⟨farB X, callIs_iff.2 (by rw [if_pos hsm]; rfl), fun hfar => retFac (hany hfar) (.inr rfl), fun hfar => ⟨fun hne => ⟨.inl rfl, ?_, by simp, ?_⟩, fun hz => ?_⟩⟩, fun hsm => retFac (hany ?_) (.inr rfl)⟩
      · rw [List.length_map]; exact Nat.le_trans (Nat.mul_le_mul_right 25 (show _ ≤ 1000000001 by omega)) (by decide)
      · rw [if_pos hsm] at hne ⊢
        have hne : X ≠ 0 := by simpa using hne
        rw [if_neg hne] at hout
        exact next hfar (by rw [hout]; simp [facA]) (by rw [hout]; simp)
      · rw [if_pos hsm] at hz
        have hz : X = 0 := by simpa using hz
        rw [if_pos hz] at hout
        exact next hfar (by rw [hout]) (by rw [hout])
      · cases hfar : farB X with
        | true => rfl
        | false => rw [far_small hfar] at hsm; cases hsm
    · obtain ⟨hy1, hy2⟩ := hx
      have hlt := of_decide_eq_false hlt
      have hxl : x = (namesOf l).length := by omega
      subst hxl
      rw [List.take_length] at hy2
      have hall : outL l (namesOf l).length = pickF (sumsL l []) (namesOf l) := by unfold outL; rw [List.take_length]
      rw [hall]
      have hnp : normP l = if 4 < (pickF (sumsL l []) (namesOf l)).length then ([], 2) else (pickF (sumsL l []) (namesOf l), 0) := by
        unfold normP; rw [if_neg (by rw [hx2]; simp), if_neg (by rw [hy2]; simp)]
      refine ⟨fun h4 => retFac ?_ (.inr rfl), fun h4 => retFac ?_ (.inl rfl)⟩
      · have h4 := of_decide_eq_true h4
        rw [List.length_map] at h4
        rw [hnp, if_pos (by omega)]
      · have h4 := of_decide_eq_false h4
        rw [List.length_map] at h4
        rw [hnp, if_neg (by omega)]
theorem o11 (m : Int) : SpecOk PU (GU m) 11 s11 := lax_ofW (X := XF) (m := []) [2] mixedU (tbl_cons (o27 m) (tbl_cons (o28 m) (tbl_cons (o29 m) (tbl_cons (o31 m) (tbl_cons (o32 m) tbl_nil))))) (itbl_cons (o30 m) itbl_nil) fun args r h => by
  unfold s11 sF at h
  split at h
  · split at h
    · rename_i hz
      rename_i sz es o
      cases hu : unL unF es with
      | none => rw [hu] at h; cases h
      | some l =>
        rw [hu] at h
        simp only [Option.bind_some] at h
        split at h
        · rename_i hc
          injection h with h; subst h
          simp only [wkL, wkF hz hu]
          exact ⟨_, p11 m l hc.1 hc.2⟩
        · cases h
    · cases h
  · cases h
end Go.Abs

namespace Go.Abs
open Go.Proofs Go.RowKit
def hugeOk (l : List Fac) : Prop := l.length ≤ 9223372036854775807
instance (l : List Fac) : Decidable (hugeOk l) := inferInstanceAs (Decidable (_ ≤ _))
def s39 : Spec := sF2 fun l r => if hugeOk l then some (.bool (decide (l = r)), []) else none
def s54 : Spec := sF fun l => if lenOk l then some (.sl 2 (facsL l) (.tok 0), [(l.length, 37)]) else none
def timesL (r : List Fac) (k : Int) : List Fac := r.map fun f => ⟨f.s, k * f.e⟩
def prodP (l r : List Fac) (k : Int) : List Fac × Int :=
  if checkF l ≠ 0 then ([], checkF l) else if checkF r ≠ 0 then ([], checkF r) else normP (l ++ timesL r k)
def s37 : Spec := fun args => match args with
  | [.sl sz es _, .sl sz' es' _, .int .i64 k] => if (sz = 2 ∨ es = []) ∧ (sz' = 2 ∨ es' = []) ∧ (k = 1 ∨ k = -1) then (unL unF es).bind fun l => (unL unF es').bind fun r => some (facR (prodP l r k)) else none
  | _ => none
def s16 : Spec := sF2 fun l r => some (facR (prodP l r 1))
def s18 : Spec := sF2 fun l r => some (facR (prodP l r (-1)))
def a39 (l r : List Fac) : Anns := ⟨fun k => if k = 4 then some { α := Nat, slots := [0, 1, 12, 13], nb := 0, vals := fun i => [.sl 2 (facsL l) .no, .sl 2 (facsL r) .no, .int .i64 l.length, .int .i64 i], sS := fun _ => ⟨[], []⟩, I := fun i => i ≤ l.length ∧ l.length = r.length ∧ l.take i = r.take i, μ := fun i => l.length - i } else none, nA⟩
def a37 (l r : List Fac) (k : Int) : Anns := ⟨fun q => if q = 9 then some { α := Nat, slots := [2, 10, 25, 26, 27], nb := 0, vals := fun i => [.int .i64 k, .sl 2 (facsL (l ++ timesL (r.take i) k)) (.tok 0), .sl 2 (facsL r) .no, .int .i64 r.length, .int .i64 i], sS := fun i => ⟨[], [((l ++ timesL (r.take i) k).length, 37)]⟩, I := fun i => i ≤ r.length, μ := fun i => r.length - i } else none, nA⟩
def shCl : Sh × Option TypeId := (.val (.one (.sl 2 (.tok 0))), some 37)
def XP : Shapes := fun f => match f with
  | 54 => some shCl
  | 20 | 39 => some shB
  | 13 => some shI
  | 11 | 37 | 16 | 18 => some shFI
  | _ => none
end Go.Abs

namespace Go.Abs
open Go.Proofs Go.RowKit
theorem w39 (m : Int) (l r : List Fac) : (pureW PU (GU m) XP (tbl []) (itbl []) (a39 l r) [] 39 [.sl 2 (facsL l) .no, .sl 2 (facsL r) .no] (.bool (decide (l = r)), [])) =
((((↑(facsL l).length : Int) != (↑(facsL r).length : Int)) = true → RetIs (AV.bool false) [] (AV.bool (decide (l = r)), [])) ∧
  (((↑(facsL l).length : Int) != (↑(facsL r).length : Int)) = false →
    (∃ (y : Nat),
        ValsAre
 [AV.sl (nat_lit 2) (facsL l) Own.no, AV.sl (nat_lit 2) (facsL r) Own.no, AV.int IntKind.i64 (↑(facsL l).length : Int), AV.int IntKind.i64 (0 : Int)]
 [AV.sl (nat_lit 2) (facsL l) Own.no, AV.sl (nat_lit 2) (facsL r) Own.no, AV.int IntKind.i64 (↑l.length : Int), AV.int IntKind.i64 (↑y : Int)] ∧
 StIs { boxes := [], live := [] } { boxes := [], live := [] } ∧ (y ≤ l.length ∧ l.length = r.length ∧ List.take y l = List.take y r) ∧ True) ∧
      ∀ (x : Nat),
        x ≤ l.length ∧ l.length = r.length ∧ List.take x l = List.take x r →
 (decide ((↑x : Int) < (↑l.length : Int)) = true →
 ((0 : Int) ≤ (↑x : Int) ∧ (↑x : Int) < (↑(facsL l).length : Int)) ∧
 ∃ (s : List UInt8),
 ∃ (n : Int),
 takeAt PU (nat_lit 37) (facsL l) (↑x : Int).toNat (nat_lit 0) = some (AV.agg [AV.str s, AV.int IntKind.i64 n]) ∧
 ((0 : Int) ≤ (↑x : Int) ∧ (↑x : Int) < (↑(facsL r).length : Int)) ∧
 ∃ (s_1 : List UInt8),
 ∃ (n_1 : Int),
 takeAt PU (nat_lit 37) (facsL r) (↑x : Int).toNat (nat_lit 0) = some (AV.agg [AV.str s_1, AV.int IntKind.i64 n_1]) ∧
 ((!(s == s_1 && (n == n_1 && true))) = true → RetIs (AV.bool false) [] (AV.bool (decide (l = r)), [])) ∧
 ((!(s == s_1 && (n == n_1 && true))) = false →
 ∃ (y : Nat),
 ValsAre
 [AV.sl (nat_lit 2) (facsL l) Own.no, AV.sl (nat_lit 2) (facsL r) Own.no, AV.int IntKind.i64 (↑l.length : Int),
 AV.int IntKind.i64 (IntKind.i64.wrap ((↑x : Int) + (1 : Int)))]
 [AV.sl (nat_lit 2) (facsL l) Own.no, AV.sl (nat_lit 2) (facsL r) Own.no, AV.int IntKind.i64 (↑l.length : Int),
 AV.int IntKind.i64 (↑y : Int)] ∧
 StIs { boxes := [], live := [] } { boxes := [], live := [] } ∧
 (y ≤ l.length ∧ l.length = r.length ∧ List.take y l = List.take y r) ∧ l.length - y < l.length - x)) ∧
 (decide ((↑x : Int) < (↑l.length : Int)) = false → RetIs (AV.bool true) [] (AV.bool (decide (l = r)), [])))) := by kernel_rfl
theorem w20 (m : Int) (l r : List Fac) : (pureW PU (GU m) XP (tbl [(39, s39)]) (itbl []) nAn [] 20 [.sl 2 (facsL l) .no, .sl 2 (facsL r) .no] (.bool (decide (l = r)), [])) =
(∃ (b : Bool),
  CallIs (tbl [(nat_lit 39, s39)] (nat_lit 39) [AV.sl (nat_lit 2) (facsL l) Own.no, AV.sl (nat_lit 2) (facsL r) Own.no]) (AV.bool b) [] ∧
    (b = true → RetIs (AV.bool true) [] (AV.bool (decide (l = r)), [])) ∧ (b = false → RetIs (AV.bool false) [] (AV.bool (decide (l = r)), []))) := by kernel_rfl
theorem w54 (m : Int) (l : List Fac) : (pureW PU (GU m) XP (tbl []) (itbl []) nAn [] 54 [.sl 2 (facsL l) .no] (.sl 2 (facsL l) (.tok 0), [(l.length, 37)])) =
((facsL l).isEmpty = false ∧
  (nat_lit 2 = nat_lit 2 ∨ ([] : List AV) = []) ∧
    ((0 : Nat) + (facsL l).length) * nat_lit 25 ≤ nat_lit 70368744177664 ∧
      (facsL l = [] → RetIs (AV.sl (nat_lit 2) [] Own.full) [] (AV.sl (nat_lit 2) (facsL l) (Own.tok (nat_lit 0)), [(l.length, nat_lit 37)])) ∧
        (facsL l ≠ [] →
 (nat_lit 0 + (facsL l).length, nat_lit 37).fst = ([] ++ facsL l).length ∧
 RetIs (AV.sl (nat_lit 2) ([] ++ facsL l) (Own.tok (nat_lit 0))) [(nat_lit 0 + (facsL l).length, nat_lit 37)]
 (AV.sl (nat_lit 2) (facsL l) (Own.tok (nat_lit 0)), [(l.length, nat_lit 37)]))) := by kernel_rfl
theorem w37 (m k : Int) (l r : List Fac) : (laxW PU (GU m) XP (tbl [(13, s13), (54, s54), (11, s11)]) (itbl []) (a37 l r k) [] 37 [.sl 2 (facsL l) .no, .sl 2 (facsL r) .no, .int .i64 k] (facR (prodP l r k))) =
(∃ (n : Int),
  CallIs (tbl [(nat_lit 13, s13), (nat_lit 54, s54), (nat_lit 11, s11)] (nat_lit 13) [AV.sl (nat_lit 2) (facsL l) Own.no]) (AV.int IntKind.i64 n) [] ∧
    ((n != (0 : Int)) = true →
        RetLax (AV.tup [AV.sl (nat_lit 0) [] Own.nil, AV.int IntKind.i64 n])
 (AV.tup [AV.sl (nat_lit 2) (facsL (prodP l r k).fst) Own.no, AV.int IntKind.i64 (prodP l r k).snd], [])) ∧
      ((n != (0 : Int)) = false →
        ∃ (n : Int),
 CallIs (tbl [(nat_lit 13, s13), (nat_lit 54, s54), (nat_lit 11, s11)] (nat_lit 13) [AV.sl (nat_lit 2) (facsL r) Own.no]) (AV.int IntKind.i64 n) [] ∧
 ((n != (0 : Int)) = true →
 RetLax (AV.tup [AV.sl (nat_lit 0) [] Own.nil, AV.int IntKind.i64 n])
 (AV.tup [AV.sl (nat_lit 2) (facsL (prodP l r k).fst) Own.no, AV.int IntKind.i64 (prodP l r k).snd], [])) ∧
 ((n != (0 : Int)) = false →
 ∃ (es : List AV),
 CallIs (tbl [(nat_lit 13, s13), (nat_lit 54, s54), (nat_lit 11, s11)] (nat_lit 54) [AV.sl (nat_lit 2) (facsL l) Own.no])
 (AV.sl (nat_lit 2) es (Own.tok (nat_lit 0))) [(es.length, nat_lit 37)] ∧
 (∃ (y : Nat),
 ValsAre
 [AV.int IntKind.i64 k, AV.sl (nat_lit 2) es (Own.tok (nat_lit 0)), AV.sl (nat_lit 2) (facsL r) Own.no,
 AV.int IntKind.i64 (↑(facsL r).length : Int), AV.int IntKind.i64 (0 : Int)]
 [AV.int IntKind.i64 k, AV.sl (nat_lit 2) (facsL (l ++ timesL (List.take y r) k)) (Own.tok (nat_lit 0)),
 AV.sl (nat_lit 2) (facsL r) Own.no, AV.int IntKind.i64 (↑r.length : Int), AV.int IntKind.i64 (↑y : Int)] ∧
 StIs { boxes := [], live := [(es.length, nat_lit 37)] }
 { boxes := [], live := [((l ++ timesL (List.take y r) k).length, nat_lit 37)] } ∧
 y ≤ r.length ∧ True) ∧
 ∀ (x : Nat),
 x ≤ r.length →
 (decide ((↑x : Int) < (↑r.length : Int)) = true →
 ((0 : Int) ≤ (↑x : Int) ∧ (↑x : Int) < (↑(facsL r).length : Int)) ∧
 ∃ (s : List UInt8),
 ∃ (n : Int),
 takeAt PU (nat_lit 37) (facsL r) (↑x : Int).toNat (nat_lit 0) = some (AV.agg [AV.str s, AV.int IntKind.i64 n]) ∧
 (nat_lit 2 = nat_lit 2 ∨ facsL (l ++ timesL (List.take x r) k) = []) ∧
 ((facsL (l ++ timesL (List.take x r) k)).length + (1 : Nat)) * nat_lit 25 ≤ nat_lit 70368744177664 ∧
 (l ++ timesL (List.take x r) k).length = (facsL (l ++ timesL (List.take x r) k)).length ∧
 ∃ (y : Nat),
 ValsAre
 [AV.int IntKind.i64 k,
 AV.sl (nat_lit 2)
 (facsL (l ++ timesL (List.take x r) k) ++
 [AV.agg [AV.str s, AV.int IntKind.i64 (IntKind.i64.wrap (k * n))]])
 (Own.tok (nat_lit 0)),
 AV.sl (nat_lit 2) (facsL r) Own.no, AV.int IntKind.i64 (↑r.length : Int),
 AV.int IntKind.i64 (IntKind.i64.wrap ((↑x : Int) + (1 : Int)))]
 [AV.int IntKind.i64 k, AV.sl (nat_lit 2) (facsL (l ++ timesL (List.take y r) k)) (Own.tok (nat_lit 0)),
 AV.sl (nat_lit 2) (facsL r) Own.no, AV.int IntKind.i64 (↑r.length : Int), AV.int IntKind.i64 (↑y : Int)] ∧
 StIs { boxes := [], live := [((facsL (l ++ timesL (List.take x r) k)).length + nat_lit 1, nat_lit 37)] }
 { boxes := [], live := [((l ++ timesL (List.take y r) k).length, nat_lit 37)] } ∧
 y ≤ r.length ∧ r.length - y < r.length - x) ∧
 (decide ((↑x : Int) < (↑r.length : Int)) = false →
 ∃ (es : List AV),
 ∃ (n : Int),
 CallIs
 (tbl [(nat_lit 13, s13), (nat_lit 54, s54), (nat_lit 11, s11)] (nat_lit 11)
 [AV.sl (nat_lit 2) (facsL (l ++ timesL (List.take x r) k)) Own.no])
 (AV.tup [AV.sl (nat_lit 2) es Own.no, AV.int IntKind.i64 n]) [] ∧
 RetLax (AV.tup [AV.sl (nat_lit 2) es Own.no, AV.int IntKind.i64 n])
 (AV.tup [AV.sl (nat_lit 2) (facsL (prodP l r k).fst) Own.no, AV.int IntKind.i64 (prodP l r k).snd], []))))) := by kernel_rfl
theorem w16 (m : Int) (l r : List Fac) : (laxW PU (GU m) XP (tbl [(37, s37)]) (itbl []) nAn [] 16 [.sl 2 (facsL l) .no, .sl 2 (facsL r) .no] (facR (prodP l r 1))) =
(∃ (es : List AV),
  ∃ (n : Int),
    CallIs (tbl [(nat_lit 37, s37)] (nat_lit 37) [AV.sl (nat_lit 2) (facsL l) Own.no, AV.sl (nat_lit 2) (facsL r) Own.no, AV.int IntKind.i64 (1 : Int)])
        (AV.tup [AV.sl (nat_lit 2) es Own.no, AV.int IntKind.i64 n]) [] ∧
      RetLax (AV.tup [AV.sl (nat_lit 2) es Own.no, AV.int IntKind.i64 n])
        (AV.tup [AV.sl (nat_lit 2) (facsL (prodP l r (1 : Int)).fst) Own.no, AV.int IntKind.i64 (prodP l r (1 : Int)).snd], [])) := by kernel_rfl
theorem w18 (m : Int) (l r : List Fac) : (laxW PU (GU m) XP (tbl [(37, s37)]) (itbl []) nAn [] 18 [.sl 2 (facsL l) .no, .sl 2 (facsL r) .no] (facR (prodP l r (-1)))) =
(∃ (es : List AV),
  ∃ (n : Int),
    CallIs (tbl [(nat_lit 37, s37)] (nat_lit 37) [AV.sl (nat_lit 2) (facsL l) Own.no, AV.sl (nat_lit 2) (facsL r) Own.no, AV.int IntKind.i64 (-1 : Int)])
        (AV.tup [AV.sl (nat_lit 2) es Own.no, AV.int IntKind.i64 n]) [] ∧
      RetLax (AV.tup [AV.sl (nat_lit 2) es Own.no, AV.int IntKind.i64 n])
        (AV.tup [AV.sl (nat_lit 2) (facsL (prodP l r (-1 : Int)).fst) Own.no, AV.int IntKind.i64 (prodP l r (-1 : Int)).snd], [])) := by kernel_rfl
end Go.Abs

namespace Go.Proofs.U07
open Go.RowKit Go.Abs
theorem clone_nil (cap : Nat) (w : World) : Calls Tryz.prog 54 #[.slice none 0 cap] w fun e w' => ∃ v, e = .returned v ∧ w'.ownsRow w.heap.size 37 2 v 0 [] ∧ Below w.heap.size w w' := by
  have hnil : ∀ w : World, (binOp BinOp.eql 22 (.slice none 0 cap) (.slice none 0 0)).run Tryz.prog w = .ok (.bool true) w := fun _ => by kernel_rfl
  go_enter Tryz.func54, Tryz.ntmps54
  go_wp2
  go_ret
  exact ⟨.slice none 0 0, rfl, World.ownsRow_nil _ _ _ _, Below.refl _ _⟩
theorem clone_some (a : Addr) (cap : Nat) (w : World) : Calls Tryz.prog 54 #[.slice (some a) 0 cap] w fun e w' => ∃ v, e = .returned v ∧ w'.ownsRow w.heap.size 37 2 v 0 [] ∧ Below w.heap.size w w' := by
  have hnil : ∀ w : World, (binOp BinOp.eql 22 (.slice (some a) 0 cap) (.slice none 0 0)).run Tryz.prog w = .ok (.bool false) w := fun _ => by kernel_rfl
  go_enter Tryz.func54, Tryz.ntmps54
  go_wp2
  go_ret
  refine ⟨.slice (some ⟨w.heap.size, 0, none⟩) 0 0, rfl, ⟨rfl, .inr ⟨w.heap.size, 0, #[], rfl, Nat.le_refl _, heap_alloc_new w _, Nat.le_refl _, Nat.zero_le _, rfl, rfl⟩⟩, (Below.refl _ _).alloc (Nat.le_refl _) _⟩
end Go.Proofs.U07
namespace Go.Abs
open Go.Proofs Go.RowKit Go.Maps Go.Sort
theorem p54 (m : Int) (l : List Fac) (hl : lenOk l) (h : l ≠ []) : PureOk PU (GU m) XP (tbl []) (itbl []) nAn [] 54 [.sl 2 (facsL l) .no] (.sl 2 (facsL l) (.tok 0), [(l.length, 37)]) := by
  constructor
  rw [w54]
  unfold lenOk at hl
  have hlen : (facsL l).length = l.length := List.length_map ..
  refine ⟨by cases l with | nil => exact absurd rfl h | cons a t => rfl, .inl rfl, by rw [hlen, Nat.zero_add]; exact Nat.le_trans (Nat.mul_le_mul_right 25 hl) (by decide), fun he => absurd (by simpa using he) h, fun _ => ⟨by simp, retIs_iff.2 (by simp)⟩⟩
theorem o54n (m : Int) : SpecOk PU (GU m) 54 (sF fun l => if lenOk l ∧ l ≠ [] then some (.sl 2 (facsL l) (.tok 0), [(l.length, 37)]) else none) := spec_ofW (X := XP) (m := []) [2] mixedU tbl_nil itbl_nil fun args r h => by
  unfold sF at h
  split at h
  · split at h
    · rename_i hz
      rename_i sz es o
      cases hu : unL unF es with
      | none => rw [hu] at h; cases h
      | some l =>
        rw [hu] at h
        simp only [Option.bind_some] at h
        split at h
        · rename_i hc
          injection h with h; subst h
          simp only [wkL, wkF hz hu]
          exact ⟨_, p54 m l hc.1 hc.2⟩
        · cases h
    · cases h
  · cases h
theorem size37s : sizeA PU 37 = some 2 := size37
theorem o54 (m : Int) : SpecOk PU (GU m) 54 s54 := by
  intro g args r lv h
  simp only at h
  split at h
  case isFalse => cases h
  rename_i e
  subst e
  by_cases hne : ∃ sz o, args = [.sl sz [] o]
  · obtain ⟨sz, o, rfl⟩ := hne
    intro E w vs hI hG hn hv hcl
    simp only [s54, sF] at h
    rw [if_pos (.inr trivial)] at h
    simp only [unL, Option.bind_some] at h
    rw [if_pos (by unfold lenOk; simp)] at h
    simp only [Option.some.injEq, Prod.mk.injEq] at h
    obtain ⟨rfl, rfl⟩ := h
    obtain ⟨a, rfl⟩ := vs_one hn
    have hr := hv 0 _ _ rfl rfl
    cases hr with | sl _ _ _ A cap u hcap hmax hA hsz hcl' ho hr h1 =>
    have hc : Calls Tryz.prog 54 #[.slice A 0 cap] w fun e w' => ∃ v, e = .returned v ∧ w'.ownsRow w.heap.size 37 2 v 0 [] ∧ Below w.heap.size w w' := by
      cases A with
      | none => exact U07.clone_nil cap w
      | some a => exact U07.clone_some a cap w
    refine .inl ⟨goodU (by kernel_rfl), hc.mono fun e w' ⟨v, he, hown, hb⟩ => ⟨v, he, ?_⟩⟩
    refine ⟨E.I, fun _ _ h => h, fun _ _ h => .inl h, hb, .inr ⟨0, 37, v, 2, [], rfl, size37, hown, fun g hg o hi => ?_, fun B K L hk => ?_⟩⟩
    · have h2 := (hown.lt g hg).1
      have h3 := hI g o hi
      omega
    · rcases hown.2 with ⟨rfl, hz⟩ | ⟨g, cap', cur, rfl, hbase, hbk, h1, h2, h3, h4⟩
      · exact .sl 2 [] (.tok L) none 0 (fun _ _ => .bool true) (Nat.le_refl _) (Nat.zero_le _) (.inl rfl) (by simp) (by simp) hk (by simp) (fun _ _ => rfl)
      · exact .sl 2 [] (.tok L) _ cap' (fun _ _ => .bool true) (Nat.zero_le _) h2 (.inl rfl) (by simp) (by simp) hk (by simp) (fun _ _ => rfl)
  · have h' : (sF fun l => if lenOk l ∧ l ≠ [] then some (.sl 2 (facsL l) (.tok 0), [(l.length, 37)]) else none) args = some (r, lv) := by
      unfold s54 sF at h
      unfold sF
      split at h
      · rename_i sz es o
        split at h
        · rename_i hz
          rw [if_pos hz]
          cases hu : unL unF es with
          | none => rw [hu] at h; cases h
          | some l =>
            rw [hu] at h
            simp only [Option.bind_some] at h ⊢
            split at h
            · rename_i hc
              rw [if_pos ⟨hc, fun e => hne ⟨sz, o, by rw [unFs_some hu, e]; rfl⟩⟩]; exact h
            · cases h
        · cases h
      · cases h
    exact o54n m 54 args r lv (by simpa using h')
end Go.Abs

namespace Go.Abs
open Go.Proofs Go.RowKit Go.Maps Go.Sort
theorem p39 (m : Int) (l r : List Fac) (hl : l.length ≤ 9223372036854775807) : PureOk PU (GU m) XP (tbl []) (itbl []) (a39 l r) [] 39 [.sl 2 (facsL l) .no, .sl 2 (facsL r) .no] (.bool (decide (l = r)), []) := by
  constructor
  rw [w39]
  have hlen : (facsL l).length = l.length := List.length_map ..
  have hlen' : (facsL r).length = r.length := List.length_map ..
  rw [hlen, hlen']
  have hS : ∀ {S : St}, StIs S S := stIs_iff.2 rfl
  have ret : ∀ {b : Bool}, b = decide (l = r) → RetIs (AV.bool b) [] (AV.bool (decide (l = r)), []) := fun h => retIs_iff.2 (by rw [h])
  refine ⟨fun h => ret ?_, fun h => ⟨⟨0, valsAre_iff.2 rfl, hS, ⟨Nat.zero_le _, Int.ofNat_inj.1 (show (l.length : Int) = r.length by simpa using h), rfl⟩, trivial⟩, fun x hx => ⟨fun hlt => ?_, fun hlt => ret ?_⟩⟩⟩
  · rw [decide_eq_false]; rintro rfl; simp at h
  · obtain ⟨hx1, hx2, hx3⟩ := hx
    have hlt := of_decide_eq_true hlt
    have h1 := List.getElem?_eq_getElem (show x < l.length by omega)
    have h2 := List.getElem?_eq_getElem (show x < r.length by omega)
    generalize l[x] = a at h1
    generalize r[x] = b at h2
    refine ⟨⟨by omega, by omega⟩, a.s, a.e, take_fac (by simpa using h1), ⟨by omega, by omega⟩, b.s, b.e, take_fac (by simpa using h2), fun hne => ret ?_, fun heq => ⟨x + 1, valsAre_iff.2 (by rw [wrap64_in (by omega) (by omega)]; rfl), hS, ⟨by omega, hx2, ?_⟩, by omega⟩⟩
    · rw [decide_eq_false]
      rintro rfl
      rw [h1] at h2; injection h2 with h2; subst h2
      simp at hne
    · rw [List.take_add_one, List.take_add_one, hx3, h1, h2]
      have : a = b := by
        cases a; cases b
        simp at heq
        simp [heq]
      rw [this]
  · obtain ⟨hx1, hx2, hx3⟩ := hx
    have hlt := of_decide_eq_false hlt
    have : x = l.length := by omega
    subst this
    rw [List.take_length, hx2, List.take_length] at hx3
    rw [decide_eq_true hx3]
theorem p13 (m : Int) (l : List Fac) : PureOk PU (GU m) XF (tbl [(27, s27), (32, s32)]) (itbl []) (a13 l) [] 13 [.sl 2 (facsL l) .no] (.int .i64 (checkF l), []) := by
  constructor
  rw [w13]
  have hlen : (facsL l).length = l.length := List.length_map ..
  rw [hlen]
  have hS : ∀ {S : St}, StIs S S := stIs_iff.2 rfl
  have ret : ∀ {n : Int}, n = checkF l → RetIs (AV.int .i64 n) [] (AV.int .i64 (checkF l), []) := fun h => retIs_iff.2 (by rw [h])
  refine ⟨fun h => ret ?_, fun h => ⟨⟨0, valsAre_iff.2 rfl, hS, ⟨Nat.zero_le _, by have := of_decide_eq_false h; omega, rfl⟩, trivial⟩, fun x hx => ⟨fun hlt => ?_, fun hlt => ret ?_⟩⟩⟩
  · have := of_decide_eq_true h
    unfold checkF; rw [if_pos (by omega)]
  · obtain ⟨hx1, hx4, hx2⟩ := hx
    have hlt := of_decide_eq_true hlt
    have hlt' : x < l.length := by omega
    have hf := List.getElem?_eq_getElem hlt'
    have hcf : checkF l = chk none l := by unfold checkF; rw [if_neg (by omega)]
    have hd : l.drop x = l[x] :: l.drop (x + 1) := List.drop_eq_getElem_cons hlt'
    rw [hd] at hx2
    have hgd : l.getD (x + 1 - 1) default = l[x] := by rw [Nat.add_sub_cancel, List.getD_eq_getElem?_getD, hf]; rfl
    generalize l[x] = f at hf hx2 hgd
    rw [← hcf] at hx2
    have next : wordB f.s = true → ¬ (f.e = 0 ∨ farB f.e = true) → (leP (if x = 0 then none else some (l.getD (x - 1) default).s) f.s = false) → ∃ y : Nat,
        ValsAre [AV.sl 2 (facsL l) Own.no, AV.sl 2 (facsL l) Own.no, AV.int .i64 (l.length : Int), AV.int .i64 (IntKind.i64.wrap ((x : Int) + 1))] [AV.sl 2 (facsL l) Own.no, AV.sl 2 (facsL l) Own.no, AV.int .i64 (l.length : Int), AV.int .i64 (y : Int)] ∧
        StIs { boxes := [], live := [] } { boxes := [], live := [] } ∧ (y ≤ l.length ∧ l.length ≤ 4 ∧ chk none l = chk (if y = 0 then none else some (l.getD (y - 1) default).s) (l.drop y)) ∧ l.length - y < l.length - x := fun h1 h2 h3 => by
      refine ⟨x + 1, valsAre_iff.2 (by rw [wrap64_in (by omega) (by omega)]; rfl), hS, ⟨by omega, hx4, ?_⟩, by omega⟩
      rw [← hcf, hx2]
      conv => lhs; unfold chk
      rw [if_neg (by rw [h1]; simp), if_neg h2, if_neg (by rw [h3]; simp), if_neg (by omega), hgd]
    refine ⟨⟨by omega, by omega⟩, f.s, f.e, take_fac (by simpa using hf), wordB f.s, callIs_iff.2 rfl, fun hw => ⟨fun h0 => ret ?_, fun h0 => ⟨farB f.e, callIs_iff.2 rfl, fun hfar => ret ?_, fun hfar => ⟨fun hp => ?_, fun hp => ?_⟩⟩⟩, fun hw => ret ?_⟩
    · rw [hx2]; unfold chk; rw [if_neg (by rw [hw]; simp), if_pos (.inl (by simpa using h0))]
    · rw [hx2]; unfold chk; rw [if_neg (by rw [hw]; simp), if_pos (.inr hfar)]
    · have hp := of_decide_eq_true hp
      have h0' : f.e ≠ 0 := by simpa using h0
      have ew : IntKind.i64.wrap ((x : Int) - 1) = ((x - 1 : Nat) : Int) := by rw [wrap64_in (by omega) (by omega)]; omega
      have hq := List.getElem?_eq_getElem (show x - 1 < l.length by omega)
      have hqd : l.getD (x - 1) default = l[x - 1] := by rw [List.getD_eq_getElem?_getD, hq]; rfl
      rw [hqd] at next hx2
      generalize l[x - 1] = q at hq next hx2
      rw [if_neg (show ¬ x = 0 by omega)] at next hx2
      rw [ew]
      refine ⟨⟨by omega, by omega⟩, q.s, ?_, fun hle => ret ?_, fun hle => next hw (by rw [hfar]; simp [h0']) hle⟩
      · simp only [takeAt, List.getElem?_map, Int.toNat_natCast, hq, Option.map_some, agg9, takeA, facA, AV.cells]
        cases hs : sizeA PU 9 with
        | none => have := size9; rw [hs] at this; cases this
        | some s => rfl
      · rw [hx2]; unfold chk; rw [if_neg (by rw [hw]; simp), if_neg (by rw [hfar]; simp [h0']), if_pos (show leP (some q.s) f.s = true from hle)]
    · have hp := of_decide_eq_false hp
      have h0' : f.e ≠ 0 := by simpa using h0
      have hx0 : x = 0 := by omega
      exact next hw (by rw [hfar]; simp [h0']) (by rw [if_pos hx0]; rfl)
    · rw [hx2]; unfold chk; rw [if_pos hw]
  · obtain ⟨hx1, hx4, hx2⟩ := hx
    have hlt := of_decide_eq_false hlt
    have : x = l.length := by omega
    subst this
    rw [List.drop_length] at hx2
    unfold checkF; rw [if_neg (by omega), hx2]; rfl
theorem sF2_of {X : Shapes} {R : Callee} {C : CCallee} {m : Int} {g : FuncId} {f : List Fac → List Fac → Option (AV × List (Nat × TypeId))} (hR : CalleeOk PU (GU m) R) (hC : ICalleeOk PU (GU m) (lowC C))
    (h : ∀ l r v, f l r = some v → ∃ A, LaxOk PU (GU m) X R C A [] g [.sl 2 (facsL l) .no, .sl 2 (facsL r) .no] v) : SpecOk PU (GU m) g (sF2 f) := lax_ofW (X := X) (m := []) [2, 2] mixedU hR hC fun args r h' => by
  unfold sF2 at h'
  split at h'
  · split at h'
    · rename_i sz es o sz' es' o' hz
      cases hu : unL unF es with
      | none => rw [hu] at h'; cases h'
      | some l =>
        cases hu' : unL unF es' with
        | none => rw [hu, hu'] at h'; cases h'
        | some k =>
          rw [hu, hu'] at h'
          simp only [Option.bind_some] at h'
          simp only [wkL, wkF hz.1 hu, wkF hz.2 hu']
          exact h l k r h'
    · cases h'
  · cases h'
theorem sF2p_of {X : Shapes} {R : Callee} {C : CCallee} {m : Int} {g : FuncId} {f : List Fac → List Fac → Option (AV × List (Nat × TypeId))} (hR : CalleeOk PU (GU m) R) (hC : ICalleeOk PU (GU m) (lowC C))
    (h : ∀ l r v, f l r = some v → ∃ A, PureOk PU (GU m) X R C A [] g [.sl 2 (facsL l) .no, .sl 2 (facsL r) .no] v) : SpecOk PU (GU m) g (sF2 f) := spec_ofW (X := X) (m := []) [2, 2] mixedU hR hC fun args r h' => by
  unfold sF2 at h'
  split at h'
  · split at h'
    · rename_i sz es o sz' es' o' hz
      cases hu : unL unF es with
      | none => rw [hu] at h'; cases h'
      | some l =>
        cases hu' : unL unF es' with
        | none => rw [hu, hu'] at h'; cases h'
        | some k =>
          rw [hu, hu'] at h'
          simp only [Option.bind_some] at h'
          simp only [wkL, wkF hz.1 hu, wkF hz.2 hu']
          exact h l k r h'
    · cases h'
  · cases h'
theorem sFp_of {X : Shapes} {R : Callee} {C : CCallee} {m : Int} {g : FuncId} {f : List Fac → Option (AV × List (Nat × TypeId))} (hR : CalleeOk PU (GU m) R) (hC : ICalleeOk PU (GU m) (lowC C))
    (h : ∀ l v, f l = some v → ∃ A, PureOk PU (GU m) X R C A [] g [.sl 2 (facsL l) .no] v) : SpecOk PU (GU m) g (sF f) := spec_ofW (X := X) (m := []) [2] mixedU hR hC fun args r h' => by
  unfold sF at h'
  split at h'
  · split at h'
    · rename_i sz es o hz
      cases hu : unL unF es with
      | none => rw [hu] at h'; cases h'
      | some l =>
        rw [hu] at h'
        simp only [Option.bind_some] at h'
        simp only [wkL, wkF hz hu]
        exact h l r h'
    · cases h'
  · cases h'
theorem o13 (m : Int) : SpecOk PU (GU m) 13 s13 := sFp_of (X := XF) (tbl_cons (o27 m) (tbl_cons (o32 m) tbl_nil)) itbl_nil fun l v h => by
  injection h with h; subst h; exact ⟨_, p13 m l⟩
end Go.Abs

namespace Go.Abs
open Go.Proofs Go.RowKit Go.Maps Go.Sort
theorem o39 (m : Int) : SpecOk PU (GU m) 39 s39 := sF2p_of (X := XP) tbl_nil itbl_nil fun l r v h => by
  split at h
  · rename_i hl; injection h with h; subst h; exact ⟨_, p39 m l r hl⟩
  · cases h
theorem tF2 {f : List Fac → List Fac → Option (AV × List (Nat × TypeId))} (l r : List Fac) : sF2 f [.sl 2 (facsL l) .no, .sl 2 (facsL r) .no] = f l r := by
  simp only [sF2, true_or, and_self, if_true, unFs, Option.bind_some]
theorem tF {f : List Fac → Option (AV × List (Nat × TypeId))} (l : List Fac) : sF f [.sl 2 (facsL l) .no] = f l := by
  simp only [sF, true_or, if_true, unFs, Option.bind_some]
theorem o20 (m : Int) : SpecOk PU (GU m) 20 s39 := sF2p_of (X := XP) (tbl_cons (o39 m) tbl_nil) itbl_nil fun l r v h => by
  split at h
  · rename_i hl; injection h with h; subst h
    refine ⟨nAn, ⟨?_⟩⟩
    rw [w20]
    exact ⟨decide (l = r), callIs_iff.2 (by rw [tb_hit, s39, tF2, if_pos hl]), fun h => retIs_iff.2 (by rw [h]), fun h => retIs_iff.2 (by rw [h])⟩
  · cases h
abbrev T37 : List (FuncId × Spec) := [(13, s13), (54, s54), (11, s11)]
theorem check_len {l : List Fac} (h : checkF l = 0) : l.length ≤ 4 := by
  unfold checkF at h
  split at h
  · cases h
  · omega
theorem chk_mem : ∀ {l : List Fac} {p : Option (List UInt8)}, chk p l = 0 → ∀ f ∈ l, wordB f.s = true ∧ f.e ≠ 0 ∧ farB f.e = false
  | [], _, _, f, hf => by simp at hf
  | g :: l, p, h, f, hf => by
    unfold chk at h
    split at h
    · cases h
    · rename_i h1
      split at h
      · cases h
      · rename_i h2
        split at h
        · cases h
        · rcases List.mem_cons.1 hf with rfl | hf
          · exact ⟨by simpa using h1, fun e => h2 (.inl e), by cases hb : farB f.e with | false => rfl | true => exact absurd (.inr hb) h2⟩
          · exact chk_mem h f hf
theorem check_mem {l : List Fac} (h : checkF l = 0) : ∀ f ∈ l, wordB f.s = true ∧ f.e ≠ 0 ∧ farB f.e = false := by
  have := check_len h
  unfold checkF at h
  rw [if_neg (by omega)] at h
  exact chk_mem h
theorem near {n : Int} (h : farB n = false) : -8 ≤ n ∧ n ≤ 8 := by
  have := of_decide_eq_false h
  omega
theorem times_e {r : List Fac} {k : Int} (hk : k = 1 ∨ k = -1) (h : checkF r = 0) : ∀ f ∈ timesL r k, -8 ≤ f.e ∧ f.e ≤ 8 := fun f hf => by
  obtain ⟨g, hg, rfl⟩ := List.mem_map.1 hf
  have := near (check_mem h g hg).2.2
  rcases hk with rfl | rfl
  · simp only; omega
  · simp only; omega
theorem p37 (m k : Int) (l r : List Fac) (hk : k = 1 ∨ k = -1) : LaxOk PU (GU m) XP (tbl T37) (itbl []) (a37 l r k) [] 37 [.sl 2 (facsL l) .no, .sl 2 (facsL r) .no, .int .i64 k] (facR (prodP l r k)) := by
  constructor
  rw [w37]
  have t13 : ∀ x : List Fac, tbl T37 13 [.sl 2 (facsL x) .no] = some (.int .i64 (checkF x), []) := fun x => by unfold T37; rw [tb_hit, s13, tF]
  have t54 : ∀ x : List Fac, lenOk x → tbl T37 54 [.sl 2 (facsL x) .no] = some (.sl 2 (facsL x) (.tok 0), [(x.length, 37)]) := fun x h => by unfold T37; rw [tb_miss (by decide), tb_hit, s54, tF, if_pos h]
  have t11 : ∀ x : List Fac, lenOk x → (∀ f ∈ x, iOk f.e) → tbl T37 11 [.sl 2 (facsL x) .no] = some (facR (normP x)) := fun x h h' => by unfold T37; rw [tb_miss (by decide), tb_miss (by decide), tb_hit, s11, tF, if_pos ⟨h, h'⟩]
  have hlen : ∀ x : List Fac, (facsL x).length = x.length := fun x => List.length_map ..
  refine ⟨checkF l, callIs_iff.2 (t13 l), fun h => retFac ?_ (.inr rfl), fun h => ⟨checkF r, callIs_iff.2 (t13 r), fun h' => retFac ?_ (.inr rfl), fun h' => ?_⟩⟩
  · have h : checkF l ≠ 0 := by simpa using h
    unfold prodP; rw [if_pos h]
  · have h : checkF l = 0 := by simpa using h
    have h' : checkF r ≠ 0 := by simpa using h'
    unfold prodP; rw [if_neg (by simpa using h), if_pos h']
  · have h : checkF l = 0 := by simpa using h
    have h' : checkF r = 0 := by simpa using h'
    have l4 := check_len h
    have r4 := check_len h'
    have hp : prodP l r k = normP (l ++ timesL r k) := by unfold prodP; rw [if_neg (by simpa using h), if_neg (by simpa using h')]
    have tl : ∀ y, y ≤ r.length → (l ++ timesL (r.take y) k).length ≤ 8 := fun y hy => by
      unfold timesL; rw [List.length_append, List.length_map, List.length_take]; omega
    refine ⟨facsL l, callIs_iff.2 (by rw [t54 l (by unfold lenOk; omega), hlen]), ⟨0, valsAre_iff.2 (by rw [hlen]; simp [timesL]), stIs_iff.2 (by rw [hlen]; simp [timesL]), Nat.zero_le _, trivial⟩, fun x hx => ⟨fun hlt => ?_, fun hlt => ?_⟩⟩
    · have hlt := of_decide_eq_true hlt
      have hlt' : x < r.length := by omega
      have hf := List.getElem?_eq_getElem hlt'
      have hm : r[x] ∈ r := List.getElem_mem hlt'
      generalize r[x] = f at hf hm
      have hn := near (check_mem h' f hm).2.2
      have hkw : IntKind.i64.wrap (k * f.e) = k * f.e := by rcases hk with rfl | rfl <;> exact wrap64_in (by omega) (by omega)
      have hsucc : l ++ timesL (r.take (x + 1)) k = (l ++ timesL (r.take x) k) ++ [⟨f.s, k * f.e⟩] := by
        unfold timesL; rw [List.take_add_one, hf, List.map_append]; simp
      refine ⟨⟨by omega, by rw [hlen]; omega⟩, f.s, f.e, take_fac (by simpa using hf), .inl rfl, ?_, (hlen _).symm, x + 1, valsAre_iff.2 ?_, stIs_iff.2 ?_, by omega, by omega⟩
      · rw [hlen]; exact Nat.le_trans (Nat.mul_le_mul_right 25 (show _ ≤ 9 by have := tl x (by omega); omega)) (by decide)
      · rw [hsucc, hkw, show IntKind.i64.wrap ((x : Int) + 1) = ((x + 1 : Nat) : Int) by rw [wrap64_in (by omega) (by omega)]; rfl]; generalize l ++ timesL (r.take x) k = L; simp [facA]
      · rw [hsucc, hlen]; generalize l ++ timesL (r.take x) k = L; simp
    · have hlt := of_decide_eq_false hlt
      have : x = r.length := by omega
      subst this
      rw [List.take_length]
      have he : ∀ f ∈ l ++ timesL r k, iOk f.e := fun f hf => by
        rcases List.mem_append.1 hf with hf | hf
        · have := near (check_mem h f hf).2.2; unfold iOk; omega
        · have := times_e hk h' f hf; unfold iOk; omega
      have hl8 := tl r.length (Nat.le_refl _)
      rw [List.take_length] at hl8
      exact ⟨_, _, callIs_iff.2 (t11 _ (by unfold lenOk; omega) he), retFac hp.symm (.inl rfl)⟩
theorem o37 (m : Int) : SpecOk PU (GU m) 37 s37 := lax_ofW (X := XP) (m := []) [2, 2] mixedU (tbl_cons (o13 m) (tbl_cons (o54 m) (tbl_cons (o11 m) tbl_nil))) itbl_nil fun args r h' => by
  unfold s37 at h'
  split at h'
  · split at h'
    · rename_i sz es o sz' es' o' k hz
      cases hu : unL unF es with
      | none => rw [hu] at h'; cases h'
      | some l =>
        cases hu' : unL unF es' with
        | none => rw [hu, hu'] at h'; cases h'
        | some q =>
          rw [hu, hu'] at h'
          simp only [Option.bind_some] at h'
          injection h' with h'; subst h'
          simp only [wkL, wkF hz.1 hu, wkF hz.2.1 hu']
          exact ⟨_, p37 m k l q hz.2.2⟩
    · cases h'
  · cases h'
theorem t37 {l r : List Fac} {k : Int} (hk : k = 1 ∨ k = -1) : tbl [(37, s37)] 37 [.sl 2 (facsL l) .no, .sl 2 (facsL r) .no, .int .i64 k] = some (facR (prodP l r k)) := by
  rw [tb_hit]; simp only [s37, true_or, true_and, if_pos hk, unFs, Option.bind_some]
theorem o16 (m : Int) : SpecOk PU (GU m) 16 s16 := sF2_of (X := XP) (tbl_cons (o37 m) tbl_nil) itbl_nil fun l r v h => by
  injection h with h; subst h
  refine ⟨nAn, ⟨?_⟩⟩
  rw [w16]
  exact ⟨_, _, callIs_iff.2 (t37 (.inl rfl)), retFac rfl (.inl rfl)⟩
theorem o18 (m : Int) : SpecOk PU (GU m) 18 s18 := sF2_of (X := XP) (tbl_cons (o37 m) tbl_nil) itbl_nil fun l r v h => by
  injection h with h; subst h
  refine ⟨nAn, ⟨?_⟩⟩
  rw [w18]
  exact ⟨_, _, callIs_iff.2 (t37 (.inr rfl)), retFac rfl (.inl rfl)⟩
end Go.Abs

namespace Go.Abs
open Go.Proofs Go.RowKit Go.Sort Go.Maps
def strOk (s : List UInt8) : Prop := s.length ≤ 100000000
instance (s : List UInt8) : Decidable (strOk s) := inferInstanceAs (Decidable (_ ≤ _))
section
variable {P : Program} {G : Glob} {E : Env} {w w' : World}
theorem glob_ifc {g : Nat} (hG : GlobOk G E w) (h : G g = some .ifc) : ∃ t x, w.cell? ⟨g, 0, none⟩ = some (.iface t x) := by
  have := (hG g _ h).2.1
  generalize hv : Value.pointer (some ⟨g, 0, none⟩) = v at this
  cases this with | elt _ _ _ _ b off u hcl hA hr h1 =>
  injection hv with hv
  injection hv with hv
  injection hv with h2 h3
  subst h2
  obtain ⟨_, h4⟩ := hA 0 _ 0 _ rfl rfl
  obtain ⟨t, x, h5⟩ := rep_ifc (hr 0 _ 0 _ rfl rfl)
  refine ⟨t, x, ?_⟩
  rw [← h5, ← h4]
  congr 2
theorem size_str {s : ByteArray} {l : List UInt8} (h : s.data.toList = l) : s.size = l.length := by rw [← h]; simp
/-- a table of integers that is a package variable -/
theorem glob_tab {g : Nat} {k : IntKind} {zs : List Int} (hG : GlobOk G E w) (h : G g = some (.agg (zs.map fun z => .int k z))) (hz : zs ≠ []) : w.heap[g]?.bind (fun o => match o with | .cells cs _ _ => some cs | _ => none) = some (zs.map fun z => Value.int k z).toArray := by
  obtain ⟨_, h1, _, h2⟩ := hG g _ h
  have hcell : ∀ j (hj : j < zs.length), w.cell? ⟨g, j, none⟩ = some (.int k zs[j]) := by
    generalize hv : Value.pointer (some ⟨g, 0, none⟩) = v at h1
    cases h1 with | elt _ _ _ _ b off u hcl hA hr h1 =>
    injection hv with hv
    injection hv with hv
    injection hv with h3 h4
    subst h3
    intro j hj
    have hc : (AV.agg (zs.map fun z => .int k z)).cells[j]? = some (.int k zs[j]) := by simp [AV.cells, hj]
    obtain ⟨_, h5⟩ := hA 0 _ j _ rfl hc
    have h6 := rep_int (hr 0 _ j _ rfl hc)
    rw [← h6, ← h5]
    congr 2
    omega
  have h0 := hcell 0 (List.length_pos_iff.2 hz)
  unfold World.cell? at hcell h0 h2
  simp only at hcell h0 h2
  cases ho : w.heap[g]? with
  | none => rw [ho] at h0; cases h0
  | some o =>
    rw [ho] at h0
    rw [ho] at hcell h2
    cases o with
    | cells cs e f =>
      simp only [Option.isSome_none, Bool.false_eq_true, if_false] at hcell h2
      simp only [Option.bind_some, Option.some.injEq]
      have hn : (AV.agg (zs.map fun z => .int k z)).cells.length = zs.length := by simp [AV.cells]
      rw [hn] at h2
      have hsz : cs.size ≤ zs.length := by
        apply Classical.byContradiction
        intro hlt
        rw [Array.getElem?_eq_getElem (by omega)] at h2
        cases h2
      apply Array.ext_getElem?
      intro i
      by_cases hi : i < zs.length
      · rw [hcell i hi]; simp [hi]
      · have e1 : cs[i]? = none := Array.getElem?_eq_none (by omega)
        rw [e1, List.getElem?_toArray, List.getElem?_map, List.getElem?_eq_none (by omega)]; rfl
    | _ => simp at h0
end
def atoiV (l : List UInt8) : Int := match Lib.atoiAll l with
  | .ok v => v
  | .range => Lib.atoiSat l
  | _ => 0
def atoiB (l : List UInt8) : Bool := match Lib.atoiAll l with
  | .ok _ => true
  | _ => false
def s42 : Spec := fun args => match args with
  | [.str l] => if strOk l then some (.tup [.int .i64 (atoiV l), if atoiB l = true then .lit .nilIface else .ifc], []) else none
  | _ => none
theorem o42 (m : Int) : SpecOk PU (GU m) 42 s42 := by
  intro g args r lv h E w vs hI hG hn' hv hcl
  simp only at h
  split at h
  case isFalse => cases h
  case isTrue e =>
  subst e
  unfold s42 at h
  split at h
  case h_2 => cases h
  case h_1 l =>
  split at h
  case isFalse => cases h
  case isTrue hl =>
  have hl' : l.length ≤ 100000000 := hl
  simp only [Option.some.injEq, Prod.mk.injEq] at h
  obtain ⟨rfl, rfl⟩ := h
  obtain ⟨a, rfl⟩ := vs_one hn'
  obtain ⟨s, rfl, hs⟩ := rep_str (hv 0 _ _ rfl rfl)
  have hsz : s.size = l.length := size_str hs
  refine .inl ⟨goodU (by kernel_rfl), ?_⟩
  unfold atoiV atoiB
  cases hA : Lib.atoiAll l with
  | ok v =>
    refine (Tryz.strconv_Atoi_ok s (by omega) v (by rw [hs]; exact hA) w).mono fun e w' ⟨he, hw⟩ => ⟨_, he, ?_⟩
    have hb : Below w.heap.size w w' := by
      rcases hw with rfl | ⟨t, rfl⟩
      · exact Below.refl _ _
      · exact Lib.bytesWorld_below _ _ _
    exact res_below hb fun B K => rep_tup2 (.int _ _) (.lit _ rfl)
  | range =>
    obtain ⟨t, x, hx⟩ := glob_ifc (g := 4) hG rfl
    refine (Tryz.strconv_Atoi_range s (by omega) (by rw [hs]; exact hA) _ w hx (.inr ⟨t, x, rfl⟩)).mono fun e w' ⟨N, he, _, _, hb⟩ => ⟨_, he, ?_⟩
    rw [← hs]
    exact res_below hb fun B K => rep_tup2 (.int _ _) (.ifc _ _)
  | _ =>
    obtain ⟨t, x, hx⟩ := glob_ifc (g := 3) hG rfl
    refine (Any.strconv_Atoi_syntax Tryz.laysC172 s (by omega) (by rw [hs]; exact hA) _ w hx (.inr ⟨t, x, rfl⟩)).mono fun e w' ⟨N, he, _, _, hb⟩ => ⟨_, he, ?_⟩
    exact res_below hb fun B K => rep_tup2 (.int _ _) (.ifc _ _)
def s44 : Spec := fun args => match args with
  | [.int .i64 n] => if iOk n then some (.str (Lib.itoa n), []) else none
  | _ => none
theorem o44 (m : Int) : SpecOk PU (GU m) 44 s44 := by
  intro g args r lv h E w vs hI hG hn' hv hcl
  simp only at h
  split at h
  case isFalse => cases h
  case isTrue e =>
  subst e
  unfold s44 at h
  split at h
  case h_2 => cases h
  case h_1 n =>
  split at h
  case isFalse => cases h
  case isTrue hl =>
  simp only [Option.some.injEq, Prod.mk.injEq] at h
  obtain ⟨rfl, rfl⟩ := h
  obtain ⟨a, rfl⟩ := vs_one hn'
  obtain rfl := rep_int (hv 0 _ _ rfl rfl)
  have htab : Lib.TabIs PU w "internal/strconv.uint64pow10" .u64 Lib.pow10Tab := by
    have hg : PU.globalNamed "internal/strconv.uint64pow10" = some 5 := by kernel_rfl
    have hk : GU m 5 = some (.agg (Lib.pow10Tab.map fun z => .int .u64 z)) := by
      show some keptPowsA = _
      unfold keptPowsA keptPows Lib.pow10Tab
      rw [List.map_map]; rfl
    have := glob_tab hG hk (by unfold Lib.pow10Tab; simp)
    unfold Lib.TabIs World.var?
    rw [hg]
    cases ho : w.heap[5]? with
    | none => rw [ho] at this; cases this
    | some o => rw [ho] at this; cases o <;> simp_all
  refine .inl ⟨goodU (by kernel_rfl), (Tryz.strconv_Itoa n hl.1 (by have := hl.2; omega) w htab).mono fun e w' ⟨he, k, os, hw⟩ => ⟨_, he, ?_⟩⟩
  subst hw
  exact res_below (Lib.below_grow _ _ (Nat.le_refl _) _ _) fun B K => .str _ _ rfl
def unS : AV → Option (List UInt8)
  | .str s => some s
  | _ => none
theorem unS_some {x : AV} {t : List UInt8} (h : unS x = some t) : x = .str t := by
  unfold unS at h
  split at h
  · injection h with h; subst h; rfl
  · cases h
theorem unSs (l : List (List UInt8)) : unL unS (l.map AV.str) = some l := unL_mk (g := AV.str) (fun _ => rfl) l
theorem unSs_some {es : List AV} {l : List (List UInt8)} (h : unL unS es = some l) : es = l.map AV.str := unL_some (fun _ _ h => unS_some h) h
/-- strings.Cut -/
def s41 : Spec := fun args => match args with
  | [.str s, .str sep] => if strOk s then some (.tup [.str (Lib.cut s sep).1, .str (Lib.cut s sep).2.1, .bool (Lib.cut s sep).2.2], []) else none
  | _ => none
theorem o41 (m : Int) : SpecOk PU (GU m) 41 s41 := by
  intro g args r lv h E w vs hI hG hn' hv hcl
  simp only at h
  split at h
  case isFalse => cases h
  case isTrue e =>
  subst e
  unfold s41 at h
  split at h
  case h_2 => cases h
  case h_1 l sep =>
  split at h
  case isFalse => cases h
  case isTrue hl =>
  unfold strOk at hl
  simp only [Option.some.injEq, Prod.mk.injEq] at h
  obtain ⟨rfl, rfl⟩ := h
  obtain ⟨a, b, rfl⟩ := vs_two hn'
  obtain ⟨s, rfl, hs⟩ := rep_str (hv 0 _ _ rfl rfl)
  obtain ⟨t, rfl, ht⟩ := rep_str (hv 1 _ _ rfl rfl)
  have hsz := size_str hs
  refine .inl ⟨goodU (by kernel_rfl), (Tryz.strings_Cut s t m w (by omega) (glob_int hG rfl)).mono fun e w' ⟨he, n, hw⟩ => ⟨_, he, ?_⟩⟩
  subst hw
  rw [hs, ht]
  refine res_below (⟨rfl, rfl, rfl, Nat.le_refl _, fun _ _ => rfl⟩ : Below w.heap.size w (w.drewN n)) fun B K => .tup _ _ rfl fun i c v hi hv => ?_
  match i, hi, hv with
  | 0, hi, hv => simp at hi hv; subst hi; subst hv; exact .str _ _ (by simp)
  | 1, hi, hv => simp at hi hv; subst hi; subst hv; exact .str _ _ (by simp)
  | 2, hi, hv => simp at hi hv; subst hi; subst hv; exact .bool _
  | i + 3, hi, hv => simp at hi
/-- strings.SplitN -/
def s40 : Spec := fun args => match args with
  | [.str s, .str sep, .int .i64 n] => if strOk s ∧ sep ≠ [] ∧ 1 ≤ n ∧ n ≤ 1000 then some (.sl 1 ((Lib.splitN s sep n.toNat).map AV.str) .no, []) else none
  | _ => none
theorem o40 (m : Int) : SpecOk PU (GU m) 40 s40 := by
  intro g args r lv h E w vs hI hG hn' hv hcl
  simp only at h
  split at h
  case isFalse => cases h
  case isTrue e =>
  subst e
  unfold s40 at h
  split at h
  case h_2 => cases h
  case h_1 l sep n =>
  split at h
  case isFalse => cases h
  case isTrue hl =>
  obtain ⟨hl, hsep, hn1, hn2⟩ := hl
  unfold strOk at hl
  simp only [Option.some.injEq, Prod.mk.injEq] at h
  obtain ⟨rfl, rfl⟩ := h
  obtain ⟨a, b, d, rfl⟩ := vs_three hn'
  obtain ⟨s, rfl, hs⟩ := rep_str (hv 0 _ _ rfl rfl)
  obtain ⟨t, rfl, ht⟩ := rep_str (hv 1 _ _ rfl rfl)
  obtain rfl := rep_int (hv 2 _ _ rfl rfl)
  have hsz := size_str hs
  have htz := size_str ht
  have ht1 : 1 ≤ t.size := by rw [htz]; exact List.length_pos_iff.2 hsep
  obtain ⟨N, rfl⟩ := Int.eq_ofNat_of_zero_le (show 0 ≤ n by omega)
  refine .inl ⟨goodU (by kernel_rfl), (Tryz.strings_SplitN s t N m w (by omega) (glob_int hG rfl) ht1 (by omega) (by omega)).mono fun e w' ⟨he, hw⟩ => ⟨_, he, ?_⟩⟩
  subst hw
  have hb : Below w.heap.size w (w.alloc (.cells (Lib.cellsOf (Lib.splitB t 0 (min N (s.size + 1) - 1) s) (min N (s.size + 1))) 9)) := (Below.refl _ _).alloc (Nat.le_refl _) _
  have hlen := Lib.splitB_length_le t 0 (min N (s.size + 1) - 1) s
  have hd := Lib.splitB_data t 0 (min N (s.size + 1) - 1) s
  have hsp : Lib.splitN l sep (N : Int).toNat = (Lib.splitB t 0 (min N (s.size + 1) - 1) s).map (·.data.toList) := by
    unfold Lib.splitN; rw [hd, hs, ht, ← hsz]; rfl
  generalize hL : Lib.splitB t 0 (min N (s.size + 1) - 1) s = L at *
  have hle : L.length ≤ min N (s.size + 1) := by omega
  rw [hsp]
  have hcap : min N (s.size + 1) ≤ maxLen := by unfold maxLen; omega
  refine res_strs hb (by rw [List.length_map]) ⟨by simp, .inr ⟨w.heap.size, min N (s.size + 1), Lib.cellsOf L (min N (s.size + 1)), rfl, Nat.le_refl _, heap_alloc_new w _, hle, hcap, by rw [Lib.cellsOf_size hle, Nat.mul_one], ?_⟩⟩
  rw [Nat.mul_one]
  unfold Lib.cellsOf
  simp only [List.map_map]
  rw [List.take_append_of_le_length (by simp), List.take_of_length_le (by simp)]
  rfl
/-- strings.Join -/
def s45 : Spec := fun args => match args with
  | [.sl sz es _, .str sep] => if sz = 1 ∨ es = [] then (unL unS es).bind fun l => if l.length ≤ 2000000 ∧ (Lib.join l sep).length ≤ 100000000 then some (.str (Lib.join l sep), []) else none else none
  | _ => none
theorem o45 (m : Int) : SpecOk PU (GU m) 45 s45 := by
  intro g args r lv h E w vs hI hG hn' hv hcl
  simp only at h
  split at h
  case isFalse => cases h
  case isTrue e =>
  subst e
  unfold s45 at h
  split at h
  case h_2 => cases h
  case h_1 sz es o sep =>
  split at h
  case isFalse => cases h
  case isTrue hz =>
  cases hu : unL unS es with
  | none => rw [hu] at h; cases h
  | some l =>
  rw [hu] at h
  simp only [Option.bind_some] at h
  split at h
  case isFalse => cases h
  case isTrue hl =>
  obtain ⟨hl1, hl2⟩ := hl
  simp only [Option.some.injEq, Prod.mk.injEq] at h
  obtain ⟨rfl, rfl⟩ := h
  obtain rfl := unSs_some hu
  obtain ⟨a, b, rfl⟩ := vs_two hn'
  obtain ⟨t, rfl, ht⟩ := rep_str (hv 1 _ _ rfl rfl)
  have hr := hv 0 _ _ rfl rfl
  refine .inl ⟨goodU (by kernel_rfl), ?_⟩
  cases hr with | sl _ _ _ A cap u hcap hmax hA hsz hcl' ho hr h1 =>
  have hlen : (l.map AV.str).length = l.length := List.length_map ..
  by_cases hne : l = []
  · subst hne
    refine (Tryz.strings_Join_none A cap t w).mono fun e w' ⟨he, hw⟩ => ⟨_, he, ?_⟩
    subst hw
    exact res_same fun B K => .str _ _ rfl
  · rcases hA with hA | ⟨bk, off, rfl, hc⟩
    · exact absurd (by simpa using hA) hne
    · have hz1 : sz = 1 := hz.resolve_right (by simpa using hne)
      subst hz1
      have hcell : ∀ (j : Nat) (x : List UInt8), l[j]? = some x → w.cell? ⟨bk, off + j, none⟩ = some (.string ⟨x.toArray⟩) ∧ E.I bk (off + j) := fun j x hx => by
        have e1 : (l.map AV.str)[j]? = some (.str x) := by rw [List.getElem?_map, hx]; rfl
        obtain ⟨i1, i2⟩ := hc j (.str x) 0 (.str x) e1 rfl
        have hrr := hr j (.str x) 0 (.str x) e1 rfl
        obtain ⟨s, hs1, hs2⟩ := rep_str hrr
        rw [hs1] at i2
        simp only [Nat.mul_one, Nat.add_zero] at i1 i2
        refine ⟨?_, i1⟩
        rw [i2]
        congr 2
        rw [← hs2]
      have hbk : bk < w.heap.size := by
        have h0 := List.getElem?_eq_getElem (List.length_pos_iff.2 hne)
        exact hI _ _ (hcell 0 _ h0).2
      have hxs : (l.map fun x => (⟨x.toArray⟩ : ByteArray)).length = l.length := List.length_map ..
      have hdt : (l.map fun x => (⟨x.toArray⟩ : ByteArray)).map (·.data.toList) = l := by
        rw [List.map_map]
        conv => rhs; rw [← List.map_id l]
        exact List.map_congr_left fun x _ => by simp
      have := Tryz.strings_Join bk off cap (l.map fun x => (⟨x.toArray⟩ : ByteArray)) t w (fun j x hx => by
        rw [List.getElem?_map] at hx
        cases hj : l[j]? with
        | none => simp [hj] at hx
        | some y => simp [hj] at hx; subst hx; exact (hcell j y hj).1) hbk (by rw [hxs]; omega) (by rw [hxs, ← hlen]; exact hcap) (by rw [hdt, ht]; omega)
      rw [hxs, hdt, ht, ← hlen] at this
      refine this.mono fun e w' ⟨he, hb⟩ => ⟨_, he, ?_⟩
      exact res_below hb fun B K => .str _ _ (by simp)
end Go.Abs

namespace Go.Abs
open Go.Proofs Go.RowKit
def partF (f : Fac) : List UInt8 := if f.e = 1 then f.s else f.s ++ ([94] ++ Lib.itoa f.e)
def fmtF (l : List Fac) : List UInt8 := Lib.join (l.map partF) [42]
/-- lists whose texts are printed: short ones, of words -/
def printOk (l : List Fac) : Prop := l.length ≤ 4 ∧ ∀ f ∈ l, f.s.length ≤ 24 ∧ iOk f.e
instance (l : List Fac) : Decidable (printOk l) := inferInstanceAs (Decidable (_ ∧ _))
def s23 : Spec := sF fun l => if printOk l then some (.str (fmtF l), []) else none
/-- a part of a text -/
def facP (t : List UInt8) : Option Fac :=
  if (Lib.cut t [94]).2.2 = true then
    (if atoiB (Lib.cut t [94]).2.1 = true then some ⟨(Lib.cut t [94]).1, atoiV (Lib.cut t [94]).2.1⟩ else none)
  else some ⟨t, 1⟩
def facsP : List (List UInt8) → Option (List Fac)
  | [] => some []
  | t :: l => match facP t, facsP l with
    | some f, some r => some (f :: r)
    | _, _ => none
def parseP (s : List UInt8) : List Fac × Int :=
  if s = [] then ([], 0) else
  match facsP (Lib.splitN s [42] 5) with
  | none => ([], 3)
  | some u => if checkF u = 0 ∧ fmtF u = s then (u, 0) else ([], 3)
def s21 : Spec := fun args => match args with
  | [.str s] => if strOk s then some (facR (parseP s)) else none
  | _ => none
def a23 (l : List Fac) : Anns := ⟨fun k => if k = 3 then some { α := Nat, slots := [3, 7, 8, 9], nb := 0, vals := fun i => [.sl 1 (((l.take i).map partF).map AV.str) (.tok 0), .sl 2 (facsL l) .no, .int .i64 l.length, .int .i64 i], sS := fun i => ⟨[], [(((l.take i).map partF).length, 9)]⟩, I := fun i => i ≤ l.length, μ := fun i => l.length - i, mint := [(3, 9)] } else none, nA⟩
def pcs (s : List UInt8) : List (List UInt8) := Lib.splitN s [42] 5
def preP (s : List UInt8) (i : Nat) : List Fac := (facsP ((pcs s).take i)).getD []
def a21 (s : List UInt8) : Anns := ⟨fun k => if k = 4 then some { α := Nat, slots := [0, 2, 15, 16, 17], nb := 0, vals := fun i => [.str s, .sl 2 (facsL (preP s i)) (.tok 0), .sl 1 ((pcs s).map AV.str) .no, .int .i64 (pcs s).length, .int .i64 i], sS := fun i => ⟨[], [((preP s i).length, 37)]⟩, I := fun i => i ≤ (pcs s).length ∧ (facsP ((pcs s).take i)).isSome = true, μ := fun i => (pcs s).length - i, mint := [(2, 37)] } else none, nA⟩
def shStrs : Sh × Option TypeId := (.val (.one (.sl 1 .no)), none)
def shIE : Sh × Option TypeId := (.tup [.one (.int .i64), .one .err], none)
def shCut : Sh × Option TypeId := (.tup [.one .str, .one .str, .one .bool], none)
def XQ : Shapes := fun f => match f with
  | 44 | 45 | 23 => some shS
  | 40 => some shStrs
  | 41 => some shCut
  | 42 => some shIE
  | 13 | 25 => some shI
  | 10 | 20 => some shB
  | 21 | 11 | 16 | 18 => some shFI
  | 26 => some (.val (.one (.sl 2 .no)), none)
  | _ => none
end Go.Abs

namespace Go.Abs
open Go.Proofs Go.RowKit
theorem w23 (m : Int) (l : List Fac) : (pureW PU (GU m) XQ (tbl [(44, s44), (45, s45)]) (itbl []) (a23 l) [] 23 [.sl 2 (facsL l) .no] (.str (fmtF l), [])) =
((∃ (y : Nat),
    ValsAre
        [AV.sl (nat_lit 1) [] (Own.tok (nat_lit 0)), AV.sl (nat_lit 2) (facsL l) Own.no, AV.int IntKind.i64 (↑(facsL l).length : Int),
 AV.int IntKind.i64 (0 : Int)]
        [AV.sl (nat_lit 1) (List.map AV.str (List.map partF (List.take y l))) (Own.tok (nat_lit 0)), AV.sl (nat_lit 2) (facsL l) Own.no,
 AV.int IntKind.i64 (↑l.length : Int), AV.int IntKind.i64 (↑y : Int)] ∧
      StIs { boxes := [], live := [(nat_lit 0, nat_lit 9)] } { boxes := [], live := [((List.map partF (List.take y l)).length, nat_lit 9)] } ∧
        y ≤ l.length ∧ True) ∧
  ∀ (x : Nat),
    x ≤ l.length →
      (decide ((↑x : Int) < (↑l.length : Int)) = true →
 ((0 : Int) ≤ (↑x : Int) ∧ (↑x : Int) < (↑(facsL l).length : Int)) ∧
 ∃ (s : List UInt8),
 ∃ (n : Int),
 takeAt PU (nat_lit 37) (facsL l) (↑x : Int).toNat (nat_lit 0) = some (AV.agg [AV.str s, AV.int IntKind.i64 n]) ∧
 ((n != (1 : Int)) = true →
 ∃ (s_1 : List UInt8),
 CallIs (tbl [(nat_lit 44, s44), (nat_lit 45, s45)] (nat_lit 44) [AV.int IntKind.i64 n]) (AV.str s_1) [] ∧
 nat_lit 1 + s_1.length ≤ nat_lit 9223372036854775807 ∧
 s.length + ([(94 : UInt8)] ++ s_1).length ≤ nat_lit 9223372036854775807 ∧
 (nat_lit 1 = nat_lit 1 ∨ List.map AV.str (List.map partF (List.take x l)) = []) ∧
 ((List.map AV.str (List.map partF (List.take x l))).length + (1 : Nat)) * nat_lit 17 ≤ nat_lit 70368744177664 ∧
 (List.map partF (List.take x l)).length = (List.map AV.str (List.map partF (List.take x l))).length ∧
 ∃ (y : Nat),
 ValsAre
 [AV.sl (nat_lit 1) (List.map AV.str (List.map partF (List.take x l)) ++ [AV.str (s ++ ([(94 : UInt8)] ++ s_1))])
 (Own.tok (nat_lit 0)),
 AV.sl (nat_lit 2) (facsL l) Own.no, AV.int IntKind.i64 (↑l.length : Int),
 AV.int IntKind.i64 (IntKind.i64.wrap ((↑x : Int) + (1 : Int)))]
 [AV.sl (nat_lit 1) (List.map AV.str (List.map partF (List.take y l))) (Own.tok (nat_lit 0)),
 AV.sl (nat_lit 2) (facsL l) Own.no, AV.int IntKind.i64 (↑l.length : Int), AV.int IntKind.i64 (↑y : Int)] ∧
 StIs { boxes := [], live := [((List.map AV.str (List.map partF (List.take x l))).length + nat_lit 1, nat_lit 9)] }
 { boxes := [], live := [((List.map partF (List.take y l)).length, nat_lit 9)] } ∧
 y ≤ l.length ∧ l.length - y < l.length - x) ∧
 ((n != (1 : Int)) = false →
 (nat_lit 1 = nat_lit 1 ∨ List.map AV.str (List.map partF (List.take x l)) = []) ∧
 ((List.map AV.str (List.map partF (List.take x l))).length + (1 : Nat)) * nat_lit 17 ≤ nat_lit 70368744177664 ∧
 (List.map partF (List.take x l)).length = (List.map AV.str (List.map partF (List.take x l))).length ∧
 ∃ (y : Nat),
 ValsAre
 [AV.sl (nat_lit 1) (List.map AV.str (List.map partF (List.take x l)) ++ [AV.str s]) (Own.tok (nat_lit 0)),
 AV.sl (nat_lit 2) (facsL l) Own.no, AV.int IntKind.i64 (↑l.length : Int),
 AV.int IntKind.i64 (IntKind.i64.wrap ((↑x : Int) + (1 : Int)))]
 [AV.sl (nat_lit 1) (List.map AV.str (List.map partF (List.take y l))) (Own.tok (nat_lit 0)),
 AV.sl (nat_lit 2) (facsL l) Own.no, AV.int IntKind.i64 (↑l.length : Int), AV.int IntKind.i64 (↑y : Int)] ∧
 StIs { boxes := [], live := [((List.map AV.str (List.map partF (List.take x l))).length + nat_lit 1, nat_lit 9)] }
 { boxes := [], live := [((List.map partF (List.take y l)).length, nat_lit 9)] } ∧
 y ≤ l.length ∧ l.length - y < l.length - x)) ∧
        (decide ((↑x : Int) < (↑l.length : Int)) = false →
 ∃ (s : List UInt8),
 CallIs
 (tbl [(nat_lit 44, s44), (nat_lit 45, s45)] (nat_lit 45)
 [AV.sl (nat_lit 1) (List.map AV.str (List.map partF (List.take x l))) Own.no, AV.str [(42 : UInt8)]])
 (AV.str s) [] ∧
 RetIs (AV.str s) [] (AV.str (fmtF l), []))) := by kernel_rfl
theorem w21 (m : Int) (s : List UInt8) : (laxW PU (GU m) XQ (tbl [(40, s40), (41, s41), (42, s42), (13, s13), (23, s23)]) (itbl []) (a21 s) [] 21 [.str s] (facR (parseP s))) =
(((s == []) = true →
    RetLax (AV.tup [AV.sl (nat_lit 0) [] Own.nil, AV.int IntKind.i64 (0 : Int)])
      (AV.tup [AV.sl (nat_lit 2) (facsL (parseP s).fst) Own.no, AV.int IntKind.i64 (parseP s).snd], [])) ∧
  ((s == []) = false →
    ∃ (es : List AV),
      CallIs
 (tbl [(nat_lit 40, s40), (nat_lit 41, s41), (nat_lit 42, s42), (nat_lit 13, s13), (nat_lit 23, s23)] (nat_lit 40)
 [AV.str s, AV.str [(42 : UInt8)], AV.int IntKind.i64 (5 : Int)])
 (AV.sl (nat_lit 1) es Own.no) [] ∧
        (∃ (y : Nat),
 ValsAre
 [AV.str s, AV.sl (nat_lit 2) [] (Own.tok (nat_lit 0)), AV.sl (nat_lit 1) es Own.no, AV.int IntKind.i64 (↑es.length : Int),
 AV.int IntKind.i64 (0 : Int)]
 [AV.str s, AV.sl (nat_lit 2) (facsL (preP s y)) (Own.tok (nat_lit 0)), AV.sl (nat_lit 1) (List.map AV.str (pcs s)) Own.no,
 AV.int IntKind.i64 (↑(pcs s).length : Int), AV.int IntKind.i64 (↑y : Int)] ∧
 StIs { boxes := [], live := [(nat_lit 0, nat_lit 37)] } { boxes := [], live := [((preP s y).length, nat_lit 37)] } ∧
 (y ≤ (pcs s).length ∧ (facsP (List.take y (pcs s))).isSome = true) ∧ True) ∧
 ∀ (x : Nat),
 x ≤ (pcs s).length ∧ (facsP (List.take x (pcs s))).isSome = true →
 (decide ((↑x : Int) < (↑(pcs s).length : Int)) = true →
 ((0 : Int) ≤ (↑x : Int) ∧ (↑x : Int) < (↑(List.map AV.str (pcs s)).length : Int)) ∧
 ∃ (s_1 : List UInt8),
 takeAt PU (nat_lit 9) (List.map AV.str (pcs s)) (↑x : Int).toNat (nat_lit 0) = some (AV.str s_1) ∧
 ∃ (s_2 : List UInt8),
 ∃ (s_3 : List UInt8),
 ∃ (b : Bool),
 CallIs
 (tbl [(nat_lit 40, s40), (nat_lit 41, s41), (nat_lit 42, s42), (nat_lit 13, s13), (nat_lit 23, s23)] (nat_lit 41)
 [AV.str s_1, AV.str [(94 : UInt8)]])
 (AV.tup [AV.str s_2, AV.str s_3, AV.bool b]) [] ∧
 (b = true →
 ∃ (n : Int),
 CallIs
 (tbl [(nat_lit 40, s40), (nat_lit 41, s41), (nat_lit 42, s42), (nat_lit 13, s13), (nat_lit 23, s23)] (nat_lit 42)
 [AV.str s_3])
 (AV.tup [AV.int IntKind.i64 n, AV.ifc]) [] ∧
 (true = true →
 RetLax (AV.tup [AV.sl (nat_lit 0) [] Own.nil, AV.int IntKind.i64 (3 : Int)])
 (AV.tup [AV.sl (nat_lit 2) (facsL (parseP s).fst) Own.no, AV.int IntKind.i64 (parseP s).snd], [])) ∧
 (true = false →
 (nat_lit 2 = nat_lit 2 ∨ facsL (preP s x) = []) ∧
 ((facsL (preP s x)).length + (1 : Nat)) * nat_lit 25 ≤ nat_lit 70368744177664 ∧
 (preP s x).length = (facsL (preP s x)).length ∧
 ∃ (y : Nat),
 ValsAre
 [AV.str s,
 AV.sl (nat_lit 2) (facsL (preP s x) ++ [AV.agg [AV.str s_2, AV.int IntKind.i64 n]])
 (Own.tok (nat_lit 0)),
 AV.sl (nat_lit 1) (List.map AV.str (pcs s)) Own.no, AV.int IntKind.i64 (↑(pcs s).length : Int),
 AV.int IntKind.i64 (IntKind.i64.wrap ((↑x : Int) + (1 : Int)))]
 [AV.str s, AV.sl (nat_lit 2) (facsL (preP s y)) (Own.tok (nat_lit 0)),
 AV.sl (nat_lit 1) (List.map AV.str (pcs s)) Own.no, AV.int IntKind.i64 (↑(pcs s).length : Int),
 AV.int IntKind.i64 (↑y : Int)] ∧
 StIs { boxes := [], live := [((facsL (preP s x)).length + nat_lit 1, nat_lit 37)] }
 { boxes := [], live := [((preP s y).length, nat_lit 37)] } ∧
 (y ≤ (pcs s).length ∧ (facsP (List.take y (pcs s))).isSome = true) ∧
 (pcs s).length - y < (pcs s).length - x) ∨
 CallIs
 (tbl [(nat_lit 40, s40), (nat_lit 41, s41), (nat_lit 42, s42), (nat_lit 13, s13), (nat_lit 23, s23)] (nat_lit 42)
 [AV.str s_3])
 (AV.tup [AV.int IntKind.i64 n, AV.lit Value.nilIface]) [] ∧
 (false = true →
 RetLax (AV.tup [AV.sl (nat_lit 0) [] Own.nil, AV.int IntKind.i64 (3 : Int)])
 (AV.tup [AV.sl (nat_lit 2) (facsL (parseP s).fst) Own.no, AV.int IntKind.i64 (parseP s).snd], [])) ∧
 (false = false →
 (nat_lit 2 = nat_lit 2 ∨ facsL (preP s x) = []) ∧
 ((facsL (preP s x)).length + (1 : Nat)) * nat_lit 25 ≤ nat_lit 70368744177664 ∧
 (preP s x).length = (facsL (preP s x)).length ∧
 ∃ (y : Nat),
 ValsAre
 [AV.str s,
 AV.sl (nat_lit 2) (facsL (preP s x) ++ [AV.agg [AV.str s_2, AV.int IntKind.i64 n]])
 (Own.tok (nat_lit 0)),
 AV.sl (nat_lit 1) (List.map AV.str (pcs s)) Own.no, AV.int IntKind.i64 (↑(pcs s).length : Int),
 AV.int IntKind.i64 (IntKind.i64.wrap ((↑x : Int) + (1 : Int)))]
 [AV.str s, AV.sl (nat_lit 2) (facsL (preP s y)) (Own.tok (nat_lit 0)),
 AV.sl (nat_lit 1) (List.map AV.str (pcs s)) Own.no, AV.int IntKind.i64 (↑(pcs s).length : Int),
 AV.int IntKind.i64 (↑y : Int)] ∧
 StIs { boxes := [], live := [((facsL (preP s x)).length + nat_lit 1, nat_lit 37)] }
 { boxes := [], live := [((preP s y).length, nat_lit 37)] } ∧
 (y ≤ (pcs s).length ∧ (facsP (List.take y (pcs s))).isSome = true) ∧
 (pcs s).length - y < (pcs s).length - x)) ∧
 (b = false →
 (nat_lit 2 = nat_lit 2 ∨ facsL (preP s x) = []) ∧
 ((facsL (preP s x)).length + (1 : Nat)) * nat_lit 25 ≤ nat_lit 70368744177664 ∧
 (preP s x).length = (facsL (preP s x)).length ∧
 ∃ (y : Nat),
 ValsAre
 [AV.str s,
 AV.sl (nat_lit 2) (facsL (preP s x) ++ [AV.agg [AV.str s_1, AV.int IntKind.i64 (1 : Int)]])
 (Own.tok (nat_lit 0)),
 AV.sl (nat_lit 1) (List.map AV.str (pcs s)) Own.no, AV.int IntKind.i64 (↑(pcs s).length : Int),
 AV.int IntKind.i64 (IntKind.i64.wrap ((↑x : Int) + (1 : Int)))]
 [AV.str s, AV.sl (nat_lit 2) (facsL (preP s y)) (Own.tok (nat_lit 0)),
 AV.sl (nat_lit 1) (List.map AV.str (pcs s)) Own.no, AV.int IntKind.i64 (↑(pcs s).length : Int),
 AV.int IntKind.i64 (↑y : Int)] ∧
 StIs { boxes := [], live := [((facsL (preP s x)).length + nat_lit 1, nat_lit 37)] }
 { boxes := [], live := [((preP s y).length, nat_lit 37)] } ∧
 (y ≤ (pcs s).length ∧ (facsP (List.take y (pcs s))).isSome = true) ∧ (pcs s).length - y < (pcs s).length - x)) ∧
 (decide ((↑x : Int) < (↑(pcs s).length : Int)) = false →
 ∃ (n : Int),
 CallIs
 (tbl [(nat_lit 40, s40), (nat_lit 41, s41), (nat_lit 42, s42), (nat_lit 13, s13), (nat_lit 23, s23)] (nat_lit 13)
 [AV.sl (nat_lit 2) (facsL (preP s x)) Own.no])
 (AV.int IntKind.i64 n) [] ∧
 ((n != (0 : Int)) = true →
 RetLax (AV.tup [AV.sl (nat_lit 0) [] Own.nil, AV.int IntKind.i64 (3 : Int)])
 (AV.tup [AV.sl (nat_lit 2) (facsL (parseP s).fst) Own.no, AV.int IntKind.i64 (parseP s).snd], [])) ∧
 ((n != (0 : Int)) = false →
 ∃ (s_1 : List UInt8),
 CallIs
 (tbl [(nat_lit 40, s40), (nat_lit 41, s41), (nat_lit 42, s42), (nat_lit 13, s13), (nat_lit 23, s23)] (nat_lit 23)
 [AV.sl (nat_lit 2) (facsL (preP s x)) Own.no])
 (AV.str s_1) [] ∧
 ((!s_1 == s) = true →
 RetLax (AV.tup [AV.sl (nat_lit 0) [] Own.nil, AV.int IntKind.i64 (3 : Int)])
 (AV.tup [AV.sl (nat_lit 2) (facsL (parseP s).fst) Own.no, AV.int IntKind.i64 (parseP s).snd], [])) ∧
 ((!s_1 == s) = false →
 RetLax (AV.tup [AV.sl (nat_lit 2) (facsL (preP s x)) (Own.tok (nat_lit 0)), AV.int IntKind.i64 (0 : Int)])
 (AV.tup [AV.sl (nat_lit 2) (facsL (parseP s).fst) Own.no, AV.int IntKind.i64 (parseP s).snd], [])))))) := by kernel_rfl
end Go.Abs

namespace Go.Abs
open Go.Proofs Go.RowKit Go.Maps Go.Sort
theorem itoa_len {n : Int} (h : iOk n) : (Lib.itoa n).length ≤ 21 := Lib.itoa_length_le n h.1 (by have := h.2; omega)
theorem part_len {f : Fac} (h : f.s.length ≤ 24 ∧ iOk f.e) : (partF f).length ≤ 46 := by
  have := itoa_len h.2
  unfold partF
  split
  · omega
  · simp; omega
theorem lens_le {l : List (List UInt8)} {k : Nat} (h : ∀ x ∈ l, x.length ≤ k) : Lib.lens l ≤ k * l.length := by
  induction l with
  | nil => simp [Lib.lens]
  | cons x l ih =>
    have h1 := ih fun y hy => h y (by simp [hy])
    have h2 := h x (by simp)
    unfold Lib.lens at *
    simp only [List.map_cons, List.sum_cons, List.length_cons, Nat.mul_add, Nat.mul_one]
    omega
theorem join_le {l : List (List UInt8)} {k : Nat} (h : ∀ x ∈ l, x.length ≤ k) : (Lib.join l [42]).length ≤ (k + 1) * l.length := by
  cases l with
  | nil => simp [Lib.join_nil]
  | cons x r =>
    have := lens_le h
    rw [Lib.join_length, Nat.add_mul]
    simp only [List.length_cons, List.length_nil] at *
    omega
theorem fmt_len {l : List Fac} (h : printOk l) : (fmtF l).length ≤ 188 := by
  have := join_le (l := l.map partF) (k := 46) fun x hx => by
    obtain ⟨f, hf, rfl⟩ := List.mem_map.1 hx
    exact part_len (h.2 f hf)
  rw [List.length_map] at this
  have h4 := h.1
  unfold fmtF
  omega
theorem p23 (m : Int) (l : List Fac) (hl : printOk l) : PureOk PU (GU m) XQ (tbl [(44, s44), (45, s45)]) (itbl []) (a23 l) [] 23 [.sl 2 (facsL l) .no] (.str (fmtF l), []) := by
  constructor
  rw [w23]
  have hlen : (facsL l).length = l.length := List.length_map ..
  have h4 := hl.1
  have hS : ∀ {S : St}, StIs S S := stIs_iff.2 rfl
  refine ⟨⟨0, valsAre_iff.2 (by rw [hlen]; rfl), hS, Nat.zero_le _, trivial⟩, fun x hx => ⟨fun hlt => ?_, fun hlt => ?_⟩⟩
  · have hlt := of_decide_eq_true hlt
    have hlt' : x < l.length := by omega
    have hf := List.getElem?_eq_getElem hlt'
    have hm : l[x] ∈ l := List.getElem_mem hlt'
    generalize l[x] = f at hf hm
    have hfl := hl.2 f hm
    have hroom : (List.map AV.str (List.map partF (List.take x l))).length + 1 ≤ 100 := by simp; omega
    have next : ∀ {t : List UInt8}, t = partF f → ∃ y : Nat,
        ValsAre [AV.sl 1 (List.map AV.str (List.map partF (List.take x l)) ++ [AV.str t]) (Own.tok 0), AV.sl 2 (facsL l) Own.no, AV.int .i64 (l.length : Int), AV.int .i64 (IntKind.i64.wrap ((x : Int) + 1))]
          [AV.sl 1 (List.map AV.str (List.map partF (List.take y l))) (Own.tok 0), AV.sl 2 (facsL l) Own.no, AV.int .i64 (l.length : Int), AV.int .i64 (y : Int)] ∧
        StIs { boxes := [], live := [((List.map AV.str (List.map partF (List.take x l))).length + 1, 9)] } { boxes := [], live := [((List.map partF (List.take y l)).length, 9)] } ∧ y ≤ l.length ∧ l.length - y < l.length - x := fun {t} ht => by
      subst ht
      have e : l.take (x + 1) = l.take x ++ [f] := by rw [List.take_add_one, hf]; rfl
      refine ⟨x + 1, valsAre_iff.2 ?_, stIs_iff.2 ?_, by omega, by omega⟩
      · rw [e, show IntKind.i64.wrap ((x : Int) + 1) = ((x + 1 : Nat) : Int) by rw [wrap64_in (by omega) (by omega)]; rfl]
        simp
      · rw [e]; simp
    refine ⟨⟨by omega, by rw [hlen]; omega⟩, f.s, f.e, take_fac (by simpa using hf), fun hne => ?_, fun heq => ⟨.inl rfl, Nat.le_trans (Nat.mul_le_mul_right 17 hroom) (by decide), by simp, next ?_⟩⟩
    · have hne : f.e ≠ 1 := by simpa using hne
      have hi := itoa_len hfl.2
      refine ⟨Lib.itoa f.e, callIs_iff.2 (by rw [tb_hit]; simp only [s44]; rw [if_pos hfl.2]), ?_, ?_, .inl rfl, Nat.le_trans (Nat.mul_le_mul_right 17 hroom) (by decide), by simp, next ?_⟩
      · exact Nat.le_trans (Nat.add_le_add_left hi 1) (by decide)
      · exact Nat.le_trans (show _ ≤ 100 by simp; omega) (by decide)
      · unfold partF; rw [if_neg hne]
    · have heq : f.e = 1 := by simpa using heq
      unfold partF; rw [if_pos heq]
  · have hlt := of_decide_eq_false hlt
    have : x = l.length := by omega
    subst this
    rw [List.take_length]
    refine ⟨fmtF l, callIs_iff.2 ?_, retIs_iff.2 rfl⟩
    rw [tb_miss (by decide), tb_hit]
    simp only [s45, true_or, if_true, unSs, Option.bind_some]
    rw [if_pos ⟨by rw [List.length_map]; omega, by have := fmt_len hl; unfold fmtF at this; omega⟩]
    rfl
theorem o23 (m : Int) : SpecOk PU (GU m) 23 s23 := sFp_of (X := XQ) (tbl_cons (o44 m) (tbl_cons (o45 m) tbl_nil)) itbl_nil fun l v h => by
  split at h
  · rename_i hl; injection h with h; subst h; exact ⟨_, p23 m l hl⟩
  · cases h
/-! ### Parse -/
theorem splitK_mem (sep : List UInt8) : ∀ (k : Nat) (s t : List UInt8), t ∈ Lib.splitK sep 0 k s → t.length ≤ s.length
  | 0, s, t, h => by simp [Lib.splitK] at h; rw [h]; exact Nat.le_refl _
  | k + 1, s, t, h => by
    unfold Lib.splitK at h
    split at h
    · simp at h; rw [h]; exact Nat.le_refl _
    · rcases List.mem_cons.1 h with h | h
      · rw [h, List.length_take]; omega
      · have := splitK_mem sep k _ t h
        rw [List.length_drop] at this; omega
theorem splitK_len (sep : List UInt8) : ∀ (k : Nat) (s : List UInt8), (Lib.splitK sep 0 k s).length ≤ k + 1
  | 0, s => by simp [Lib.splitK]
  | k + 1, s => by
    unfold Lib.splitK
    split
    · simp
    · have := splitK_len sep k (s.drop ((Lib.index s sep).toNat + sep.length))
      simp only [List.length_cons]; omega
theorem pcs_len (s : List UInt8) : (pcs s).length ≤ 5 := by
  have := splitK_len [42] (min 5 (s.length + 1) - 1) s
  unfold pcs Lib.splitN
  omega
theorem cut_len (s sep : List UInt8) : (Lib.cut s sep).1.length ≤ s.length ∧ (Lib.cut s sep).2.1.length ≤ s.length := by
  unfold Lib.cut
  split
  · simp only [List.length_take, List.length_drop]; omega
  · simp
theorem facsP_snoc : ∀ (l : List (List UInt8)) (t : List UInt8), facsP (l ++ [t]) = match facsP l, facP t with | some r, some f => some (r ++ [f]) | _, _ => none
  | [], t => by simp only [List.nil_append, facsP]; cases facP t <;> rfl
  | u :: l, t => by
    simp only [List.cons_append, facsP]
    rw [facsP_snoc l t]
    cases facP u <;> cases facsP l <;> cases facP t <;> rfl
theorem facsP_none {l : List (List UInt8)} {t : List UInt8} (h : t ∈ l) (ht : facP t = none) : facsP l = none := by
  induction l with
  | nil => simp at h
  | cons u l ih =>
    simp only [facsP]
    rcases List.mem_cons.1 h with rfl | h
    · rw [ht]
    · rw [ih h]; cases facP u <;> rfl
theorem facsP_len : ∀ {l : List (List UInt8)} {r : List Fac}, facsP l = some r → r.length = l.length
  | [], r, h => by simp [facsP] at h; subst h; rfl
  | t :: l, r, h => by
    simp only [facsP] at h
    split at h
    · rename_i f q _ h2
      injection h with h; subst h
      simp [facsP_len h2]
    · cases h
theorem check_print {l : List Fac} (h : checkF l = 0) : printOk l := by
  refine ⟨check_len h, fun f hf => ?_⟩
  obtain ⟨h1, _, h3⟩ := check_mem h f hf
  have := near h3
  simp only [wordB, Bool.and_eq_true, decide_eq_true_eq] at h1
  exact ⟨h1.1.1.2, by unfold iOk; omega⟩
abbrev T21 : List (FuncId × Spec) := [(40, s40), (41, s41), (42, s42), (13, s13), (23, s23)]
theorem atoi_v {l : List UInt8} : (atoiB l = true → tbl T21 42 [.str l] = if strOk l then some (.tup [.int .i64 (atoiV l), .lit .nilIface], []) else none) ∧ (atoiB l = false → tbl T21 42 [.str l] = if strOk l then some (.tup [.int .i64 (atoiV l), .ifc], []) else none) := by
  constructor
  · intro h; unfold T21; rw [tb_miss (by decide), tb_miss (by decide), tb_hit]; simp only [s42, h, if_true]
  · intro h; unfold T21; rw [tb_miss (by decide), tb_miss (by decide), tb_hit]; simp only [s42, h, Bool.false_eq_true, if_false]
theorem p21 (m : Int) (s : List UInt8) (hs : strOk s) : LaxOk PU (GU m) XQ (tbl T21) (itbl []) (a21 s) [] 21 [.str s] (facR (parseP s)) := by
  constructor
  rw [w21]
  have hso := hs
  unfold strOk at hso
  have h5 := pcs_len s
  have hlm : ((pcs s).map AV.str).length = (pcs s).length := List.length_map ..
  refine ⟨fun h => retFac (r := parseP s) (l := []) ?_ (.inr rfl), fun h => ⟨(pcs s).map AV.str, callIs_iff.2 ?_, ⟨0, valsAre_iff.2 (by rw [hlm]; rfl), stIs_iff.2 rfl, ⟨Nat.zero_le _, rfl⟩, trivial⟩, fun x hx => ⟨fun hlt => ?_, fun hlt => ?_⟩⟩⟩
  · have h : s = [] := by simpa using h
    unfold parseP; rw [if_pos h]
  · rw [tb_hit]; simp only [s40]; rw [if_pos ⟨hs, by decide, by decide, by decide⟩]; rfl
  · have hne : s ≠ [] := by simpa using h
    obtain ⟨hx1, hx2⟩ := hx
    have hlt := of_decide_eq_true hlt
    have hlt' : x < (pcs s).length := by omega
    have hf := List.getElem?_eq_getElem hlt'
    have hm : (pcs s)[x] ∈ pcs s := List.getElem_mem hlt'
    generalize (pcs s)[x] = t at hf hm
    have htl : t.length ≤ s.length := splitK_mem [42] _ s t hm
    have hct := cut_len t [94]
    obtain ⟨r, hr⟩ := Option.isSome_iff_exists.1 hx2
    have hpre : preP s x = r := by unfold preP; rw [hr]; rfl
    have hrl := facsP_len hr
    rw [List.length_take] at hrl
    have e : (pcs s).take (x + 1) = (pcs s).take x ++ [t] := by rw [List.take_add_one, hf]; rfl
    have bad : facP t = none → ([], (3 : Int)) = parseP s := fun hn => by
      have : facsP (Lib.splitN s [42] 5) = none := facsP_none hm hn
      unfold parseP; rw [if_neg hne, this]
    have hroom : (facsL (preP s x)).length + 1 ≤ 100 := by rw [hpre, List.length_map]; omega
    have next : ∀ {a : List UInt8} {n : Int}, facP t = some ⟨a, n⟩ → (2 = 2 ∨ facsL (preP s x) = []) ∧ ((facsL (preP s x)).length + 1) * 25 ≤ 70368744177664 ∧ (preP s x).length = (facsL (preP s x)).length ∧ ∃ y : Nat,
        ValsAre [AV.str s, AV.sl 2 (facsL (preP s x) ++ [AV.agg [AV.str a, AV.int .i64 n]]) (Own.tok 0), AV.sl 1 ((pcs s).map AV.str) Own.no, AV.int .i64 ((pcs s).length : Int), AV.int .i64 (IntKind.i64.wrap ((x : Int) + 1))]
          [AV.str s, AV.sl 2 (facsL (preP s y)) (Own.tok 0), AV.sl 1 ((pcs s).map AV.str) Own.no, AV.int .i64 ((pcs s).length : Int), AV.int .i64 (y : Int)] ∧
        StIs { boxes := [], live := [((facsL (preP s x)).length + 1, 37)] } { boxes := [], live := [((preP s y).length, 37)] } ∧ (y ≤ (pcs s).length ∧ (facsP ((pcs s).take y)).isSome = true) ∧ (pcs s).length - y < (pcs s).length - x := fun {a n} hft => by
      have hn : facsP ((pcs s).take (x + 1)) = some (r ++ [⟨a, n⟩]) := by rw [e, facsP_snoc, hr, hft]
      have hp1 : preP s (x + 1) = r ++ [⟨a, n⟩] := by unfold preP; rw [hn]; rfl
      refine ⟨.inl rfl, Nat.le_trans (Nat.mul_le_mul_right 25 hroom) (by decide), (List.length_map ..).symm, x + 1, valsAre_iff.2 ?_, stIs_iff.2 ?_, ⟨by omega, by rw [hn]; rfl⟩, by omega⟩
      · rw [hp1, hpre, show IntKind.i64.wrap ((x : Int) + 1) = ((x + 1 : Nat) : Int) by rw [wrap64_in (by omega) (by omega)]; rfl]; simp [facA]
      · rw [hp1, hpre]; simp
    refine ⟨⟨by omega, by rw [hlm]; omega⟩, t, take_str (by simpa using hf), (Lib.cut t [94]).1, (Lib.cut t [94]).2.1, (Lib.cut t [94]).2.2, callIs_iff.2 ?_, fun hb => ⟨atoiV (Lib.cut t [94]).2.1, ?_⟩, fun hb => next ?_⟩
    · rw [tb_miss (by decide), tb_hit]; simp only [s41]; rw [if_pos (show strOk t by unfold strOk; omega)]
    · have hok : strOk (Lib.cut t [94]).2.1 := by unfold strOk; omega
      cases ha : atoiB (Lib.cut t [94]).2.1 with
      | false =>
        exact .inl ⟨callIs_iff.2 (by rw [atoi_v.2 ha, if_pos hok]), fun _ => retFac (bad (by unfold facP; rw [if_pos hb, if_neg (by rw [ha]; simp)])) (.inr rfl), fun h => nomatch h⟩
      | true =>
        exact .inr ⟨callIs_iff.2 (by rw [atoi_v.1 ha, if_pos hok]), fun h => (nomatch h), fun _ => next (by unfold facP; rw [if_pos hb, if_pos ha])⟩
    · unfold facP; rw [if_neg (by rw [hb]; simp)]
  · have hne : s ≠ [] := by simpa using h
    obtain ⟨hx1, hx2⟩ := hx
    have hlt := of_decide_eq_false hlt
    have : x = (pcs s).length := by omega
    subst this
    rw [List.take_length] at hx2
    obtain ⟨r, hr⟩ := Option.isSome_iff_exists.1 hx2
    have hpre : preP s (pcs s).length = r := by unfold preP; rw [List.take_length, hr]; rfl
    have hpp : parseP s = if checkF r = 0 ∧ fmtF r = s then (r, 0) else ([], 3) := by
      have : facsP (Lib.splitN s [42] 5) = some r := hr
      unfold parseP; rw [if_neg hne, this]
    rw [hpre]
    refine ⟨checkF r, callIs_iff.2 (by rw [tb_miss (by decide), tb_miss (by decide), tb_miss (by decide), tb_hit, s13, tF]), fun hc => retFac ?_ (.inr rfl), fun hc => ?_⟩
    · have hc : checkF r ≠ 0 := by simpa using hc
      rw [hpp, if_neg (fun h => hc h.1)]
    · have hc : checkF r = 0 := by simpa using hc
      refine ⟨fmtF r, callIs_iff.2 (by rw [tb_miss (by decide), tb_miss (by decide), tb_miss (by decide), tb_miss (by decide), tb_hit, s23, tF, if_pos (check_print hc)]), fun hf => retFac ?_ (.inr rfl), fun hf => retFac ?_ (.inl rfl)⟩
      · have hf : fmtF r ≠ s := by simpa using hf
        rw [hpp, if_neg (fun h => hf h.2)]
      · have hf : fmtF r = s := by simpa using hf
        rw [hpp, if_pos ⟨hc, hf⟩]
theorem o21 (m : Int) : SpecOk PU (GU m) 21 s21 := lax_of (X := XQ) (m := []) mixedU (tbl_cons (o40 m) (tbl_cons (o41 m) (tbl_cons (o42 m) (tbl_cons (o13 m) (tbl_cons (o23 m) tbl_nil))))) itbl_nil fun args r h => by
  unfold s21 at h
  split at h
  · split at h
    · rename_i hs; injection h with h; subst h; exact ⟨_, p21 m _ hs⟩
    · cases h
  · cases h
end Go.Abs

namespace Go.Abs
open Go.Proofs Go.RowKit
def unitP (s : List UInt8) : List Fac := if (parseP s).2 ≠ 0 then [⟨[63], 0⟩] else (parseP s).1
def s26 : Spec := fun args => match args with
  | [.str s] => if strOk s then some (.sl 2 (facsL (unitP s)) .no, []) else none
  | _ => none
def expF : List Fac → List UInt8 → Int
  | [], _ => 0
  | f :: l, s => if f.s == s then f.e else expF l s
def s25 : Spec := fun args => match args with
  | [.sl sz es _, .str s] => if sz = 2 ∨ es = [] then (unL unF es).bind fun l => if hugeOk l then some (.int .i64 (expF l s), []) else none else none
  | _ => none
def a25 (l : List Fac) (s : List UInt8) : Anns := ⟨fun k => if k = 2 then some { α := Nat, slots := [0, 1, 5], nb := 0, vals := fun i => [.sl 2 (facsL l) .no, .str s, .int .i64 i], sS := fun _ => ⟨[], []⟩, I := fun i => i ≤ l.length ∧ expF l s = expF (l.drop i) s, μ := fun i => l.length - i } else none, nA⟩
def s10 : Spec := fun args => match args with
  | [] => some (.bool true, [])
  | _ => none
end Go.Abs

namespace Go.Abs
open Go.Proofs Go.RowKit
theorem w26 (m : Int) (s : List UInt8) : (laxW PU (GU m) XQ (tbl [(21, s21)]) (itbl []) nAn [] 26 [.str s] (.sl 2 (facsL (unitP s)) .no, [])) =
(∃ (es : List AV),
  ∃ (n : Int),
    CallIs (tbl [(nat_lit 21, s21)] (nat_lit 21) [AV.str s]) (AV.tup [AV.sl (nat_lit 2) es Own.no, AV.int IntKind.i64 n]) [] ∧
      ((n != (0 : Int)) = true →
 RetLax (AV.sl (nat_lit 2) [AV.agg [AV.str [(63 : UInt8)], AV.int IntKind.i64 (0 : Int)]] Own.full) (AV.sl (nat_lit 2) (facsL (unitP s)) Own.no, [])) ∧
        ((n != (0 : Int)) = false → RetLax (AV.sl (nat_lit 2) es Own.no) (AV.sl (nat_lit 2) (facsL (unitP s)) Own.no, []))) := by kernel_rfl
theorem w25 (m : Int) (l : List Fac) (s : List UInt8) : (pureW PU (GU m) XQ (tbl []) (itbl []) (a25 l s) [] 25 [.sl 2 (facsL l) .no, .str s] (.int .i64 (expF l s), [])) =
((∃ (y : Nat),
    ValsAre [AV.sl (nat_lit 2) (facsL l) Own.no, AV.str s, AV.int IntKind.i64 (0 : Int)]
        [AV.sl (nat_lit 2) (facsL l) Own.no, AV.str s, AV.int IntKind.i64 (↑y : Int)] ∧
      StIs { boxes := [], live := [] } { boxes := [], live := [] } ∧ (y ≤ l.length ∧ expF l s = expF (List.drop y l) s) ∧ True) ∧
  ∀ (x : Nat),
    x ≤ l.length ∧ expF l s = expF (List.drop x l) s →
      (decide ((↑x : Int) < (↑(facsL l).length : Int)) = true →
 ((0 : Int) ≤ (↑x : Int) ∧ (↑x : Int) < (↑(facsL l).length : Int)) ∧
 ∃ (s_1 : List UInt8),
 takeAt PU (nat_lit 9) (facsL l) (↑x : Int).toNat (nat_lit 0) = some (AV.str s_1) ∧
 ((s_1 == s) = true →
 ((0 : Int) ≤ (↑x : Int) ∧ (↑x : Int) < (↑(facsL l).length : Int)) ∧
 ∃ (n : Int),
 takeAt PU (nat_lit 3) (facsL l) (↑x : Int).toNat (nat_lit 1) = some (AV.int IntKind.i64 n) ∧
 RetIs (AV.int IntKind.i64 n) [] (AV.int IntKind.i64 (expF l s), [])) ∧
 ((s_1 == s) = false →
 ∃ (y : Nat),
 ValsAre [AV.sl (nat_lit 2) (facsL l) Own.no, AV.str s, AV.int IntKind.i64 (IntKind.i64.wrap ((↑x : Int) + (1 : Int)))]
 [AV.sl (nat_lit 2) (facsL l) Own.no, AV.str s, AV.int IntKind.i64 (↑y : Int)] ∧
 StIs { boxes := [], live := [] } { boxes := [], live := [] } ∧
 (y ≤ l.length ∧ expF l s = expF (List.drop y l) s) ∧ l.length - y < l.length - x)) ∧
        (decide ((↑x : Int) < (↑(facsL l).length : Int)) = false → RetIs (AV.int IntKind.i64 (0 : Int)) [] (AV.int IntKind.i64 (expF l s), []))) := by kernel_rfl
end Go.Abs

namespace Go.Abs
open Go.Proofs Go.RowKit
theorem spec_run {P : Program} {G : Glob} {R0 : Callee} (hm : P.follows .mixedOrders = true) (h0 : CalleeOk P G R0) {f : FuncId} {s : Spec} (h : ∀ args r, s args = some r → ∃ n, (evs P G R0 (fun _ => []) n).1 f args = some r) : SpecOk P G f s := by
  intro g args r lv hr
  simp only at hr
  split at hr
  · rename_i e
    subst e
    obtain ⟨n, hn⟩ := h args _ hr
    exact (evs_ok hm h0 (fun _ => []) n).1 g args r lv hn
  · cases hr
theorem p26 (m : Int) (s : List UInt8) (hs : strOk s) : LaxOk PU (GU m) XQ (tbl [(21, s21)]) (itbl []) nAn [] 26 [.str s] (.sl 2 (facsL (unitP s)) .no, []) := by
  constructor
  rw [w26]
  have ret : ∀ {l : List Fac} {o : Own}, l = unitP s → RetLax (AV.sl 2 (facsL l) o) (AV.sl 2 (facsL (unitP s)) Own.no, []) := fun h => by
    subst h
    refine retLax_iff.2 ⟨⟨rfl, rfl, .inl rfl⟩, ?_, rfl⟩
    rfl
  refine ⟨facsL (parseP s).1, (parseP s).2, callIs_iff.2 (by rw [tb_hit]; simp only [s21]; rw [if_pos hs]; rfl), fun h => ?_, fun h => ret ?_⟩
  · have h : (parseP s).2 ≠ 0 := by simpa using h
    exact ret (l := [⟨[63], 0⟩]) (by unfold unitP; rw [if_pos h])
  · have h : (parseP s).2 = 0 := by simpa using h
    unfold unitP; rw [if_neg (by simpa using h)]
theorem o26 (m : Int) : SpecOk PU (GU m) 26 s26 := lax_of (X := XQ) (m := []) mixedU (tbl_cons (o21 m) tbl_nil) itbl_nil fun args r h => by
  unfold s26 at h
  split at h
  · split at h
    · rename_i hs; injection h with h; subst h; exact ⟨_, p26 m _ hs⟩
    · cases h
  · cases h
theorem take_name {l : List Fac} {i : Nat} {f : Fac} (h : l[i]? = some f) : takeAt PU 9 (facsL l) i 0 = some (.str f.s) := by
  simp only [takeAt, List.getElem?_map, h, Option.map_some, agg9, takeA, facA, AV.cells]
  cases hs : sizeA PU 9 with
  | none => have := size9; rw [hs] at this; cases this
  | some s => rfl
theorem take_exp {l : List Fac} {i : Nat} {f : Fac} (h : l[i]? = some f) : takeAt PU 3 (facsL l) i 1 = some (.int .i64 f.e) := by
  have a3 : aggA PU 3 = some false := by kernel_rfl
  have s3 : (sizeA PU 3).isSome = true := by kernel_rfl
  simp only [takeAt, List.getElem?_map, h, Option.map_some, a3, takeA, facA, AV.cells]
  cases hs : sizeA PU 3 with
  | none => rw [hs] at s3; cases s3
  | some s => rfl
theorem expF_cons (f : Fac) (l : List Fac) (s : List UInt8) : expF (f :: l) s = if f.s == s then f.e else expF l s := rfl
theorem p25 (m : Int) (l : List Fac) (s : List UInt8) (hl : hugeOk l) : PureOk PU (GU m) XQ (tbl []) (itbl []) (a25 l s) [] 25 [.sl 2 (facsL l) .no, .str s] (.int .i64 (expF l s), []) := by
  constructor
  rw [w25]
  have hlen : (facsL l).length = l.length := List.length_map ..
  rw [hlen]
  unfold hugeOk at hl
  refine ⟨⟨0, valsAre_iff.2 rfl, stIs_iff.2 rfl, ⟨Nat.zero_le _, rfl⟩, trivial⟩, fun x hx => ⟨fun hlt => ?_, fun hlt => ?_⟩⟩
  · obtain ⟨hx1, hx2⟩ := hx
    have hlt := of_decide_eq_true hlt
    have hlt' : x < l.length := by omega
    have hf := List.getElem?_eq_getElem hlt'
    have hd : l.drop x = l[x] :: l.drop (x + 1) := List.drop_eq_getElem_cons hlt'
    generalize l[x] = f at hf hd
    rw [hd, expF_cons] at hx2
    refine ⟨⟨by omega, by omega⟩, f.s, take_name (by simpa using hf), fun he => ⟨⟨by omega, by omega⟩, f.e, take_exp (by simpa using hf), retIs_iff.2 ?_⟩, fun he => ⟨x + 1, valsAre_iff.2 (by rw [wrap64_in (by omega) (by omega)]; rfl), stIs_iff.2 rfl, ⟨by omega, ?_⟩, by omega⟩⟩
    · rw [if_pos he] at hx2; rw [hx2]
    · rw [if_neg (by rw [he]; simp)] at hx2; exact hx2
  · obtain ⟨hx1, hx2⟩ := hx
    have hlt := of_decide_eq_false hlt
    have : x = l.length := by omega
    subst this
    rw [List.drop_length] at hx2
    exact retIs_iff.2 (by rw [hx2]; rfl)
theorem o25 (m : Int) : SpecOk PU (GU m) 25 s25 := spec_ofW (X := XQ) (m := []) [2] mixedU tbl_nil itbl_nil fun args r h' => by
  unfold s25 at h'
  split at h'
  · split at h'
    · rename_i sz es o s hz
      cases hu : unL unF es with
      | none => rw [hu] at h'; cases h'
      | some l =>
        rw [hu] at h'
        simp only [Option.bind_some] at h'
        split at h'
        · rename_i hl
          injection h' with h'; subst h'
          simp only [wkL, wkF hz hu]
          exact ⟨_, p25 m l s hl⟩
        · cases h'
    · cases h'
  · cases h'
def lib10 : List (FuncId × Spec) := [(26, s26), (16, s16), (18, s18), (11, s11), (23, s23), (13, s13), (21, s21), (20, s39)]
theorem lib10_ok (m : Int) : CalleeOk PU (GU m) (tbl lib10) := tbl_cons (o26 m) (tbl_cons (o16 m) (tbl_cons (o18 m) (tbl_cons (o11 m) (tbl_cons (o23 m) (tbl_cons (o13 m) (tbl_cons (o21 m) (tbl_cons (o20 m) tbl_nil)))))))
set_option maxRecDepth 100000 in
theorem run10 (m : Int) : (evs PU (GU m) (tbl lib10) (fun _ => []) 60).1 10 [] = some (.bool true, []) := by kernel_rfl
theorem o10 (m : Int) : SpecOk PU (GU m) 10 s10 := spec_run mixedU (lib10_ok m) fun args r h => by
  unfold s10 at h
  split at h
  · injection h with h; subst h; exact ⟨60, run10 m⟩
  · cases h
end Go.Abs

namespace Go.Abs
open Go.Proofs Go.RowKit Go.Maps Go.Sort
theorem ltLN {a b : List UInt8} (h : a ≤ b) (hn : a ≠ b) : a < b := by
  apply Classical.byContradiction
  intro h2
  exact hn (List.le_antisymm h (List.not_lt.1 h2))
theorem sumN_app (a b : List Fac) (s : List UInt8) : sumN (a ++ b) s = sumN a s + sumN b s := by
  induction a with
  | nil => simp [sumN]
  | cons f a ih => simp only [List.cons_append, sumN, ih]; omega
theorem sumN_times (b : List Fac) (k : Int) (s : List UInt8) : sumN (timesL b k) s = k * sumN b s := by
  induction b with
  | nil => simp [timesL, sumN]
  | cons f b ih =>
    simp only [timesL, List.map_cons, sumN] at *
    rw [ih, Int.mul_add]
    split <;> simp
theorem sumN_not {l : List Fac} {s : List UInt8} (h : ∀ f ∈ l, f.s ≠ s) : sumN l s = 0 := by
  induction l with
  | nil => rfl
  | cons f l ih =>
    simp only [sumN]
    rw [if_neg (h f (by simp)), ih fun g hg => h g (by simp [hg])]; rfl
theorem sumN_ne {l : List Fac} {s : List UInt8} (h : sumN l s ≠ 0) : ∃ f ∈ l, f.s = s := by
  apply Classical.byContradiction
  intro hn
  exact h (sumN_not fun f hf e => hn ⟨f, hf, e⟩)
/-- in increasing order, no name twice -/
def Inc (l : List Fac) : Prop := l.Pairwise fun f g => f.s < g.s
theorem exp_sum {l : List Fac} (h : Inc l) (s : List UInt8) : expF l s = sumN l s := by
  induction l with
  | nil => rfl
  | cons f l ih =>
    obtain ⟨h1, h2⟩ := List.pairwise_cons.1 h
    rw [expF_cons]
    simp only [sumN]
    by_cases e : f.s = s
    · rw [if_pos (by simpa using e), if_pos e, sumN_not, Int.add_zero]
      intro g hg e2
      have := h1 g hg
      rw [e, e2] at this
      exact List.lt_irrefl _ this
    · rw [if_neg (by simpa using e), if_neg e, Int.zero_add]; exact ih h2
theorem leP_lt {q s : List UInt8} (h : leP (some q) s = false) : q < s := by
  simp only [leP, Bool.or_eq_false_iff] at h
  obtain ⟨h1, h2⟩ := h
  rw [bytesLess_eq, decide_eq_false_iff_not] at h1
  have h2 : s ≠ q := by simpa using h2
  rcases List.le_total q s with h | h
  · exact ltLN h (Ne.symm h2)
  · exact absurd (ltLN h h2) h1
theorem chk_inc : ∀ {l : List Fac} {p : Option (List UInt8)}, chk p l = 0 → Inc l ∧ ∀ q, p = some q → ∀ f ∈ l, q < f.s
  | [], p, _ => ⟨List.Pairwise.nil, fun q _ f hf => by simp at hf⟩
  | g :: l, p, h => by
    unfold chk at h
    split at h
    · cases h
    · split at h
      · cases h
      · split at h
        · cases h
        · rename_i h3
          obtain ⟨h4, h5⟩ := chk_inc h
          have h3 : leP p g.s = false := by simpa using h3
          refine ⟨List.pairwise_cons.2 ⟨fun f hf => h5 g.s rfl f hf, h4⟩, fun q hq f hf => ?_⟩
          subst hq
          have hlt := leP_lt h3
          rcases List.mem_cons.1 hf with rfl | hf
          · exact hlt
          · exact List.lt_trans hlt (h5 g.s rfl f hf)
theorem check_inc {l : List Fac} (h : checkF l = 0) : Inc l := by
  have := check_len h
  unfold checkF at h
  rw [if_neg (by omega)] at h
  exact (chk_inc h).1
theorem chk_of {l : List Fac} (hw : ∀ f ∈ l, wordB f.s = true ∧ f.e ≠ 0 ∧ farB f.e = false) (hi : Inc l) : ∀ p, (∀ q, p = some q → ∀ f ∈ l, q < f.s) → chk p l = 0 := by
  induction l with
  | nil => intro p _; rfl
  | cons g l ih =>
    intro p hp
    obtain ⟨h1, h2⟩ := List.pairwise_cons.1 hi
    obtain ⟨w1, w2, w3⟩ := hw g (by simp)
    unfold chk
    rw [if_neg (by rw [w1]; simp), if_neg (by rw [w3]; simp [w2]), if_neg, ih (fun f hf => hw f (by simp [hf])) h2 _ fun q hq f hf => by cases hq; exact h1 f hf]
    cases p with
    | none => simp [leP]
    | some q =>
      have := hp q rfl g (by simp)
      simp only [leP, Bool.or_eq_true, not_or, Bool.not_eq_true]
      constructor
      · rw [bytesLess_eq, decide_eq_false_iff_not]
        exact fun h => List.lt_irrefl _ (List.lt_trans this h)
      · simp only [beq_eq_false_iff_ne, ne_eq]
        rintro e; rw [e] at this; exact List.lt_irrefl _ this
theorem check_of {l : List Fac} (h4 : l.length ≤ 4) (hw : ∀ f ∈ l, wordB f.s = true ∧ f.e ≠ 0 ∧ farB f.e = false) (hi : Inc l) : checkF l = 0 := by
  unfold checkF
  rw [if_neg (by omega)]
  exact chk_of hw hi none fun q hq => by cases hq
/-- what a list says of each name says all -/
theorem inc_eq : ∀ {l r : List Fac}, Inc l → Inc r → (∀ f ∈ l, f.e ≠ 0) → (∀ f ∈ r, f.e ≠ 0) → (∀ s, sumN l s = sumN r s) → l = r
  | [], [], _, _, _, _, _ => rfl
  | [], g :: r, _, hr, _, he, h => by
    have := h g.s
    rw [← exp_sum hr, expF_cons, if_pos (by simp)] at this
    exact absurd this.symm (he g (by simp))
  | f :: l, [], hl, _, he, _, h => by
    have := h f.s
    rw [← exp_sum hl, expF_cons, if_pos (by simp)] at this
    exact absurd this (he f (by simp))
  | f :: l, g :: r, hl, hr, he, he', h => by
    obtain ⟨a1, a2⟩ := List.pairwise_cons.1 hl
    obtain ⟨b1, b2⟩ := List.pairwise_cons.1 hr
    have nf : sumN l f.s = 0 := sumN_not fun x hx e => by have := a1 x hx; rw [e] at this; exact List.lt_irrefl _ this
    have ng : sumN r g.s = 0 := sumN_not fun x hx e => by have := b1 x hx; rw [e] at this; exact List.lt_irrefl _ this
    have key : f.s = g.s := by
      apply Classical.byContradiction
      intro hne
      rcases List.le_total f.s g.s with hle | hle
      · have hlt := ltLN hle hne
        have h1 := h f.s
        simp only [sumN, if_true, nf] at h1
        rw [if_neg (Ne.symm hne), sumN_not (l := r) fun x hx e => by
          have := b1 x hx; rw [e] at this; exact List.lt_irrefl _ (List.lt_trans hlt this)] at h1
        exact he f (by simp) (by omega)
      · have hlt := ltLN hle (Ne.symm hne)
        have h1 := h g.s
        simp only [sumN, if_true, ng] at h1
        rw [if_neg hne, sumN_not (l := l) fun x hx e => by
          have := a1 x hx; rw [e] at this; exact List.lt_irrefl _ (List.lt_trans hlt this)] at h1
        exact he' g (by simp) (by omega)
    have hexp : f.e = g.e := by
      have h1 := h f.s
      simp only [sumN, if_true, nf] at h1
      rw [if_pos key.symm, key, ng] at h1
      omega
    have hfg : f = g := by cases f; cases g; simp at key hexp; simp [key, hexp]
    subst hfg
    rw [inc_eq a2 b2 (fun x hx => he x (by simp [hx])) (fun x hx => he' x (by simp [hx])) fun s => by have := h s; simp only [sumN] at this; omega]
theorem pick_mem (m : List (List UInt8 × Int)) : ∀ {ns : List (List UInt8)} {f : Fac}, f ∈ pickF m ns → f.s ∈ ns ∧ f.e = getS m f.s ∧ f.e ≠ 0
  | [], f, h => by simp [pickF] at h
  | s :: ns, f, h => by
    simp only [pickF] at h
    split at h
    · obtain ⟨h1, h2⟩ := pick_mem m h
      exact ⟨by simp [h1], h2⟩
    · rename_i hne
      rcases List.mem_cons.1 h with rfl | h
      · exact ⟨by simp, rfl, hne⟩
      · obtain ⟨h1, h2⟩ := pick_mem m h
        exact ⟨by simp [h1], h2⟩
theorem pick_inc (m : List (List UInt8 × Int)) : ∀ {ns : List (List UInt8)}, ns.Pairwise (fun a b => a < b) → Inc (pickF m ns)
  | [], _ => List.Pairwise.nil
  | s :: ns, h => by
    obtain ⟨h1, h2⟩ := List.pairwise_cons.1 h
    simp only [pickF]
    split
    · exact pick_inc m h2
    · exact List.pairwise_cons.2 ⟨fun f hf => h1 f.s (pick_mem m hf).1, pick_inc m h2⟩
theorem pick_sum (m : List (List UInt8 × Int)) : ∀ {ns : List (List UInt8)}, ns.Pairwise (fun a b => a < b) → ∀ s, sumN (pickF m ns) s = if s ∈ ns then getS m s else 0
  | [], _, s => by simp [pickF, sumN]
  | t :: ns, h, s => by
    obtain ⟨h1, h2⟩ := List.pairwise_cons.1 h
    have ih := pick_sum m h2 s
    have hnt : t ∉ ns := fun hm => List.lt_irrefl _ (h1 t hm)
    simp only [pickF]
    by_cases e : t = s
    · subst e
      rw [if_neg hnt] at ih
      split
      · rename_i hz; rw [ih, if_pos (by simp), hz]
      · simp only [sumN, if_true, ih]; simp
    · have hmem : s ∈ t :: ns ↔ s ∈ ns := by simp [Ne.symm e]
      split
      · rw [ih]; simp only [hmem]
      · simp only [sumN]; rw [if_neg e, ih]; simp only [hmem]; omega
theorem names_lt (l : List Fac) : (namesOf l).Pairwise fun a b => a < b := by
  have h1 : (namesOf l).Pairwise fun a b => leB a b = true := keptSort_sorted _
  have h2 := names_nodup l
  refine (h1.and h2).imp fun {a b} h => ?_
  have := h.1
  simp only [leB, decide_eq_true_eq] at this
  exact ltLN this h.2
/-- the list of a product -/
def canon (l : List Fac) : List Fac := pickF (sumsL l []) (namesOf l)
theorem canon_inc (l : List Fac) : Inc (canon l) := pick_inc _ (names_lt l)
theorem canon_ne (l : List Fac) : ∀ f ∈ canon l, f.e ≠ 0 := fun _f hf => (pick_mem _ hf).2.2
theorem canon_sum (l : List Fac) (s : List UInt8) : sumN (canon l) s = sumN l s := by
  unfold canon
  rw [pick_sum _ (names_lt l), getS_sums]
  split
  · rfl
  · rename_i h
    exact (sumN_not fun f hf e => h ((names_iff l s).2 ⟨f, hf, e⟩)).symm
theorem canon_mem {l : List Fac} {f : Fac} (h : f ∈ canon l) : f.e = sumN l f.s ∧ ∃ g ∈ l, g.s = f.s := by
  obtain ⟨h1, h2, _⟩ := pick_mem _ h
  rw [getS_sums] at h2
  exact ⟨h2, (names_iff l f.s).1 h1⟩
def farL (l : List Fac) : Bool := (namesOf l).any fun s => farB (sumN l s)
theorem farL_iff (l : List Fac) : farL l = true ↔ ∃ s, farB (sumN l s) = true := by
  unfold farL
  rw [List.any_eq_true]
  constructor
  · rintro ⟨s, _, h⟩; exact ⟨s, h⟩
  · rintro ⟨s, h⟩
    refine ⟨s, (names_iff l s).2 (sumN_ne fun h0 => ?_), h⟩
    rw [h0] at h; simp [farB] at h
theorem norm_eq {l : List Fac} (hw : ∀ f ∈ l, wordB f.s = true) : normP l = if farL l = true then ([], 70) else if 4 < (canon l).length then ([], 2) else (canon l, 0) := by
  have hall : (l.all fun f => wordB f.s) = true := List.all_eq_true.2 hw
  have e : ((namesOf l).any fun s => farB (getS (sumsL l []) s)) = farL l := by
    unfold farL
    congr 1
    funext s; rw [getS_sums]
  unfold normP
  rw [if_neg (by rw [hall]; simp), e]
  rfl
theorem norm_congr {l r : List Fac} (hl : ∀ f ∈ l, wordB f.s = true) (hr : ∀ f ∈ r, wordB f.s = true) (h : ∀ s, sumN l s = sumN r s) : normP l = normP r := by
  have h1 : farL l = farL r := by
    rw [Bool.eq_iff_iff, farL_iff, farL_iff]
    simp only [h]
  have h2 : canon l = canon r := inc_eq (canon_inc l) (canon_inc r) (canon_ne l) (canon_ne r) fun s => by rw [canon_sum, canon_sum, h]
  rw [norm_eq hl, norm_eq hr, h1, h2]
theorem check_words {l : List Fac} (h : checkF l = 0) : ∀ f ∈ l, wordB f.s = true := fun f hf => (check_mem h f hf).1
theorem sum_near {l : List Fac} (h : checkF l = 0) (s : List UInt8) : farB (sumN l s) = false := by
  rw [← exp_sum (check_inc h)]
  have hm := check_mem h
  clear h
  induction l with
  | nil => rfl
  | cons f l ih =>
    rw [expF_cons]
    split
    · exact (hm f (by simp)).2.2
    · exact ih fun g hg => hm g (by simp [hg])
/-- valid units are their own products -/
theorem norm_valid {l : List Fac} (h : checkF l = 0) : normP l = (l, 0) := by
  have hc : canon l = l := inc_eq (canon_inc l) (check_inc h) (canon_ne l) (fun f hf => (check_mem h f hf).2.1) fun s => canon_sum l s
  have hf : farL l = false := by
    rw [← Bool.not_eq_true, farL_iff]
    rintro ⟨s, hs⟩; rw [sum_near h s] at hs; cases hs
  rw [norm_eq (check_words h), hc, if_neg (by rw [hf]; simp), if_neg (by have := check_len h; omega)]
/-- products are valid -/
theorem norm_ok {l p : List Fac} (hw : ∀ f ∈ l, wordB f.s = true) (h : normP l = (p, 0)) : checkF p = 0 ∧ ∀ s, sumN p s = sumN l s := by
  rw [norm_eq hw] at h
  split at h
  · simp at h
  · rename_i hf
    split at h
    · simp at h
    · rename_i h4
      simp only [Prod.mk.injEq, and_true] at h
      subst h
      refine ⟨check_of (by omega) (fun f hf' => ?_) (canon_inc l), canon_sum l⟩
      obtain ⟨h1, g, hg, h2⟩ := canon_mem hf'
      refine ⟨by rw [← h2]; exact hw g hg, canon_ne l f hf', ?_⟩
      rw [h1]
      cases hb : farB (sumN l f.s) with
      | false => rfl
      | true => exact absurd ((farL_iff l).2 ⟨f.s, hb⟩) hf
theorem prod_words {l r : List Fac} {k : Int} (h : checkF l = 0) (h' : checkF r = 0) : ∀ f ∈ l ++ timesL r k, wordB f.s = true := fun f hf => by
  rcases List.mem_append.1 hf with hf | hf
  · exact check_words h f hf
  · obtain ⟨g, hg, rfl⟩ := List.mem_map.1 hf
    exact check_words h' g hg
theorem prod_sum (l r : List Fac) (k : Int) (s : List UInt8) : sumN (l ++ timesL r k) s = sumN l s + k * sumN r s := by rw [sumN_app, sumN_times]
theorem prod_eq {l r : List Fac} {k : Int} (h : checkF l = 0) (h' : checkF r = 0) : prodP l r k = normP (l ++ timesL r k) := by
  unfold prodP; rw [if_neg (by simpa using h), if_neg (by simpa using h')]
theorem prod_ok {l r p : List Fac} {k : Int} (h : prodP l r k = (p, 0)) : checkF l = 0 ∧ checkF r = 0 ∧ checkF p = 0 ∧ ∀ s, sumN p s = sumN l s + k * sumN r s := by
  by_cases h1 : checkF l = 0
  · by_cases h2 : checkF r = 0
    · rw [prod_eq h1 h2] at h
      obtain ⟨h3, h4⟩ := norm_ok (prod_words h1 h2) h
      exact ⟨h1, h2, h3, fun s => by rw [h4, prod_sum]⟩
    · unfold prodP at h
      rw [if_neg (by simpa using h1), if_pos h2] at h
      simp only [Prod.mk.injEq] at h
      exact absurd h.2 h2
  · unfold prodP at h
    rw [if_pos h1] at h
    simp only [Prod.mk.injEq] at h
    exact absurd h.2 h1
end Go.Abs

namespace Go.Abs
open Go.Proofs Go.RowKit
/-- lists of factors and what else a law is asked of -/
def s9 : Spec := fun args => match args with
  | [.sl sz es _, .sl sz' es' _, .str _] => if (sz = 2 ∨ es = []) ∧ (sz' = 2 ∨ es' = []) then (unL unF es).bind fun a => (unL unF es').bind fun b => if hugeOk a ∧ hugeOk b then some (.bool true, []) else none else none
  | _ => none
def s6 : Spec := fun args => match args with
  | [.sl sz es _, .sl sz' es' _, .sl sz'' es'' _] => if (sz = 2 ∨ es = []) ∧ (sz' = 2 ∨ es' = []) ∧ (sz'' = 2 ∨ es'' = []) then (unL unF es).bind fun a => (unL unF es').bind fun b => (unL unF es'').bind fun c => if hugeOk a ∧ hugeOk b ∧ hugeOk c then some (.bool true, []) else none else none
  | _ => none
def s8 : Spec := fun args => match args with
  | [.sl sz es _, .int .u8 n] => if (sz = 2 ∨ es = []) ∧ 0 ≤ n ∧ n < 256 then (unL unF es).bind fun a => if hugeOk a then some (.bool true, []) else none else none
  | _ => none
def s7 : Spec := fun args => match args with
  | [.sl sz es _, .sl sz' es' _, .str s] => if (sz = 2 ∨ es = []) ∧ (sz' = 2 ∨ es' = []) ∧ strOk s then (unL unF es).bind fun a => (unL unF es').bind fun b => if hugeOk a ∧ hugeOk b then some (.bool true, []) else none else none
  | _ => none
def repL (l : List Fac) (n : Nat) : List Fac := (List.replicate n l).flatten
def a8 (l : List Fac) (n : Nat) : Anns := ⟨fun k => match k with
  | 1000002 => some { α := Unit, slots := [0, 1, 5], nb := 0, vals := fun _ => [.sl 2 (facsL l) .no, .int .u8 n, .bool true], sS := fun _ => ⟨[], []⟩, I := fun _ => True, μ := fun _ => 0 }
  | 6 => some { α := Nat, slots := [0, 1, 5, 6, 7], nb := 0, vals := fun i => [.sl 2 (facsL l) .no, .int .u8 n, .bool true, .sl 2 (facsL (repL l i)) (.tok 0), .int .i64 i], sS := fun i => ⟨[], [((repL l i).length, 37)]⟩, I := fun i => i ≤ n % 20, μ := fun i => n % 20 - i, mint := [(6, 37)] }
  | 12 => some { α := Nat, slots := [0, 1, 5, 8, 9, 10, 11], nb := 0, vals := fun i => [.sl 2 (facsL l) .no, .int .u8 n, .bool true, .sl 2 (facsL (normP (repL l (n % 20))).1) .no, .int .i64 (normP (repL l (n % 20))).2, .bool ((l.take i).any fun f => farB (f.e * (n % 20 : Nat))), .int .i64 i], sS := fun _ => ⟨[], [((repL l (n % 20)).length, 37)]⟩, I := fun i => i ≤ l.length, μ := fun i => l.length - i, bools := [10] }
  | 23 => some { α := Nat, slots := [0, 1, 5, 8, 13], nb := 0, vals := fun i => [.sl 2 (facsL l) .no, .int .u8 n, .bool true, .sl 2 (facsL (normP (repL l (n % 20))).1) .no, .int .i64 i], sS := fun _ => ⟨[], [((repL l (n % 20)).length, 37)]⟩, I := fun i => i ≤ l.length, μ := fun i => l.length - i }
  | _ => none, nA⟩
def ok6 (a b c : List Fac) : Prop := checkF a = 0 ∧ checkF b = 0 ∧ checkF c = 0
def c6 (a b c : List Fac) : Option Ann := some { α := Unit, slots := [0, 1, 2, 7, 8, 9], nb := 0, vals := fun _ => [.sl 2 (facsL a) .no, .sl 2 (facsL b) .no, .sl 2 (facsL c) .no, .bool true, .sl 2 (facsL (prodP a b 1).1) .no, .int .i64 (prodP a b 1).2], sS := fun _ => ⟨[], []⟩, I := fun _ => ok6 a b c, μ := fun _ => 0 }
def a6 (a b c : List Fac) : Anns := ⟨fun k => match k with
  | 1000002 => some { α := Unit, slots := [0, 1, 2, 7], nb := 0, vals := fun _ => [.sl 2 (facsL a) .no, .sl 2 (facsL b) .no, .sl 2 (facsL c) .no, .bool true], sS := fun _ => ⟨[], []⟩, I := fun _ => True, μ := fun _ => 0 }
  | 1000004 => some { α := Unit, slots := [0, 1, 2, 7], nb := 0, vals := fun _ => [.sl 2 (facsL a) .no, .sl 2 (facsL b) .no, .sl 2 (facsL c) .no, .bool true], sS := fun _ => ⟨[], []⟩, I := fun _ => ok6 a b c, μ := fun _ => 0 }
  | 1000009 => c6 a b c
  | 1000013 => c6 a b c
  | 1000018 => c6 a b c
  | _ => none, nA⟩
def a7 (a b : List Fac) (s : List UInt8) : Anns := ⟨fun k => match k with
  | 1000002 => some { α := Unit, slots := [0, 1, 2, 7], nb := 0, vals := fun _ => [.sl 2 (facsL a) .no, .sl 2 (facsL b) .no, .str s, .bool true], sS := fun _ => ⟨[], []⟩, I := fun _ => True, μ := fun _ => 0 }
  | 1000006 => some { α := Unit, slots := [0, 1, 2, 7], nb := 0, vals := fun _ => [.sl 2 (facsL a) .no, .sl 2 (facsL b) .no, .str s, .bool true], sS := fun _ => ⟨[], []⟩, I := fun _ => checkF a = 0, μ := fun _ => 0 }
  | 1000008 => some { α := Unit, slots := [2, 7], nb := 0, vals := fun _ => [.str s, .bool true], sS := fun _ => ⟨[], []⟩, I := fun _ => True, μ := fun _ => 0 }
  | _ => none, nA⟩
end Go.Abs

namespace Go.Abs
open Go.Proofs Go.RowKit
theorem w9 (m : Int) (a b : List Fac) (s : List UInt8) : (pureW PU (GU m) XQ (tbl [(10, s10), (16, s16), (18, s18), (25, s25)]) (itbl []) nAn [] 9 [.sl 2 (facsL a) .no, .sl 2 (facsL b) .no, .str s] (.bool true, [])) =
(∃ (b_1 : Bool),
  CallIs (some (AV.bool true, [])) (AV.bool b_1) [] ∧
    (b_1 = true →
        ∃ (es : List AV),
 ∃ (n : Int),
 CallIs
 (tbl [(nat_lit 10, s10), (nat_lit 16, s16), (nat_lit 18, s18), (nat_lit 25, s25)] (nat_lit 16)
 [AV.sl (nat_lit 2) (facsL a) Own.no, AV.sl (nat_lit 2) (facsL b) Own.no])
 (AV.tup [AV.sl (nat_lit 2) es Own.no, AV.int IntKind.i64 n]) [] ∧
 ∃ (es_1 : List AV),
 ∃ (n_1 : Int),
 CallIs
 (tbl [(nat_lit 10, s10), (nat_lit 16, s16), (nat_lit 18, s18), (nat_lit 25, s25)] (nat_lit 18)
 [AV.sl (nat_lit 2) (facsL a) Own.no, AV.sl (nat_lit 2) (facsL b) Own.no])
 (AV.tup [AV.sl (nat_lit 2) es_1 Own.no, AV.int IntKind.i64 n_1]) [] ∧
 ∃ (n_2 : Int),
 CallIs
 (tbl [(nat_lit 10, s10), (nat_lit 16, s16), (nat_lit 18, s18), (nat_lit 25, s25)] (nat_lit 25)
 [AV.sl (nat_lit 2) (facsL a) Own.no, AV.str s])
 (AV.int IntKind.i64 n_2) [] ∧
 ∃ (n_3 : Int),
 CallIs
 (tbl [(nat_lit 10, s10), (nat_lit 16, s16), (nat_lit 18, s18), (nat_lit 25, s25)] (nat_lit 25)
 [AV.sl (nat_lit 2) (facsL b) Own.no, AV.str s])
 (AV.int IntKind.i64 n_3) [] ∧
 ((n != (0 : Int)) = true →
 ((n_1 != (0 : Int)) = true → RetIs (AV.bool true) [] (AV.bool true, [])) ∧
 ((n_1 != (0 : Int)) = false →
 ∃ (n : Int),
 CallIs
 (tbl [(nat_lit 10, s10), (nat_lit 16, s16), (nat_lit 18, s18), (nat_lit 25, s25)] (nat_lit 25)
 [AV.sl (nat_lit 2) es_1 Own.no, AV.str s])
 (AV.int IntKind.i64 n) [] ∧
 ((n == IntKind.i64.wrap (n_2 - n_3)) = true → RetIs (AV.bool true) [] (AV.bool true, [])) ∧
 ((n == IntKind.i64.wrap (n_2 - n_3)) = false → RetIs (AV.bool false) [] (AV.bool true, [])))) ∧
 ((n != (0 : Int)) = false →
 ∃ (n : Int),
 CallIs
 (tbl [(nat_lit 10, s10), (nat_lit 16, s16), (nat_lit 18, s18), (nat_lit 25, s25)] (nat_lit 25)
 [AV.sl (nat_lit 2) es Own.no, AV.str s])
 (AV.int IntKind.i64 n) [] ∧
 ((n == IntKind.i64.wrap (n_2 + n_3)) = true →
 ((n_1 != (0 : Int)) = true → RetIs (AV.bool true) [] (AV.bool true, [])) ∧
 ((n_1 != (0 : Int)) = false →
 ∃ (n : Int),
 CallIs
 (tbl [(nat_lit 10, s10), (nat_lit 16, s16), (nat_lit 18, s18), (nat_lit 25, s25)] (nat_lit 25)
 [AV.sl (nat_lit 2) es_1 Own.no, AV.str s])
 (AV.int IntKind.i64 n) [] ∧
 ((n == IntKind.i64.wrap (n_2 - n_3)) = true → RetIs (AV.bool true) [] (AV.bool true, [])) ∧
 ((n == IntKind.i64.wrap (n_2 - n_3)) = false → RetIs (AV.bool false) [] (AV.bool true, [])))) ∧
 ((n == IntKind.i64.wrap (n_2 + n_3)) = false → RetIs (AV.bool false) [] (AV.bool true, [])))) ∧
      (b_1 = false →
        ∃ (es : List AV),
 ∃ (n : Int),
 CallIs
 (tbl [(nat_lit 10, s10), (nat_lit 16, s16), (nat_lit 18, s18), (nat_lit 25, s25)] (nat_lit 16)
 [AV.sl (nat_lit 2) (facsL a) Own.no, AV.sl (nat_lit 2) (facsL b) Own.no])
 (AV.tup [AV.sl (nat_lit 2) es Own.no, AV.int IntKind.i64 n]) [] ∧
 ∃ (es : List AV),
 ∃ (n : Int),
 CallIs
 (tbl [(nat_lit 10, s10), (nat_lit 16, s16), (nat_lit 18, s18), (nat_lit 25, s25)] (nat_lit 18)
 [AV.sl (nat_lit 2) (facsL a) Own.no, AV.sl (nat_lit 2) (facsL b) Own.no])
 (AV.tup [AV.sl (nat_lit 2) es Own.no, AV.int IntKind.i64 n]) [] ∧
 ∃ (n : Int),
 CallIs
 (tbl [(nat_lit 10, s10), (nat_lit 16, s16), (nat_lit 18, s18), (nat_lit 25, s25)] (nat_lit 25)
 [AV.sl (nat_lit 2) (facsL a) Own.no, AV.str s])
 (AV.int IntKind.i64 n) [] ∧
 ∃ (n : Int),
 CallIs
 (tbl [(nat_lit 10, s10), (nat_lit 16, s16), (nat_lit 18, s18), (nat_lit 25, s25)] (nat_lit 25)
 [AV.sl (nat_lit 2) (facsL b) Own.no, AV.str s])
 (AV.int IntKind.i64 n) [] ∧
 RetIs (AV.bool false) [] (AV.bool true, []))) := by kernel_rfl
theorem w6 (m : Int) (a b c : List Fac) : (pureW PU (GU m) XQ (tbl [(10, s10), (13, s13), (16, s16), (18, s18), (20, s39)]) (itbl []) (a6 a b c) [] 6 [.sl 2 (facsL a) .no, .sl 2 (facsL b) .no, .sl 2 (facsL c) .no] (.bool true, [])) =
((∃ (b_1 : Bool),
    CallIs (some (AV.bool true, [])) (AV.bool b_1) [] ∧
      (b_1 = true →
 ∃ (_y : Unit),
 ValsAre [AV.sl (nat_lit 2) (facsL a) Own.no, AV.sl (nat_lit 2) (facsL b) Own.no, AV.sl (nat_lit 2) (facsL c) Own.no, AV.bool true]
 [AV.sl (nat_lit 2) (facsL a) Own.no, AV.sl (nat_lit 2) (facsL b) Own.no, AV.sl (nat_lit 2) (facsL c) Own.no, AV.bool true] ∧
 StIs { boxes := [], live := [] } { boxes := [], live := [] } ∧ True ∧ True) ∧
        (b_1 = false →
 ∃ (_y : Unit),
 ValsAre [AV.sl (nat_lit 2) (facsL a) Own.no, AV.sl (nat_lit 2) (facsL b) Own.no, AV.sl (nat_lit 2) (facsL c) Own.no, AV.bool false]
 [AV.sl (nat_lit 2) (facsL a) Own.no, AV.sl (nat_lit 2) (facsL b) Own.no, AV.sl (nat_lit 2) (facsL c) Own.no, AV.bool true] ∧
 StIs { boxes := [], live := [] } { boxes := [], live := [] } ∧ True ∧ True)) ∧
  ∀ (_x : Unit),
    True →
      True →
        (∃ (n : Int),
 CallIs
 (tbl [(nat_lit 10, s10), (nat_lit 13, s13), (nat_lit 16, s16), (nat_lit 18, s18), (nat_lit 20, s39)] (nat_lit 13)
 [AV.sl (nat_lit 2) (facsL a) Own.no])
 (AV.int IntKind.i64 n) [] ∧
 ((n != (0 : Int)) = true → RetIs (AV.bool true) [] (AV.bool true, [])) ∧
 ((n != (0 : Int)) = false →
 ∃ (n : Int),
 CallIs
 (tbl [(nat_lit 10, s10), (nat_lit 13, s13), (nat_lit 16, s16), (nat_lit 18, s18), (nat_lit 20, s39)] (nat_lit 13)
 [AV.sl (nat_lit 2) (facsL b) Own.no])
 (AV.int IntKind.i64 n) [] ∧
 ((n != (0 : Int)) = true → RetIs (AV.bool true) [] (AV.bool true, [])) ∧
 ((n != (0 : Int)) = false →
 ∃ (n : Int),
 CallIs
 (tbl [(nat_lit 10, s10), (nat_lit 13, s13), (nat_lit 16, s16), (nat_lit 18, s18), (nat_lit 20, s39)] (nat_lit 13)
 [AV.sl (nat_lit 2) (facsL c) Own.no])
 (AV.int IntKind.i64 n) [] ∧
 ((n != (0 : Int)) = true → RetIs (AV.bool true) [] (AV.bool true, [])) ∧
 ((n != (0 : Int)) = false →
 ∃ (_y : Unit),
 ValsAre
 [AV.sl (nat_lit 2) (facsL a) Own.no, AV.sl (nat_lit 2) (facsL b) Own.no, AV.sl (nat_lit 2) (facsL c) Own.no,
 AV.bool true]
 [AV.sl (nat_lit 2) (facsL a) Own.no, AV.sl (nat_lit 2) (facsL b) Own.no, AV.sl (nat_lit 2) (facsL c) Own.no,
 AV.bool true] ∧
 StIs { boxes := [], live := [] } { boxes := [], live := [] } ∧ ok6 a b c ∧ True)))) ∧
 ∀ (_x : Unit),
 ok6 a b c →
 True →
 ∃ (es : List AV),
 ∃ (n : Int),
 CallIs
 (tbl [(nat_lit 10, s10), (nat_lit 13, s13), (nat_lit 16, s16), (nat_lit 18, s18), (nat_lit 20, s39)] (nat_lit 16)
 [AV.sl (nat_lit 2) (facsL a) Own.no, AV.sl (nat_lit 2) (facsL b) Own.no])
 (AV.tup [AV.sl (nat_lit 2) es Own.no, AV.int IntKind.i64 n]) [] ∧
 ∃ (es_1 : List AV),
 ∃ (n_1 : Int),
 CallIs
 (tbl [(nat_lit 10, s10), (nat_lit 13, s13), (nat_lit 16, s16), (nat_lit 18, s18), (nat_lit 20, s39)] (nat_lit 16)
 [AV.sl (nat_lit 2) (facsL b) Own.no, AV.sl (nat_lit 2) (facsL a) Own.no])
 (AV.tup [AV.sl (nat_lit 2) es_1 Own.no, AV.int IntKind.i64 n_1]) [] ∧
 ∃ (es_2 : List AV),
 ∃ (n_2 : Int),
 CallIs
 (tbl [(nat_lit 10, s10), (nat_lit 13, s13), (nat_lit 16, s16), (nat_lit 18, s18), (nat_lit 20, s39)] (nat_lit 16)
 [AV.sl (nat_lit 2) (facsL a) Own.no, AV.sl (nat_lit 0) [] Own.nil])
 (AV.tup [AV.sl (nat_lit 2) es_2 Own.no, AV.int IntKind.i64 n_2]) [] ∧
 (((n != n_1) = true → RetIs (AV.bool false) [] (AV.bool true, [])) ∧
 ((n != n_1) = false →
 ∃ (b_1 : Bool),
 CallIs
 (tbl [(nat_lit 10, s10), (nat_lit 13, s13), (nat_lit 16, s16), (nat_lit 18, s18), (nat_lit 20, s39)] (nat_lit 20)
 [AV.sl (nat_lit 2) es Own.no, AV.sl (nat_lit 2) es_1 Own.no])
 (AV.bool b_1) [] ∧
 (b_1 = true →
 ((n_2 != (0 : Int)) = true → RetIs (AV.bool false) [] (AV.bool true, [])) ∧
 ((n_2 != (0 : Int)) = false →
 ∃ (b_2 : Bool),
 CallIs
 (tbl [(nat_lit 10, s10), (nat_lit 13, s13), (nat_lit 16, s16), (nat_lit 18, s18), (nat_lit 20, s39)]
 (nat_lit 20) [AV.sl (nat_lit 2) es_2 Own.no, AV.sl (nat_lit 2) (facsL a) Own.no])
 (AV.bool b_2) [] ∧
 (b_2 = true →
 ∃ (_y : Unit),
 ValsAre
 [AV.sl (nat_lit 2) (facsL a) Own.no, AV.sl (nat_lit 2) (facsL b) Own.no,
 AV.sl (nat_lit 2) (facsL c) Own.no, AV.bool true, AV.sl (nat_lit 2) es Own.no,
 AV.int IntKind.i64 n]
 [AV.sl (nat_lit 2) (facsL a) Own.no, AV.sl (nat_lit 2) (facsL b) Own.no,
 AV.sl (nat_lit 2) (facsL c) Own.no, AV.bool true,
 AV.sl (nat_lit 2) (facsL (prodP a b (1 : Int)).fst) Own.no,
 AV.int IntKind.i64 (prodP a b (1 : Int)).snd] ∧
 StIs { boxes := [], live := [] } { boxes := [], live := [] } ∧ ok6 a b c ∧ True) ∧
 (b_2 = false → RetIs (AV.bool false) [] (AV.bool true, [])))) ∧
 (b_1 = false → RetIs (AV.bool false) [] (AV.bool true, [])))) ∧
 ∀ (_x : Unit),
 ok6 a b c →
 True →
 ((((prodP a b (1 : Int)).snd == (0 : Int)) = true →
 ∃ (es : List AV),
 ∃ (n : Int),
 CallIs
 (tbl [(nat_lit 10, s10), (nat_lit 13, s13), (nat_lit 16, s16), (nat_lit 18, s18), (nat_lit 20, s39)]
 (nat_lit 18)
 [AV.sl (nat_lit 2) (facsL (prodP a b (1 : Int)).fst) Own.no, AV.sl (nat_lit 2) (facsL b) Own.no])
 (AV.tup [AV.sl (nat_lit 2) es Own.no, AV.int IntKind.i64 n]) [] ∧
 ((n != (0 : Int)) = true → RetIs (AV.bool false) [] (AV.bool true, [])) ∧
 ((n != (0 : Int)) = false →
 ∃ (b_1 : Bool),
 CallIs
 (tbl
 [(nat_lit 10, s10), (nat_lit 13, s13), (nat_lit 16, s16), (nat_lit 18, s18),
 (nat_lit 20, s39)]
 (nat_lit 20) [AV.sl (nat_lit 2) es Own.no, AV.sl (nat_lit 2) (facsL a) Own.no])
 (AV.bool b_1) [] ∧
 (b_1 = true →
 ∃ (_y : Unit),
 ValsAre
 [AV.sl (nat_lit 2) (facsL a) Own.no, AV.sl (nat_lit 2) (facsL b) Own.no,
 AV.sl (nat_lit 2) (facsL c) Own.no, AV.bool true,
 AV.sl (nat_lit 2) (facsL (prodP a b (1 : Int)).fst) Own.no,
 AV.int IntKind.i64 (prodP a b (1 : Int)).snd]
 [AV.sl (nat_lit 2) (facsL a) Own.no, AV.sl (nat_lit 2) (facsL b) Own.no,
 AV.sl (nat_lit 2) (facsL c) Own.no, AV.bool true,
 AV.sl (nat_lit 2) (facsL (prodP a b (1 : Int)).fst) Own.no,
 AV.int IntKind.i64 (prodP a b (1 : Int)).snd] ∧
 StIs { boxes := [], live := [] } { boxes := [], live := [] } ∧ ok6 a b c ∧ True) ∧
 (b_1 = false → RetIs (AV.bool false) [] (AV.bool true, [])))) ∧
 (((prodP a b (1 : Int)).snd == (0 : Int)) = false →
 ∃ (_y : Unit),
 ValsAre
 [AV.sl (nat_lit 2) (facsL a) Own.no, AV.sl (nat_lit 2) (facsL b) Own.no,
 AV.sl (nat_lit 2) (facsL c) Own.no, AV.bool true,
 AV.sl (nat_lit 2) (facsL (prodP a b (1 : Int)).fst) Own.no,
 AV.int IntKind.i64 (prodP a b (1 : Int)).snd]
 [AV.sl (nat_lit 2) (facsL a) Own.no, AV.sl (nat_lit 2) (facsL b) Own.no,
 AV.sl (nat_lit 2) (facsL c) Own.no, AV.bool true,
 AV.sl (nat_lit 2) (facsL (prodP a b (1 : Int)).fst) Own.no,
 AV.int IntKind.i64 (prodP a b (1 : Int)).snd] ∧
 StIs { boxes := [], live := [] } { boxes := [], live := [] } ∧ ok6 a b c ∧ True)) ∧
 ∀ (_x : Unit),
 ok6 a b c →
 True →
 ∃ (es : List AV),
 ∃ (n : Int),
 CallIs
 (tbl [(nat_lit 10, s10), (nat_lit 13, s13), (nat_lit 16, s16), (nat_lit 18, s18), (nat_lit 20, s39)]
 (nat_lit 18) [AV.sl (nat_lit 2) (facsL a) Own.no, AV.sl (nat_lit 2) (facsL b) Own.no])
 (AV.tup [AV.sl (nat_lit 2) es Own.no, AV.int IntKind.i64 n]) [] ∧
 (((n == (0 : Int)) = true →
 ∃ (es_3 : List AV),
 ∃ (n : Int),
 CallIs
 (tbl
 [(nat_lit 10, s10), (nat_lit 13, s13), (nat_lit 16, s16), (nat_lit 18, s18),
 (nat_lit 20, s39)]
 (nat_lit 16) [AV.sl (nat_lit 2) es Own.no, AV.sl (nat_lit 2) (facsL b) Own.no])
 (AV.tup [AV.sl (nat_lit 2) es_3 Own.no, AV.int IntKind.i64 n]) [] ∧
 ((n != (0 : Int)) = true → RetIs (AV.bool false) [] (AV.bool true, [])) ∧
 ((n != (0 : Int)) = false →
 ∃ (b_1 : Bool),
 CallIs
 (tbl
 [(nat_lit 10, s10), (nat_lit 13, s13), (nat_lit 16, s16), (nat_lit 18, s18),
 (nat_lit 20, s39)]
 (nat_lit 20)
 [AV.sl (nat_lit 2) es_3 Own.no, AV.sl (nat_lit 2) (facsL a) Own.no])
 (AV.bool b_1) [] ∧
 (b_1 = true →
 ∃ (_y : Unit),
 ValsAre
 [AV.sl (nat_lit 2) (facsL a) Own.no, AV.sl (nat_lit 2) (facsL b) Own.no,
 AV.sl (nat_lit 2) (facsL c) Own.no, AV.bool true,
 AV.sl (nat_lit 2) (facsL (prodP a b (1 : Int)).fst) Own.no,
 AV.int IntKind.i64 (prodP a b (1 : Int)).snd]
 [AV.sl (nat_lit 2) (facsL a) Own.no, AV.sl (nat_lit 2) (facsL b) Own.no,
 AV.sl (nat_lit 2) (facsL c) Own.no, AV.bool true,
 AV.sl (nat_lit 2) (facsL (prodP a b (1 : Int)).fst) Own.no,
 AV.int IntKind.i64 (prodP a b (1 : Int)).snd] ∧
 StIs { boxes := [], live := [] } { boxes := [], live := [] } ∧
 ok6 a b c ∧ True) ∧
 (b_1 = false → RetIs (AV.bool false) [] (AV.bool true, [])))) ∧
 ((n == (0 : Int)) = false →
 ∃ (_y : Unit),
 ValsAre
 [AV.sl (nat_lit 2) (facsL a) Own.no, AV.sl (nat_lit 2) (facsL b) Own.no,
 AV.sl (nat_lit 2) (facsL c) Own.no, AV.bool true,
 AV.sl (nat_lit 2) (facsL (prodP a b (1 : Int)).fst) Own.no,
 AV.int IntKind.i64 (prodP a b (1 : Int)).snd]
 [AV.sl (nat_lit 2) (facsL a) Own.no, AV.sl (nat_lit 2) (facsL b) Own.no,
 AV.sl (nat_lit 2) (facsL c) Own.no, AV.bool true,
 AV.sl (nat_lit 2) (facsL (prodP a b (1 : Int)).fst) Own.no,
 AV.int IntKind.i64 (prodP a b (1 : Int)).snd] ∧
 StIs { boxes := [], live := [] } { boxes := [], live := [] } ∧ ok6 a b c ∧ True)) ∧
 ∀ (_x : Unit),
 ok6 a b c →
 True →
 ∃ (es : List AV),
 ∃ (n : Int),
 CallIs
 (tbl
 [(nat_lit 10, s10), (nat_lit 13, s13), (nat_lit 16, s16), (nat_lit 18, s18),
 (nat_lit 20, s39)]
 (nat_lit 16) [AV.sl (nat_lit 2) (facsL b) Own.no, AV.sl (nat_lit 2) (facsL c) Own.no])
 (AV.tup [AV.sl (nat_lit 2) es Own.no, AV.int IntKind.i64 n]) [] ∧
 (((prodP a b (1 : Int)).snd != (0 : Int)) = true →
 RetIs (AV.bool true) [] (AV.bool true, [])) ∧
 (((prodP a b (1 : Int)).snd != (0 : Int)) = false →
 ((n != (0 : Int)) = true → RetIs (AV.bool true) [] (AV.bool true, [])) ∧
 ((n != (0 : Int)) = false →
 ∃ (es_3 : List AV),
 ∃ (n : Int),
 CallIs
 (tbl
 [(nat_lit 10, s10), (nat_lit 13, s13), (nat_lit 16, s16),
 (nat_lit 18, s18), (nat_lit 20, s39)]
 (nat_lit 16)
 [AV.sl (nat_lit 2) (facsL (prodP a b (1 : Int)).fst) Own.no,
 AV.sl (nat_lit 2) (facsL c) Own.no])
 (AV.tup [AV.sl (nat_lit 2) es_3 Own.no, AV.int IntKind.i64 n]) [] ∧
 ∃ (es_4 : List AV),
 ∃ (n_3 : Int),
 CallIs
 (tbl
 [(nat_lit 10, s10), (nat_lit 13, s13), (nat_lit 16, s16),
 (nat_lit 18, s18), (nat_lit 20, s39)]
 (nat_lit 16)
 [AV.sl (nat_lit 2) (facsL a) Own.no, AV.sl (nat_lit 2) es Own.no])
 (AV.tup [AV.sl (nat_lit 2) es_4 Own.no, AV.int IntKind.i64 n_3])
 [] ∧
 ((n == n_3) = true →
 ∃ (b : Bool),
 CallIs
 (tbl
 [(nat_lit 10, s10), (nat_lit 13, s13), (nat_lit 16, s16),
 (nat_lit 18, s18), (nat_lit 20, s39)]
 (nat_lit 20)
 [AV.sl (nat_lit 2) es_3 Own.no,
 AV.sl (nat_lit 2) es_4 Own.no])
 (AV.bool b) [] ∧
 (b = true → RetIs (AV.bool true) [] (AV.bool true, [])) ∧
 (b = false → RetIs (AV.bool false) [] (AV.bool true, []))) ∧
 ((n == n_3) = false → RetIs (AV.bool false) [] (AV.bool true, []))))) := by kernel_rfl
theorem w8 (m : Int) (l : List Fac) (n : Nat) : (pureW PU (GU m) XQ (tbl [(10, s10), (13, s13), (11, s11)]) (itbl []) (a8 l n) [] 8 [.sl 2 (facsL l) .no, .int .u8 n] (.bool true, [])) =
((∃ (b : Bool),
    CallIs (some (AV.bool true, [])) (AV.bool b) [] ∧
      (b = true →
 ∃ (_y : Unit),
 ValsAre [AV.sl (nat_lit 2) (facsL l) Own.no, AV.int IntKind.u8 (↑n : Int), AV.bool true]
 [AV.sl (nat_lit 2) (facsL l) Own.no, AV.int IntKind.u8 (↑n : Int), AV.bool true] ∧
 StIs { boxes := [], live := [] } { boxes := [], live := [] } ∧ True ∧ True) ∧
        (b = false →
 ∃ (_y : Unit),
 ValsAre [AV.sl (nat_lit 2) (facsL l) Own.no, AV.int IntKind.u8 (↑n : Int), AV.bool false]
 [AV.sl (nat_lit 2) (facsL l) Own.no, AV.int IntKind.u8 (↑n : Int), AV.bool true] ∧
 StIs { boxes := [], live := [] } { boxes := [], live := [] } ∧ True ∧ True)) ∧
  ∀ (_x : Unit),
    True →
      True →
        ∃ (n_1 : Int),
 CallIs (tbl [(nat_lit 10, s10), (nat_lit 13, s13), (nat_lit 11, s11)] (nat_lit 13) [AV.sl (nat_lit 2) (facsL l) Own.no]) (AV.int IntKind.i64 n_1) [] ∧
 ((n_1 != (0 : Int)) = true → RetIs (AV.bool true) [] (AV.bool true, [])) ∧
 ((n_1 != (0 : Int)) = false →
 (∃ (y : Nat),
 ValsAre
 [AV.sl (nat_lit 2) (facsL l) Own.no, AV.int IntKind.u8 (↑n : Int), AV.bool true, AV.sl (nat_lit 2) [] (Own.tok (nat_lit 0)),
 AV.int IntKind.i64 (0 : Int)]
 [AV.sl (nat_lit 2) (facsL l) Own.no, AV.int IntKind.u8 (↑n : Int), AV.bool true,
 AV.sl (nat_lit 2) (facsL (repL l y)) (Own.tok (nat_lit 0)), AV.int IntKind.i64 (↑y : Int)] ∧
 StIs { boxes := [], live := [(nat_lit 0, nat_lit 37)] } { boxes := [], live := [((repL l y).length, nat_lit 37)] } ∧
 y ≤ n % (20 : Nat) ∧ True) ∧
 ∀ (x : Nat),
 x ≤ n % (20 : Nat) →
 (20 : Int) ≠ (0 : Int) ∧
 (decide ((↑x : Int) < IntKind.i64.wrap ((↑n : Int).tmod (20 : Int))) = true →
 (nat_lit 2 = nat_lit 2 ∨ facsL (repL l x) = []) ∧
 ((facsL (repL l x)).length + (facsL l).length) * nat_lit 25 ≤ nat_lit 70368744177664 ∧
 (repL l x).length = (facsL (repL l x)).length ∧
 ∃ (y : Nat),
 ValsAre
 [AV.sl (nat_lit 2) (facsL l) Own.no, AV.int IntKind.u8 (↑n : Int), AV.bool true,
 AV.sl (nat_lit 2) (facsL (repL l x) ++ facsL l) (Own.tok (nat_lit 0)),
 AV.int IntKind.i64 (IntKind.i64.wrap ((↑x : Int) + (1 : Int)))]
 [AV.sl (nat_lit 2) (facsL l) Own.no, AV.int IntKind.u8 (↑n : Int), AV.bool true,
 AV.sl (nat_lit 2) (facsL (repL l y)) (Own.tok (nat_lit 0)), AV.int IntKind.i64 (↑y : Int)] ∧
 StIs { boxes := [], live := [((facsL (repL l x)).length + (facsL l).length, nat_lit 37)] }
 { boxes := [], live := [((repL l y).length, nat_lit 37)] } ∧
 y ≤ n % (20 : Nat) ∧ n % nat_lit 20 - y < n % nat_lit 20 - x) ∧
 (decide ((↑x : Int) < IntKind.i64.wrap ((↑n : Int).tmod (20 : Int))) = false →
 ∃ (es : List AV),
 ∃ (n_2 : Int),
 CallIs
 (tbl [(nat_lit 10, s10), (nat_lit 13, s13), (nat_lit 11, s11)] (nat_lit 11) [AV.sl (nat_lit 2) (facsL (repL l x)) Own.no])
 (AV.tup [AV.sl (nat_lit 2) es Own.no, AV.int IntKind.i64 n_2]) [] ∧
 (∃ (y : Nat),
 ValsAre
 [AV.sl (nat_lit 2) (facsL l) Own.no, AV.int IntKind.u8 (↑n : Int), AV.bool true, AV.sl (nat_lit 2) es Own.no,
 AV.int IntKind.i64 n_2, AV.bool false, AV.int IntKind.i64 (0 : Int)]
 [AV.sl (nat_lit 2) (facsL l) Own.no, AV.int IntKind.u8 (↑n : Int), AV.bool true,
 AV.sl (nat_lit 2) (facsL (normP (repL l (n % nat_lit 20))).fst) Own.no,
 AV.int IntKind.i64 (normP (repL l (n % nat_lit 20))).snd,
 AV.bool ((List.take y l).any fun (f : Fac) => farB (f.e * (↑(n % (20 : Nat)) : Int))),
 AV.int IntKind.i64 (↑y : Int)] ∧
 StIs { boxes := [], live := [((repL l x).length, nat_lit 37)] }
 { boxes := [], live := [((repL l (n % nat_lit 20)).length, nat_lit 37)] } ∧
 y ≤ l.length ∧ True) ∧
 ∀ (x : Nat),
 x ≤ l.length →
 (((List.take x l).any fun (f : Fac) => farB (f.e * (↑(n % (20 : Nat)) : Int))) = true →
 (decide ((↑x : Int) < (↑(facsL l).length : Int)) = true →
 ((0 : Int) ≤ (↑x : Int) ∧ (↑x : Int) < (↑(facsL l).length : Int)) ∧
 ∃ (n_3 : Int),
 takeAt PU (nat_lit 3) (facsL l) (↑x : Int).toNat (nat_lit 1) = some (AV.int IntKind.i64 n_3) ∧
 (20 : Int) ≠ (0 : Int) ∧
 ∃ (y : Nat),
 ValsAre
 [AV.sl (nat_lit 2) (facsL l) Own.no, AV.int IntKind.u8 (↑n : Int), AV.bool true,
 AV.sl (nat_lit 2) (facsL (normP (repL l (n % nat_lit 20))).fst) Own.no,
 AV.int IntKind.i64 (normP (repL l (n % nat_lit 20))).snd, AV.bool true,
 AV.int IntKind.i64 (IntKind.i64.wrap ((↑x : Int) + (1 : Int)))]
 [AV.sl (nat_lit 2) (facsL l) Own.no, AV.int IntKind.u8 (↑n : Int), AV.bool true,
 AV.sl (nat_lit 2) (facsL (normP (repL l (n % nat_lit 20))).fst) Own.no,
 AV.int IntKind.i64 (normP (repL l (n % nat_lit 20))).snd,
 AV.bool ((List.take y l).any fun (f : Fac) => farB (f.e * (↑(n % (20 : Nat)) : Int))),
 AV.int IntKind.i64 (↑y : Int)] ∧
 StIs { boxes := [], live := [((repL l (n % nat_lit 20)).length, nat_lit 37)] }
 { boxes := [], live := [((repL l (n % nat_lit 20)).length, nat_lit 37)] } ∧
 y ≤ l.length ∧ l.length - y < l.length - x) ∧
 (decide ((↑x : Int) < (↑(facsL l).length : Int)) = false →
 (((normP (repL l (n % nat_lit 20))).snd == (70 : Int)) = true → RetIs (AV.bool true) [] (AV.bool true, [])) ∧
 (((normP (repL l (n % nat_lit 20))).snd == (70 : Int)) = false →
 RetIs (AV.bool false) [] (AV.bool true, [])))) ∧
 (((List.take x l).any fun (f : Fac) => farB (f.e * (↑(n % (20 : Nat)) : Int))) = false →
 (decide ((↑x : Int) < (↑(facsL l).length : Int)) = true →
 ((0 : Int) ≤ (↑x : Int) ∧ (↑x : Int) < (↑(facsL l).length : Int)) ∧
 ∃ (n_3 : Int),
 takeAt PU (nat_lit 3) (facsL l) (↑x : Int).toNat (nat_lit 1) = some (AV.int IntKind.i64 n_3) ∧
 (20 : Int) ≠ (0 : Int) ∧
 (decide (IntKind.i64.wrap (n_3 * IntKind.i64.wrap ((↑n : Int).tmod (20 : Int))) > (8 : Int)) = true →
 ∃ (y : Nat),
 ValsAre
 [AV.sl (nat_lit 2) (facsL l) Own.no, AV.int IntKind.u8 (↑n : Int), AV.bool true,
 AV.sl (nat_lit 2) (facsL (normP (repL l (n % nat_lit 20))).fst) Own.no,
 AV.int IntKind.i64 (normP (repL l (n % nat_lit 20))).snd, AV.bool true,
 AV.int IntKind.i64 (IntKind.i64.wrap ((↑x : Int) + (1 : Int)))]
 [AV.sl (nat_lit 2) (facsL l) Own.no, AV.int IntKind.u8 (↑n : Int), AV.bool true,
 AV.sl (nat_lit 2) (facsL (normP (repL l (n % nat_lit 20))).fst) Own.no,
 AV.int IntKind.i64 (normP (repL l (n % nat_lit 20))).snd,
 AV.bool ((List.take y l).any fun (f : Fac) => farB (f.e * (↑(n % (20 : Nat)) : Int))),
 AV.int IntKind.i64 (↑y : Int)] ∧
 StIs { boxes := [], live := [((repL l (n % nat_lit 20)).length, nat_lit 37)] }
 { boxes := [], live := [((repL l (n % nat_lit 20)).length, nat_lit 37)] } ∧
 y ≤ l.length ∧ l.length - y < l.length - x) ∧
 (decide (IntKind.i64.wrap (n_3 * IntKind.i64.wrap ((↑n : Int).tmod (20 : Int))) > (8 : Int)) = false →
 (decide (IntKind.i64.wrap (n_3 * IntKind.i64.wrap ((↑n : Int).tmod (20 : Int))) < (-8 : Int)) =
 true →
 ∃ (y : Nat),
 ValsAre
 [AV.sl (nat_lit 2) (facsL l) Own.no, AV.int IntKind.u8 (↑n : Int), AV.bool true,
 AV.sl (nat_lit 2) (facsL (normP (repL l (n % nat_lit 20))).fst) Own.no,
 AV.int IntKind.i64 (normP (repL l (n % nat_lit 20))).snd, AV.bool true,
 AV.int IntKind.i64 (IntKind.i64.wrap ((↑x : Int) + (1 : Int)))]
 [AV.sl (nat_lit 2) (facsL l) Own.no, AV.int IntKind.u8 (↑n : Int), AV.bool true,
 AV.sl (nat_lit 2) (facsL (normP (repL l (n % nat_lit 20))).fst) Own.no,
 AV.int IntKind.i64 (normP (repL l (n % nat_lit 20))).snd,
 AV.bool ((List.take y l).any fun (f : Fac) => farB (f.e * (↑(n % (20 : Nat)) : Int))),
 AV.int IntKind.i64 (↑y : Int)] ∧
 StIs { boxes := [], live := [((repL l (n % nat_lit 20)).length, nat_lit 37)] }
 { boxes := [], live := [((repL l (n % nat_lit 20)).length, nat_lit 37)] } ∧
 y ≤ l.length ∧ l.length - y < l.length - x) ∧
 (decide (IntKind.i64.wrap (n_3 * IntKind.i64.wrap ((↑n : Int).tmod (20 : Int))) < (-8 : Int)) =
 false →
 ∃ (y : Nat),
 ValsAre
 [AV.sl (nat_lit 2) (facsL l) Own.no, AV.int IntKind.u8 (↑n : Int), AV.bool true,
 AV.sl (nat_lit 2) (facsL (normP (repL l (n % nat_lit 20))).fst) Own.no,
 AV.int IntKind.i64 (normP (repL l (n % nat_lit 20))).snd, AV.bool false,
 AV.int IntKind.i64 (IntKind.i64.wrap ((↑x : Int) + (1 : Int)))]
 [AV.sl (nat_lit 2) (facsL l) Own.no, AV.int IntKind.u8 (↑n : Int), AV.bool true,
 AV.sl (nat_lit 2) (facsL (normP (repL l (n % nat_lit 20))).fst) Own.no,
 AV.int IntKind.i64 (normP (repL l (n % nat_lit 20))).snd,
 AV.bool ((List.take y l).any fun (f : Fac) => farB (f.e * (↑(n % (20 : Nat)) : Int))),
 AV.int IntKind.i64 (↑y : Int)] ∧
 StIs { boxes := [], live := [((repL l (n % nat_lit 20)).length, nat_lit 37)] }
 { boxes := [], live := [((repL l (n % nat_lit 20)).length, nat_lit 37)] } ∧
 y ≤ l.length ∧ l.length - y < l.length - x))) ∧
 (decide ((↑x : Int) < (↑(facsL l).length : Int)) = false →
 (20 : Int) ≠ (0 : Int) ∧
 (((↑n : Int).tmod (20 : Int) == (0 : Int)) = true →
 (((normP (repL l (n % nat_lit 20))).snd == (0 : Int)) = true →
 (((↑(facsL (normP (repL l (n % nat_lit 20))).fst).length : Int) == (0 : Int)) = true →
 RetIs (AV.bool true) [] (AV.bool true, [])) ∧
 (((↑(facsL (normP (repL l (n % nat_lit 20))).fst).length : Int) == (0 : Int)) = false →
 RetIs (AV.bool false) [] (AV.bool true, []))) ∧
 (((normP (repL l (n % nat_lit 20))).snd == (0 : Int)) = false →
 RetIs (AV.bool false) [] (AV.bool true, []))) ∧
 (((↑n : Int).tmod (20 : Int) == (0 : Int)) = false →
 (((normP (repL l (n % nat_lit 20))).snd != (0 : Int)) = true →
 RetIs (AV.bool false) [] (AV.bool true, [])) ∧
 (((normP (repL l (n % nat_lit 20))).snd != (0 : Int)) = false →
 (((↑(facsL (normP (repL l (n % nat_lit 20))).fst).length : Int) != (↑(facsL l).length : Int)) = true →
 RetIs (AV.bool false) [] (AV.bool true, [])) ∧
 (((↑(facsL (normP (repL l (n % nat_lit 20))).fst).length : Int) != (↑(facsL l).length : Int)) =
 false →
 (∃ (y : Nat),
 ValsAre
 [AV.sl (nat_lit 2) (facsL l) Own.no, AV.int IntKind.u8 (↑n : Int), AV.bool true,
 AV.sl (nat_lit 2) (facsL (normP (repL l (n % nat_lit 20))).fst) Own.no,
 AV.int IntKind.i64 (0 : Int)]
 [AV.sl (nat_lit 2) (facsL l) Own.no, AV.int IntKind.u8 (↑n : Int), AV.bool true,
 AV.sl (nat_lit 2) (facsL (normP (repL l (n % nat_lit 20))).fst) Own.no,
 AV.int IntKind.i64 (↑y : Int)] ∧
 StIs { boxes := [], live := [((repL l (n % nat_lit 20)).length, nat_lit 37)] }
 { boxes := [], live := [((repL l (n % nat_lit 20)).length, nat_lit 37)] } ∧
 y ≤ l.length ∧ True) ∧
 ∀ (x : Nat),
 x ≤ l.length →
 (decide ((↑x : Int) < (↑(facsL l).length : Int)) = true →
 ((0 : Int) ≤ (↑x : Int) ∧
 (↑x : Int) < (↑(facsL (normP (repL l (n % nat_lit 20))).fst).length : Int)) ∧
 ∃ (s : List UInt8),
 takeAt PU (nat_lit 9) (facsL (normP (repL l (n % nat_lit 20))).fst) (↑x : Int).toNat
 (nat_lit 0) =
 some (AV.str s) ∧
 ((0 : Int) ≤ (↑x : Int) ∧ (↑x : Int) < (↑(facsL l).length : Int)) ∧
 ∃ (s_1 : List UInt8),
 takeAt PU (nat_lit 9) (facsL l) (↑x : Int).toNat (nat_lit 0) =
 some (AV.str s_1) ∧
 ((!s == s_1) = true → RetIs (AV.bool false) [] (AV.bool true, [])) ∧
 ((!s == s_1) = false →
 ((0 : Int) ≤ (↑x : Int) ∧
 (↑x : Int) <
 (↑(facsL (normP (repL l (n % nat_lit 20))).fst).length : Int)) ∧
 ∃ (n_3 : Int),
 takeAt PU (nat_lit 3) (facsL (normP (repL l (n % nat_lit 20))).fst)
 (↑x : Int).toNat (nat_lit 1) =
 some (AV.int IntKind.i64 n_3) ∧
 ((0 : Int) ≤ (↑x : Int) ∧
 (↑x : Int) < (↑(facsL l).length : Int)) ∧
 ∃ (n_4 : Int),
 takeAt PU (nat_lit 3) (facsL l) (↑x : Int).toNat (nat_lit 1) =
 some (AV.int IntKind.i64 n_4) ∧
 (20 : Int) ≠ (0 : Int) ∧
 ((n_3 !=
 IntKind.i64.wrap
 (n_4 *
 IntKind.i64.wrap
 ((↑n : Int).tmod (20 : Int)))) =
 true →
 RetIs (AV.bool false) [] (AV.bool true, [])) ∧
 ((n_3 !=
 IntKind.i64.wrap
 (n_4 *
 IntKind.i64.wrap
 ((↑n : Int).tmod (20 : Int)))) =
 false →
 ∃ (y : Nat),
 ValsAre
 [AV.sl (nat_lit 2) (facsL l) Own.no,
 AV.int IntKind.u8 (↑n : Int), AV.bool true,
 AV.sl (nat_lit 2)
 (facsL
 (normP (repL l (n % nat_lit 20))).fst)
 Own.no,
 AV.int IntKind.i64
 (IntKind.i64.wrap ((↑x : Int) + (1 : Int)))]
 [AV.sl (nat_lit 2) (facsL l) Own.no,
 AV.int IntKind.u8 (↑n : Int), AV.bool true,
 AV.sl (nat_lit 2)
 (facsL
 (normP (repL l (n % nat_lit 20))).fst)
 Own.no,
 AV.int IntKind.i64 (↑y : Int)] ∧
 StIs
 { boxes := [], live := [((repL l (n % nat_lit 20)).length, nat_lit 37)] }
 { boxes := [], live := [((repL l (n % nat_lit 20)).length, nat_lit 37)] } ∧
 y ≤ l.length ∧ l.length - y < l.length - x))) ∧
 (decide ((↑x : Int) < (↑(facsL l).length : Int)) = false →
 RetIs (AV.bool true) [] (AV.bool true, [])))))))))) := by kernel_rfl
theorem w7 (m : Int) (a b : List Fac) (s : List UInt8) : (pureW PU (GU m) XQ (tbl [(10, s10), (13, s13), (20, s39), (21, s21), (23, s23)]) (itbl []) (a7 a b s) [] 7 [.sl 2 (facsL a) .no, .sl 2 (facsL b) .no, .str s] (.bool true, [])) =
((∃ (b_1 : Bool),
    CallIs (some (AV.bool true, [])) (AV.bool b_1) [] ∧
      (b_1 = true →
 ∃ (_y : Unit),
 ValsAre [AV.sl (nat_lit 2) (facsL a) Own.no, AV.sl (nat_lit 2) (facsL b) Own.no, AV.str s, AV.bool true]
 [AV.sl (nat_lit 2) (facsL a) Own.no, AV.sl (nat_lit 2) (facsL b) Own.no, AV.str s, AV.bool true] ∧
 StIs { boxes := [], live := [] } { boxes := [], live := [] } ∧ True ∧ True) ∧
        (b_1 = false →
 ∃ (_y : Unit),
 ValsAre [AV.sl (nat_lit 2) (facsL a) Own.no, AV.sl (nat_lit 2) (facsL b) Own.no, AV.str s, AV.bool false]
 [AV.sl (nat_lit 2) (facsL a) Own.no, AV.sl (nat_lit 2) (facsL b) Own.no, AV.str s, AV.bool true] ∧
 StIs { boxes := [], live := [] } { boxes := [], live := [] } ∧ True ∧ True)) ∧
  ∀ (_x : Unit),
    True →
      True →
        (∃ (n : Int),
 CallIs
 (tbl [(nat_lit 10, s10), (nat_lit 13, s13), (nat_lit 20, s39), (nat_lit 21, s21), (nat_lit 23, s23)] (nat_lit 13)
 [AV.sl (nat_lit 2) (facsL a) Own.no])
 (AV.int IntKind.i64 n) [] ∧
 ((n == (0 : Int)) = true →
 ∃ (s_1 : List UInt8),
 CallIs
 (tbl [(nat_lit 10, s10), (nat_lit 13, s13), (nat_lit 20, s39), (nat_lit 21, s21), (nat_lit 23, s23)] (nat_lit 23)
 [AV.sl (nat_lit 2) (facsL a) Own.no])
 (AV.str s_1) [] ∧
 ∃ (es : List AV),
 ∃ (n : Int),
 CallIs (tbl [(nat_lit 10, s10), (nat_lit 13, s13), (nat_lit 20, s39), (nat_lit 21, s21), (nat_lit 23, s23)] (nat_lit 21) [AV.str s_1])
 (AV.tup [AV.sl (nat_lit 2) es Own.no, AV.int IntKind.i64 n]) [] ∧
 (((n != (0 : Int)) = true → RetIs (AV.bool false) [] (AV.bool true, [])) ∧
 ((n != (0 : Int)) = false →
 ∃ (b_1 : Bool),
 CallIs
 (tbl [(nat_lit 10, s10), (nat_lit 13, s13), (nat_lit 20, s39), (nat_lit 21, s21), (nat_lit 23, s23)] (nat_lit 20)
 [AV.sl (nat_lit 2) es Own.no, AV.sl (nat_lit 2) (facsL a) Own.no])
 (AV.bool b_1) [] ∧
 (b_1 = true →
 ∃ (_y : Unit),
 ValsAre [AV.sl (nat_lit 2) (facsL a) Own.no, AV.sl (nat_lit 2) (facsL b) Own.no, AV.str s, AV.bool true]
 [AV.sl (nat_lit 2) (facsL a) Own.no, AV.sl (nat_lit 2) (facsL b) Own.no, AV.str s, AV.bool true] ∧
 StIs { boxes := [], live := [] } { boxes := [], live := [] } ∧ checkF a = (0 : Int) ∧ True) ∧
 (b_1 = false → RetIs (AV.bool false) [] (AV.bool true, [])))) ∧
 ∀ (_x : Unit),
 checkF a = (0 : Int) →
 True →
 ∃ (n : Int),
 CallIs
 (tbl [(nat_lit 10, s10), (nat_lit 13, s13), (nat_lit 20, s39), (nat_lit 21, s21), (nat_lit 23, s23)] (nat_lit 13)
 [AV.sl (nat_lit 2) (facsL b) Own.no])
 (AV.int IntKind.i64 n) [] ∧
 ((n == (0 : Int)) = true →
 ∃ (s_2 : List UInt8),
 CallIs
 (tbl [(nat_lit 10, s10), (nat_lit 13, s13), (nat_lit 20, s39), (nat_lit 21, s21), (nat_lit 23, s23)]
 (nat_lit 23) [AV.sl (nat_lit 2) (facsL a) Own.no])
 (AV.str s_2) [] ∧
 ∃ (s_3 : List UInt8),
 CallIs
 (tbl [(nat_lit 10, s10), (nat_lit 13, s13), (nat_lit 20, s39), (nat_lit 21, s21), (nat_lit 23, s23)]
 (nat_lit 23) [AV.sl (nat_lit 2) (facsL b) Own.no])
 (AV.str s_3) [] ∧
 ((s_2 == s_3) = true →
 ∃ (b_1 : Bool),
 CallIs
 (tbl
 [(nat_lit 10, s10), (nat_lit 13, s13), (nat_lit 20, s39), (nat_lit 21, s21), (nat_lit 23, s23)]
 (nat_lit 20) [AV.sl (nat_lit 2) (facsL a) Own.no, AV.sl (nat_lit 2) (facsL b) Own.no])
 (AV.bool b_1) [] ∧
 (b_1 = true →
 (false = true → RetIs (AV.bool false) [] (AV.bool true, [])) ∧
 (false = false →
 ∃ (_y : Unit),
 ValsAre [AV.str s, AV.bool true] [AV.str s, AV.bool true] ∧
 StIs { boxes := [], live := [] } { boxes := [], live := [] } ∧ True ∧ True)) ∧
 (b_1 = false →
 (true = true → RetIs (AV.bool false) [] (AV.bool true, [])) ∧
 (true = false →
 ∃ (_y : Unit),
 ValsAre [AV.str s, AV.bool true] [AV.str s, AV.bool true] ∧
 StIs { boxes := [], live := [] } { boxes := [], live := [] } ∧ True ∧ True))) ∧
 ((s_2 == s_3) = false →
 ∃ (b_1 : Bool),
 CallIs
 (tbl
 [(nat_lit 10, s10), (nat_lit 13, s13), (nat_lit 20, s39), (nat_lit 21, s21), (nat_lit 23, s23)]
 (nat_lit 20) [AV.sl (nat_lit 2) (facsL a) Own.no, AV.sl (nat_lit 2) (facsL b) Own.no])
 (AV.bool b_1) [] ∧
 (b_1 = true →
 (true = true → RetIs (AV.bool false) [] (AV.bool true, [])) ∧
 (true = false →
 ∃ (_y : Unit),
 ValsAre [AV.str s, AV.bool true] [AV.str s, AV.bool true] ∧
 StIs { boxes := [], live := [] } { boxes := [], live := [] } ∧ True ∧ True)) ∧
 (b_1 = false →
 (false = true → RetIs (AV.bool false) [] (AV.bool true, [])) ∧
 (false = false →
 ∃ (_y : Unit),
 ValsAre [AV.str s, AV.bool true] [AV.str s, AV.bool true] ∧
 StIs { boxes := [], live := [] } { boxes := [], live := [] } ∧ True ∧ True)))) ∧
 ((n == (0 : Int)) = false →
 ∃ (_y : Unit),
 ValsAre [AV.str s, AV.bool true] [AV.str s, AV.bool true] ∧
 StIs { boxes := [], live := [] } { boxes := [], live := [] } ∧ True ∧ True)) ∧
 ((n == (0 : Int)) = false →
 ∃ (_y : Unit),
 ValsAre [AV.str s, AV.bool true] [AV.str s, AV.bool true] ∧ StIs { boxes := [], live := [] } { boxes := [], live := [] } ∧ True ∧ True)) ∧
 ∀ (_x : Unit),
 True →
 True →
 ∃ (es : List AV),
 ∃ (n : Int),
 CallIs (tbl [(nat_lit 10, s10), (nat_lit 13, s13), (nat_lit 20, s39), (nat_lit 21, s21), (nat_lit 23, s23)] (nat_lit 21) [AV.str s])
 (AV.tup [AV.sl (nat_lit 2) es Own.no, AV.int IntKind.i64 n]) [] ∧
 ((n == (0 : Int)) = true →
 ∃ (n_1 : Int),
 CallIs
 (tbl [(nat_lit 10, s10), (nat_lit 13, s13), (nat_lit 20, s39), (nat_lit 21, s21), (nat_lit 23, s23)] (nat_lit 13)
 [AV.sl (nat_lit 2) es Own.no])
 (AV.int IntKind.i64 n_1) [] ∧
 ((n_1 == (0 : Int)) = true →
 ∃ (s_1 : List UInt8),
 CallIs
 (tbl [(nat_lit 10, s10), (nat_lit 13, s13), (nat_lit 20, s39), (nat_lit 21, s21), (nat_lit 23, s23)] (nat_lit 23)
 [AV.sl (nat_lit 2) es Own.no])
 (AV.str s_1) [] ∧
 ((s_1 == s) = true → RetIs (AV.bool true) [] (AV.bool true, [])) ∧
 ((s_1 == s) = false →
 ((n == (3 : Int)) = true →
 (((↑es.length : Int) == (0 : Int)) = true → RetIs (AV.bool true) [] (AV.bool true, [])) ∧
 (((↑es.length : Int) == (0 : Int)) = false → RetIs (AV.bool false) [] (AV.bool true, []))) ∧
 ((n == (3 : Int)) = false → RetIs (AV.bool false) [] (AV.bool true, [])))) ∧
 ((n_1 == (0 : Int)) = false →
 ((n == (3 : Int)) = true →
 (((↑es.length : Int) == (0 : Int)) = true → RetIs (AV.bool true) [] (AV.bool true, [])) ∧
 (((↑es.length : Int) == (0 : Int)) = false → RetIs (AV.bool false) [] (AV.bool true, []))) ∧
 ((n == (3 : Int)) = false → RetIs (AV.bool false) [] (AV.bool true, [])))) ∧
 ((n == (0 : Int)) = false →
 ((n == (3 : Int)) = true →
 (((↑es.length : Int) == (0 : Int)) = true → RetIs (AV.bool true) [] (AV.bool true, [])) ∧
 (((↑es.length : Int) == (0 : Int)) = false → RetIs (AV.bool false) [] (AV.bool true, []))) ∧
 ((n == (3 : Int)) = false → RetIs (AV.bool false) [] (AV.bool true, [])))) := by kernel_rfl
end Go.Abs
