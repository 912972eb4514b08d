/- Own texts, part 4. -/
import Derived.Test.YtpfdmcpnbkohdaaGreatDoorPart2
import Derived.Test.YtpfdmcpnbkohdaaGreatDoorPart3
import Derived.Test.YtpfdmcpnbkohdaaGreatDoorProg
import Derived.Test.YtpfdmcpnbkohdaaGreatDoorChecked
import Derived.Test.YtpfdmcpnbkohdaaGreatDoorShelf
import Derived.Shelf.Spec.BitsCarry
import Derived.KernelRfl
import Derived.Sort.KeysCollected
import Derived.Sort.OwnSorted
import Derived.Maps.AppendAt
import Derived.Maps.RangeWalk
import Derived.WalkKit
import Derived.Lib.Hide
import Derived.Sort.Walk0

namespace Go.Abs
open Go.Proofs Go.RowKit
noncomputable abbrev PU := Tryz.prog
theorem mixedU : PU.follows .mixedOrders = true := Tryz.checked.mixed
theorem goodU {f : FuncId} (h : (match PU.funcs[f]? with | some fn => fn.body.isSome && !(fn.name == "runtime.NumGoroutine") | none => false) = true) : goodFn PU f := by
  split at h
  · rename_i fn hf
    simp only [Bool.and_eq_true, Bool.not_eq_true'] at h
    exact ⟨fn, hf, h.1, h.2⟩
  · cases h
def keptPows : List AV := (List.range 20).map fun i => .int .u64 ((10 ^ i : Nat) : Int)
def keptPowsA : AV := .agg keptPows
def GU (m : Int) : Glob := fun g => match g with
  | 2 => some (.int .i64 m)
  | 3 => some .ifc
  | 4 => some .ifc
  | 5 => some keptPowsA
  | _ => none
def nA : Nat → Option Ann := fun _ => none
def nAn : Anns := ⟨nA, nA⟩
def shB : Sh × Option TypeId := (.val (.one .bool), none)
def shI : Sh × Option TypeId := (.val (.one (.int .i64)), none)
def shS : Sh × Option TypeId := (.val (.one .str), none)
def sh2U : Sh × Option TypeId := (.tup [.one (.int .u64), .one (.int .u64)], none)
def shW : Sh × Option TypeId := (.val (.agg [.int .i64, .int .u64]), none)
def shU2 : Sh × Option TypeId := (.val (.agg [.int .u64, .int .u64]), none)
def shIB : Sh × Option TypeId := (.tup [.one (.int .i64), .one .bool], none)
/-- 128-bit integers -/
def wv (h l : Int) : Int := h * 18446744073709551616 + l
def wideA (x : Int) : AV := .agg [.int .i64 (IntKind.i64.wrap (x / 18446744073709551616)), .int .u64 (x % 18446744073709551616)]
def wOk (h l : Int) : Prop := -9223372036854775808 ≤ h ∧ h < 9223372036854775808 ∧ 0 ≤ l ∧ l < 18446744073709551616
instance (h l : Int) : Decidable (wOk h l) := inferInstanceAs (Decidable (_ ∧ _))
def uOk (l : Int) : Prop := 0 ≤ l ∧ l < 18446744073709551616
instance (l : Int) : Decidable (uOk l) := inferInstanceAs (Decidable (_ ∧ _))
def iOk (l : Int) : Prop := -9223372036854775808 ≤ l ∧ l < 9223372036854775808
instance (l : Int) : Decidable (iOk l) := inferInstanceAs (Decidable (_ ∧ _))
/-- math/bits.Add64, Sub64 -/
def s47 : Spec := fun args => match args with
  | [.int .u64 x, .int .u64 y, .int .u64 c] => if uOk x ∧ uOk y ∧ 0 ≤ c ∧ c ≤ 1 then some (.tup [.int .u64 ((x + y + c) % 18446744073709551616), .int .u64 ((x + y + c) / 18446744073709551616)], []) else none
  | _ => none
def s121 : Spec := fun args => match args with
  | [.int .u64 x, .int .u64 y, .int .u64 c] => if uOk x ∧ uOk y ∧ 0 ≤ c ∧ c ≤ 1 then some (.tup [.int .u64 ((x - y - c) % 18446744073709551616), .int .u64 (if x < y + c then 1 else 0)], []) else none
  | _ => none
section
variable {E : Env} {w w' : World} {G : Glob}
theorem vs_three {vs : Array Value} (h : vs.size = 3) : ∃ a b c, vs = #[a, b, c] := by
  obtain ⟨l⟩ := vs
  match l, h with
  | [a, b, c], _ => exact ⟨a, b, c, rfl⟩
theorem rep_tup2 {a b : AV} {u v : Value} (h1 : Rep E w a u) (h2 : Rep E w b v) : Rep E w (.tup [a, b]) (.tuple #[u, v]) := by
  refine .tup _ _ rfl fun i c x hc hx => ?_
  match i, hc, hx with
  | 0, hc, hx => simp at hc hx; subst hc; subst hx; exact h1
  | 1, hc, hx => simp at hc hx; subst hc; subst hx; exact h2
  | i + 2, hc, hx => simp at hc
end
theorem o47 (m : Int) : SpecOk PU (GU m) 47 s47 := by
  intro g args r lv h E w vs hI hG hn' hv hcl
  simp only at h
  split at h
  · rename_i e
    subst e
    unfold s47 at h
    split at h
    · rename_i x y c
      split at h
      · rename_i hc
        obtain ⟨hx, hy, hc0, hc1⟩ := hc
        simp only [Option.some.injEq, Prod.mk.injEq] at h
        obtain ⟨rfl, rfl⟩ := h
        obtain ⟨a, b, d, rfl⟩ := vs_three hn'
        obtain rfl := rep_int (hv 0 _ _ rfl rfl)
        obtain rfl := rep_int (hv 1 _ _ rfl rfl)
        obtain rfl := rep_int (hv 2 _ _ rfl rfl)
        exact .inr ⟨_, w, extern_value (fn := Tryz.f47) (e := add64Entry) (by kernel_rfl) (by kernel_rfl) (by kernel_rfl) (by kernel_rfl) (by kernel_rfl) (run_add64 x y c hx.1 hy.1 hc0 hc1 w), _, rfl, res_same fun B K => rep_tup2 (.int _ _) (.int _ _)⟩
      · cases h
    · cases h
  · cases h
theorem o121 (m : Int) : SpecOk PU (GU m) 121 s121 := by
  intro g args r lv h E w vs hI hG hn' hv hcl
  simp only at h
  split at h
  · rename_i e
    subst e
    unfold s121 at h
    split at h
    · rename_i x y c
      split at h
      · rename_i hc
        obtain ⟨hx, hy, hc0, hc1⟩ := hc
        simp only [Option.some.injEq, Prod.mk.injEq] at h
        obtain ⟨rfl, rfl⟩ := h
        obtain ⟨a, b, d, rfl⟩ := vs_three hn'
        obtain rfl := rep_int (hv 0 _ _ rfl rfl)
        obtain rfl := rep_int (hv 1 _ _ rfl rfl)
        obtain rfl := rep_int (hv 2 _ _ rfl rfl)
        obtain ⟨X, rfl⟩ := Int.eq_ofNat_of_zero_le hx.1
        obtain ⟨Y, rfl⟩ := Int.eq_ofNat_of_zero_le hy.1
        obtain ⟨C, rfl⟩ := Int.eq_ofNat_of_zero_le hc0
        unfold uOk at hx hy
        refine .inr ⟨_, w, extern_value (fn := Tryz.f121) (e := sub64Entry) (by kernel_rfl) (by kernel_rfl) (by kernel_rfl) (by kernel_rfl) (by kernel_rfl) (run_sub64 X Y C (by omega) w), _, rfl, res_same fun B K => ?_⟩
        have e1 : (((X + 18446744073709551616 - Y - C) % 18446744073709551616 : Nat) : Int) = ((X : Int) - Y - C) % 18446744073709551616 := by omega
        have e2 : (((if X < Y + C then 1 else 0 : Nat) : Int)) = (if (X : Int) < Y + C then 1 else 0) := by split <;> split <;> omega
        rw [e1, e2]
        exact rep_tup2 (.int _ _) (.int _ _)
      · cases h
    · cases h
  · cases h
end Go.Abs

namespace Go.Abs
open Go.Proofs Go.RowKit
def s29 : Spec := fun args => match args with
  | [.int .i64 n] => if iOk n then some (wideA n, []) else none
  | _ => none
def sW2 (f : Int → Int → AV) : Spec := fun args => match args with
  | [.agg [.int .i64 h, .int .u64 l], .agg [.int .i64 h', .int .u64 l']] => if wOk h l ∧ wOk h' l' then some (f (wv h l) (wv h' l'), []) else none
  | _ => none
def sW1 (f : Int → AV) : Spec := fun args => match args with
  | [.agg [.int .i64 h, .int .u64 l]] => if wOk h l then some (f (wv h l), []) else none
  | _ => none
def s28 : Spec := sW2 fun x y => wideA (x + y)
def s97 : Spec := sW2 fun x y => wideA (x - y)
def s65 : Spec := sW1 fun x => wideA (-x)
def s49 : Spec := sW1 fun x => .agg [.int .u64 ((x.natAbs : Int) % 18446744073709551616), .int .u64 ((x.natAbs : Int) / 18446744073709551616)]
def s50 : Spec := fun args => match args with
  | [.int .u64 x, .int .u64 l, .int .u64 y] => if x = 0 ∧ uOk l ∧ uOk y ∧ y ≠ 0 then some (.tup [.int .u64 (l / y), .int .u64 (l % y)], []) else none
  | _ => none
def small (x : Int) : Bool := decide (-1152921504606846976 ≤ x ∧ x ≤ 1152921504606846976)
def s31 : Spec := fun args => match args with
  | [.agg [.int .i64 h, .int .u64 l], .int .i64 d] => if wOk h l ∧ d = 1 then some (.tup [.int .i64 (if small (wv h l) then wv h l else 0), .bool (small (wv h l))], []) else none
  | _ => none
def s32 : Spec := fun args => match args with
  | [.int .i64 n, .int .i64 k] => if k = 8 then some (.bool (decide (8 < n ∨ n < -8)), []) else none
  | _ => none
def lowB (c : UInt8) : Bool := decide (97 ≤ c.toNat ∧ c.toNat ≤ 122)
def inB (c : UInt8) : Bool := lowB c || decide (48 ≤ c.toNat ∧ c.toNat ≤ 57) || c == 95
def wordB (s : List UInt8) : Bool := decide (s ≠ []) && decide (s.length ≤ 24) && lowB (s.getD 0 0) && s.all inB
def s27 : Spec := fun args => match args with
  | [.str s] => some (.bool (wordB s), [])
  | _ => none
def XU : Shapes := fun f => match f with
  | 47 | 121 | 50 => some sh2U
  | 28 | 97 | 65 | 29 => some shW
  | 49 => some shU2
  | 31 => some shIB
  | 27 | 32 => some shB
  | _ => none
def a27 (s : List UInt8) : Anns := ⟨fun k => if k = 4 then some { α := Nat, slots := [0, 24, 25], nb := 0, vals := fun i => [.str s, .int .i64 s.length, .int .i64 i], sS := fun _ => ⟨[], []⟩, I := fun i => i ≤ s.length ∧ (s.take i).all inB = true, μ := fun i => s.length - i } else none, nA⟩
end Go.Abs

namespace Go.Abs
open Go.Proofs Go.RowKit
theorem w29 (m n : Int) : (pureW PU (GU m) XU (tbl []) (itbl []) nAn [] 29 [.int .i64 n] (wideA n, [])) =
((0 : Int) ≤ (63 : Int) ∧
  RetIs (AV.agg [AV.int IntKind.i64 (n.fdiv (9223372036854775808 : Int)), AV.int IntKind.u64 (IntKind.u64.wrap n)]) []
    (AV.agg [AV.int IntKind.i64 (IntKind.i64.wrap (n / (18446744073709551616 : Int))), AV.int IntKind.u64 (n % (18446744073709551616 : Int))], [])) := by kernel_rfl
theorem w28 (m h l h' l' : Int) : (pureW PU (GU m) XU (tbl [(47, s47)]) (itbl []) nAn [] 28 [.agg [.int .i64 h, .int .u64 l], .agg [.int .i64 h', .int .u64 l']] (wideA (wv h l + wv h' l'), [])) =
(∃ (n : Int),
  ∃ (n_1 : Int),
    CallIs (tbl [(nat_lit 47, s47)] (nat_lit 47) [AV.int IntKind.u64 l, AV.int IntKind.u64 l', AV.int IntKind.u64 (0 : Int)])
        (AV.tup [AV.int IntKind.u64 n, AV.int IntKind.u64 n_1]) [] ∧
      ∃ (n_2 : Int),
        ∃ (n_3 : Int),
 CallIs
 (tbl [(nat_lit 47, s47)] (nat_lit 47) [AV.int IntKind.u64 (IntKind.u64.wrap h), AV.int IntKind.u64 (IntKind.u64.wrap h'), AV.int IntKind.u64 n_1])
 (AV.tup [AV.int IntKind.u64 n_2, AV.int IntKind.u64 n_3]) [] ∧
 RetIs (AV.agg [AV.int IntKind.i64 (IntKind.i64.wrap n_2), AV.int IntKind.u64 n]) []
 (AV.agg
 [AV.int IntKind.i64 (IntKind.i64.wrap ((wv h l + wv h' l') / (18446744073709551616 : Int))),
 AV.int IntKind.u64 ((wv h l + wv h' l') % (18446744073709551616 : Int))],
 [])) := by kernel_rfl
theorem w97 (m h l h' l' : Int) : (pureW PU (GU m) XU (tbl [(121, s121)]) (itbl []) nAn [] 97 [.agg [.int .i64 h, .int .u64 l], .agg [.int .i64 h', .int .u64 l']] (wideA (wv h l - wv h' l'), [])) =
(∃ (n : Int),
  ∃ (n_1 : Int),
    CallIs (tbl [(nat_lit 121, s121)] (nat_lit 121) [AV.int IntKind.u64 l, AV.int IntKind.u64 l', AV.int IntKind.u64 (0 : Int)])
        (AV.tup [AV.int IntKind.u64 n, AV.int IntKind.u64 n_1]) [] ∧
      ∃ (n_2 : Int),
        ∃ (n_3 : Int),
 CallIs
 (tbl [(nat_lit 121, s121)] (nat_lit 121)
 [AV.int IntKind.u64 (IntKind.u64.wrap h), AV.int IntKind.u64 (IntKind.u64.wrap h'), AV.int IntKind.u64 n_1])
 (AV.tup [AV.int IntKind.u64 n_2, AV.int IntKind.u64 n_3]) [] ∧
 RetIs (AV.agg [AV.int IntKind.i64 (IntKind.i64.wrap n_2), AV.int IntKind.u64 n]) []
 (AV.agg
 [AV.int IntKind.i64 (IntKind.i64.wrap ((wv h l - wv h' l') / (18446744073709551616 : Int))),
 AV.int IntKind.u64 ((wv h l - wv h' l') % (18446744073709551616 : Int))],
 [])) := by kernel_rfl
theorem w65 (m h l : Int) : (pureW PU (GU m) XU (tbl [(97, s97)]) (itbl []) nAn [] 65 [.agg [.int .i64 h, .int .u64 l]] (wideA (-wv h l), [])) =
(∃ (n : Int),
  ∃ (n_1 : Int),
    CallIs
        (tbl [(nat_lit 97, s97)] (nat_lit 97)
 [AV.agg [AV.int IntKind.i64 (0 : Int), AV.int IntKind.u64 (0 : Int)], AV.agg [AV.int IntKind.i64 h, AV.int IntKind.u64 l]])
        (AV.agg [AV.int IntKind.i64 n, AV.int IntKind.u64 n_1]) [] ∧
      RetIs (AV.agg [AV.int IntKind.i64 n, AV.int IntKind.u64 n_1]) []
        (AV.agg [AV.int IntKind.i64 (IntKind.i64.wrap (-wv h l / (18446744073709551616 : Int))), AV.int IntKind.u64 (-wv h l % (18446744073709551616 : Int))],
 [])) := by kernel_rfl
theorem w49 (m h l : Int) (r : AV) : (pureW PU (GU m) XU (tbl [(65, s65)]) (itbl []) nAn [] 49 [.agg [.int .i64 h, .int .u64 l]] (r, [])) =
((decide (h < (0 : Int)) = true →
    ∃ (n : Int),
      ∃ (n_1 : Int),
        CallIs (tbl [(nat_lit 65, s65)] (nat_lit 65) [AV.agg [AV.int IntKind.i64 h, AV.int IntKind.u64 l]])
 (AV.agg [AV.int IntKind.i64 n, AV.int IntKind.u64 n_1]) [] ∧
 RetIs (AV.agg [AV.int IntKind.u64 n_1, AV.int IntKind.u64 (IntKind.u64.wrap n)]) [] (r, [])) ∧
  (decide (h < (0 : Int)) = false → RetIs (AV.agg [AV.int IntKind.u64 l, AV.int IntKind.u64 (IntKind.u64.wrap h)]) [] (r, []))) := by kernel_rfl
theorem w50 (m l y : Int) (r : AV) : (pureW PU (GU m) XU (tbl []) (itbl []) nAn [] 50 [.int .u64 0, .int .u64 l, .int .u64 y] (r, [])) =
(((y == (0 : Int)) = true → False) ∧
  ((y == (0 : Int)) = false →
    (decide (y ≤ (0 : Int)) = true → False) ∧
      (decide (y ≤ (0 : Int)) = false →
        (true = true →
 y ≠ (0 : Int) ∧ y ≠ (0 : Int) ∧ RetIs (AV.tup [AV.int IntKind.u64 (IntKind.u64.wrap (l.tdiv y)), AV.int IntKind.u64 (l.tmod y)]) [] (r, [])) ∧
 (true = false → False)))) := by kernel_rfl
theorem w31 (m h l : Int) (r : AV) : (pureW PU (GU m) XU (tbl [(49, s49), (29, s29), (50, s50)]) (itbl []) nAn [] 31 [.agg [.int .i64 h, .int .u64 l], .int .i64 1] (r, [])) =
((false = true → RetIs (AV.tup [AV.int IntKind.i64 (0 : Int), AV.bool false]) [] (r, [])) ∧
  (false = false →
    ∃ (n : Int),
      ∃ (n_1 : Int),
        CallIs (tbl [(nat_lit 49, s49), (nat_lit 29, s29), (nat_lit 50, s50)] (nat_lit 49) [AV.agg [AV.int IntKind.i64 h, AV.int IntKind.u64 l]])
 (AV.agg [AV.int IntKind.u64 n, AV.int IntKind.u64 n_1]) [] ∧
 ∃ (n_2 : Int),
 ∃ (n_3 : Int),
 CallIs (some (AV.agg [AV.int IntKind.i64 (0 : Int), AV.int IntKind.u64 (1 : Int)], [])) (AV.agg [AV.int IntKind.i64 n_2, AV.int IntKind.u64 n_3])
 [] ∧
 ∃ (n_4 : Int),
 ∃ (n_5 : Int),
 CallIs
 (tbl [(nat_lit 49, s49), (nat_lit 29, s29), (nat_lit 50, s50)] (nat_lit 49) [AV.agg [AV.int IntKind.i64 n_2, AV.int IntKind.u64 n_3]])
 (AV.agg [AV.int IntKind.u64 n_4, AV.int IntKind.u64 n_5]) [] ∧
 ((0 : Int) ≤ (1 : Int) ∧ (1 : Int) < (2 : Int)) ∧
 (decide (n_1 ≥ n_4) = true → RetIs (AV.tup [AV.int IntKind.i64 (0 : Int), AV.bool false]) [] (r, [])) ∧
 (decide (n_1 ≥ n_4) = false →
 ((0 : Int) ≤ (1 : Int) ∧ (1 : Int) < (2 : Int)) ∧
 ((0 : Int) ≤ (0 : Int) ∧ (0 : Int) < (2 : Int)) ∧
 ∃ (n_6 : Int),
 ∃ (n_7 : Int),
 CallIs
 (tbl [(nat_lit 49, s49), (nat_lit 29, s29), (nat_lit 50, s50)] (nat_lit 50)
 [AV.int IntKind.u64 n_1, AV.int IntKind.u64 n, AV.int IntKind.u64 n_4])
 (AV.tup [AV.int IntKind.u64 n_6, AV.int IntKind.u64 n_7]) [] ∧
 (decide (n_7 > IntKind.u64.wrap (n_4 - n_7)) = true →
 ((n_6 == (18446744073709551615 : Int)) = true →
 RetIs (AV.tup [AV.int IntKind.i64 (0 : Int), AV.bool false]) [] (r, [])) ∧
 ((n_6 == (18446744073709551615 : Int)) = false →
 (decide (IntKind.u64.wrap (n_6 + (1 : Int)) > (1152921504606846976 : Int)) = true →
 RetIs (AV.tup [AV.int IntKind.i64 (0 : Int), AV.bool false]) [] (r, [])) ∧
 (decide (IntKind.u64.wrap (n_6 + (1 : Int)) > (1152921504606846976 : Int)) = false →
 (decide (h < (0 : Int)) = true →
 (false = true →
 (false = true →
 RetIs
 (AV.tup
 [AV.int IntKind.i64
 (IntKind.i64.wrap ((0 : Int) - IntKind.i64.wrap (IntKind.u64.wrap (n_6 + (1 : Int))))),
 AV.bool true])
 [] (r, [])) ∧
 (false = false →
 RetIs
 (AV.tup
 [AV.int IntKind.i64 (IntKind.i64.wrap (IntKind.u64.wrap (n_6 + (1 : Int)))), AV.bool true])
 [] (r, []))) ∧
 (false = false →
 (true = true →
 RetIs
 (AV.tup
 [AV.int IntKind.i64
 (IntKind.i64.wrap ((0 : Int) - IntKind.i64.wrap (IntKind.u64.wrap (n_6 + (1 : Int))))),
 AV.bool true])
 [] (r, [])) ∧
 (true = false →
 RetIs
 (AV.tup
 [AV.int IntKind.i64 (IntKind.i64.wrap (IntKind.u64.wrap (n_6 + (1 : Int)))), AV.bool true])
 [] (r, [])))) ∧
 (decide (h < (0 : Int)) = false →
 (false = true →
 (true = true →
 RetIs
 (AV.tup
 [AV.int IntKind.i64
 (IntKind.i64.wrap ((0 : Int) - IntKind.i64.wrap (IntKind.u64.wrap (n_6 + (1 : Int))))),
 AV.bool true])
 [] (r, [])) ∧
 (true = false →
 RetIs
 (AV.tup
 [AV.int IntKind.i64 (IntKind.i64.wrap (IntKind.u64.wrap (n_6 + (1 : Int)))), AV.bool true])
 [] (r, []))) ∧
 (false = false →
 (false = true →
 RetIs
 (AV.tup
 [AV.int IntKind.i64
 (IntKind.i64.wrap ((0 : Int) - IntKind.i64.wrap (IntKind.u64.wrap (n_6 + (1 : Int))))),
 AV.bool true])
 [] (r, [])) ∧
 (false = false →
 RetIs
 (AV.tup
 [AV.int IntKind.i64 (IntKind.i64.wrap (IntKind.u64.wrap (n_6 + (1 : Int)))), AV.bool true])
 [] (r, []))))))) ∧
 (decide (n_7 > IntKind.u64.wrap (n_4 - n_7)) = false →
 ((n_7 == IntKind.u64.wrap (n_4 - n_7)) = true →
 (2 : Int) ≠ (0 : Int) ∧
 ((n_6.tmod (2 : Int) == (1 : Int)) = true →
 ((n_6 == (18446744073709551615 : Int)) = true →
 RetIs (AV.tup [AV.int IntKind.i64 (0 : Int), AV.bool false]) [] (r, [])) ∧
 ((n_6 == (18446744073709551615 : Int)) = false →
 (decide (IntKind.u64.wrap (n_6 + (1 : Int)) > (1152921504606846976 : Int)) = true →
 RetIs (AV.tup [AV.int IntKind.i64 (0 : Int), AV.bool false]) [] (r, [])) ∧
 (decide (IntKind.u64.wrap (n_6 + (1 : Int)) > (1152921504606846976 : Int)) = false →
 (decide (h < (0 : Int)) = true →
 (false = true →
 (false = true →
 RetIs
 (AV.tup
 [AV.int IntKind.i64
 (IntKind.i64.wrap
 ((0 : Int) - IntKind.i64.wrap (IntKind.u64.wrap (n_6 + (1 : Int))))),
 AV.bool true])
 [] (r, [])) ∧
 (false = false →
 RetIs
 (AV.tup
 [AV.int IntKind.i64 (IntKind.i64.wrap (IntKind.u64.wrap (n_6 + (1 : Int)))),
 AV.bool true])
 [] (r, []))) ∧
 (false = false →
 (true = true →
 RetIs
 (AV.tup
 [AV.int IntKind.i64
 (IntKind.i64.wrap
 ((0 : Int) - IntKind.i64.wrap (IntKind.u64.wrap (n_6 + (1 : Int))))),
 AV.bool true])
 [] (r, [])) ∧
 (true = false →
 RetIs
 (AV.tup
 [AV.int IntKind.i64 (IntKind.i64.wrap (IntKind.u64.wrap (n_6 + (1 : Int)))),
 AV.bool true])
 [] (r, [])))) ∧
 (decide (h < (0 : Int)) = false →
 (false = true →
 (true = true →
 RetIs
 (AV.tup
 [AV.int IntKind.i64
 (IntKind.i64.wrap
 ((0 : Int) - IntKind.i64.wrap (IntKind.u64.wrap (n_6 + (1 : Int))))),
 AV.bool true])
 [] (r, [])) ∧
 (true = false →
 RetIs
 (AV.tup
 [AV.int IntKind.i64 (IntKind.i64.wrap (IntKind.u64.wrap (n_6 + (1 : Int)))),
 AV.bool true])
 [] (r, []))) ∧
 (false = false →
 (false = true →
 RetIs
 (AV.tup
 [AV.int IntKind.i64
 (IntKind.i64.wrap
 ((0 : Int) - IntKind.i64.wrap (IntKind.u64.wrap (n_6 + (1 : Int))))),
 AV.bool true])
 [] (r, [])) ∧
 (false = false →
 RetIs
 (AV.tup
 [AV.int IntKind.i64 (IntKind.i64.wrap (IntKind.u64.wrap (n_6 + (1 : Int)))),
 AV.bool true])
 [] (r, []))))))) ∧
 ((n_6.tmod (2 : Int) == (1 : Int)) = false →
 (decide (n_6 > (1152921504606846976 : Int)) = true →
 RetIs (AV.tup [AV.int IntKind.i64 (0 : Int), AV.bool false]) [] (r, [])) ∧
 (decide (n_6 > (1152921504606846976 : Int)) = false →
 (decide (h < (0 : Int)) = true →
 (false = true →
 (false = true →
 RetIs
 (AV.tup
 [AV.int IntKind.i64 (IntKind.i64.wrap ((0 : Int) - IntKind.i64.wrap n_6)),
 AV.bool true])
 [] (r, [])) ∧
 (false = false →
 RetIs (AV.tup [AV.int IntKind.i64 (IntKind.i64.wrap n_6), AV.bool true]) [] (r, []))) ∧
 (false = false →
 (true = true →
 RetIs
 (AV.tup
 [AV.int IntKind.i64 (IntKind.i64.wrap ((0 : Int) - IntKind.i64.wrap n_6)),
 AV.bool true])
 [] (r, [])) ∧
 (true = false →
 RetIs (AV.tup [AV.int IntKind.i64 (IntKind.i64.wrap n_6), AV.bool true]) [] (r, [])))) ∧
 (decide (h < (0 : Int)) = false →
 (false = true →
 (true = true →
 RetIs
 (AV.tup
 [AV.int IntKind.i64 (IntKind.i64.wrap ((0 : Int) - IntKind.i64.wrap n_6)),
 AV.bool true])
 [] (r, [])) ∧
 (true = false →
 RetIs (AV.tup [AV.int IntKind.i64 (IntKind.i64.wrap n_6), AV.bool true]) [] (r, []))) ∧
 (false = false →
 (false = true →
 RetIs
 (AV.tup
 [AV.int IntKind.i64 (IntKind.i64.wrap ((0 : Int) - IntKind.i64.wrap n_6)),
 AV.bool true])
 [] (r, [])) ∧
 (false = false →
 RetIs (AV.tup [AV.int IntKind.i64 (IntKind.i64.wrap n_6), AV.bool true]) [] (r, []))))))) ∧
 ((n_7 == IntKind.u64.wrap (n_4 - n_7)) = false →
 (decide (n_6 > (1152921504606846976 : Int)) = true →
 RetIs (AV.tup [AV.int IntKind.i64 (0 : Int), AV.bool false]) [] (r, [])) ∧
 (decide (n_6 > (1152921504606846976 : Int)) = false →
 (decide (h < (0 : Int)) = true →
 (false = true →
 (false = true →
 RetIs
 (AV.tup
 [AV.int IntKind.i64 (IntKind.i64.wrap ((0 : Int) - IntKind.i64.wrap n_6)), AV.bool true])
 [] (r, [])) ∧
 (false = false →
 RetIs (AV.tup [AV.int IntKind.i64 (IntKind.i64.wrap n_6), AV.bool true]) [] (r, []))) ∧
 (false = false →
 (true = true →
 RetIs
 (AV.tup
 [AV.int IntKind.i64 (IntKind.i64.wrap ((0 : Int) - IntKind.i64.wrap n_6)), AV.bool true])
 [] (r, [])) ∧
 (true = false →
 RetIs (AV.tup [AV.int IntKind.i64 (IntKind.i64.wrap n_6), AV.bool true]) [] (r, [])))) ∧
 (decide (h < (0 : Int)) = false →
 (false = true →
 (true = true →
 RetIs
 (AV.tup
 [AV.int IntKind.i64 (IntKind.i64.wrap ((0 : Int) - IntKind.i64.wrap n_6)), AV.bool true])
 [] (r, [])) ∧
 (true = false →
 RetIs (AV.tup [AV.int IntKind.i64 (IntKind.i64.wrap n_6), AV.bool true]) [] (r, []))) ∧
 (false = false →
 (false = true →
 RetIs
 (AV.tup
 [AV.int IntKind.i64 (IntKind.i64.wrap ((0 : Int) - IntKind.i64.wrap n_6)), AV.bool true])
 [] (r, [])) ∧
 (false = false →
 RetIs (AV.tup [AV.int IntKind.i64 (IntKind.i64.wrap n_6), AV.bool true]) [] (r, [])))))))))) := by kernel_rfl
theorem w32 (m n : Int) : (pureW PU (GU m) XU (tbl []) (itbl []) nAn [] 32 [.int .i64 n, .int .i64 8] (.bool (decide (8 < n ∨ n < -8)), [])) =
((decide (n > (8 : Int)) = true → RetIs (AV.bool true) [] (AV.bool (decide ((8 : Int) < n ∨ n < (-8 : Int))), [])) ∧
  (decide (n > (8 : Int)) = false →
    (decide (n < IntKind.i64.wrap ((0 : Int) - (8 : Int))) = true → RetIs (AV.bool true) [] (AV.bool (decide ((8 : Int) < n ∨ n < (-8 : Int))), [])) ∧
      (decide (n < IntKind.i64.wrap ((0 : Int) - (8 : Int))) = false → RetIs (AV.bool false) [] (AV.bool (decide ((8 : Int) < n ∨ n < (-8 : Int))), [])))) := by kernel_rfl
theorem w27 (m : Int) (s : List UInt8) (b : Bool) : (pureW PU (GU m) XU (tbl []) (itbl []) (a27 s) [] 27 [.str s] (.bool b, [])) =
((((↑s.length : Int) == (0 : Int)) = true → RetIs (AV.bool false) [] (AV.bool b, [])) ∧
  (((↑s.length : Int) == (0 : Int)) = false →
    (decide ((↑s.length : Int) > (24 : Int)) = true → RetIs (AV.bool false) [] (AV.bool b, [])) ∧
      (decide ((↑s.length : Int) > (24 : Int)) = false →
        (0 : Int) ≤ (0 : Int) ∧
 ∃ (c : UInt8),
 s[nat_lit 0]? = some c ∧
 (decide ((↑c.toNat : Int) < (97 : Int)) = true → RetIs (AV.bool false) [] (AV.bool b, [])) ∧
 (decide ((↑c.toNat : Int) < (97 : Int)) = false →
 (0 : Int) ≤ (0 : Int) ∧
 ∃ (c : UInt8),
 s[nat_lit 0]? = some c ∧
 (decide ((↑c.toNat : Int) > (122 : Int)) = true → RetIs (AV.bool false) [] (AV.bool b, [])) ∧
 (decide ((↑c.toNat : Int) > (122 : Int)) = false →
 (∃ (y : Nat),
 ValsAre [AV.str s, AV.int IntKind.i64 (↑s.length : Int), AV.int IntKind.i64 (0 : Int)]
 [AV.str s, AV.int IntKind.i64 (↑s.length : Int), AV.int IntKind.i64 (↑y : Int)] ∧
 StIs { boxes := [], live := [] } { boxes := [], live := [] } ∧ (y ≤ s.length ∧ (List.take y s).all inB = true) ∧ True) ∧
 ∀ (x : Nat),
 x ≤ s.length ∧ (List.take x s).all inB = true →
 (decide ((↑x : Int) < (↑s.length : Int)) = true →
 (0 : Int) ≤ (↑x : Int) ∧
 ∃ (c : UInt8),
 s[(↑x : Int).toNat]? = some c ∧
 (decide ((↑c.toNat : Int) < (97 : Int)) = true →
 (decide ((↑c.toNat : Int) < (48 : Int)) = true →
 (((↑c.toNat : Int) != (95 : Int)) = true → RetIs (AV.bool false) [] (AV.bool b, [])) ∧
 (((↑c.toNat : Int) != (95 : Int)) = false →
 ∃ (y : Nat),
 ValsAre
 [AV.str s, AV.int IntKind.i64 (↑s.length : Int),
 AV.int IntKind.i64 (IntKind.i64.wrap ((↑x : Int) + (1 : Int)))]
 [AV.str s, AV.int IntKind.i64 (↑s.length : Int), AV.int IntKind.i64 (↑y : Int)] ∧
 StIs { boxes := [], live := [] } { boxes := [], live := [] } ∧
 (y ≤ s.length ∧ (List.take y s).all inB = true) ∧ s.length - y < s.length - x)) ∧
 (decide ((↑c.toNat : Int) < (48 : Int)) = false →
 (decide ((↑c.toNat : Int) > (57 : Int)) = true →
 (((↑c.toNat : Int) != (95 : Int)) = true → RetIs (AV.bool false) [] (AV.bool b, [])) ∧
 (((↑c.toNat : Int) != (95 : Int)) = false →
 ∃ (y : Nat),
 ValsAre
 [AV.str s, AV.int IntKind.i64 (↑s.length : Int),
 AV.int IntKind.i64 (IntKind.i64.wrap ((↑x : Int) + (1 : Int)))]
 [AV.str s, AV.int IntKind.i64 (↑s.length : Int), AV.int IntKind.i64 (↑y : Int)] ∧
 StIs { boxes := [], live := [] } { boxes := [], live := [] } ∧
 (y ≤ s.length ∧ (List.take y s).all inB = true) ∧ s.length - y < s.length - x)) ∧
 (decide ((↑c.toNat : Int) > (57 : Int)) = false →
 ∃ (y : Nat),
 ValsAre
 [AV.str s, AV.int IntKind.i64 (↑s.length : Int),
 AV.int IntKind.i64 (IntKind.i64.wrap ((↑x : Int) + (1 : Int)))]
 [AV.str s, AV.int IntKind.i64 (↑s.length : Int), AV.int IntKind.i64 (↑y : Int)] ∧
 StIs { boxes := [], live := [] } { boxes := [], live := [] } ∧
 (y ≤ s.length ∧ (List.take y s).all inB = true) ∧ s.length - y < s.length - x))) ∧
 (decide ((↑c.toNat : Int) < (97 : Int)) = false →
 (decide ((↑c.toNat : Int) > (122 : Int)) = true →
 (decide ((↑c.toNat : Int) < (48 : Int)) = true →
 (((↑c.toNat : Int) != (95 : Int)) = true → RetIs (AV.bool false) [] (AV.bool b, [])) ∧
 (((↑c.toNat : Int) != (95 : Int)) = false →
 ∃ (y : Nat),
 ValsAre
 [AV.str s, AV.int IntKind.i64 (↑s.length : Int),
 AV.int IntKind.i64 (IntKind.i64.wrap ((↑x : Int) + (1 : Int)))]
 [AV.str s, AV.int IntKind.i64 (↑s.length : Int), AV.int IntKind.i64 (↑y : Int)] ∧
 StIs { boxes := [], live := [] } { boxes := [], live := [] } ∧
 (y ≤ s.length ∧ (List.take y s).all inB = true) ∧ s.length - y < s.length - x)) ∧
 (decide ((↑c.toNat : Int) < (48 : Int)) = false →
 (decide ((↑c.toNat : Int) > (57 : Int)) = true →
 (((↑c.toNat : Int) != (95 : Int)) = true → RetIs (AV.bool false) [] (AV.bool b, [])) ∧
 (((↑c.toNat : Int) != (95 : Int)) = false →
 ∃ (y : Nat),
 ValsAre
 [AV.str s, AV.int IntKind.i64 (↑s.length : Int),
 AV.int IntKind.i64 (IntKind.i64.wrap ((↑x : Int) + (1 : Int)))]
 [AV.str s, AV.int IntKind.i64 (↑s.length : Int), AV.int IntKind.i64 (↑y : Int)] ∧
 StIs { boxes := [], live := [] } { boxes := [], live := [] } ∧
 (y ≤ s.length ∧ (List.take y s).all inB = true) ∧ s.length - y < s.length - x)) ∧
 (decide ((↑c.toNat : Int) > (57 : Int)) = false →
 ∃ (y : Nat),
 ValsAre
 [AV.str s, AV.int IntKind.i64 (↑s.length : Int),
 AV.int IntKind.i64 (IntKind.i64.wrap ((↑x : Int) + (1 : Int)))]
 [AV.str s, AV.int IntKind.i64 (↑s.length : Int), AV.int IntKind.i64 (↑y : Int)] ∧
 StIs { boxes := [], live := [] } { boxes := [], live := [] } ∧
 (y ≤ s.length ∧ (List.take y s).all inB = true) ∧ s.length - y < s.length - x))) ∧
 (decide ((↑c.toNat : Int) > (122 : Int)) = false →
 ∃ (y : Nat),
 ValsAre
 [AV.str s, AV.int IntKind.i64 (↑s.length : Int),
 AV.int IntKind.i64 (IntKind.i64.wrap ((↑x : Int) + (1 : Int)))]
 [AV.str s, AV.int IntKind.i64 (↑s.length : Int), AV.int IntKind.i64 (↑y : Int)] ∧
 StIs { boxes := [], live := [] } { boxes := [], live := [] } ∧
 (y ≤ s.length ∧ (List.take y s).all inB = true) ∧ s.length - y < s.length - x))) ∧
 (decide ((↑x : Int) < (↑s.length : Int)) = false → RetIs (AV.bool true) [] (AV.bool b, []))))))) := by kernel_rfl
end Go.Abs

namespace Go.Abs
open Go.Proofs Go.RowKit
theorem wrapU (n : Int) : IntKind.u64.wrap n = n % 18446744073709551616 := IntKind.wrap_u64 n
theorem tb_hit {g : FuncId} {s : Spec} {l : List (FuncId × Spec)} {args : List AV} : tbl ((g, s) :: l) g args = s args := by simp [tbl]
theorem tb_miss {g f : FuncId} {s : Spec} {l : List (FuncId × Spec)} {args : List AV} (h : f ≠ g) : tbl ((g, s) :: l) f args = tbl l f args := by simp only [tbl]; rw [if_neg h]
theorem p29 (m n : Int) (h : iOk n) : PureOk PU (GU m) XU (tbl []) (itbl []) nAn [] 29 [.int .i64 n] (wideA n, []) := by
  constructor
  rw [w29]
  refine ⟨by decide, retIs_iff.2 ?_⟩
  unfold iOk at h
  have e1 : n.fdiv 9223372036854775808 = IntKind.i64.wrap (n / 18446744073709551616) := by
    rw [Int.fdiv_eq_ediv_of_nonneg _ (by omega), wrap64_in (by omega) (by omega)]; omega
  rw [e1, wrapU]
theorem p28 (m h l h' l' : Int) (h1 : wOk h l) (h2 : wOk h' l') : PureOk PU (GU m) XU (tbl [(47, s47)]) (itbl []) nAn [] 28 [.agg [.int .i64 h, .int .u64 l], .agg [.int .i64 h', .int .u64 l']] (wideA (wv h l + wv h' l'), []) := by
  constructor
  rw [w28]
  obtain ⟨a1, a2, a3, a4⟩ := h1
  obtain ⟨b1, b2, b3, b4⟩ := h2
  refine ⟨_, _, callIs_iff.2 (by rw [tb_hit]; simp only [s47]; rw [if_pos (by unfold uOk; omega)]), _, _, callIs_iff.2 (by rw [tb_hit]; simp only [s47]; rw [if_pos (by rw [wrapU, wrapU]; unfold uOk; omega)]), retIs_iff.2 ?_⟩
  rw [wrapU, wrapU, IntKind.wrap_i64, IntKind.wrap_i64]
  unfold wv
  congr 4
  · omega
  · congr 1
    omega
theorem p97 (m h l h' l' : Int) (h1 : wOk h l) (h2 : wOk h' l') : PureOk PU (GU m) XU (tbl [(121, s121)]) (itbl []) nAn [] 97 [.agg [.int .i64 h, .int .u64 l], .agg [.int .i64 h', .int .u64 l']] (wideA (wv h l - wv h' l'), []) := by
  constructor
  rw [w97]
  obtain ⟨a1, a2, a3, a4⟩ := h1
  obtain ⟨b1, b2, b3, b4⟩ := h2
  have hb : (0 : Int) ≤ (if l < l' + 0 then 1 else 0) ∧ (if l < l' + 0 then (1 : Int) else 0) ≤ 1 := by split <;> omega
  refine ⟨_, _, callIs_iff.2 (by rw [tb_hit]; simp only [s121]; rw [if_pos (by unfold uOk; omega)]), _, _, callIs_iff.2 (by rw [tb_hit]; simp only [s121]; rw [if_pos (by rw [wrapU, wrapU]; unfold uOk; omega)]), retIs_iff.2 ?_⟩
  rw [wrapU, wrapU, IntKind.wrap_i64, IntKind.wrap_i64]
  unfold wv
  congr 4
  · split <;> omega
  · congr 1
    omega
theorem wideA_eq {h l : Int} (hw : wOk h l) : wideA (wv h l) = .agg [.int .i64 h, .int .u64 l] := by
  obtain ⟨a1, a2, a3, a4⟩ := hw
  unfold wideA wv
  rw [wrap64_in (by omega) (by omega)]
  congr 4
  · omega
  · congr 1
    omega
/-- every number stands for itself -/
theorem wideA_form (x : Int) : ∃ h l, wideA x = .agg [.int .i64 h, .int .u64 l] ∧ wOk h l ∧ (wv h l - x) % 340282366920938463463374607431768211456 = 0 := by
  refine ⟨_, _, rfl, ?_, ?_⟩
  · rw [IntKind.wrap_i64]; unfold wOk; omega
  · rw [IntKind.wrap_i64]; unfold wv; omega
/-- numbers of 128 bits with their sign -/
def bigOk (x : Int) : Prop := -170141183460469231731687303715884105728 ≤ x ∧ x < 170141183460469231731687303715884105728
theorem wideA_big {x : Int} (h : bigOk x) : ∃ a l, wideA x = .agg [.int .i64 a, .int .u64 l] ∧ wOk a l ∧ wv a l = x := by
  unfold bigOk at h
  refine ⟨_, _, rfl, ?_, ?_⟩
  · rw [wrap64_in (by omega) (by omega)]; unfold wOk; omega
  · rw [wrap64_in (by omega) (by omega)]; unfold wv; omega
theorem wv_big {h l : Int} (hw : wOk h l) : bigOk (wv h l) := by
  obtain ⟨a1, a2, a3, a4⟩ := hw
  unfold bigOk wv; omega
theorem p65 (m h l : Int) (hw : wOk h l) : PureOk PU (GU m) XU (tbl [(97, s97)]) (itbl []) nAn [] 65 [.agg [.int .i64 h, .int .u64 l]] (wideA (-wv h l), []) := by
  constructor
  rw [w65]
  have hc : tbl [(97, s97)] 97 [AV.agg [AV.int IntKind.i64 0, AV.int IntKind.u64 0], AV.agg [AV.int IntKind.i64 h, AV.int IntKind.u64 l]] = some (wideA (-wv h l), []) := by
    rw [tb_hit]; simp only [s97, sW2]
    rw [if_pos ⟨by unfold wOk; omega, hw⟩]
    congr 3
    unfold wv; omega
  exact ⟨_, _, callIs_iff.2 hc, retIs_iff.2 rfl⟩
theorem p49 (m h l : Int) (hw : wOk h l) : PureOk PU (GU m) XU (tbl [(65, s65)]) (itbl []) nAn [] 49 [.agg [.int .i64 h, .int .u64 l]] (.agg [.int .u64 (((wv h l).natAbs : Int) % 18446744073709551616), .int .u64 (((wv h l).natAbs : Int) / 18446744073709551616)], []) := by
  constructor
  rw [w49]
  obtain ⟨a1, a2, a3, a4⟩ := hw
  refine ⟨fun hneg => ⟨_, _, callIs_iff.2 (by rw [tb_hit]; simp only [s65, sW1]; rw [if_pos ⟨a1, a2, a3, a4⟩]; rfl), retIs_iff.2 ?_⟩, fun hpos => retIs_iff.2 ?_⟩
  · have hneg := of_decide_eq_true hneg
    rw [wrapU, IntKind.wrap_i64]
    unfold wv
    congr 4
    · omega
    · congr 1
      omega
  · have hpos := of_decide_eq_false hpos
    rw [wrapU]
    unfold wv
    congr 4
    · omega
    · congr 1
      omega
theorem p50 (m l y : Int) (hl : uOk l) (hy : uOk y) (h0 : y ≠ 0) : PureOk PU (GU m) XU (tbl []) (itbl []) nAn [] 50 [.int .u64 0, .int .u64 l, .int .u64 y] (.tup [.int .u64 (l / y), .int .u64 (l % y)], []) := by
  constructor
  rw [w50]
  unfold uOk at hl hy
  refine ⟨fun h => absurd (by simpa using h) h0, fun _ => ⟨fun h => absurd (of_decide_eq_true h) (by omega), fun _ => ⟨fun _ => ⟨h0, h0, retIs_iff.2 ?_⟩, fun h => nomatch h⟩⟩⟩
  have e1 : l.tdiv y = l / y := Int.tdiv_eq_ediv_of_nonneg hl.1
  have e2 : l.tmod y = l % y := Int.tmod_eq_emod_of_nonneg hl.1
  have h3 : 0 ≤ l / y := Int.ediv_nonneg hl.1 hy.1
  have h4 : l / y ≤ l := Int.ediv_le_self _ hl.1
  rw [e1, e2, wrapU]
  congr 4
  rw [Int.emod_eq_of_lt h3 (by omega)]
theorem p32 (m n : Int) : PureOk PU (GU m) XU (tbl []) (itbl []) nAn [] 32 [.int .i64 n, .int .i64 8] (.bool (decide (8 < n ∨ n < -8)), []) := by
  constructor
  rw [w32]
  have e : IntKind.i64.wrap (0 - 8) = -8 := by decide
  rw [e]
  refine ⟨fun h => retIs_iff.2 ?_, fun h => ⟨fun h2 => retIs_iff.2 ?_, fun h2 => retIs_iff.2 ?_⟩⟩
  · have := of_decide_eq_true h; rw [decide_eq_true (by omega)]
  · have := of_decide_eq_true h2; rw [decide_eq_true (by omega)]
  · have := of_decide_eq_false h; have := of_decide_eq_false h2; rw [decide_eq_false (by omega)]
end Go.Abs

namespace Go.Abs
open Go.Proofs Go.RowKit
theorem p27 (m : Int) (s : List UInt8) : PureOk PU (GU m) XU (tbl []) (itbl []) (a27 s) [] 27 [.str s] (.bool (wordB s), []) := by
  constructor
  rw [w27]
  have hS : ∀ {S : St}, StIs S S := stIs_iff.2 rfl
  have ret : ∀ {b : Bool}, b = wordB s → RetIs (AV.bool b) [] (AV.bool (wordB s), []) := fun h => retIs_iff.2 (by rw [h])
  have low : ∀ {c : UInt8}, lowB c = true ↔ 97 ≤ c.toNat ∧ c.toNat ≤ 122 := by intro c; simp [lowB]
  have inn : ∀ {c : UInt8}, inB c = true ↔ ((97 ≤ c.toNat ∧ c.toNat ≤ 122) ∨ (48 ≤ c.toNat ∧ c.toNat ≤ 57) ∨ c.toNat = 95) := by
    intro c
    have e : c = 95 ↔ c.toNat = 95 := ⟨fun h => by subst h; rfl, fun h => by rw [← UInt8.toNat_inj]; exact h⟩
    simp [inB, lowB, e, or_assoc]
  have bad : ∀ {i : Nat} {c : UInt8}, s[i]? = some c → inB c = false → false = wordB s := fun {i c} hc hb => by
    have : s.all inB = false := by
      rw [← Bool.not_eq_true, List.all_eq_true]
      intro h; rw [h c (List.mem_of_getElem? hc)] at hb; cases hb
    simp [wordB, this]
  refine ⟨fun h => ret ?_, fun h => ⟨fun h2 => ret ?_, fun h2 => ?_⟩⟩
  · have : s = [] := List.length_eq_zero_iff.1 (by simpa using h)
    subst this; rfl
  · have h2 := of_decide_eq_true h2
    simp only [wordB]; rw [decide_eq_false (p := s.length ≤ 24) (by omega)]; simp
  · have h2 := of_decide_eq_false h2
    obtain ⟨c, t, rfl⟩ : ∃ c t, s = c :: t := by
      cases s with
      | nil => simp at h
      | cons c t => exact ⟨c, t, rfl⟩
    have first : ¬ (97 ≤ c.toNat ∧ c.toNat ≤ 122) → false = wordB (c :: t) := fun hn => by
      have : lowB c = false := by rw [← Bool.not_eq_true, low]; exact hn
      simp [wordB, this]
    refine ⟨Int.le_refl _, c, rfl, fun h3 => ret (first (by have := of_decide_eq_true h3; omega)), fun h3 => ⟨Int.le_refl _, c, rfl, fun h4 => ret (first (by have := of_decide_eq_true h4; omega)), fun h4 => ⟨⟨0, valsAre_iff.2 rfl, hS, ⟨Nat.zero_le _, rfl⟩, trivial⟩, fun x hx => ⟨fun hlt => ?_, fun hlt => ret ?_⟩⟩⟩⟩
    · obtain ⟨hx1, hx2⟩ := hx
      have hlt := of_decide_eq_true hlt
      have hlt' : x < (c :: t).length := by omega
      have hd := List.getElem?_eq_getElem hlt'
      generalize (c :: t)[x] = d at hd
      have next : inB d = true → ∃ y : Nat, ValsAre [AV.str (c :: t), AV.int IntKind.i64 ((c :: t).length : Int), AV.int IntKind.i64 (IntKind.i64.wrap ((x : Int) + 1))] [AV.str (c :: t), AV.int IntKind.i64 ((c :: t).length : Int), AV.int IntKind.i64 (y : Int)] ∧ StIs { boxes := [], live := [] } { boxes := [], live := [] } ∧ (y ≤ (c :: t).length ∧ (List.take y (c :: t)).all inB = true) ∧ (c :: t).length - y < (c :: t).length - x := fun hi => by
        refine ⟨x + 1, valsAre_iff.2 (by rw [wrap64_in (by omega) (by omega)]; rfl), hS, ⟨by omega, ?_⟩, by omega⟩
        rw [List.take_add_one, List.all_append, hx2, hd]
        simpa using hi
      refine ⟨by omega, d, by simpa using hd, fun a1 => ⟨fun a2 => ⟨fun a3 => ret (bad hd ?_), fun a3 => next ?_⟩, fun a2 => ⟨fun a4 => ⟨fun a3 => ret (bad hd ?_), fun a3 => next ?_⟩, fun a4 => next ?_⟩⟩, fun a1 => ⟨fun a5 => ⟨fun a2 => ⟨fun a3 => ret (bad hd ?_), fun a3 => next ?_⟩, fun a2 => ⟨fun a4 => ⟨fun a3 => ret (bad hd ?_), fun a3 => next ?_⟩, fun a4 => next ?_⟩⟩, fun a5 => next ?_⟩⟩
      all_goals (try rw [← Bool.not_eq_true]); rw [inn]; simp only [decide_eq_true_eq, decide_eq_false_iff_not, bne_iff_ne, ne_eq, bne_eq_false_iff_eq] at *; omega
    · have hlt := of_decide_eq_false hlt
      have : x = (c :: t).length := by have := hx.1; omega
      subst this
      have hall : (c :: t).all inB = true := by have := hx.2; rwa [List.take_length] at this
      have hl : lowB c = true := by
        rw [low]; have := of_decide_eq_false h3; have := of_decide_eq_false h4; omega
      simp only [wordB, hall, List.getD_cons_zero, hl]
      rw [decide_eq_true (p := (c :: t).length ≤ 24) (by omega)]; simp
theorem o29 (m : Int) : SpecOk PU (GU m) 29 s29 := spec_of (X := XU) (m := []) mixedU tbl_nil itbl_nil fun args r h => by
  unfold s29 at h
  split at h
  · split at h
    · rename_i n hn; injection h with h; subst h; exact ⟨_, p29 m n hn⟩
    · cases h
  · cases h
theorem sW2_of {f : FuncId} {g : Int → Int → AV} {m : Int} {R : List (FuncId × Spec)} (hR : CalleeOk PU (GU m) (tbl R)) (h : ∀ a l a' l', wOk a l → wOk a' l' → ∃ A, PureOk PU (GU m) XU (tbl R) (itbl []) A [] f [.agg [.int .i64 a, .int .u64 l], .agg [.int .i64 a', .int .u64 l']] (g (wv a l) (wv a' l'), [])) : SpecOk PU (GU m) f (sW2 g) :=
  spec_of (X := XU) (m := []) mixedU hR itbl_nil fun args r hr => by
    unfold sW2 at hr
    split at hr
    · split at hr
      · rename_i hn; injection hr with hr; subst hr; exact h _ _ _ _ hn.1 hn.2
      · cases hr
    · cases hr
theorem sW1_of {f : FuncId} {g : Int → AV} {m : Int} {R : List (FuncId × Spec)} (hR : CalleeOk PU (GU m) (tbl R)) (h : ∀ a l, wOk a l → ∃ A, PureOk PU (GU m) XU (tbl R) (itbl []) A [] f [.agg [.int .i64 a, .int .u64 l]] (g (wv a l), [])) : SpecOk PU (GU m) f (sW1 g) :=
  spec_of (X := XU) (m := []) mixedU hR itbl_nil fun args r hr => by
    unfold sW1 at hr
    split at hr
    · split at hr
      · rename_i hn; injection hr with hr; subst hr; exact h _ _ hn
      · cases hr
    · cases hr
theorem o28 (m : Int) : SpecOk PU (GU m) 28 s28 := sW2_of (tbl_cons (o47 m) tbl_nil) fun a l a' l' h h' => ⟨_, p28 m a l a' l' h h'⟩
theorem o97 (m : Int) : SpecOk PU (GU m) 97 s97 := sW2_of (tbl_cons (o121 m) tbl_nil) fun a l a' l' h h' => ⟨_, p97 m a l a' l' h h'⟩
theorem o65 (m : Int) : SpecOk PU (GU m) 65 s65 := sW1_of (tbl_cons (o97 m) tbl_nil) fun a l h => ⟨_, p65 m a l h⟩
theorem o49 (m : Int) : SpecOk PU (GU m) 49 s49 := sW1_of (tbl_cons (o65 m) tbl_nil) fun a l h => ⟨_, p49 m a l h⟩
theorem o50 (m : Int) : SpecOk PU (GU m) 50 s50 := spec_of (X := XU) (m := []) mixedU tbl_nil itbl_nil fun args r h => by
  unfold s50 at h
  split at h
  · split at h
    · rename_i hn; obtain ⟨rfl, hl, hy, h0⟩ := hn
      injection h with h; subst h; exact ⟨_, p50 m _ _ hl hy h0⟩
    · cases h
  · cases h
theorem o32 (m : Int) : SpecOk PU (GU m) 32 s32 := spec_of (X := XU) (m := []) mixedU tbl_nil itbl_nil fun args r h => by
  unfold s32 at h
  split at h
  · split at h
    · rename_i hn; subst hn; injection h with h; subst h; exact ⟨_, p32 m _⟩
    · cases h
  · cases h
theorem o27 (m : Int) : SpecOk PU (GU m) 27 s27 := spec_of (X := XU) (m := []) mixedU tbl_nil itbl_nil fun args r h => by
  unfold s27 at h
  split at h
  · injection h with h; subst h; exact ⟨_, p27 m _⟩
  · cases h
theorem p31 (m h l : Int) (hw : wOk h l) : PureOk PU (GU m) XU (tbl [(49, s49), (29, s29), (50, s50)]) (itbl []) nAn [] 31 [.agg [.int .i64 h, .int .u64 l], .int .i64 1] (.tup [.int .i64 (if small (wv h l) then wv h l else 0), .bool (small (wv h l))], []) := by
  constructor
  rw [w31]
  have hb := wv_big hw
  have t49 : ∀ {a b : Int}, wOk a b → tbl [(49, s49), (29, s29), (50, s50)] 49 [AV.agg [AV.int IntKind.i64 a, AV.int IntKind.u64 b]] = some (.agg [.int .u64 (((wv a b).natAbs : Int) % 18446744073709551616), .int .u64 (((wv a b).natAbs : Int) / 18446744073709551616)], []) := fun h => by
    rw [tb_hit]; simp only [s49, sW1]; rw [if_pos h]
  have t50 : ∀ {b : Int}, uOk b → tbl [(49, s49), (29, s29), (50, s50)] 50 [AV.int IntKind.u64 0, AV.int IntKind.u64 b, AV.int IntKind.u64 1] = some (.tup [.int .u64 b, .int .u64 0], []) := fun {b} h => by
    rw [tb_miss (by decide), tb_miss (by decide), tb_hit]; simp only [s50]; rw [if_pos ⟨trivial, h, by unfold uOk; omega, by decide⟩, Int.ediv_one, Int.emod_one]
  have ret : ∀ {n : Int} {b : Bool}, n = (if small (wv h l) then wv h l else 0) → b = small (wv h l) → RetIs (AV.tup [AV.int IntKind.i64 n, AV.bool b]) [] (AV.tup [AV.int IntKind.i64 (if small (wv h l) then wv h l else 0), AV.bool (small (wv h l))], []) := fun h1 h2 => retIs_iff.2 (by rw [h1, h2])
  have hsign : h < 0 ↔ wv h l < 0 := by obtain ⟨a1, a2, a3, a4⟩ := hw; unfold wv; omega
  have h1 : wv 0 1 = 1 := by decide
  generalize hx : wv h l = x at *
  unfold bigOk at hb
  refine ⟨fun h => (nomatch h), fun _ => ⟨_, _, callIs_iff.2 (t49 hw), _, _, callIs_iff.2 rfl, _, _, callIs_iff.2 (t49 (by unfold wOk; omega)), ⟨by decide, by decide⟩, ?_⟩⟩
  rw [h1, hx]
  show ((decide (((x.natAbs : Nat) : Int) / 18446744073709551616 ≥ 1) = true) → _) ∧ _
  by_cases hbig : ((x.natAbs : Nat) : Int) / 18446744073709551616 ≥ 1
  · have hs : small x = false := by unfold small; rw [decide_eq_false]; omega
    refine ⟨fun _ => ret (by rw [hs]; rfl) hs.symm, fun h => absurd hbig (of_decide_eq_false h)⟩
  · have e0 : ((x.natAbs : Nat) : Int) / 18446744073709551616 = 0 := by omega
    have e1 : ((x.natAbs : Nat) : Int) % 18446744073709551616 = (x.natAbs : Int) := by omega
    rw [e0, e1]
    have ew : IntKind.u64.wrap (1 - 0) = 1 := by decide
    refine ⟨fun h => absurd (of_decide_eq_true h) (by omega), fun _ => ⟨⟨by decide, by decide⟩, ⟨by decide, by decide⟩, _, _, callIs_iff.2 (t50 (by unfold uOk; omega)), fun h => absurd (of_decide_eq_true h) (by rw [show ((Int.natAbs 1 : Nat) : Int) % 18446744073709551616 = 1 by decide, ew]; decide), fun _ => ⟨fun h => absurd (by simpa using h) (show ¬ (0 : Int) = IntKind.u64.wrap (((Int.natAbs 1 : Nat) : Int) % 18446744073709551616 - 0) by decide), fun _ => ⟨fun h => ?_, fun h => ?_⟩⟩⟩⟩
    · have h := of_decide_eq_true h
      have hs : small x = false := by unfold small; rw [decide_eq_false]; omega
      exact ret (by rw [hs]; rfl) hs.symm
    · have h := of_decide_eq_false h
      have hs : small x = true := by unfold small; rw [decide_eq_true]; omega
      have ew2 : IntKind.i64.wrap (x.natAbs : Int) = (x.natAbs : Int) := wrap64_in (by omega) (by omega)
      rw [ew2]
      refine ⟨fun hn => ?_, fun hn => ?_⟩
      · have hn := hsign.1 (of_decide_eq_true hn)
        have ew3 : IntKind.i64.wrap (0 - (x.natAbs : Int)) = x := by rw [wrap64_in (by omega) (by omega)]; omega
        exact ⟨fun h => (nomatch h), fun _ => ⟨fun _ => ret (by rw [ew3, hs]; rfl) hs.symm, fun h => nomatch h⟩⟩
      · have hn := of_decide_eq_false hn
        have hxp : ¬ x < 0 := fun h => hn (hsign.2 h)
        exact ⟨fun h => (nomatch h), fun _ => ⟨fun h => (nomatch h), fun _ => ret (by rw [hs]; simp; omega) hs.symm⟩⟩
theorem o31 (m : Int) : SpecOk PU (GU m) 31 s31 := spec_of (X := XU) (m := []) mixedU (tbl_cons (o49 m) (tbl_cons (o29 m) (tbl_cons (o50 m) tbl_nil))) itbl_nil fun args r h => by
  unfold s31 at h
  split at h
  · split at h
    · rename_i hn; obtain ⟨hw, rfl⟩ := hn
      injection h with h; subst h; exact ⟨_, p31 m _ _ hw⟩
    · cases h
  · cases h
end Go.Abs

namespace Go.Proofs.U07
open Go.RowKit Go.Maps Go.Sort Go.Abs
theorem law9 : Keyed Tryz.prog 9 := string_keyed Tryz.underlying9
theorem grown_of_below {a w : World} (h : Below a.heap.size a w) (row : Option Nat) : a.grownBy w row := ⟨h.os, h.tape, h.output, h.size, fun i hi _ => h.block i hi⟩
theorem size_le' {k : TypeId} {R : Value → Option (DataW Unit × List MemPlace)} {w : World} {P : Program} {b n : Nat} {D : DataW Unit} (h : w.ownsMap P k R b n D) : Maps.size D ≤ n := h.size_le
theorem str_info : (Tryz.prog.info? 9).map (fun i => (i.zero, i.size, i.bytes)) = some (some (.string ⟨#[]⟩), 1, 16) := by kernel_rfl
def SortedOut (D : DataW Unit) (w : World) (e : Ending) (w' : World) : Prop :=
  ∃ v, e = .returned v ∧ w'.ownsRow w.heap.size 9 1 v (strKeys D).length (((strKeys D).mergeSort leB).map encStr) ∧ Below w.heap.size w w'
set_option maxHeartbeats 2000000 in
set_option maxRecDepth 100000 in
theorem sorted_calls (b n : Nat) (D : DataW Unit) (w : World) (hown : w.ownsMap Tryz.prog 9 rdE b n D) (hn : n ≤ 1000000000000) : Calls Tryz.prog 30 #[.map (some b)] w (SortedOut D w) := by
  obtain ⟨i0, hi0, hz0, hz1, hz2⟩ := info_parts str_info
  have hbl := hown.lt
  have hsz := size_le' hown
  go_enter Tryz.func30, Tryz.ntmps30
  go_wp2_with (first
    | (at_range; refine wpList_range_own _ rfl _ 41 rfl 9 45 law9 Tryz.underlying41 _ b n _ rfl hown ?_; intro w0 hrg0 hg0 hs0)
    | go_in)
  go_frame
  go_loopw [3] (fun v wr => ∃ (left : Lit → Bool) (cnt : Nat) (ss : List (List UInt8)), wr.ranges Tryz.prog 9 rdE b w.heap.size n D left cnt ∧ ss.length + cnt ≤ Maps.size D ∧
      wr.ownsRow w.heap.size 9 1 v ss.length (ss.map encStr) ∧ Collected D left ss ∧ Below w.heap.size w wr)
    (fun _ wr => wr.rangeLeft b w.heap.size)
  case atStart =>
    exact ⟨_, _, [], hrg0, by simp, World.ownsRow_nil _ _ _ _, Collected.start D, (Below.refl _ _).grown hg0 (Nat.le_refl _) (fun j hj => by cases hj)⟩
  case round =>
    obtain ⟨left, cnt, ss, hrg, hcs, hrow, hC, hnx⟩ := hrel
    go_wp2_with (first
      | (at_next; refine wpList_next_ranges _ rfl _ rfl 9 law9 rdE encStr id (fun key kl h => by obtain ⟨x, hx, _⟩ := Maps.keyOf_str Tryz.underlying9 h; exact ⟨x, hx⟩) (fun v y h => ⟨v, rfl⟩) b w.heap.size n _ _ _ rfl hrg ?_ ?_)
      | go_in)
    · intro hc0 hl0
      have hown2 := hrg.owns
      have hperm := hC.perm hown2 law9 Tryz.underlying9 hl0
      have hms : (strKeys D).mergeSort leB = ss.mergeSort leB := (mergeSort_of_perm hperm).symm
      have hln : (strKeys D).length = ss.length := hperm.length_eq.symm
      have HP := Lib.hid (show (strKeys D).mergeSort leB = ss.mergeSort leB ∧ (strKeys D).length = ss.length from ⟨hms, hln⟩)
      clear hC hl0 hown2 hperm hms hln hrg0 hg0 hs0
      rcases hrow.2 with ⟨rfl, hz⟩ | ⟨g, cap, cur, rfl, hbase, hb, h1, h2, h3, h4⟩
      · have hc := Lib.hid (Tryz.slices_Sort_string_none none 0 wr)
        clear hrg
        go_wp2_with fail
        refine hc.out.mono ?_
        rintro e w2 ⟨rfl, rfl⟩
        go_wp2_with fail
        go_ret
        have hss : ss = [] := by
          have := hrow.1
          rw [hz] at this
          simpa using this
        subst hss
        refine ⟨.slice none 0 0, rfl, ?_, hnx⟩
        rw [HP.out.1, HP.out.2, List.mergeSort_nil]
        exact hrow
      · have hH : Holds encStr wr g 0 ss.toArray := holds_of_block hb (by simpa using h4)
        have hgl : g < wr.heap.size := (Array.getElem?_eq_some_iff.1 hb).1
        have hc := Lib.hid (Tryz.slices_Sort_string g 0 cap ss wr hH hgl (by omega))
        have hlen : (ss.mergeSort leB).length = ss.length := (List.mergeSort_perm ss leB).length_eq
        have hsort : ∀ nn os, (grow (putRow encStr (Sort.ahead wr nn) g 0 (ss.mergeSort leB).toArray) os).ownsRow w.heap.size 9 1 (.slice (some ⟨g, 0, none⟩) ss.length cap) ss.length ((ss.mergeSort leB).map encStr) :=
          fun nn os => ownsRow_sorted hlen hbase hb h1 h2 h3
        have hgs : ∀ nn os, wr.grownBy (grow (putRow encStr (Sort.ahead wr nn) g 0 (ss.mergeSort leB).toArray) os) (some g) := fun nn os => grownBy_sorted _
        have HS := Lib.hid hsort
        have HG := Lib.hid hgs
        clear hsort hgs h1 h2 h3 h4 hH hb hrg hlen
        go_wp2_with fail
        refine hc.out.mono ?_
        rintro e w2 ⟨rfl, nn, os, rfl⟩
        have hrow2 := HS.out nn os
        have hg2 := HG.out nn os
        obtain ⟨w2, hw2⟩ : ∃ w2, grow (putRow encStr (Sort.ahead wr nn) g 0 (ss.mergeSort leB).toArray) os = w2 := ⟨_, rfl⟩
        have hw2' : grow (putRow encStr (Sort.ahead wr nn) g 0 (ss.mergeSort fun x y => decide (x ≤ y)).toArray) os = w2 := hw2
        rw [hw2'] at *
        rw [hw2] at hrow2 hg2
        clear hw2 hw2' HS HG hc
        have hnx2 := hnx.grown hg2 hnx.size (fun j hj => by cases hj; exact hbase)
        go_wp2_with fail
        go_ret
        refine ⟨.slice (some ⟨g, 0, none⟩) ss.length cap, rfl, ?_, hnx2⟩
        rw [HP.out.1, HP.out.2]
        exact hrow2
    · intro x c kl y yp w2 cnt2 hkey hlk hv hat hrg2 hlt hg2 hs2 hen
      obtain rfl : kl = .string x := by
        obtain ⟨x', hx, rfl, _⟩ := Maps.keyOf_str Tryz.underlying9 hkey
        rw [encStr_inj hx]
      have hrow2 := hrow.kept hg2 (Or.inr (row_ne_iter hrow hrg).symm)
      clear hs2
      go_wp2_with (first
        | (at_builtin; refine wpList_append_own _ rfl _ _ 48 rfl w.heap.size 9 i0 (.string ⟨#[]⟩) 1 16 Tryz.underlying48 hi0 hz0 hz1 hz2 rfl (by decide) _ _ _ rfl (hrow2.alloc _) ⟨w2.heap.size, 0, none⟩ 1 1 [encStr x] rfl rfl (cell_one_new _ _ _) (by simp [Value.oneCell', encStr]) (by unfold maxLen at *; omega) (by omega) (by have := hnx.size; have := hg2.size; simp; omega) ?_; intro v' w3 hown' hg3 hnil3; go_frame)
        | go_in)
      have hrg3 := (hrg2.alloc _).kept hg3 (row_ne_low hrow2 hbl) (row_ne_iter hrow2 hrg2)
      go_roundw
      case rel =>
        refine ⟨_, cnt2, ss ++ [x], hrg3, by simp; omega, by simpa using hown', hC.step hlk hat, ?_⟩
        exact ((hnx.grown hg2 hnx.size (fun j hj => by cases hj; exact Nat.le_refl _)).alloc (by have := hnx.size; have := hg2.size; omega) _).grown hg3 (by have := hnx.size; have := hg2.size; simp; omega) (fun j hj => (hrow2.lt j hj).1)
      case measure => rw [hrg3.left_eq, hrg.left_eq]; exact hlt
end Go.Proofs.U07

namespace Go.Abs
open Go.Proofs Go.RowKit Go.Maps Go.Sort
variable {E : Env} {w w' : World} {G : Glob}
/-- a slice of strings of the call's own -/
theorem res_strs {P : Program} {e : TypeId} {v : Value} {n : Nat} {ss : List (List UInt8)} (hb : Below w.heap.size w w') (hn : n = ss.length) (hown : w'.ownsRow w.heap.size e 1 v n (ss.map encStr)) : Res P E w w' (.sl 1 (ss.map AV.str) .no) [] v := by
  subst hn
  refine ⟨fun b o => E.I b o ∨ (v.ownBlock = some b ∧ o < ss.length), fun b o h => .inl h, fun b o h => ?_, hb, .inl ⟨rfl, fun B K => ?_⟩⟩
  · rcases h with h | ⟨h, _⟩
    · exact .inl h
    · exact .inr (hown.lt b h)
  · have hcl : ∀ e ∈ ss.map AV.str, e.closed1 = true := fun e he => by obtain ⟨s, _, rfl⟩ := List.mem_map.1 he; rfl
    have hsz : ∀ e ∈ ss.map AV.str, e.cells.length = 1 := fun e he => by obtain ⟨s, _, rfl⟩ := List.mem_map.1 he; rfl
    have hrep : ∀ (E' : Env) (i : Nat) (e : AV) (j : Nat) (c : AV), (ss.map AV.str)[i]? = some e → e.cells[j]? = some c → Rep E' w' c (encStr (ss.getD i [])) := fun E' i e j c hi hj => by
      rw [List.getElem?_map] at hi
      cases hs : ss[i]? with
      | none => simp [hs] at hi
      | some s =>
        simp [hs] at hi; subst hi
        match j, hj with
        | 0, hj =>
          simp [AV.cells] at hj; subst hj
          have : ss.getD i [] = s := by rw [List.getD_eq_getElem?_getD, hs]; rfl
          rw [this]
          exact .str _ _ (by simp)
        | j + 1, hj => simp [AV.cells] at hj
    have hlen : (ss.map AV.str).length = ss.length := List.length_map ..
    rcases hown.2 with ⟨rfl, hz⟩ | ⟨g, cap, cur, rfl, hbase, hbk, h1, h2, h3, h4⟩
    · have hss : ss = [] := by
        have := hown.1
        rw [hz] at this
        simpa using this
      subst hss
      exact .sl 1 [] .no none 0 (fun _ _ => .bool true) (Nat.le_refl _) (Nat.zero_le _) (.inl rfl) (by simp) (by simp) trivial (by simp) (fun _ _ => rfl)
    · rw [← hlen]
      refine .sl 1 _ .no _ cap (fun i j => encStr (ss.getD i [])) (by rw [hlen]; exact h1) h2 (.inr ⟨g, 0, rfl, fun i e j c hi hj => ?_⟩) hsz hcl trivial (hrep _) (fun i j => rfl)
      have hi' : i < ss.length := by rw [← hlen]; exact (List.getElem?_eq_some_iff.1 hi).1
      have hj0 : j = 0 := by
        have := hsz e (List.mem_of_getElem? hi)
        have := (List.getElem?_eq_some_iff.1 hj).1
        omega
      subst hj0
      refine ⟨.inr ⟨rfl, by omega⟩, ?_⟩
      have e1 : (cur.toList.take (ss.length * 1))[i]? = (ss.map encStr)[i]? := by rw [h4]
      rw [List.getElem?_take_of_lt (by omega), List.getElem?_map, List.getElem?_eq_getElem hi'] at e1
      have e2 : ss.getD i [] = ss[i] := by rw [List.getD_eq_getElem?_getD, List.getElem?_eq_getElem hi']; rfl
      simp only [Nat.zero_add, Nat.mul_one, Nat.add_zero]
      rw [e2]
      simp only [World.cell?, hbk]
      simp only [Option.isSome_none, Bool.false_eq_true, if_false]
      rw [← Array.getElem?_toList, e1]
      rfl

def keysM : List AV → List (List UInt8)
  | [] => []
  | .tup [.str s, _] :: es => s :: keysM es
  | _ :: es => keysM es
def insS (x : List UInt8) : List (List UInt8) → List (List UInt8)
  | [] => [x]
  | y :: t => if Op.bytesLess y x then y :: insS x t else x :: y :: t
def keptSort : List (List UInt8) → List (List UInt8)
  | [] => []
  | x :: t => insS x (keptSort t)
theorem insS_perm (x : List UInt8) : ∀ l, (insS x l).Perm (x :: l)
  | [] => List.Perm.refl _
  | y :: t => by
    unfold insS
    split
    · exact ((insS_perm x t).cons y).trans (List.Perm.swap x y t)
    · exact List.Perm.refl _
theorem keptSort_perm : ∀ l, (keptSort l).Perm l
  | [] => List.Perm.refl _
  | x :: t => (insS_perm x _).trans ((keptSort_perm t).cons x)
theorem leB_iff (x y : List UInt8) : leB x y = true ↔ Op.bytesLess y x = false := by
  rw [bytesLess_eq, decide_eq_false_iff_not, leB, decide_eq_true_eq]; exact Iff.rfl
theorem insS_sorted (x : List UInt8) : ∀ l : List (List UInt8), l.Pairwise (fun a b => leB a b = true) → (insS x l).Pairwise (fun a b => leB a b = true)
  | [], _ => by simp [insS]
  | y :: t, h => by
    obtain ⟨h1, h2⟩ := List.pairwise_cons.1 h
    unfold insS
    split
    · rename_i hlt
      refine List.pairwise_cons.2 ⟨fun z hz => ?_, insS_sorted x t h2⟩
      rcases List.mem_cons.1 ((insS_perm x t).mem_iff.1 hz) with rfl | hz
      · rw [bytesLess_eq, decide_eq_true_eq] at hlt
        simp only [leB, decide_eq_true_eq]; exact List.le_of_lt hlt
      · exact h1 z hz
    · rename_i hlt
      have hxy : leB x y = true := (leB_iff x y).2 (by simpa using hlt)
      refine List.pairwise_cons.2 ⟨fun z hz => ?_, h⟩
      rcases List.mem_cons.1 hz with rfl | hz
      · exact hxy
      · have := h1 z hz
        simp only [leB, decide_eq_true_eq] at *
        exact List.le_trans hxy this
theorem keptSort_sorted : ∀ l, (keptSort l).Pairwise (fun a b => leB a b = true)
  | [] => List.Pairwise.nil
  | x :: t => insS_sorted x _ (keptSort_sorted t)
theorem keptSort_eq (l : List (List UInt8)) : keptSort l = l.mergeSort leB := by
  have tr : ∀ a b c : List UInt8, leB a b = true → leB b c = true → leB a c = true := fun a b c h1 h2 => by simp only [leB, decide_eq_true_eq] at *; exact List.le_trans h1 h2
  have tot : ∀ a b : List UInt8, (leB a b || leB b a) = true := fun a b => by simp only [leB, Bool.or_eq_true, decide_eq_true_eq]; exact List.le_total a b
  refine List.Perm.eq_of_pairwise (le := fun a b => leB a b = true) (fun a b _ _ h1 h2 => ?_) (keptSort_sorted l) (List.pairwise_mergeSort tr tot l) ((keptSort_perm l).trans (List.mergeSort_perm l leB).symm)
  simp only [leB, decide_eq_true_eq] at h1 h2
  exact List.le_antisymm h1 h2
def s30 : ISpec := fun args S => match args with
  | [.mp id] => match mapAt S (.mp id) with
    | some (_, t, n, es) => if t = 41 then some ((keysM es).Nodup ∧ n ≤ 1000000000000, .sl 1 ((keptSort (keysM es)).map AV.str) .no, S) else none
    | none => none
  | _ => none
theorem kind41 : keyKind PU 41 = some (9, 45) := by kernel_rfl
theorem keyL_str {s : List UInt8} (h : s.length ≤ maxLen) : keyL PU 9 (.str s) = some (.string s) := by
  simp only [keyL, Tryz.underlying9, if_pos h]
theorem good_str {es : List AV} (hg : GoodM PU 9 es) : ∀ e ∈ es, ∃ s v, e = .tup [.str s, v] ∧ s.length ≤ maxLen := fun e he => by
  obtain ⟨a, v, kl, d, rfl, h1, _⟩ := hg e he
  cases a <;> simp [keyL, Tryz.underlying9] at h1
  exact ⟨_, v, rfl, h1.1⟩
theorem look_keys {es : List AV} (hg : GoodM PU 9 es) (x : List UInt8) : (lookM es (.str x)).isSome = true ↔ x ∈ keysM es := by
  induction es with
  | nil => simp [lookM, keysM]
  | cons e es ih =>
    obtain ⟨s, v, rfl, _⟩ := good_str hg e (by simp)
    have ih := ih fun e he => hg e (by simp [he])
    simp only [lookM, keysM, List.mem_cons]
    by_cases hx : s = x
    · subst hx; rw [if_pos (by simp [keyEq])]; simp
    · rw [if_neg (by simpa [keyEq] using hx), ih]
      simp [Ne.symm hx]
theorem keys_le {es : List AV} (hg : GoodM PU 9 es) : ∀ x ∈ keysM es, x.length ≤ maxLen := by
  induction es with
  | nil => intro x hx; simp [keysM] at hx
  | cons e es ih =>
    obtain ⟨s, v, rfl, hl⟩ := good_str hg e (by simp)
    intro x hx
    simp only [keysM, List.mem_cons] at hx
    rcases hx with rfl | hx
    · exact hl
    · exact ih (fun e he => hg e (by simp [he])) x hx
theorem keys_perm {es : List AV} {D : DataW Unit} {b n : Nat} (hg : GoodM PU 9 es) (hD : MapRel PU 9 es D) (ho : w.ownsMap PU 9 rdE b n D) (hnd : (keysM es).Nodup) : (keysM es).Perm (strKeys D) := by
  obtain ⟨fs, rfl, hpw, _⟩ := ho.entries U07.law9
  obtain ⟨fs', hD', hko⟩ := ho.keysOf
  obtain rfl : fs = fs' := by simpa using hD'
  have hk : ∀ p ∈ fs, ∃ x, p.1 = .string x ∧ x.length ≤ maxLen := fun p hp => by
    obtain ⟨v, hv⟩ := hko p hp
    obtain ⟨x, _, hx, hl⟩ := Maps.keyOf_str Tryz.underlying9 hv
    exact ⟨x, hx, hl⟩
  refine perm_strKeys hpw (fun p hp => by obtain ⟨x, hx, _⟩ := hk p hp; exact ⟨x, hx⟩) hnd fun x => ?_
  by_cases hl : x.length ≤ maxLen
  · rw [← look_keys hg x, has_of hD hg (keyL_str hl)]
  · constructor
    · intro hx; exact absurd (keys_le hg x hx) hl
    · intro hx
      rw [has_eq, List.any_eq_true] at hx
      obtain ⟨p, hp, hs⟩ := hx
      obtain ⟨y, hy, hly⟩ := hk p hp
      rw [hy] at hs
      have : y = x := by simpa [Lit.sameKey] using hs
      subst this; exact absurd hly hl
theorem o30 (m : Int) : ISpecOk PU (GU m) 30 s30 := by
  intro g args S r S' h
  simp only [lowC] at h
  split at h
  case h_2 => cases h
  rename_i x hx
  split at h
  case isFalse => cases h
  rename_i hp
  injection h with h
  split at hx
  case isFalse => cases hx
  rename_i e
  subst e
  unfold s30 at hx
  split at hx
  case h_2 => cases hx
  rename_i id
  split at hx
  case h_2 => cases hx
  rename_i b t n es hma
  split at hx
  case isFalse => cases hx
  rename_i ht
  injection hx with hx
  subst hx
  simp only [Prod.mk.injEq] at h hp
  obtain ⟨rfl, rfl⟩ := h
  obtain ⟨hnd, hn⟩ := hp
  refine ⟨goodU (by kernel_rfl), fun N0 w0 I0 E w vs hS hvs hv => ?_⟩
  obtain ⟨a, rfl⟩ := vs_one hvs
  obtain ⟨blk, D, rfl, hB, h0, hg, hD, ho⟩ := map_at hS hma kind41 ht (hv 0 _ _ rfl rfl)
  refine (U07.sorted_calls blk n.toNat D w ho (by omega)).mono fun e w' ⟨v, he, hown, hb⟩ => ?_
  have hpm := keys_perm hg hD ho hnd
  have e1 : (strKeys D).mergeSort leB = keptSort (keysM es) := by rw [keptSort_eq]; exact (mergeSort_of_perm hpm).symm
  rw [e1] at hown
  have hl : (strKeys D).length = (keptSort (keysM es)).length := by
    rw [(keptSort_perm _).length_eq, hpm.length_eq]
  obtain ⟨E', h1, h2, h3⟩ := hS.res (res_strs (P := PU) hb hl hown)
  exact ⟨v, E', he, by simpa using h1, h2, by simpa using h3⟩
end Go.Abs

namespace Go.Abs
open Go.RowKit
section
variable {P : Program} {G : Glob} {E : Env} {w : World}
def wkA (z : Nat) : AV → AV
  | .sl _ [] _ => .sl z [] .no
  | .sl sz (e :: es) _ => .sl sz (e :: es) .no
  | a => a
def wkL : List Nat → List AV → List AV
  | z :: zs, a :: xs => wkA z a :: wkL zs xs
  | _, xs => xs
theorem rep_wk {z : Nat} {a : AV} {v : Value} (h : Rep E w a v) : Rep E w (wkA z a) v := by
  unfold wkA
  split
  · cases h with
    | sl _ _ _ A cap u hcap hmax hA hsz hcl ho hr h1 =>
      exact .sl z [] .no A cap u hcap hmax (.inl rfl) (by simp) (by simp) trivial (fun i e j c hi => by simp at hi) h1
  · cases h with
    | sl _ _ _ A cap u hcap hmax hA hsz hcl ho hr h1 =>
      exact .sl _ _ .no A cap u hcap hmax hA hsz hcl trivial hr h1
  · exact h
theorem closed_wk {z : Nat} {a : AV} (h : a.closed1 = true) : (wkA z a).closed1 = true := by
  unfold wkA
  split
  · rfl
  · rfl
  · exact h
theorem wkL_length : ∀ (zs : List Nat) (xs : List AV), (wkL zs xs).length = xs.length
  | [], xs => by simp [wkL]
  | z :: zs, [] => by simp [wkL]
  | z :: zs, a :: xs => by simp [wkL, wkL_length zs xs]
theorem wkL_at : ∀ (zs : List Nat) (xs : List AV) (i : Nat) (c : AV), (wkL zs xs)[i]? = some c → ∃ a, xs[i]? = some a ∧ (c = a ∨ ∃ z, c = wkA z a)
  | [], xs, i, c, h => ⟨c, by simpa [wkL] using h, .inl rfl⟩
  | z :: zs, [], i, c, h => by simp [wkL] at h
  | z :: zs, a :: xs, 0, c, h => by
    simp [wkL] at h
    exact ⟨a, by simp, .inr ⟨z, h.symm⟩⟩
  | z :: zs, a :: xs, i + 1, c, h => by
    simp only [wkL, List.getElem?_cons_succ] at h
    simpa using wkL_at zs xs i c h
theorem spec_wk {f : FuncId} {s : Spec} (zs : List Nat) (h : ∀ args r, s args = some r → SpecOk P G f (fun a => open Classical in if a = wkL zs args then some r else none)) : SpecOk P G f s := by
  intro g args r lv hr
  simp only at hr
  split at hr
  · rename_i e
    subst e
    have := h args (r, lv) hr g (wkL zs args) r lv (by simp)
    intro E w vs hI hG hn hv hcl
    refine this E w vs hI hG (by rw [wkL_length]; exact hn) (fun i c v hi hv' => ?_) fun c hc => ?_
    · obtain ⟨a, ha, hx⟩ := wkL_at zs args i c hi
      rcases hx with rfl | ⟨z, rfl⟩
      · exact hv i _ v ha hv'
      · exact rep_wk (hv i _ v ha hv')
    · obtain ⟨i, hi, rfl⟩ := List.mem_iff_getElem.1 hc
      obtain ⟨a, ha, hx⟩ := wkL_at zs args i _ (List.getElem?_eq_getElem hi)
      rcases hx with hx | ⟨z, hx⟩
      · rw [hx]; exact hcl a (List.mem_of_getElem? ha)
      · rw [hx]; exact closed_wk (hcl a (List.mem_of_getElem? ha))
  · cases hr
theorem spec_ofW {X : Shapes} {R : Callee} {C : CCallee} (zs : List Nat) (hm : P.follows .mixedOrders = true) (hR : CalleeOk P G R) (hC : ICalleeOk P G (lowC C)) {m : List Bool} {f : FuncId} {s : Spec}
    (h : ∀ args r, s args = some r → ∃ A, PureOk P G X R C A m f (wkL zs args) r) : SpecOk P G f s :=
  spec_wk zs fun args r hr => spec_of hm hR hC fun a r' hr' => by
    split at hr'
    · rename_i e; subst e; injection hr' with hr'; subst hr'; exact h args r hr
    · cases hr'
theorem lax_ofW {X : Shapes} {R : Callee} {C : CCallee} (zs : List Nat) (hm : P.follows .mixedOrders = true) (hR : CalleeOk P G R) (hC : ICalleeOk P G (lowC C)) {m : List Bool} {f : FuncId} {s : Spec}
    (h : ∀ args r, s args = some r → ∃ A, LaxOk P G X R C A m f (wkL zs args) r) : SpecOk P G f s :=
  spec_wk zs fun args r hr => lax_of hm hR hC fun a r' hr' => by
    split at hr'
    · rename_i e; subst e; injection hr' with hr'; subst hr'; exact h args r hr
    · cases hr'
end
end Go.Abs
