/- Own texts, part 11. -/
import Derived.Test.YtdajfgkcpflacaaGreatPart10
import Derived.Test.YtdajfgkcpflacaaGreatPart3
import Derived.Test.YtdajfgkcpflacaaGreatRows
import Derived.Test.YtdajfgkcpflacaaGreatPart6
import Derived.LaidLaws
import Derived.Lay
import Derived.Shelf.Lay

namespace Go.Abs
open Go.Proofs Go.Proofs.K17 Go.Proofs.D17 Go.RowKit
def flagsOf : Option Fam → Bool × Bool × Bool × Bool
 | some .sum => (true, false, false, false)
 | some .smp => (false, false, false, true)
 | some (.keep false) => (false, true, false, false)
 | some (.keep true) => (false, false, true, false)
 | _ => (false, false, false, false)
theorem flags (op : List UInt8) : (sumO op, valO op, ordO op, op == bQuantile) = flagsOf (famO op) := by
 have key : ∀ b ∈ [bCount, bSum, bMean, bDecay, bQuantile, bMin, bMax, bDistinct, bFirst, bLast], (sumO b, valO b, ordO b, b == bQuantile) = flagsOf (famO b) := by decide
 by_cases h : op ∈ [bCount, bSum, bMean, bDecay, bQuantile, bMin, bMax, bDistinct, bFirst, bLast]
 ·exact key op h
 ·simp only [List.mem_cons, List.not_mem_nil, or_false, not_or] at h
  obtain ⟨h1, h2, h3, h4, h5, h6, h7, h8, h9, h10⟩ := h
  have e1 : famO op = none := by
   unfold famO
   rw [if_neg h1, if_neg h2, if_neg h3, if_neg h4, if_neg h5, if_neg h6, if_neg h7, if_neg h8, if_neg h9, if_neg h10]
  rw [e1]
  unfold sumO valO ordO
  rw [beq_false_of_ne h2, beq_false_of_ne h3, beq_false_of_ne h4, beq_false_of_ne h5, beq_false_of_ne h6, beq_false_of_ne h7, beq_false_of_ne h8, beq_false_of_ne h9, beq_false_of_ne h10]; rfl
theorem flag4 {op : List UInt8} {a b c d : Bool} {f : Option Fam} (h : famO op = f) (hf : flagsOf f = (a, b, c, d)) : sumO op = a ∧ valO op = b ∧ ordO op = c ∧ (op == bQuantile) = d := by
 have e := flags op
 rw [h, hf] at e
 simp only [Prod.mk.injEq] at e
 exact e
theorem clash {b : Bool} {P : Prop} (h1 : b = true) (h2 : b = false) : P := by rw [h1] at h2; cases h2
theorem laxSt (s : StI) : RetLax (.agg (stC s)) (stA s, []) := ⟨⟨rfl, rfl, rfl, ⟨rfl, rfl, .inl rfl⟩, ⟨rfl, rfl, .inl rfl⟩, trivial⟩, rfl, rfl⟩
theorem lax_nil (n h l : Int) : RetLax (.agg (nilC n h l)) (stA ⟨n, h, l, [], []⟩, []) := ⟨⟨rfl, rfl, rfl, ⟨rfl, rfl, .inr rfl⟩, ⟨rfl, rfl, .inr rfl⟩, trivial⟩, rfl, rfl⟩
theorem lax_bks (n : Int) (B : Bks) : RetLax (.agg (bksC n B)) (stA ⟨n, 0, 0, [], B⟩, []) := ⟨⟨rfl, rfl, rfl, ⟨rfl, rfl, .inr rfl⟩, ⟨rfl, rfl, .inl rfl⟩, trivial⟩, rfl, rfl⟩
theorem lax_its (n : Int) (L : List ItI) : RetLax (.agg (itsC n L)) (stA ⟨n, 0, 0, L, []⟩, []) := ⟨⟨rfl, rfl, rfl, ⟨rfl, rfl, .inl rfl⟩, ⟨rfl, rfl, .inr rfl⟩, trivial⟩, rfl, rfl⟩
theorem q19 (s : StI) (h1 : s.its.length ≤ maxLen) : PureOk PA GA XL (tbl []) (itbl []) (a19 s) [] 19 [.agg (stC s)] (.bool (smallS s), []) := by
 constructor
 rw [z19]
 unfold maxLen at h1
 refine ⟨⟨0, ⟨rfl⟩, ⟨rfl⟩, ⟨Nat.zero_le _, by rw [List.take_zero]; rfl⟩, trivial⟩, fun i hi => ⟨fun lt => ?_, fun ge => ⟨fun c => ⟨fun d => ?_, fun d => ?_⟩, fun c => ?_⟩⟩⟩
 ·have lt := of_decide_eq_true lt
  rw [len_its] at lt
  have hil : i < s.its.length := by omega
  have no : smI s.its[i] = false → RetIs (AV.bool false) [] (AV.bool (smallS s), []) := fun h => retIs_iff.2 (by unfold smallS; rw [all_not hil h]; rfl)
  refine ⟨⟨by omega, by rw [len_its]; omega⟩, _, by rw [Int.toNat_natCast]; exact take_is hil, fun c => no ?_, fun c => ⟨⟨by omega, by rw [len_its]; omega⟩, _, by rw [Int.toNat_natCast]; exact take_ir hil, fun d => no ?_, fun d => ⟨i + 1, ⟨by rw [wrapB (by omega)]⟩, ⟨rfl⟩, ⟨hil, all_succ hil hi.2 ?_⟩, by omega⟩⟩⟩
  ·have c := of_decide_eq_true c
   unfold smI; rw [decide_eq_false (by omega)]; rfl
  ·have d := of_decide_eq_true d
   unfold smI; rw [decide_eq_false (show ¬ s.its[i].src.length ≤ 100 by omega), Bool.and_false]
  ·have c := of_decide_eq_false c
   have d := of_decide_eq_false d
   unfold smI; rw [decide_eq_true (by omega), decide_eq_true (by omega)]; rfl
 all_goals
  have ge := of_decide_eq_false ge
  rw [len_its] at ge c
  have h2 := hi.2
  rw [List.take_of_length_le (by omega)] at h2
  refine retIs_iff.2 ?_
  unfold smallS; rw [h2]
 ·rw [len_bks] at d
  have c := of_decide_eq_true c
  have d := of_decide_eq_true d
  rw [decide_eq_true (by omega), decide_eq_true (by omega)]; rfl
 ·rw [len_bks] at d
  have d := of_decide_eq_false d
  rw [decide_eq_false (show ¬ s.bks.length ≤ 60 by omega), Bool.and_false]
 ·have c := of_decide_eq_false c
  rw [decide_eq_false (show ¬ s.its.length ≤ 60 by omega), Bool.and_false]; rfl
theorem asc_next {b : Bks} {i : Nat} (hi : i < b.length) (h : Asc (b.take i)) (h0 : b[i].2 ≠ 0) (h1 : ∀ (j : Nat) (hj : j + 1 = i), b[j].1 < b[i].1) : Asc (b.take (i + 1)) := by
 rw [List.take_succ_eq_append_getElem hi]
 refine asc_snoc h (fun z hz => ?_) h0
 obtain ⟨j, hj, rfl⟩ := List.mem_take_iff_getElem.1 hz
 have hji : j < i := by omega
 obtain ⟨p, rfl⟩ : ∃ p, i = p + 1 := ⟨i - 1, by omega⟩
 have hp := h1 p rfl
 rcases Nat.lt_or_ge j p with hjp | hjp
 ·have := (List.pairwise_iff_getElem.1 h.1) j p (by rw [List.length_take]; omega) (by rw [List.length_take]; omega) hjp
  rw [List.getElem_take, List.getElem_take] at this
  omega
 ·obtain rfl : j = p := by omega
  exact hp
theorem q20 (s : StI) (h1 : s.bks.length ≤ maxLen) : PureOk PA GA XL (tbl []) (itbl []) (a20 s) [] 20 [.agg (stC s)] (.bool (decide (Asc s.bks)), []) := by
 constructor
 rw [z20, len_bks]
 unfold maxLen at h1
 generalize s.bks = b at *
 have no : ¬ Asc b → RetIs (AV.bool false) [] (AV.bool (decide (Asc b)), []) := fun h => retIs_iff.2 (by rw [decide_eq_false h])
 refine ⟨⟨0, ⟨rfl⟩, ⟨rfl⟩, ⟨Nat.zero_le _, by rw [List.take_zero]; exact asc_nil⟩, trivial⟩, fun i hi => ⟨fun lt => ?_, fun ge => ?_⟩⟩
 ·have lt := of_decide_eq_true lt
  have hil : i < b.length := by omega
  have wn : IntKind.i64.wrap ((i : Int) + 1) = ((i + 1 : Nat) : Int) := by rw [iwN ⟨by omega, by omega⟩]; omega
  refine ⟨⟨by omega, by omega⟩, _, by rw [Int.toNat_natCast]; exact take_b1 hil, fun c => no ?_, fun c => ⟨fun d => ?_, fun d => ?_⟩⟩
  ·have c : b[i].2 = 0 := by simpa using c
   exact fun hA => hA.2 _ (List.getElem_mem hil) c
  ·have c : b[i].2 ≠ 0 := by simpa using c
   have d := of_decide_eq_true d
   obtain ⟨p, rfl⟩ : ∃ p, i = p + 1 := ⟨i - 1, by omega⟩
   have wp : IntKind.i64.wrap (((p + 1 : Nat) : Int) - 1) = (p : Int) := by rw [iwN ⟨by omega, by omega⟩]; omega
   rw [wp]
   have hp : p < b.length := by omega
   refine ⟨⟨by omega, by omega⟩, _, by rw [Int.toNat_natCast]; exact take_b0 hil, ⟨by omega, by omega⟩, _, by rw [Int.toNat_natCast]; exact take_b0 hp, fun e => no ?_, fun e => ⟨p + 1 + 1, ⟨by rw [wn]⟩, ⟨rfl⟩, ⟨by omega, asc_next hil hi.2 c fun j hj => ?_⟩, by omega⟩⟩
   ·have e := of_decide_eq_true e
    intro hA
    have := (List.pairwise_iff_getElem.1 hA.1) p (p + 1) hp hil (by omega)
    omega
   ·have e := of_decide_eq_false e
    obtain rfl : j = p := by omega
    omega
  ·have c : b[i].2 ≠ 0 := by simpa using c
   have d := of_decide_eq_false d
   exact ⟨i + 1, ⟨by rw [wn]⟩, ⟨rfl⟩, ⟨by omega, asc_next hil hi.2 c fun j hj => by omega⟩, by omega⟩
 ·have ge := of_decide_eq_false ge
  have h2 := hi.2
  rw [List.take_of_length_le (by omega)] at h2
  exact retIs_iff.2 (by rw [decide_eq_true h2])
abbrev tA' : List (FuncId × Spec) := [(23, z23s), (46, z46s), (48, zMul), (47, zAdd), (49, zAddB), (50, z50s), (51, z51s), (52, zPut)]
theorem ta48 {a b : Int} (ha : iOk a) (hb : iOk b) : tbl tA' 48 [.int .i64 a, .int .i64 b] = some (wideA (a * b), []) := by
 rw [tb_miss (by decide), tb_miss (by decide), tb_hit]; simp only [zMul, s48]; rw [if_pos ⟨ha, hb⟩]
theorem ta47 {h l h' l' : Int} (hw : wOk h l) (hw' : wOk h' l') : tbl tA' 47 [.agg [.int .i64 h, .int .u64 l], .agg [.int .i64 h', .int .u64 l']] = some (wideA (wv h l + wv h' l'), []) := by
 rw [tb_miss (by decide), tb_miss (by decide), tb_miss (by decide), tb_hit]; simp only [zAdd, s47, sW2]; rw [if_pos ⟨hw, hw'⟩]
theorem ta49 {l : Bks} {n t : Int} (h : WfB l ∧ Asc l ∧ l.length < 10000000 ∧ iOk n ∧ iOk t ∧ t ≠ 0) : tbl tA' 49 [.sl 2 (bksL l) .no, .int .i64 n, .int .i64 t] = some (.sl 2 (bksL (normB (l ++ [(idx n, t)]))) .no, []) := by
 rw [tb_miss (by decide), tb_miss (by decide), tb_miss (by decide), tb_miss (by decide), tb_hit]
 simp only [zAddB, show unL unBk (bksL l) = some l from unL_map unBk_ok l]
 rw [if_pos ⟨.inl trivial, h⟩]
theorem put_ok {op : List UInt8} {l : List ItI} {x : ItI} (h : l.length ≤ 1000000) : zPut [.str op, .sl 6 (itsL l) .no, .agg (itC x)] = some (.sl 6 (itsL (insI (!valO op) l x)) .no, []) := by
 simp only [zPut, show unL unI (itsL l) = some l from unL_map unI_ok l]
 rw [if_pos ⟨.inl trivial, h⟩]
theorem ta52 {op : List UInt8} {l : List ItI} {x : ItI} (h : l.length ≤ 1000000) : tbl tA' 52 [.str op, .sl 6 (itsL l) .no, .agg (itC x)] = some (.sl 6 (itsL (insI (!valO op) l x)) .no, []) := by
 rw [tb_miss (by decide), tb_miss (by decide), tb_miss (by decide), tb_miss (by decide), tb_miss (by decide), tb_miss (by decide), tb_miss (by decide), tb_hit]
 exact put_ok h
theorem wide_w (x : Int) : wideA x = .agg [.int .i64 (whi x), .int .u64 (wlo x)] := by unfold wideA whi wlo; rw [iw]
theorem wideW (x : Int) : wOk (whi x) (wlo x) := by
 have := wide_ok x
 rw [iw] at this; exact this
theorem wv_mod' (x : Int) : (wv (whi x) (wlo x) - x) % 340282366920938463463374607431768211456 = 0 := by
 have := wv_wide x
 rw [iw] at this; exact this
theorem whi_add (y x : Int) : whi (y + wv (whi x) (wlo x)) = whi (y + x) := whi_congr (by have := wv_mod' x; omega)
theorem wlo_add (y x : Int) : wlo (y + wv (whi x) (wlo x)) = wlo (y + x) := wlo_congr (by have := wv_mod' x; omega)
theorem addP_none {op : List UInt8} (h : famO op = none) (s : StI) (x : ItI) : addP op s x = s := by unfold addP; rw [h]
theorem addP_zero {op : List UInt8} {s : StI} {x : ItI} (h : x.c = 0) : addP op s x = s := by
 unfold addP
 cases famO op with
 | none => rfl
 | some f => exact if_pos h
theorem addP_fam {op : List UInt8} {f : Fam} (h : famO op = some f) (s : StI) {x : ItI} (h0 : x.c ≠ 0) : addP op s x = putP f s x := by unfold addP; rw [h]; exact if_neg h0
theorem q30N (op : List UInt8) (s : StI) (x : ItI) (hf : famO op = none) : LaxOk PA GA (XS false false false) RA (itbl []) (a30 op s x (nilC (wrap64 (s.n + x.c)) 0 0) (nilC (wrap64 (s.n + x.c)) 0 0) (nilC (wrap64 (s.n + x.c)) 0 0)) [] 30 [.str op, .agg (stC s), .agg (itC x)] (stA (addP op s x), []) := by
 constructor
 rw [z30C]
 obtain ⟨f1, f2, f3, f4⟩ := flag4 hf rfl
 have hk : (famO op).isSome = false := by rw [hf]; rfl
 have fin : RetLax (.agg (stC s)) (stA (addP op s x), []) := by rw [addP_none hf]; exact laxSt s
 exact ⟨_, callIs_iff.2 rfl, fun k => clash k hk, fun _ => fin⟩
theorem q30C (op : List UInt8) (s : StI) (x : ItI) (hf : famO op = some .cnt) : LaxOk PA GA (XS false false false) RA (itbl []) (a30 op s x (nilC (wrap64 (s.n + x.c)) 0 0) (nilC (wrap64 (s.n + x.c)) 0 0) (nilC (wrap64 (s.n + x.c)) 0 0)) [] 30 [.str op, .agg (stC s), .agg (itC x)] (stA (addP op s x), []) := by
 constructor
 rw [z30C, iw]
 obtain ⟨f1, f2, f3, f4⟩ := flag4 hf rfl
 have hk : (famO op).isSome = true := by rw [hf]; rfl
 refine ⟨_, callIs_iff.2 rfl, fun _ => ⟨fun c => ?_, fun c => ?_⟩, fun k => clash hk k⟩
 ·rw [addP_zero (eq_of_beq c)]; exact laxSt s
 ·rw [addP_fam hf s (ne_of_beq_false c)]
  exact ⟨⟨callIs_iff.2 (by rw [f1]), fun h => (nomatch h), fun _ => ⟨(), ⟨rfl⟩, ⟨rfl⟩, trivial, trivial⟩⟩, fun _ _ _ => ⟨⟨fun e => clash e f4, fun _ => ⟨(), ⟨rfl⟩, ⟨rfl⟩, trivial, trivial⟩⟩, fun _ _ _ => ⟨⟨callIs_iff.2 (by rw [f2]), fun h => (nomatch h), fun _ => ⟨callIs_iff.2 (by rw [f3]), fun h => (nomatch h), fun _ => ⟨(), ⟨rfl⟩, ⟨rfl⟩, trivial, trivial⟩⟩⟩, fun _ _ _ => lax_nil _ _ _⟩⟩⟩
theorem q30S (op : List UInt8) (s : StI) (x : ItI) (hf : famO op = some .sum) (hx : itOk x) (hs : stR s) : LaxOk PA GA (XS true false false) RA (itbl []) (a30 op s x (nilC (wrap64 (s.n + x.c)) (whi (wv s.h s.l + x.n * x.c)) (wlo (wv s.h s.l + x.n * x.c))) (nilC (wrap64 (s.n + x.c)) (whi (wv s.h s.l + x.n * x.c)) (wlo (wv s.h s.l + x.n * x.c))) (nilC (wrap64 (s.n + x.c)) (whi (wv s.h s.l + x.n * x.c)) (wlo (wv s.h s.l + x.n * x.c)))) [] 30 [.str op, .agg (stC s), .agg (itC x)] (stA (addP op s x), []) := by
 constructor
 rw [z30S, iw]
 unfold RA
 obtain ⟨f1, f2, f3, f4⟩ := flag4 hf rfl
 have hk : (famO op).isSome = true := by rw [hf]; rfl
 have c1 := ta48 hx.1 hx.2
 rw [wide_w] at c1
 have c2 := ta47 hs.1.1 (wideW (x.n * x.c))
 rw [wide_w, whi_add, wlo_add] at c2
 refine ⟨_, callIs_iff.2 rfl, fun _ => ⟨fun c => ?_, fun c => ?_⟩, fun k => clash hk k⟩
 ·rw [addP_zero (eq_of_beq c)]; exact laxSt s
 ·rw [addP_fam hf s (ne_of_beq_false c)]
  exact ⟨⟨callIs_iff.2 (by rw [f1]), fun _ => ⟨_, _, callIs_iff.2 c1, _, _, callIs_iff.2 c2, (), ⟨rfl⟩, ⟨rfl⟩, trivial, trivial⟩, fun h => (nomatch h)⟩, fun _ _ _ => ⟨⟨fun e => clash e f4, fun _ => ⟨(), ⟨rfl⟩, ⟨rfl⟩, trivial, trivial⟩⟩, fun _ _ _ => ⟨⟨callIs_iff.2 (by rw [f2]), fun h => (nomatch h), fun _ => ⟨callIs_iff.2 (by rw [f3]), fun h => (nomatch h), fun _ => ⟨(), ⟨rfl⟩, ⟨rfl⟩, trivial, trivial⟩⟩⟩, fun _ _ _ => lax_nil _ _ _⟩⟩⟩
theorem q30Q (op : List UInt8) (s : StI) (x : ItI) (hf : famO op = some .smp) (hx : itOk x) (hs : stR s) : LaxOk PA GA (XS false false false) RA (itbl []) (a30 op s x (nilC (wrap64 (s.n + x.c)) 0 0) (bksC (wrap64 (s.n + x.c)) (normB (s.bks ++ [(idx x.n, x.c)]))) (bksC (wrap64 (s.n + x.c)) (normB (s.bks ++ [(idx x.n, x.c)])))) [] 30 [.str op, .agg (stC s), .agg (itC x)] (stA (addP op s x), []) := by
 constructor
 rw [z30Q, iw]
 unfold RA
 obtain ⟨f1, f2, f3, f4⟩ := flag4 hf rfl
 have hk : (famO op).isSome = true := by rw [hf]; rfl
 refine ⟨_, callIs_iff.2 rfl, fun _ => ⟨fun c => ?_, fun c => ?_⟩, fun k => clash hk k⟩
 ·rw [addP_zero (eq_of_beq c)]; exact laxSt s
 ·have c0 := ne_of_beq_false c
  rw [addP_fam hf s c0]
  have c1 := ta49 (l := s.bks) (n := x.n) (t := x.c) ⟨hs.1.2.1, hs.2.1, by have := hs.2.2.2; omega, hx.1, hx.2, c0⟩
  exact ⟨⟨callIs_iff.2 (by rw [f1]), fun h => (nomatch h), fun _ => ⟨(), ⟨rfl⟩, ⟨rfl⟩, trivial, trivial⟩⟩, fun _ _ _ => ⟨⟨fun _ => ⟨_, callIs_iff.2 c1, (), ⟨rfl⟩, ⟨rfl⟩, trivial, trivial⟩, fun e => clash f4 e⟩, fun _ _ _ => ⟨⟨callIs_iff.2 (by rw [f2]), fun h => (nomatch h), fun _ => ⟨callIs_iff.2 (by rw [f3]), fun h => (nomatch h), fun _ => ⟨(), ⟨rfl⟩, ⟨rfl⟩, trivial, trivial⟩⟩⟩, fun _ _ _ => lax_bks _ _⟩⟩⟩
theorem q30V (op : List UInt8) (s : StI) (x : ItI) (hf : famO op = some (.keep false)) (hs : stR s) : LaxOk PA GA (XS false true false) RA (itbl []) (a30 op s x (nilC (wrap64 (s.n + x.c)) 0 0) (nilC (wrap64 (s.n + x.c)) 0 0) (itsC (wrap64 (s.n + x.c)) (insI false s.its x))) [] 30 [.str op, .agg (stC s), .agg (itC x)] (stA (addP op s x), []) := by
 constructor
 rw [z30V, iw]
 unfold RA
 obtain ⟨f1, f2, f3, f4⟩ := flag4 hf rfl
 have hk : (famO op).isSome = true := by rw [hf]; rfl
 have c1 := ta52 (op := op) (l := s.its) (x := x) (by have := hs.2.2.1; omega)
 rw [f2] at c1
 refine ⟨_, callIs_iff.2 rfl, fun _ => ⟨fun c => ?_, fun c => ?_⟩, fun k => clash hk k⟩
 ·rw [addP_zero (eq_of_beq c)]; exact laxSt s
 ·rw [addP_fam hf s (ne_of_beq_false c)]
  exact ⟨⟨callIs_iff.2 (by rw [f1]), fun h => (nomatch h), fun _ => ⟨(), ⟨rfl⟩, ⟨rfl⟩, trivial, trivial⟩⟩, fun _ _ _ => ⟨⟨fun e => clash e f4, fun _ => ⟨(), ⟨rfl⟩, ⟨rfl⟩, trivial, trivial⟩⟩, fun _ _ _ => ⟨⟨callIs_iff.2 (by rw [f2]), fun _ => ⟨_, callIs_iff.2 c1, (), ⟨rfl⟩, ⟨rfl⟩, trivial, trivial⟩, fun h => (nomatch h)⟩, fun _ _ _ => lax_its _ _⟩⟩⟩
theorem q30O (op : List UInt8) (s : StI) (x : ItI) (hf : famO op = some (.keep true)) (hs : stR s) : LaxOk PA GA (XS false false true) RA (itbl []) (a30 op s x (nilC (wrap64 (s.n + x.c)) 0 0) (nilC (wrap64 (s.n + x.c)) 0 0) (itsC (wrap64 (s.n + x.c)) (insI true s.its x))) [] 30 [.str op, .agg (stC s), .agg (itC x)] (stA (addP op s x), []) := by
 constructor
 rw [z30O, iw]
 unfold RA
 obtain ⟨f1, f2, f3, f4⟩ := flag4 hf rfl
 have hk : (famO op).isSome = true := by rw [hf]; rfl
 have c1 := ta52 (op := op) (l := s.its) (x := x) (by have := hs.2.2.1; omega)
 rw [f2] at c1
 refine ⟨_, callIs_iff.2 rfl, fun _ => ⟨fun c => ?_, fun c => ?_⟩, fun k => clash hk k⟩
 ·rw [addP_zero (eq_of_beq c)]; exact laxSt s
 ·rw [addP_fam hf s (ne_of_beq_false c)]
  exact ⟨⟨callIs_iff.2 (by rw [f1]), fun h => (nomatch h), fun _ => ⟨(), ⟨rfl⟩, ⟨rfl⟩, trivial, trivial⟩⟩, fun _ _ _ => ⟨⟨fun e => clash e f4, fun _ => ⟨(), ⟨rfl⟩, ⟨rfl⟩, trivial, trivial⟩⟩, fun _ _ _ => ⟨⟨callIs_iff.2 (by rw [f2]), fun h => (nomatch h), fun _ => ⟨callIs_iff.2 (by rw [f3]), fun _ => ⟨_, callIs_iff.2 c1, (), ⟨rfl⟩, ⟨rfl⟩, trivial, trivial⟩, fun h => (nomatch h)⟩⟩, fun _ _ _ => lax_its _ _⟩⟩⟩
abbrev tJ : List (FuncId × Spec) := [(23, z23s), (46, z46s), (47, zAdd), (53, zMrg), (50, z50s), (51, z51s), (52, zPut)]
theorem tj47 {h l h' l' : Int} (hw : wOk h l) (hw' : wOk h' l') : tbl tJ 47 [.agg [.int .i64 h, .int .u64 l], .agg [.int .i64 h', .int .u64 l']] = some (wideA (wv h l + wv h' l'), []) := by
 rw [tb_miss (by decide), tb_miss (by decide), tb_hit]; simp only [zAdd, s47, sW2]; rw [if_pos ⟨hw, hw'⟩]
theorem tj53 {l m : Bks} (h : WfB l ∧ WfB m ∧ Asc l ∧ Asc m ∧ l.length + m.length ≤ 100000000) : tbl tJ 53 [.sl 2 (bksL l) .no, .sl 2 (bksL m) .no] = some (.sl 2 (bksL (normB (l ++ m))) .no, []) := by
 rw [tb_miss (by decide), tb_miss (by decide), tb_miss (by decide), tb_hit]
 simp only [zMrg, show unL unBk (bksL l) = some l from unL_map unBk_ok l, show unL unBk (bksL m) = some m from unL_map unBk_ok m]
 rw [if_pos ⟨.inl trivial, .inl trivial, h⟩]
theorem tj52 {op : List UInt8} {l : List ItI} {x : ItI} (h : l.length ≤ 1000000) : tbl tJ 52 [.str op, .sl 6 (itsL l) .no, .agg (itC x)] = some (.sl 6 (itsL (insI (!valO op) l x)) .no, []) := by
 rw [tb_miss (by decide), tb_miss (by decide), tb_miss (by decide), tb_miss (by decide), tb_miss (by decide), tb_miss (by decide), tb_hit]
 exact put_ok h
theorem mergeP_none {op : List UInt8} (h : famO op = none) (a b : StI) : mergeP op a b = a := by unfold mergeP; rw [h]
theorem mergeP_fam {op : List UInt8} {f : Fam} (h : famO op = some f) (a b : StI) : mergeP op a b = joinP f a b := by unfold mergeP; rw [h]
theorem q32N (op : List UInt8) (a b : StI) (hf : famO op = none) : LaxOk PA GA (XS false false false) RJ (itbl []) (a32 false op a b (nilC (wrap64 (a.n + b.n)) 0 0) (nilC (wrap64 (a.n + b.n)) 0 0) (some (nilC (wrap64 (a.n + b.n)) 0 0)) (some (nilC (wrap64 (a.n + b.n)) 0 0))) [] 32 [.str op, .agg (stC a), .agg (stC b)] (stA (mergeP op a b), []) := by
 constructor
 rw [z32C]
 have hk : (famO op).isSome = false := by rw [hf]; rfl
 have fin : RetLax (.agg (stC a)) (stA (mergeP op a b), []) := by rw [mergeP_none hf]; exact laxSt a
 exact ⟨_, callIs_iff.2 rfl, fun k => clash k hk, fun _ => fin⟩
theorem q32C (op : List UInt8) (a b : StI) (hf : famO op = some .cnt) : LaxOk PA GA (XS false false false) RJ (itbl []) (a32 false op a b (nilC (wrap64 (a.n + b.n)) 0 0) (nilC (wrap64 (a.n + b.n)) 0 0) (some (nilC (wrap64 (a.n + b.n)) 0 0)) (some (nilC (wrap64 (a.n + b.n)) 0 0))) [] 32 [.str op, .agg (stC a), .agg (stC b)] (stA (mergeP op a b), []) := by
 constructor
 rw [z32C, iw]
 obtain ⟨f1, f2, f3, f4⟩ := flag4 hf rfl
 have hk : (famO op).isSome = true := by rw [hf]; rfl
 rw [mergeP_fam hf]
 exact ⟨_, callIs_iff.2 rfl, fun _ => ⟨⟨callIs_iff.2 (by rw [f1]), fun h => (nomatch h), fun _ => ⟨(), ⟨rfl⟩, ⟨rfl⟩, trivial, trivial⟩⟩, fun _ _ _ => ⟨⟨fun e => clash e f4, fun _ => ⟨(), ⟨rfl⟩, ⟨rfl⟩, trivial, trivial⟩⟩, fun _ _ _ => ⟨⟨callIs_iff.2 (by rw [f3]), fun h => (nomatch h), fun _ => ⟨(), ⟨rfl⟩, ⟨rfl⟩, trivial, trivial⟩⟩, fun _ _ _ => ⟨⟨callIs_iff.2 (by rw [f2]), fun h => (nomatch h), fun _ => ⟨(), ⟨rfl⟩, ⟨rfl⟩, trivial, trivial⟩⟩, fun _ _ _ => lax_nil _ _ _⟩⟩⟩⟩, fun k => clash hk k⟩
theorem q32S (op : List UInt8) (a b : StI) (hf : famO op = some .sum) (ha : stR a) (hb : stR b) : LaxOk PA GA (XS true false false) RJ (itbl []) (a32 false op a b (nilC (wrap64 (a.n + b.n)) (whi (wv a.h a.l + wv b.h b.l)) (wlo (wv a.h a.l + wv b.h b.l))) (nilC (wrap64 (a.n + b.n)) (whi (wv a.h a.l + wv b.h b.l)) (wlo (wv a.h a.l + wv b.h b.l))) (some (nilC (wrap64 (a.n + b.n)) (whi (wv a.h a.l + wv b.h b.l)) (wlo (wv a.h a.l + wv b.h b.l)))) (some (nilC (wrap64 (a.n + b.n)) (whi (wv a.h a.l + wv b.h b.l)) (wlo (wv a.h a.l + wv b.h b.l))))) [] 32 [.str op, .agg (stC a), .agg (stC b)] (stA (mergeP op a b), []) := by
 constructor
 rw [z32S, iw]
 unfold RJ
 obtain ⟨f1, f2, f3, f4⟩ := flag4 hf rfl
 have hk : (famO op).isSome = true := by rw [hf]; rfl
 have c1 := tj47 ha.1.1 hb.1.1
 rw [wide_w] at c1
 rw [mergeP_fam hf]
 exact ⟨_, callIs_iff.2 rfl, fun _ => ⟨⟨callIs_iff.2 (by rw [f1]), fun _ => ⟨_, _, callIs_iff.2 c1, (), ⟨rfl⟩, ⟨rfl⟩, trivial, trivial⟩, fun h => (nomatch h)⟩, fun _ _ _ => ⟨⟨fun e => clash e f4, fun _ => ⟨(), ⟨rfl⟩, ⟨rfl⟩, trivial, trivial⟩⟩, fun _ _ _ => ⟨⟨callIs_iff.2 (by rw [f3]), fun h => (nomatch h), fun _ => ⟨(), ⟨rfl⟩, ⟨rfl⟩, trivial, trivial⟩⟩, fun _ _ _ => ⟨⟨callIs_iff.2 (by rw [f2]), fun h => (nomatch h), fun _ => ⟨(), ⟨rfl⟩, ⟨rfl⟩, trivial, trivial⟩⟩, fun _ _ _ => lax_nil _ _ _⟩⟩⟩⟩, fun k => clash hk k⟩
theorem q32Q (op : List UInt8) (a b : StI) (hf : famO op = some .smp) (ha : stR a) (hb : stR b) : LaxOk PA GA (XS false false false) RJ (itbl []) (a32 false op a b (nilC (wrap64 (a.n + b.n)) 0 0) (bksC (wrap64 (a.n + b.n)) (normB (a.bks ++ b.bks))) (some (bksC (wrap64 (a.n + b.n)) (normB (a.bks ++ b.bks)))) (some (bksC (wrap64 (a.n + b.n)) (normB (a.bks ++ b.bks))))) [] 32 [.str op, .agg (stC a), .agg (stC b)] (stA (mergeP op a b), []) := by
 constructor
 rw [z32Q, iw]
 unfold RJ
 obtain ⟨f1, f2, f3, f4⟩ := flag4 hf rfl
 have hk : (famO op).isSome = true := by rw [hf]; rfl
 have c1 := tj53 (l := a.bks) (m := b.bks) ⟨ha.1.2.1, hb.1.2.1, ha.2.1, hb.2.1, by have := ha.2.2.2; have := hb.2.2.2; omega⟩
 rw [mergeP_fam hf]
 exact ⟨_, callIs_iff.2 rfl, fun _ => ⟨⟨callIs_iff.2 (by rw [f1]), fun h => (nomatch h), fun _ => ⟨(), ⟨rfl⟩, ⟨rfl⟩, trivial, trivial⟩⟩, fun _ _ _ => ⟨⟨fun _ => ⟨_, callIs_iff.2 c1, (), ⟨rfl⟩, ⟨rfl⟩, trivial, trivial⟩, fun e => clash f4 e⟩, fun _ _ _ => ⟨⟨callIs_iff.2 (by rw [f3]), fun h => (nomatch h), fun _ => ⟨(), ⟨rfl⟩, ⟨rfl⟩, trivial, trivial⟩⟩, fun _ _ _ => ⟨⟨callIs_iff.2 (by rw [f2]), fun h => (nomatch h), fun _ => ⟨(), ⟨rfl⟩, ⟨rfl⟩, trivial, trivial⟩⟩, fun _ _ _ => lax_bks _ _⟩⟩⟩⟩, fun k => clash hk k⟩
theorem take_ic5 {l : List ItI} {i : Nat} (h : i < l.length) : takeAt PA 3 (itsL l) i 5 = some (.int .i64 l[i].c) := by
 unfold takeAt
 rw [its_at h]
 simp only [agg3, size3, takeA]
 rfl
theorem q32V (op : List UInt8) (a b : StI) (hf : famO op = some (.keep false)) (ha : stR a) (hb : stR b) : LaxOk PA GA (XS false true false) RJ (itbl []) (a32 true op a b (nilC (wrap64 (a.n + b.n)) 0 0) (nilC (wrap64 (a.n + b.n)) 0 0) (some (nilC (wrap64 (a.n + b.n)) 0 0)) (some (itsC (wrap64 (a.n + b.n)) (insAll a.its b.its)))) [] 32 [.str op, .agg (stC a), .agg (stC b)] (stA (mergeP op a b), []) := by
 constructor
 rw [z32V, iw]
 unfold RJ
 obtain ⟨f1, f2, f3, f4⟩ := flag4 hf rfl
 have hk : (famO op).isSome = true := by rw [hf]; rfl
 have la := ha.2.2.1
 have lb := hb.2.2.1
 rw [mergeP_fam hf]
 refine ⟨_, callIs_iff.2 rfl, fun _ => ⟨⟨callIs_iff.2 (by rw [f1]), fun h => (nomatch h), fun _ => ⟨(), ⟨rfl⟩, ⟨rfl⟩, trivial, trivial⟩⟩, fun _ _ _ => ⟨⟨fun e => clash e f4, fun _ => ⟨(), ⟨rfl⟩, ⟨rfl⟩, trivial, trivial⟩⟩, fun _ _ _ => ⟨⟨callIs_iff.2 (by rw [f3]), fun h => (nomatch h), fun _ => ⟨(), ⟨rfl⟩, ⟨rfl⟩, trivial, trivial⟩⟩, fun _ _ _ => ⟨⟨callIs_iff.2 (by rw [f2]), fun _ => ⟨⟨⟨0, a.its⟩, ⟨rfl⟩, ⟨rfl⟩, ⟨Nat.zero_le _, by dsimp only; rw [List.take_zero]; rfl⟩, trivial⟩, fun p hp => ?_⟩, fun h => (nomatch h)⟩, fun _ _ _ => lax_its _ _⟩⟩⟩⟩, fun k => clash hk k⟩
 obtain ⟨i, l⟩ := p
 dsimp only at hp ⊢
 obtain ⟨hi, rfl⟩ := hp
 refine ⟨fun lt => ?_, fun ge => ⟨(), ⟨rfl⟩, ⟨?_⟩, trivial, trivial⟩⟩
 ·have lt := of_decide_eq_true lt
  rw [len_its] at lt
  have hil : i < b.its.length := by omega
  have hle := insAll_le a.its (b.its.take i)
  rw [List.length_take] at hle
  have c1 := tj52 (op := op) (l := insAll a.its (b.its.take i)) (x := b.its[i]) (by omega)
  rw [f2] at c1
  refine ⟨⟨by omega, by rw [len_its]; omega⟩, _, by rw [Int.toNat_natCast]; exact take_ic5 hil, fun c => ⟨⟨by omega, by rw [len_its]; omega⟩, _, _, _, _, _, _, by rw [Int.toNat_natCast]; exact take_it hil, _, callIs_iff.2 c1, ⟨i + 1, insI false (insAll a.its (b.its.take i)) b.its[i]⟩, ⟨by rw [wrapB (by omega)]⟩, ⟨rfl⟩, ⟨hil, ?_⟩, by show b.its.length - (i + 1) < _; omega⟩, fun c => ⟨⟨i + 1, insAll a.its (b.its.take i)⟩, ⟨by rw [wrapB (by omega)]⟩, ⟨rfl⟩, ⟨hil, ?_⟩, by show b.its.length - (i + 1) < _; omega⟩⟩
  ·have c : b.its[i].c ≠ 0 := by simpa using c
   show _ = insAll a.its (b.its.take (i + 1))
   rw [insAll_succ hil, if_neg c]
  ·have c : b.its[i].c = 0 := by simpa using c
   show _ = insAll a.its (b.its.take (i + 1))
   rw [insAll_succ hil, if_pos c]
 ·have ge := of_decide_eq_false ge
  rw [len_its] at ge
  rw [List.take_of_length_le (by omega)]
theorem q32O (op : List UInt8) (a b : StI) (hf : famO op = some (.keep true)) (ha : stR a) (hb : stR b) : LaxOk PA GA (XS false false true) RJ (itbl []) (a32 false op a b (nilC (wrap64 (a.n + b.n)) 0 0) (nilC (wrap64 (a.n + b.n)) 0 0) none none) [] 32 [.str op, .agg (stC a), .agg (stC b)] (stA (mergeP op a b), []) := by
 constructor
 rw [z32O, iw]
 obtain ⟨f1, f2, f3, f4⟩ := flag4 hf rfl
 have hk : (famO op).isSome = true := by rw [hf]; rfl
 have la := ha.2.2.1
 have lb := hb.2.2.1
 rw [mergeP_fam hf]
 have nilI : ∀ {l : List ItI}, itsL l = [] → l = [] := fun h => List.map_eq_nil_iff.1 h
 have ret : ∀ {es : List AV} {o : Own}, es = itsL (a.its ++ b.its) → RetLax (.agg [.int .i64 (wrap64 (a.n + b.n)), .int .i64 0, .int .u64 0, .sl 6 es o, .sl 0 [] .nil]) (stA (joinP (.keep true) a b), []) := fun h => by
  subst h
  exact ⟨⟨rfl, rfl, rfl, ⟨rfl, rfl, .inl rfl⟩, ⟨rfl, rfl, .inr rfl⟩, trivial⟩, rfl, rfl⟩
 refine ⟨_, callIs_iff.2 rfl, fun _ => ⟨⟨callIs_iff.2 (by rw [f1]), fun h => (nomatch h), fun _ => ⟨(), ⟨rfl⟩, ⟨rfl⟩, trivial, trivial⟩⟩, fun _ _ _ => ⟨⟨fun e => clash e f4, fun _ => ⟨(), ⟨rfl⟩, ⟨rfl⟩, trivial, trivial⟩⟩, fun _ _ _ => ⟨callIs_iff.2 (by rw [f3]), fun _ => ⟨.inl rfl, by rw [len_its]; omega, fun e1 => ⟨.inl rfl, by rw [len_its]; omega, fun e2 => ⟨callIs_iff.2 (by rw [f2]), fun h => (nomatch h), fun _ => ret (by rw [nilI e1, nilI e2]; rfl)⟩, fun e2 => ⟨callIs_iff.2 (by rw [f2]), fun h => (nomatch h), fun _ => ret (by rw [nilI e1]; rfl)⟩⟩, fun e1 => ⟨.inl rfl, by rw [List.nil_append, len_its, len_its]; omega, by rw [List.nil_append, Nat.zero_add], callIs_iff.2 (by rw [f2]), fun h => (nomatch h), fun _ => ret (by rw [List.nil_append]; unfold itsL; rw [List.map_append])⟩⟩, fun h => (nomatch h)⟩⟩⟩, fun k => clash hk k⟩
theorem run28 (op : List UInt8) : LaxOk PA GA XL (tbl []) (itbl []) nAn [] 28 [.str op] (stA StI.z, []) := by
 constructor
 rw [z28]
 exact lax_nil 0 0 0
theorem j19 : SpecOk PA GA 19 v19 := spec_wkS fun args r h => by
 unfold v19 at h
 split at h
 case h_2 => cases h
 rename_i st
 split at h
 case h_2 => cases h
 rename_i s hs
 split at h
 case isFalse => cases h
 rename_i hc
 injection h with h; subst h
 have e : [st].map wkSt = [stA s] := by simp only [List.map_cons, List.map_nil, wkSt_of hs]
 rw [e]
 exact one_pure mixedA tbl_nil itbl_nil (q19 s hc.1)
theorem j20 : SpecOk PA GA 20 v20 := spec_wkS fun args r h => by
 unfold v20 at h
 split at h
 case h_2 => cases h
 rename_i st
 split at h
 case h_2 => cases h
 rename_i s hs
 split at h
 case isFalse => cases h
 rename_i hc
 injection h with h; subst h
 have e : [st].map wkSt = [stA s] := by simp only [List.map_cons, List.map_nil, wkSt_of hs]
 rw [e]
 exact one_pure mixedA tbl_nil itbl_nil (q20 s hc.1)
theorem j28 : SpecOk PA GA 28 v28 := lax_of (X := XL) (m := []) mixedA tbl_nil itbl_nil fun args r h => by
 unfold v28 zEmpty at h
 split at h
 case h_2 => cases h
 injection h with h; subst h
 exact ⟨_, run28 _⟩
theorem cRA : CalleeOk PA GA RA := tbl_cons j23 (tbl_cons j46 (tbl_cons j48 (tbl_cons j47 (tbl_cons j49 (tbl_cons j50 (tbl_cons j51 (tbl_cons j52 tbl_nil)))))))
theorem cRJ : CalleeOk PA GA RJ := tbl_cons j23 (tbl_cons j46 (tbl_cons j47 (tbl_cons j53 (tbl_cons j50 (tbl_cons j51 (tbl_cons j52 tbl_nil))))))
theorem j30 : SpecOk PA GA 30 v30 := spec_wkS fun args r h => by
 unfold v30 at h
 split at h
 case h_2 => cases h
 rename_i op st it
 split at h
 case h_2 => cases h
 rename_i s x hs hx
 split at h
 case isFalse => cases h
 rename_i hc
 injection h with h; subst h
 obtain rfl := unI_inv _ _ hx
 have e : [AV.str op, st, itA x].map wkSt = [.str op, stA s, itA x] := by simp only [List.map_cons, List.map_nil, wkSt_of hs, wk_it]; rfl
 rw [e]
 rcases hf : famO op with _ | fam
 ·exact one_lax mixedA cRA itbl_nil (q30N op s x hf)
 ·rcases fam with _ | _ | _ | f
  ·exact one_lax mixedA cRA itbl_nil (q30C op s x hf)
  ·exact one_lax mixedA cRA itbl_nil (q30S op s x hf hc.1 hc.2)
  ·exact one_lax mixedA cRA itbl_nil (q30Q op s x hf hc.1 hc.2)
  ·cases f with
   | false => exact one_lax mixedA cRA itbl_nil (q30V op s x hf hc.2)
   | true => exact one_lax mixedA cRA itbl_nil (q30O op s x hf hc.2)
theorem j32 : SpecOk PA GA 32 v32 := spec_wkS fun args r h => by
 unfold v32 at h
 split at h
 case h_2 => cases h
 rename_i op st st2
 split at h
 case h_2 => cases h
 rename_i a b ha hb
 split at h
 case isFalse => cases h
 rename_i hc
 injection h with h; subst h
 have e : [AV.str op, st, st2].map wkSt = [.str op, stA a, stA b] := by simp only [List.map_cons, List.map_nil, wkSt_of ha, wkSt_of hb]; rfl
 rw [e]
 rcases hf : famO op with _ | fam
 ·exact one_lax mixedA cRJ itbl_nil (q32N op a b hf)
 ·rcases fam with _ | _ | _ | f
  ·exact one_lax mixedA cRJ itbl_nil (q32C op a b hf)
  ·exact one_lax mixedA cRJ itbl_nil (q32S op a b hf hc.1 hc.2)
  ·exact one_lax mixedA cRJ itbl_nil (q32Q op a b hf hc.1 hc.2)
  ·cases f with
   | false => exact one_lax mixedA cRJ itbl_nil (q32V op a b hf hc.1 hc.2)
   | true => exact one_lax mixedA cRJ itbl_nil (q32O op a b hf hc.1 hc.2)
abbrev tS : List (FuncId × Spec) := [(7, s7), (19, v19), (20, v20), (21, v21), (22, s22), (23, z23s), (24, z24s), (25, z25s), (27, s16), (28, v28), (26, s13), (29, s14), (30, v30), (31, s15), (32, v32)]
theorem tS19 {s : StI} (h : s.its.length ≤ maxLen ∧ s.bks.length ≤ maxLen) : tbl tS 19 [.agg (stC s)] = some (.bool (smallS s), []) := by
 rw [tb_miss (by decide), tb_hit]; simp only [v19, show unSt (.agg (stC s)) = some s from unSt_ok s]; rw [if_pos h]
theorem tS20 {s : StI} (h : s.bks.length ≤ maxLen ∧ WfB s.bks) : tbl tS 20 [.agg (stC s)] = some (.bool (decide (Asc s.bks)), []) := by
 rw [tb_miss (by decide), tb_miss (by decide), tb_hit]; simp only [v20, show unSt (.agg (stC s)) = some s from unSt_ok s]; rw [if_pos h]
theorem tS26 {a b : StI} (h : a.its.length ≤ 2000000 ∧ a.bks.length ≤ 2000000) : tbl tS 26 [.agg (stC a), .agg (stC b)] = some (.bool (decide (a = b)), []) := by
 repeat rw [tb_miss (by decide)]
 rw [tb_hit]; simp only [s13, show unSt (.agg (stC a)) = some a from unSt_ok a, show unSt (.agg (stC b)) = some b from unSt_ok b]; rw [if_pos h]
theorem tS29 {op : List UInt8} {s : StI} {x : ItI} (h : itOk x ∧ stOk s) : tbl tS 29 [.str op, .agg (stC s), .agg (itC x)] = some (.agg (stC (addP op s x)), []) := by
 repeat rw [tb_miss (by decide)]
 rw [tb_hit]; simp only [s14, show unSt (.agg (stC s)) = some s from unSt_ok s, show unI (.agg (itC x)) = some x from rfl]; rw [if_pos h]; rfl
theorem tS30 {op : List UInt8} {s : StI} {x : ItI} (h : itOk x ∧ stR s) : tbl tS 30 [.str op, .agg (stC s), .agg (itC x)] = some (.agg (stC (addP op s x)), []) := by
 repeat rw [tb_miss (by decide)]
 rw [tb_hit]; simp only [v30, show unSt (.agg (stC s)) = some s from unSt_ok s, show unI (.agg (itC x)) = some x from rfl]; rw [if_pos h]; rfl
theorem tS31 {op : List UInt8} {a b : StI} (h : stOk a ∧ stOk b ∧ a.its.length + b.its.length ≤ 1000000) : tbl tS 31 [.str op, .agg (stC a), .agg (stC b)] = some (.agg (stC (mergeP op a b)), []) := by
 repeat rw [tb_miss (by decide)]
 rw [tb_hit]; simp only [s15, show unSt (.agg (stC a)) = some a from unSt_ok a, show unSt (.agg (stC b)) = some b from unSt_ok b]; rw [if_pos h]; rfl
theorem tS32 {op : List UInt8} {a b : StI} (h : stR a ∧ stR b) : tbl tS 32 [.str op, .agg (stC a), .agg (stC b)] = some (.agg (stC (mergeP op a b)), []) := by
 repeat rw [tb_miss (by decide)]
 rw [tb_hit]; simp only [v32, show unSt (.agg (stC a)) = some a from unSt_ok a, show unSt (.agg (stC b)) = some b from unSt_ok b]; rw [if_pos h]; rfl
theorem small_st {s : StI} (h : smallS s = true) : s.its.length ≤ 60 ∧ s.bks.length ≤ 60 := by
 unfold smallS at h
 simp only [Bool.and_eq_true, decide_eq_true_eq] at h
 exact ⟨h.1.2, h.2⟩
theorem r5 (op : List UInt8) (a b : StI) (x : ItI) (ha : a.its.length ≤ maxLen ∧ a.bks.length ≤ maxLen ∧ wOk a.h a.l ∧ WfB a.bks) (hb : b.its.length ≤ maxLen ∧ b.bks.length ≤ maxLen ∧ wOk b.h b.l ∧ WfB b.bks) (hx : itOk x) :
  PureOk PA GA XL RS (itbl []) (b5 op a b x) [] 5 [.str op, .agg (stC a), .agg (stC b), .agg (itC x)] (.bool true, []) := by
 constructor
 rw [x5]
 unfold RS
 have yes : RetIs (AV.bool true) [] (AV.bool true, []) := retIs_iff.2 rfl
 refine ⟨callIs_iff.2 rfl, fun _ => ⟨fun _ => yes, fun _ => ⟨_, callIs_iff.2 (tS19 ⟨ha.1, ha.2.1⟩), fun s1 => ⟨_, callIs_iff.2 (tS19 ⟨hb.1, hb.2.1⟩), fun s2 => ⟨_, callIs_iff.2 (tS20 ⟨ha.2.1, ha.2.2.2⟩), fun p1 => ⟨_, callIs_iff.2 (tS20 ⟨hb.2.1, hb.2.2.2⟩), fun p2 => ⟨_, callIs_iff.2 rfl, fun _ => ⟨?_, fun _ _ _ => ?_⟩, fun _ => yes⟩, fun _ => yes⟩, fun _ => yes⟩, fun _ => yes⟩, fun _ => yes⟩⟩, fun h => (nomatch h)⟩
 ·have c26 := tS26 (a := StI.z) (b := StI.z) ⟨by decide, by decide⟩
  rw [decide_eq_true rfl] at c26
  refine ⟨_, callIs_iff.2 rfl, fun k1 => ⟨_, callIs_iff.2 rfl, fun _ => ⟨fun h => (nomatch h), fun _ => ⟨_, callIs_iff.2 rfl, fun i1 => ⟨_, callIs_iff.2 rfl, fun _ => ⟨fun h => (nomatch h), fun _ => ?_⟩, fun i2 => clash i1 i2⟩, fun i1 => ⟨_, callIs_iff.2 rfl, fun i2 => clash i2 i1, fun _ => ⟨fun h => (nomatch h), fun _ => ?_⟩⟩⟩⟩, fun k2 => clash k1 k2⟩, fun k1 => ⟨_, callIs_iff.2 rfl, fun k2 => clash k2 k1, fun _ => ⟨fun h => (nomatch h), fun _ => ⟨_, callIs_iff.2 rfl, fun i1 => ⟨_, callIs_iff.2 rfl, fun _ => ⟨fun h => (nomatch h), fun _ => ?_⟩, fun i2 => clash i1 i2⟩, fun i1 => ⟨_, callIs_iff.2 rfl, fun i2 => clash i2 i1, fun _ => ⟨fun h => (nomatch h), fun _ => ?_⟩⟩⟩⟩⟩⟩
  all_goals exact ⟨_, _, _, _, _, callIs_iff.2 rfl, _, _, _, _, _, callIs_iff.2 rfl, _, callIs_iff.2 c26, fun _ => ⟨(), ⟨rfl⟩, ⟨rfl⟩, trivial, trivial⟩, fun h => (nomatch h)⟩
 ·have p1 := of_decide_eq_true p1
  have p2 := of_decide_eq_true p2
  obtain ⟨a1, a2⟩ := small_st s1
  obtain ⟨b1, b2⟩ := small_st s2
  have oa : stOk a := ⟨ha.2.2.1, ha.2.2.2, by omega, by omega⟩
  have ob : stOk b := ⟨hb.2.2.1, hb.2.2.2, by omega, by omega⟩
  have Ra : stR a := ⟨oa, p1, by omega, by omega⟩
  have Rb : stR b := ⟨ob, p2, by omega, by omega⟩
  have Ba : StB a 60 := ⟨ha.2.2.1, ha.2.2.2, a1, a2⟩
  have Bb : StB b 60 := ⟨hb.2.2.1, hb.2.2.2, b1, b2⟩
  have A1 := stB_add Ba hx op
  have M1 := stB_merge Ba Bb op
  have e1 := tS26 (a := addP op a x) (b := addP op a x) ⟨by have := A1.i; omega, by have := A1.k; omega⟩
  rw [decide_eq_true rfl] at e1
  have e2 := tS26 (a := mergeP op a b) (b := mergeP op a b) ⟨by have := M1.i; omega, by have := M1.k; omega⟩
  rw [decide_eq_true rfl] at e2
  exact ⟨_, _, _, _, _, callIs_iff.2 (tS29 ⟨hx, oa⟩), _, _, _, _, _, callIs_iff.2 (tS30 ⟨hx, Ra⟩), _, callIs_iff.2 e1, fun _ => ⟨_, _, _, _, _, callIs_iff.2 (tS31 ⟨oa, ob, by omega⟩), _, _, _, _, _, callIs_iff.2 (tS32 ⟨Ra, Rb⟩), _, callIs_iff.2 e2, fun _ => yes, fun h => (nomatch h)⟩, fun h => (nomatch h)⟩
theorem k5 : SpecOk PA GA 5 u5 := spec_wkS fun args r h => by
 unfold u5 at h
 split at h
 case h_2 => cases h
 rename_i op st st2 it
 split at h
 case h_2 => cases h
 rename_i a b x ha hb hx
 split at h
 case isFalse => cases h
 rename_i hc
 injection h with h; subst h
 obtain rfl := unI_inv _ _ hx
 have e : [AV.str op, st, st2, itA x].map wkSt = [.str op, stA a, stA b, itA x] := by simp only [List.map_cons, List.map_nil, wkSt_of ha, wkSt_of hb, wk_it]; rfl
 rw [e]
 have hR : CalleeOk PA GA RS := tbl_cons o7 (tbl_cons j19 (tbl_cons j20 (tbl_cons j21 (tbl_cons o22 (tbl_cons j23 (tbl_cons j24 (tbl_cons j25 (tbl_cons o16 (tbl_cons j28 (tbl_cons o13 (tbl_cons o14 (tbl_cons j30 (tbl_cons o15 (tbl_cons j32 tbl_nil))))))))))))))
 exact one_pure mixedA hR itbl_nil (r5 op a b x hc.1 hc.2.1 hc.2.2)
theorem u5_true (op : List UInt8) (a b : StI) (x : ItI) (na : a.its.length ≤ maxLen ∧ a.bks.length ≤ maxLen ∧ wOk a.h a.l ∧ WfB a.bks) (nb : b.its.length ≤ maxLen ∧ b.bks.length ≤ maxLen ∧ wOk b.h b.l ∧ WfB b.bks) (nx : itOk x) : u5 [.str op, .agg (stC a), .agg (stC b), .agg (itC x)] = some (.bool true, []) := by
 simp only [u5, show unSt (.agg (stC a)) = some a from unSt_ok a, show unSt (.agg (stC b)) = some b from unSt_ok b, show unI (.agg (itC x)) = some x from rfl]
 rw [if_pos ⟨na, nb, nx⟩]
end Go.Abs
namespace Go.Abs
open Go.ChangeShapes Go.WideShapes Go.ChangeAt Go.RowKit Go.Deep Go.ChangeMaps
open Go.Proofs Go.Proofs.YtdajfgkcpflacaaGreat
section
variable {H : Type} {enc : TypeId × Value → H} {P : Program} {W : World}
def ElemR (P : Program) (W : World) (enc : TypeId × Value → H) (e : TypeId) {α : Type} (g : α → AV) (Q : α → DataW H → Prop) : Prop :=
 ∀ n cs x, DataW.trod enc P W 0 (fun _ => true) true n e cs = some x → ∃ a : α, Q a x.1 ∧ ∀ (j : Nat) (c : AV) (u : Value), (g a).cells[j]? = some c → cs[j]? = some u → Rep (oldE W) W c u ∧ u.oneCell' = true
theorem open_slR {t e : TypeId} {sz : Nat} {α : Type} [Inhabited α] {g : α → AV} {Q : α → DataW H → Prop} (ht : P.underlying t = some (.slice e)) (hc : P.cellsOf e = sz) (hsz : 0 < sz) (hg : ∀ a, (g a).cells.length = sz ∧ (g a).closed1 = true) (hel : ElemR P W enc e g Q)
  {v : Value} {d : DataW H} {ps : List MemPlace} (hv : ∃ A len cap, v = .slice A len cap) (h : DataW.Trod enc P W 0 (fun _ => true) true t v d ps) :
  ∃ l : List α, Rep (oldE W) W (.sl sz (l.map g) .no) v ∧ (l = [] ∨ ∃ elems spare, d = .slice elems spare ∧ elems.length = l.length ∧ ∀ (i : Nat) a x, l[i]? = some a → elems[i]? = some x → Q a x) := by
 obtain ⟨a, len, cap, rfl⟩ := hv
 obtain ⟨fuel, h⟩ := h
 rcases open_slice ht h with ⟨hcs, _⟩ | ⟨a', len', cap', m, n, D, Pl, hcs, hb, hl, hmx, hm, hx, hels⟩
 ·simp [Value.cells] at hcs
  obtain ⟨rfl, rfl, rfl⟩ := hcs
  exact ⟨[], .sl sz [] .no none 0 (fun _ _ => .bool false) (by simp) (by simp [maxLen]) (.inl rfl) (by simp) (by simp) trivial (by simp) (fun _ _ => rfl), .inl rfl⟩
 ·simp [Value.cells] at hcs
  obtain ⟨rfl, rfl, rfl⟩ := hcs
  have hm' : m = cap := by simpa using hm
  have hch : ∀ i, i < len → ∃ x : α × List Value, x.2.length = sz ∧ (∀ j, j < sz → W.cell? (a'.add (i * sz + j)) = x.2[j]?) ∧ Q x.1 (D i) ∧ ∀ (j : Nat) (c : AV) (u : Value), (g x.1).cells[j]? = some c → x.2[j]? = some u → Rep (oldE W) W c u ∧ u.oneCell' = true := fun i hi => by
   obtain ⟨cs, hcs, ht'⟩ := hels i (by omega)
   rw [hc] at hcs
   obtain ⟨_, hlen, hat⟩ := World.cells?_some hcs
   obtain ⟨x, hq, hx⟩ := hel n cs _ ht'
   refine ⟨(x, cs), hlen, fun j hj => ?_, hq, hx⟩
   have := hat j hj
   rw [Go.Deep.add_add] at this
   exact this
  obtain ⟨f, hf⟩ := choose_lt hch
  refine ⟨(List.range len).map fun i => (f i).1, ?_, .inr ?_⟩
  ·have hlen : ((List.range len).map fun i => (f i).1).length = len := by simp
   have hln : (((List.range len).map fun i => (f i).1).map g).length = len := by simp
   have hget : ∀ (i : Nat) (e' : AV), (((List.range len).map fun i => (f i).1).map g)[i]? = some e' → i < len ∧ e' = g (f i).1 := fun i e' h => by
    have hi : i < len := by
     have := (List.getElem?_eq_some_iff.1 h).1
     simpa using this
    refine ⟨hi, ?_⟩
    simp [List.getElem?_range hi] at h
    exact h.symm
   let u : Nat → Nat → Value := fun i j => if i < len ∧ j < sz then ((f i).2[j]?).getD (.bool false) else .bool false
   have hu : ∀ i j, i < len → j < sz → (f i).2[j]? = some (u i j) := fun i j hi hj => by
    have h2 : j < (f i).2.length := by rw [(hf i hi).1]; exact hj
    simp only [u, hi, hj, and_self, if_true, List.getElem?_eq_getElem h2, Option.getD_some]
   have key := Rep.sl (E := oldE W) (w := W) sz (((List.range len).map fun i => (f i).1).map g) .no (some a') cap u (by rw [hln]; exact hl) hmx ?_ ?_ ?_ trivial ?_ ?_
   ·rw [hln] at key; exact key
   ·rcases Nat.eq_zero_or_pos len with h0 | h0
    ·left; subst h0; rfl
    ·right
     have h1 := (hf 0 h0).2.1 0 hsz
     rw [hu 0 0 h0 hsz] at h1
     have hadd : a'.add (0 * sz + 0) = a' := by unfold Addr.add; simp
     rw [hadd] at h1
     have hp := addr_plain h1
     refine ⟨a'.block, a'.off, by rw [← hp], fun i e' j c hi hj => ?_⟩
     obtain ⟨hlt, rfl⟩ := hget i e' hi
     have hjs : j < sz := by
      have := (List.getElem?_eq_some_iff.1 hj).1
      rw [(hg _).1] at this; exact this
     have h2 := (hf i hlt).2.1 j hjs
     rw [hu i j hlt hjs, hp, addp] at h2
     have e : a'.off + i * sz + j = a'.off + (i * sz + j) := by omega
     refine ⟨cell_lt h1, by rw [e]; exact h2⟩
   ·intro e' he
    obtain ⟨x, hx, rfl⟩ := List.mem_map.1 he
    exact (hg x).1
   ·intro e' he
    obtain ⟨x, hx, rfl⟩ := List.mem_map.1 he
    exact (hg x).2
   ·intro i e' j c hi hj
    obtain ⟨hlt, rfl⟩ := hget i e' hi
    have hjs : j < sz := by
     have := (List.getElem?_eq_some_iff.1 hj).1
     rw [(hg _).1] at this; exact this
    exact ((hf i hlt).2.2.2 j c (u i j) hj (hu i j hlt hjs)).1
   ·intro i j
    by_cases hij : i < len ∧ j < sz
    ·have hjs : j < (g (f i).1).cells.length := by rw [(hg _).1]; exact hij.2
     exact ((hf i hij.1).2.2.2 j _ (u i j) (List.getElem?_eq_getElem hjs) (hu i j hij.1 hij.2)).2
    ·simp only [u, if_neg hij]; rfl
  ·have hx1 := congrArg Prod.fst hx
   simp only at hx1
   refine ⟨_, _, hx1, by simp, fun i a x hi hxi => ?_⟩
   have hlt : i < len := by
    have := (List.getElem?_eq_some_iff.1 hi).1
    simpa using this
   simp [List.getElem?_range hlt] at hi hxi
   subst hi; subst hxi
   exact (hf i hlt).2.2.1
/-! cells that read so -/
def CellsAre (W : World) (l : List AV) (cs : List Value) : Prop :=
 l.length = cs.length ∧ ∀ (j : Nat) (c : AV) (u : Value), l[j]? = some c → cs[j]? = some u → Rep (oldE W) W c u ∧ u.oneCell' = true
theorem CellsAre.one {c : AV} {u : Value} (h : Rep (oldE W) W c u) (h1 : u.oneCell' = true) : CellsAre W [c] [u] := ⟨rfl, fun j c' u' hc hu => by
 match j, hc, hu with
 | 0, hc, hu => simp at hc hu; subst hc; subst hu; exact ⟨h, h1⟩⟩
theorem CellsAre.append {l r : List AV} {cs ds : List Value} (h : CellsAre W l cs) (k : CellsAre W r ds) : CellsAre W (l ++ r) (cs ++ ds) := by
 refine ⟨by simp [h.1, k.1], fun j c u hc hu => ?_⟩
 rcases Nat.lt_or_ge j l.length with hj | hj
 ·rw [List.getElem?_append_left hj] at hc
  rw [List.getElem?_append_left (by rw [← h.1]; exact hj)] at hu
  exact h.2 j c u hc hu
 ·rw [List.getElem?_append_right hj] at hc
  rw [List.getElem?_append_right (by rw [← h.1]; exact hj), ← h.1] at hu
  exact k.2 _ c u hc hu
theorem CellsAre.next {l r : List AV} {cs : List Value} {o s p : Nat} (h : CellsAre W l ((cs.drop o).take s)) (hp : p = o + s) (k : CellsAre W r (cs.drop p)) : CellsAre W (l ++ r) (cs.drop o) := by
 subst hp
 have := h.append k
 rwa [← List.drop_drop, List.take_append_drop] at this
theorem CellsAre.last {l : List AV} {cs : List Value} {o s : Nat} (h : CellsAre W l ((cs.drop o).take s)) (hs : cs.length = o + s) : CellsAre W l (cs.drop o) := by
 rwa [List.take_of_length_le (by rw [List.length_drop]; omega)] at h
def ReadsAs (P : Program) (W : World) (enc : TypeId × Value → H) (t : TypeId) {α : Type} (g : α → List AV) (Q : α → Nat → Prop) : Prop :=
 ∀ n cs x, DataW.trod enc P W 0 (fun _ => true) true n t cs = some x → ∃ a : α, Q a (Rows.uptoBulk x.1) ∧ CellsAre W (g a) cs
theorem reads_str {t : TypeId} (ht : P.underlying t = some .string) : ReadsAs P W enc t (fun s : List UInt8 => [.str s]) (fun s n => s.length ≤ n) := by
 intro n cs x h
 obtain ⟨s, rfl, rfl, _⟩ := DataW.trod_string ht h
 exact ⟨s.data.toList, by simp [Rows.uptoBulk], .one (mk_str s) rfl⟩
theorem reads_int {t : TypeId} (ht : P.underlying t = some (.int .i64)) : ReadsAs P W enc t (fun n : Int => [.int .i64 n]) (fun n _ => -9223372036854775808 ≤ n ∧ n ≤ 9223372036854775807) := by
 intro n cs x h
 obtain ⟨k, rfl, _, hw⟩ := DataW.trod_int ht h
 have := int_rng hw
 exact ⟨k, ⟨this.1, by omega⟩, .one (.int _ _) rfl⟩
namespace Bulks
theorem one_le (d : DataW H) : 1 ≤ Rows.uptoBulk d := by
 cases d with
 | lit l => cases l <;> simp [Rows.uptoBulk]
 | nil => simp [Rows.uptoBulk]
 | ptr d => simp [Rows.uptoBulk]
 | slice elems spare => simp [Rows.uptoBulk]
 | agg parts => simp [Rows.uptoBulk]
 | iface t d => simp [Rows.uptoBulk]
 | map entries => simp [Rows.uptoBulk]
 | held h => simp [Rows.uptoBulk]
theorem part_le {d : DataW H} {l : List (DataW H)} (h : d ∈ l) : Rows.uptoBulk d ≤ Rows.uptoBulkAll l := by
 induction l with
 | nil => cases h
 | cons x r ih =>
  simp only [Rows.uptoBulkAll]
  cases List.mem_cons.1 h with
  | inl e => subst e; omega
  | inr e => have := ih e; omega
theorem length_le (l : List (DataW H)) : l.length ≤ Rows.uptoBulkAll l := by
 induction l with
 | nil => simp [Rows.uptoBulkAll]
 | cons x r ih => have := one_le x; simp only [Rows.uptoBulkAll, List.length_cons]; omega
theorem bound {l : List (DataW H)} (hk : Rows.uptoSmall H l = true) : Rows.uptoBulkAll l ≤ 1048576 := by
 simpa [Rows.uptoSmall] using hk
theorem field_le {xs : List (DataW H × List MemPlace)} {i : Nat} {y : DataW H × List MemPlace} (h : xs[i]? = some y) : Rows.uptoBulk y.1 ≤ Rows.uptoBulk (DataW.agg (xs.map (·.1))) := by
 have := part_le (List.mem_map_of_mem (f := fun y : DataW H × List MemPlace => y.1) (List.mem_of_getElem? h))
 simp only [Rows.uptoBulk]
 omega
end Bulks
theorem reads_slice {t e : TypeId} {sz : Nat} {α : Type} [Inhabited α] {g : α → AV} {Q : α → Nat → Prop} (ht : P.underlying t = some (.slice e)) (hc : P.cellsOf e = sz) (hsz : 0 < sz) (hg : ∀ a, (g a).cells.length = sz ∧ (g a).closed1 = true) (hel : ReadsAs P W enc e (fun a => (g a).cells) Q)
  (hQ : ∀ a n m, Q a n → n ≤ m → Q a m) : ReadsAs P W enc t (fun l : List α => [.sl sz (l.map g) .no]) (fun l n => l.length ≤ n ∧ ∀ a ∈ l, Q a n) := by
 intro n cs x h
 have hs : ∃ A len cap, cs = [.slice A len cap] := by
  rcases open_slice ht h with ⟨hcs, _⟩ | ⟨a', len', cap', m, n, D, Pl, hcs, _⟩
  ·exact ⟨_, _, _, hcs⟩
  ·exact ⟨_, _, _, hcs⟩
 obtain ⟨A, len, cap, rfl⟩ := hs
 have hel' : ElemR P W enc e g (fun a d => Q a (Rows.uptoBulk d)) := fun n cs x h => by
  obtain ⟨a, h1, h2⟩ := hel n cs x h
  exact ⟨a, h1, h2.2⟩
 obtain ⟨l, hl, hb⟩ := open_slR ht hc hsz hg hel' ⟨A, len, cap, rfl⟩ (d := x.1) (ps := x.2) ⟨n, by simpa [Value.cells] using h⟩
 refine ⟨l, ?_, .one hl rfl⟩
 rcases hb with rfl | ⟨elems, spare, he, hlen, hq⟩
 ·exact ⟨Nat.zero_le _, fun a ha => by cases ha⟩
 ·rw [he]
  have hE : Rows.uptoBulk (DataW.slice elems spare) = Rows.uptoBulkAll elems + Rows.uptoBulkAll spare + 1 := by simp only [Rows.uptoBulk]
  rw [hE]
  refine ⟨by have := Bulks.length_le elems; omega, fun a ha => ?_⟩
  obtain ⟨i, hi⟩ := List.mem_iff_getElem?.1 ha
  have hlt : i < elems.length := by rw [hlen]; exact (List.getElem?_eq_some_iff.1 hi).1
  have hx := List.getElem?_eq_getElem hlt
  refine hQ a _ _ (hq i a _ hi hx) ?_
  have := Bulks.part_le (List.mem_of_getElem? hx)
  omega
/-! cells of any type -/
end
open Go.Proofs Go.Proofs.YtdajfgkcpflacaaGreat
section
variable {H : Type} {enc : TypeId × Value → H} {P : Program} {W : World}
theorem fieldR {t : TypeId} {α : Type} {g : α → List AV} {Q : α → Nat → Prop} (hr : ReadsAs P W enc t g Q) (hQ : ∀ a n m, Q a n → n ≤ m → Q a m) {fs : Array Field} {xs : List (DataW H × List MemPlace)} {n : Nat} {cs : List Value} {x : DataW H × List MemPlace}
  (hx : x = (.agg (xs.map (·.1)), xs.flatMap (·.2))) (hxl : xs.length = fs.size)
  (hf : ∀ (i : Nat) (f : Field), fs[i]? = some f → DataW.trod enc P W 0 (fun _ => true) true n f.type ((cs.drop f.offset).take (P.cellsOf f.type)) = xs[i]?)
  (i : Nat) {f : Field} (hi : fs[i]? = some f) (ht : f.type = t) {o s : Nat} (ho : f.offset = o) (hs : P.cellsOf t = s) : ∃ a, Q a (Rows.uptoBulk x.1) ∧ CellsAre W (g a) ((cs.drop o).take s) := by
 have h := hf i f hi
 rw [ht, ho, hs] at h
 have hil : i < xs.length := by rw [hxl]; exact (Array.getElem?_eq_some_iff.1 hi).1
 have hg := List.getElem?_eq_getElem hil
 rw [hg] at h
 obtain ⟨a, h1, h2⟩ := hr n _ _ h
 refine ⟨a, hQ a _ _ h1 ?_, h2⟩
 rw [hx]
 exact Bulks.field_le hg
theorem ReadsAs.map {t : TypeId} {α β : Type} {g : α → List AV} {g' : β → List AV} {Q : α → Nat → Prop} {Q' : β → Nat → Prop} (h : ReadsAs P W enc t g Q) (f : α → β) (hg : ∀ a, g a = g' (f a)) (hQ : ∀ a n, Q a n → Q' (f a) n) : ReadsAs P W enc t g' Q' := fun n cs x hx => by
 obtain ⟨a, h1, h2⟩ := h n cs x hx
 exact ⟨f a, hQ a _ h1, by rw [← hg]; exact h2⟩
end
section
variable {H : Type} {enc : TypeId × Value → H} {W : World}
theorem cz3 : PA.cellsOf 3 = 1 := by kernel_rfl
theorem cz9 : PA.cellsOf 9 = 1 := by kernel_rfl
theorem cz25 : PA.cellsOf 22 = 1 := by kernel_rfl
theorem cz29 : PA.cellsOf 26 = 3 := by kernel_rfl
theorem cz31 : PA.cellsOf 49 = 2 := by kernel_rfl
theorem cz33 : PA.cellsOf 51 = 6 := by kernel_rfl
theorem st29 : ∃ f0 f1 f2 : Field, PA.underlying 26 = some (.struct #[f0, f1, f2]) ∧ (f0.type = 3 ∧ f0.offset = 0) ∧ (f1.type = 3 ∧ f1.offset = 1) ∧ (f2.type = 9 ∧ f2.offset = 2) := ⟨_, _, _, Tryz.underlying26, ⟨rfl, rfl⟩, ⟨rfl, rfl⟩, ⟨rfl, rfl⟩⟩
theorem st31 : ∃ f0 f1 : Field, PA.underlying 49 = some (.struct #[f0, f1]) ∧ (f0.type = 9 ∧ f0.offset = 0) ∧ (f1.type = 3 ∧ f1.offset = 1) := ⟨_, _, Tryz.underlying49, ⟨rfl, rfl⟩, ⟨rfl, rfl⟩⟩
theorem st33 : ∃ f0 f1 f2 : Field, PA.underlying 51 = some (.struct #[f0, f1, f2]) ∧ (f0.type = 26 ∧ f0.offset = 0) ∧ (f1.type = 49 ∧ f1.offset = 3) ∧ (f2.type = 3 ∧ f2.offset = 5) := ⟨_, _, _, Tryz.underlying51, ⟨rfl, rfl⟩, ⟨rfl, rfl⟩, ⟨rfl, rfl⟩⟩
def rngI (n : Int) : Prop := -9223372036854775808 ≤ n ∧ n ≤ 9223372036854775807
theorem rng_ok {n : Int} (h : rngI n) : iOk n := by unfold rngI at h; unfold iOk; omega
theorem rStr : ReadsAs PA W enc 9 (fun s : List UInt8 => [.str s]) (fun _ _ => True) := fun n cs x h => by
 obtain ⟨a, _, h2⟩ := reads_str Tryz.underlying9 n cs x h
 exact ⟨a, trivial, h2⟩
theorem rInt : ReadsAs PA W enc 3 (fun n : Int => [.int .i64 n]) (fun n _ => rngI n) := reads_int Tryz.underlying3
theorem rVal : ReadsAs PA W enc 26 (fun v : Int × Int × List UInt8 => [.int .i64 v.1, .int .i64 v.2.1, .str v.2.2]) (fun v _ => rngI v.1 ∧ rngI v.2.1) := by
 intro n cs x h
 obtain ⟨f0, f1, f2, hu, ⟨t0, o0⟩, ⟨t1, o1⟩, ⟨t2, o2⟩⟩ := st29
 obtain ⟨xs, m, _, hx, hlen, hxl, hf⟩ := DataW.trod_struct hu h
 obtain ⟨a0, q0, c0⟩ := fieldR rInt (fun _ _ _ h _ => h) hx hxl hf 0 rfl t0 o0 cz3
 obtain ⟨a1, q1, c1⟩ := fieldR rInt (fun _ _ _ h _ => h) hx hxl hf 1 rfl t1 o1 cz3
 obtain ⟨a2, q2, c2⟩ := fieldR rStr (fun _ _ _ h _ => h) hx hxl hf 2 rfl t2 o2 cz9
 exact ⟨(a0, a1, a2), ⟨q0, q1⟩, c0.next rfl (c1.next rfl (c2.last (by rw [hlen]; exact cz29)))⟩
theorem rMark : ReadsAs PA W enc 49 (fun p : List UInt8 × Int => [.str p.1, .int .i64 p.2]) (fun p _ => rngI p.2) := by
 intro n cs x h
 obtain ⟨f0, f1, hu, ⟨t0, o0⟩, ⟨t1, o1⟩⟩ := st31
 obtain ⟨xs, m, _, hx, hlen, hxl, hf⟩ := DataW.trod_struct hu h
 obtain ⟨a0, q0, c0⟩ := fieldR rStr (fun _ _ _ h _ => h) hx hxl hf 0 rfl t0 o0 cz9
 obtain ⟨a1, q1, c1⟩ := fieldR rInt (fun _ _ _ h _ => h) hx hxl hf 1 rfl t1 o1 cz3
 exact ⟨(a0, a1), q1, c0.next rfl (c1.last (by rw [hlen]; exact cz31))⟩
def itQ (x : ItI) (_ : Nat) : Prop := rngI x.k ∧ rngI x.n ∧ rngI x.q ∧ rngI x.c
theorem rItem : ReadsAs PA W enc 51 (fun x : ItI => (itA x).cells) itQ := by
 intro n cs x h
 obtain ⟨f0, f1, f2, hu, ⟨t0, o0⟩, ⟨t1, o1⟩, ⟨t2, o2⟩⟩ := st33
 obtain ⟨xs, m, _, hx, hlen, hxl, hf⟩ := DataW.trod_struct hu h
 obtain ⟨a0, q0, c0⟩ := fieldR rVal (fun _ _ _ h _ => h) hx hxl hf 0 rfl t0 o0 cz29
 obtain ⟨a1, q1, c1⟩ := fieldR rMark (fun _ _ _ h _ => h) hx hxl hf 1 rfl t1 o1 cz31
 obtain ⟨a2, q2, c2⟩ := fieldR rInt (fun _ _ _ h _ => h) hx hxl hf 2 rfl t2 o2 cz3
 exact ⟨⟨a0.1, a0.2.1, a0.2.2, a1.1, a1.2, a2⟩, ⟨q0.1, q0.2, q1, q2⟩, c0.next rfl (c1.next rfl (c2.last (by rw [hlen]; exact cz33)))⟩
instance : Inhabited ItI := ⟨⟨0, 0, [], [], 0, 0⟩⟩
def itsQ (l : List ItI) : Prop := l.length ≤ maxLen ∧ ∀ x ∈ l, itQ x 0
theorem rep_len2 {E : Env} {w : World} {sz : Nat} {es : List AV} {o : Own} {v : Value} (h : Rep E w (.sl sz es o) v) : es.length ≤ maxLen := by
 cases h with
 | sl _ _ _ A cap u hcap hmax => exact Nat.le_trans hcap hmax
theorem cells_len {sz : Nat} {es : List AV} {o : Own} {cs : List Value} (h : CellsAre W [.sl sz es o] cs) : es.length ≤ maxLen := by
 match cs, h with
 | [u], h => exact rep_len2 (h.2 0 _ u rfl rfl).1
 | [], h => cases h.1
theorem rItems : ReadsAs PA W enc 22 (fun l : List ItI => [.sl 6 (itsL l) .no]) (fun l _ => itsQ l) := fun n cs x h => by
 obtain ⟨l, h1, h2⟩ := reads_slice (g := itA) Tryz.underlying22 cz33 (by omega) (fun _ => ⟨rfl, rfl⟩) rItem (fun _ _ _ h _ => h) n cs x h
 have hl := cells_len h2
 rw [List.length_map] at hl
 exact ⟨l, ⟨hl, h1.2⟩, h2⟩
/-! arguments -/
theorem open_one {t : TypeId} {α : Type} {g : α → AV} {Q : α → Nat → Prop} (hr : ReadsAs PA W enc t (fun a => [g a]) Q) {v : Value} {d : DataW H} {ps : List MemPlace} (h1 : ∃ u, v.cells = #[u] ∧ v = u) (h : DataW.Trod enc PA W 0 (fun _ => true) true t v d ps) : ∃ a, Rep (oldE W) W (g a) v ∧ Q a (Rows.uptoBulk d) := by
 obtain ⟨u, hu, rfl⟩ := h1
 obtain ⟨fuel, h⟩ := h
 rw [hu] at h
 obtain ⟨a, q, c⟩ := hr fuel _ _ h
 exact ⟨a, (c.2 0 _ _ rfl rfl).1, q⟩
theorem open_agg {t : TypeId} {α : Type} {g : α → List AV} {Q : α → Nat → Prop} (hr : ReadsAs PA W enc t g Q) {v : Value} {d : DataW H} {ps : List MemPlace} (h1 : ∃ cs, v = .agg cs) (h : DataW.Trod enc PA W 0 (fun _ => true) true t v d ps) : ∃ a, Rep (oldE W) W (.agg (g a)) v ∧ Q a (Rows.uptoBulk d) := by
 obtain ⟨cs, rfl⟩ := h1
 obtain ⟨fuel, h⟩ := h
 obtain ⟨a, q, c⟩ := hr fuel _ _ h
 refine ⟨a, .agg _ cs ?_ (fun i v hv => ?_) fun i c' v hc hv => ?_, q⟩
 ·have : (g a).length = cs.toList.length := c.1
  rw [this, Array.length_toList]
 ·have hv' : cs.toList[i]? = some v := by rw [Array.getElem?_toList]; exact hv
  have hil : i < (g a).length := by rw [c.1]; exact (List.getElem?_eq_some_iff.1 hv').1
  exact (c.2 i _ v (List.getElem?_eq_getElem hil) hv').2
 ·exact (c.2 i c' v hc (by show cs.toList[i]? = some v; rw [Array.getElem?_toList]; exact hv)).1
end
open Go.Proofs Go.Proofs.YtdajfgkcpflacaaGreat
section
variable {W : World}
theorem globI : GlobOk GA (oldE W) W := globA (fun g e hg => by cases hg) fun g e hg => by cases hg
end
theorem one_str {P : Program} {W : World} {t : TypeId} {v : Value} {b : Nat} (ht : P.underlying t = some .string) (h : Value.okWide P W .any b t v) : ∃ u, v.cells = #[u] ∧ v = u := by
 obtain ⟨n, rfl⟩ := okWide_string ht h
 exact ⟨_, rfl, rfl⟩
theorem is_agg {P : Program} {W : World} {t : TypeId} {fs : Array Field} {v : Value} {b : Nat} (ht : P.underlying t = some (.struct fs)) (h : Value.okWide P W .any b t v) : ∃ cs, v = .agg cs := by
 obtain ⟨cs, h, _⟩ := okWide_struct ht h
 exact ⟨cs, h⟩
theorem witness_row_shaped {H : Type} {enc : TypeId × Value → H} {C : Checked} {os : Os} {f : FuncId} {fn : Func} {s : OpenSpec} {conds : List PathCond} {apart : Bool} {laid : List (String × DataW Unit)} (w0 : World) (args : Array Value) (hos : w0.os = os)
  (hsh : (w0.forCall (fun _ _ => 0) ⟨#[], args, []⟩).Shaped C.prog)
  (hok : Input.okWideB C.prog (w0.forCall (fun _ _ => 0) ⟨#[], args, []⟩) f ⟨#[], args, []⟩ = true)
  (hrow : s.preRow enc C.prog fn conds apart laid (w0.forCall (fun _ _ => 0) ⟨#[], args, []⟩).memory args) :
  ∃ (w : World) (tape : Tape) (i : Input), w.os = os ∧ (w.forCall tape i).Shaped C.prog ∧ i.vars = [] ∧ Input.okWide C.prog (w.forCall tape i) .any w.heap.size f i ∧
   s.preRow enc C.prog fn conds apart laid (w.forCall tape i).memory i.args ∧ ({} : Assume).holds C.prog (lone (Frame.enter C.prog f i.args .normal) [] (w.forCall tape i)) :=
 ⟨w0, fun _ _ => 0, ⟨#[], args, []⟩, hos, hsh, (Input.okWide_of_okWideB (base := 0) hok).1, (Input.okWide_of_okWideB hok).2, hrow, by
  simp only [Assume.holds]
  exact ⟨by simp, by simp, fun _ => Modest.zero, by simp, by simp⟩⟩
open Go.Proofs Go.Proofs.K17 Go.Proofs.YtdajfgkcpflacaaGreat
section
variable {H : Type} {enc : TypeId × Value → H} {W : World}
theorem cz34 : PA.cellsOf 34 = 1 := by kernel_rfl
theorem cz36 : PA.cellsOf 36 = 2 := by kernel_rfl
theorem cz37 : PA.cellsOf 37 = 1 := by kernel_rfl
theorem cz39 : PA.cellsOf 39 = 5 := by kernel_rfl
theorem cz90 : PA.cellsOf 90 = 2 := by kernel_rfl
theorem st36 : ∃ f0 f1 : Field, PA.underlying 36 = some (.struct #[f0, f1]) ∧ (f0.type = 3 ∧ f0.offset = 0) ∧ (f1.type = 34 ∧ f1.offset = 1) := ⟨_, _, Tryz.underlying36, ⟨rfl, rfl⟩, ⟨rfl, rfl⟩⟩
theorem st90 : ∃ f0 f1 : Field, PA.underlying 90 = some (.struct #[f0, f1]) ∧ (f0.type = 3 ∧ f0.offset = 0) ∧ (f1.type = 3 ∧ f1.offset = 1) := ⟨_, _, Tryz.underlying90, ⟨rfl, rfl⟩, ⟨rfl, rfl⟩⟩
theorem st39 : ∃ f0 f1 f2 f3 : Field, PA.underlying 39 = some (.struct #[f0, f1, f2, f3]) ∧ (f0.type = 3 ∧ f0.offset = 0) ∧ (f1.type = 36 ∧ f1.offset = 1) ∧ (f2.type = 22 ∧ f2.offset = 3) ∧ (f3.type = 37 ∧ f3.offset = 4) := ⟨_, _, _, _, Tryz.underlying39, ⟨rfl, rfl⟩, ⟨rfl, rfl⟩, ⟨rfl, rfl⟩, ⟨rfl, rfl⟩⟩
theorem rU64 : ReadsAs PA W enc 34 (fun n : Int => [.int .u64 n]) (fun n _ => 0 ≤ n ∧ n < 18446744073709551616) := by
 intro n cs x h
 obtain ⟨k, rfl, _, hw⟩ := DataW.trod_int Tryz.underlying34 h
 have hr : 0 ≤ k ∧ k < 18446744073709551616 := by
  simp [Lit.wf, IntKind.min, IntKind.max, IntKind.bits, IntKind.signed] at hw
  omega
 exact ⟨k, hr, .one (.int _ _) rfl⟩
theorem rWide : ReadsAs PA W enc 36 (fun p : Int × Int => [.int .i64 p.1, .int .u64 p.2]) (fun p _ => wOk p.1 p.2) := by
 intro n cs x h
 obtain ⟨f0, f1, hu, ⟨t0, o0⟩, ⟨t1, o1⟩⟩ := st36
 obtain ⟨xs, m, _, hx, hlen, hxl, hf⟩ := DataW.trod_struct hu h
 obtain ⟨a0, q0, c0⟩ := fieldR rInt (fun _ _ _ h _ => h) hx hxl hf 0 rfl t0 o0 cz3
 obtain ⟨a1, q1, c1⟩ := fieldR rU64 (fun _ _ _ h _ => h) hx hxl hf 1 rfl t1 o1 cz34
 exact ⟨(a0, a1), ⟨q0.1, by have := q0.2; omega, q1.1, q1.2⟩, c0.next rfl (c1.last (by rw [hlen]; exact cz36))⟩
theorem rBk : ReadsAs PA W enc 90 (fun p : Int × Int => (bkA p).cells) (fun p _ => I64 p.1 ∧ I64 p.2) := by
 intro n cs x h
 obtain ⟨f0, f1, hu, ⟨t0, o0⟩, ⟨t1, o1⟩⟩ := st90
 obtain ⟨xs, m, _, hx, hlen, hxl, hf⟩ := DataW.trod_struct hu h
 obtain ⟨a0, q0, c0⟩ := fieldR rInt (fun _ _ _ h _ => h) hx hxl hf 0 rfl t0 o0 cz3
 obtain ⟨a1, q1, c1⟩ := fieldR rInt (fun _ _ _ h _ => h) hx hxl hf 1 rfl t1 o1 cz3
 exact ⟨(a0, a1), ⟨⟨q0.1, by have := q0.2; omega⟩, ⟨q1.1, by have := q1.2; omega⟩⟩, c0.next rfl (c1.last (by rw [hlen]; exact cz90))⟩
theorem rBks : ReadsAs PA W enc 37 (fun l : Bks => [.sl 2 (bksL l) .no]) (fun l _ => l.length ≤ maxLen ∧ WfB l) := fun n cs x h => by
 obtain ⟨l, h1, h2⟩ := reads_slice (g := bkA) Tryz.underlying37 cz90 (by omega) (fun _ => ⟨rfl, rfl⟩) rBk (fun _ _ _ h _ => h) n cs x h
 have hl := cells_len h2
 rw [List.length_map] at hl
 exact ⟨l, ⟨hl, h1.2⟩, h2⟩
def stQ (s : StI) (_ : Nat) : Prop := s.its.length ≤ maxLen ∧ s.bks.length ≤ maxLen ∧ wOk s.h s.l ∧ WfB s.bks
theorem rState : ReadsAs PA W enc 39 (fun s : StI => stC s) stQ := by
 intro n cs x h
 obtain ⟨f0, f1, f2, f3, hu, ⟨t0, o0⟩, ⟨t1, o1⟩, ⟨t2, o2⟩, ⟨t3, o3⟩⟩ := st39
 obtain ⟨xs, m, _, hx, hlen, hxl, hf⟩ := DataW.trod_struct hu h
 obtain ⟨a0, q0, c0⟩ := fieldR rInt (fun _ _ _ h _ => h) hx hxl hf 0 rfl t0 o0 cz3
 obtain ⟨a1, q1, c1⟩ := fieldR rWide (fun _ _ _ h _ => h) hx hxl hf 1 rfl t1 o1 cz36
 obtain ⟨a2, q2, c2⟩ := fieldR rItems (fun _ _ _ h _ => h) hx hxl hf 2 rfl t2 o2 cz25
 obtain ⟨a3, q3, c3⟩ := fieldR rBks (fun _ _ _ h _ => h) hx hxl hf 3 rfl t3 o3 cz37
 exact ⟨⟨a0, a1.1, a1.2, a2, a3⟩, ⟨q2.1, q3.1, q1, q3.2⟩, c0.next rfl (c1.next rfl (c2.next rfl (c3.last (by rw [hlen]; exact cz39))))⟩
theorem stQ_ok {s : StI} {n : Nat} (h : stQ s n) : s.its.length ≤ maxLen ∧ s.bks.length ≤ maxLen ∧ wOk s.h s.l ∧ WfB s.bks := h
theorem itQ_ok {x : ItI} {n : Nat} (h : itQ x n) : itOk x := ⟨rng_ok h.2.1, rng_ok h.2.2.2⟩
end
end Go.Abs
