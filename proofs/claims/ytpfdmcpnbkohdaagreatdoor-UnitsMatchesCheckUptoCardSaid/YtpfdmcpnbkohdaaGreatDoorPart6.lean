/- Own texts, part 6. -/
import Derived.Test.YtpfdmcpnbkohdaaGreatDoorPart5
import Derived.WalkKit
import Derived.WalkLawsBesides
import Derived.Deep.QuietTactic
import Derived.BigQuiet
import Derived.BigRegion
import Derived.Laws.Pointers
import Derived.Lib.Hide
import Derived.Maps.AppendAt
import Derived.Test.YtpfdmcpnbkohdaaGreatDoorPart4

namespace Go.Abs
open Go.Proofs Go.RowKit
theorem norm_len (l : List Fac) : (normP l).1.length ≤ 4 := by
  unfold normP
  split
  · simp
  · split
    · simp
    · split
      · simp
      · rename_i h; simp only; omega
theorem prod_len (l r : List Fac) (k : Int) : (prodP l r k).1.length ≤ 4 := by
  unfold prodP
  split
  · simp
  · split
    · simp
    · exact norm_len _
theorem huge4 {l : List Fac} (h : l.length ≤ 4) : hugeOk l := by unfold hugeOk; omega
theorem norm_fst {l : List Fac} (h : (normP l).2 ≠ 0) : (normP l).1 = [] := by
  unfold normP at h ⊢
  split
  · rfl
  · split
    · rfl
    · split
      · rfl
      · rename_i h1 h2 h3
        rw [if_neg h1, if_neg h2, if_neg h3] at h
        exact absurd rfl h
theorem sum_bound {l : List Fac} (h : checkF l = 0) (s : List UInt8) : -8 ≤ sumN l s ∧ sumN l s ≤ 8 := near (sum_near h s)
theorem exp_check {l : List Fac} (h : checkF l = 0) (s : List UInt8) : expF l s = sumN l s := exp_sum (check_inc h) s
theorem prod_exp {l r : List Fac} {k : Int} (_hk : k = 1 ∨ k = -1) (s : List UInt8) (h : (prodP l r k).2 = 0) : expF (prodP l r k).1 s = expF l s + k * expF r s ∧ -8 ≤ expF l s ∧ expF l s ≤ 8 ∧ -8 ≤ expF r s ∧ expF r s ≤ 8 := by
  obtain ⟨h1, h2, h3, h4⟩ := prod_ok (p := (prodP l r k).1) (l := l) (r := r) (k := k) (by rw [← h])
  rw [exp_check h1, exp_check h2, exp_check h3, h4]
  have := sum_bound h1 s
  have := sum_bound h2 s
  exact ⟨rfl, by omega, by omega, by omega, by omega⟩
theorem prod_comm {l r : List Fac} (hl : checkF l = 0) (hr : checkF r = 0) : prodP l r 1 = prodP r l 1 := by
  rw [prod_eq hl hr, prod_eq hr hl]
  exact norm_congr (prod_words hl hr) (prod_words hr hl) fun s => by rw [prod_sum, prod_sum]; omega
theorem prod_nil {l : List Fac} (hl : checkF l = 0) : prodP l [] 1 = (l, 0) := by
  rw [prod_eq hl rfl]
  simp only [timesL, List.map_nil, List.append_nil]
  exact norm_valid hl
theorem prod_back {l r : List Fac} {k k' : Int} (hk : k = 1 ∧ k' = -1 ∨ k = -1 ∧ k' = 1) (hl : checkF l = 0) (hr : checkF r = 0) (h : (prodP l r k).2 = 0) : prodP (prodP l r k).1 r k' = (l, 0) := by
  obtain ⟨h1, h2, h3, h4⟩ := prod_ok (p := (prodP l r k).1) (l := l) (r := r) (k := k) (by rw [← h])
  rw [prod_eq h3 hr, ← norm_valid hl]
  refine norm_congr (prod_words h3 hr) (check_words hl) fun s => ?_
  rw [prod_sum, h4]
  rcases hk with ⟨rfl, rfl⟩ | ⟨rfl, rfl⟩
  · omega
  · omega
theorem prod_assoc {a b c : List Fac} (ha : checkF a = 0) (_hb : checkF b = 0) (hc : checkF c = 0) (h : (prodP a b 1).2 = 0) (h' : (prodP b c 1).2 = 0) : prodP (prodP a b 1).1 c 1 = prodP a (prodP b c 1).1 1 := by
  obtain ⟨_, _, h3, h4⟩ := prod_ok (p := (prodP a b 1).1) (l := a) (r := b) (k := 1) (by rw [← h])
  obtain ⟨_, _, g3, g4⟩ := prod_ok (p := (prodP b c 1).1) (l := b) (r := c) (k := 1) (by rw [← h'])
  rw [prod_eq h3 hc, prod_eq ha g3]
  refine norm_congr (prod_words h3 hc) (prod_words ha g3) fun s => ?_
  rw [prod_sum, prod_sum, h4, g4]; omega
theorem retT : RetIs (AV.bool true) [] (AV.bool true, []) := retIs_iff.2 rfl
abbrev T9 : List (FuncId × Spec) := [(10, s10), (16, s16), (18, s18), (25, s25)]
set_option maxHeartbeats 1000000 in
theorem p9 (m : Int) (a b : List Fac) (s : List UInt8) (ha : hugeOk a) (hb : hugeOk b) : PureOk PU (GU m) XQ (tbl T9) (itbl []) nAn [] 9 [.sl 2 (facsL a) .no, .sl 2 (facsL b) .no, .str s] (.bool true, []) := by
  constructor
  rw [w9]
  have t16 : tbl T9 16 [.sl 2 (facsL a) .no, .sl 2 (facsL b) .no] = some (.tup [.sl 2 (facsL (prodP a b 1).1) .no, .int .i64 (prodP a b 1).2], []) := by unfold T9; rw [tb_miss (by decide), tb_hit, s16, tF2]; rfl
  have t18 : tbl T9 18 [.sl 2 (facsL a) .no, .sl 2 (facsL b) .no] = some (.tup [.sl 2 (facsL (prodP a b (-1)).1) .no, .int .i64 (prodP a b (-1)).2], []) := by unfold T9; rw [tb_miss (by decide), tb_miss (by decide), tb_hit, s18, tF2]; rfl
  have t25 : ∀ x : List Fac, hugeOk x → tbl T9 25 [.sl 2 (facsL x) .no, .str s] = some (.int .i64 (expF x s), []) := fun x hx => by
    unfold T9; rw [tb_miss (by decide), tb_miss (by decide), tb_miss (by decide), tb_hit]
    simp only [s25, true_or, if_true, unFs, Option.bind_some]; rw [if_pos hx]
  have e1 := fun h => prod_exp (l := a) (r := b) (.inl rfl) s h
  have e2 := fun h => prod_exp (l := a) (r := b) (.inr rfl) s h
  have k1 := huge4 (prod_len a b 1)
  have k2 := huge4 (prod_len a b (-1))
  generalize prodP a b 1 = p at *
  generalize prodP a b (-1) = q at *
  have f1 : p.2 = 0 → (expF p.1 s == IntKind.i64.wrap (expF a s + expF b s)) = true := fun h => by
    obtain ⟨h1, _⟩ := e1 h
    rw [wrap64_in (by omega) (by omega), h1]; simp
  have f2 : q.2 = 0 → (expF q.1 s == IntKind.i64.wrap (expF a s - expF b s)) = true := fun h => by
    obtain ⟨h1, _⟩ := e2 h
    rw [wrap64_in (by omega) (by omega), h1]
    simp only [beq_iff_eq]; omega
  have last : (((q.2 != (0 : Int)) = true → RetIs (AV.bool true) [] (AV.bool true, [])) ∧
      ((q.2 != (0 : Int)) = false → ∃ n : Int, CallIs (tbl T9 25 [AV.sl 2 (facsL q.1) Own.no, AV.str s]) (AV.int IntKind.i64 n) [] ∧
        ((n == IntKind.i64.wrap (expF a s - expF b s)) = true → RetIs (AV.bool true) [] (AV.bool true, [])) ∧
        ((n == IntKind.i64.wrap (expF a s - expF b s)) = false → RetIs (AV.bool false) [] (AV.bool true, [])))) := by
    refine ⟨fun _ => retT, fun h => ⟨_, callIs_iff.2 (t25 _ k2), fun _ => retT, fun h2 => ?_⟩⟩
    rw [f2 (by simpa using h)] at h2; cases h2
  refine ⟨true, callIs_iff.2 rfl, fun _ => ⟨_, _, callIs_iff.2 t16, _, _, callIs_iff.2 t18, _, callIs_iff.2 (t25 a ha), _, callIs_iff.2 (t25 b hb), fun _ => last, fun h => ⟨_, callIs_iff.2 (t25 _ k1), fun _ => last, fun h2 => ?_⟩⟩, fun h => (nomatch h)⟩
  rw [f1 (by simpa using h)] at h2; cases h2
abbrev T6 : List (FuncId × Spec) := [(10, s10), (13, s13), (16, s16), (18, s18), (20, s39)]
set_option maxHeartbeats 1000000 in
theorem p6 (m : Int) (a b c : List Fac) : PureOk PU (GU m) XQ (tbl T6) (itbl []) (a6 a b c) [] 6 [.sl 2 (facsL a) .no, .sl 2 (facsL b) .no, .sl 2 (facsL c) .no] (.bool true, []) := by
  constructor
  rw [w6]
  have hS : ∀ {S : St}, StIs S S := stIs_iff.2 rfl
  have hV : ∀ {l : List AV}, ValsAre l l := valsAre_iff.2 rfl
  have t13 : ∀ x : List Fac, tbl T6 13 [.sl 2 (facsL x) .no] = some (.int .i64 (checkF x), []) := fun x => by unfold T6; rw [tb_miss (by decide), tb_hit, s13, tF]
  have t16 : ∀ x y : List Fac, tbl T6 16 [.sl 2 (facsL x) .no, .sl 2 (facsL y) .no] = some (.tup [.sl 2 (facsL (prodP x y 1).1) .no, .int .i64 (prodP x y 1).2], []) := fun x y => by unfold T6; rw [tb_miss (by decide), tb_miss (by decide), tb_hit, s16, tF2]; rfl
  have t16n : ∀ x : List Fac, tbl T6 16 [.sl 2 (facsL x) .no, .sl 0 [] .nil] = some (.tup [.sl 2 (facsL (prodP x [] 1).1) .no, .int .i64 (prodP x [] 1).2], []) := fun x => by
    unfold T6; rw [tb_miss (by decide), tb_miss (by decide), tb_hit]
    simp only [s16, sF2, true_or, or_true, and_self, if_true, unFs, unL, Option.bind_some]; rfl
  have t18 : ∀ x y : List Fac, tbl T6 18 [.sl 2 (facsL x) .no, .sl 2 (facsL y) .no] = some (.tup [.sl 2 (facsL (prodP x y (-1)).1) .no, .int .i64 (prodP x y (-1)).2], []) := fun x y => by unfold T6; rw [tb_miss (by decide), tb_miss (by decide), tb_miss (by decide), tb_hit, s18, tF2]; rfl
  have t20 : ∀ x y : List Fac, x.length ≤ 4 → tbl T6 20 [.sl 2 (facsL x) .no, .sl 2 (facsL y) .no] = some (.bool (decide (x = y)), []) := fun x y hx => by
    unfold T6; rw [tb_miss (by decide), tb_miss (by decide), tb_miss (by decide), tb_miss (by decide), tb_hit, s39, tF2, if_pos (huge4 hx)]
  have neq : ∀ {n : Int}, (n != 0) = false → n = 0 := fun h => by simpa using h
  have eqq : ∀ {n : Int}, (n == 0) = true → n = 0 := fun h => by simpa using h
  have hB : ∀ {p : Prop} [Decidable p] {q : Prop}, decide p = false → p → q := fun h h2 => absurd h2 (of_decide_eq_false h)
  refine ⟨⟨true, callIs_iff.2 rfl, fun _ => ⟨(), hV, hS, trivial, trivial⟩, fun h => (nomatch h)⟩, fun _ _ _ => ⟨⟨_, callIs_iff.2 (t13 a), fun _ => retT, fun ha => ⟨_, callIs_iff.2 (t13 b), fun _ => retT, fun hb => ⟨_, callIs_iff.2 (t13 c), fun _ => retT, fun hc => ⟨(), hV, hS, ⟨neq ha, neq hb, neq hc⟩, trivial⟩⟩⟩⟩, fun _ hok _ => ?_⟩⟩
  obtain ⟨ha, hb, hc⟩ := hok
  have lab := prod_len a b 1
  refine ⟨_, _, callIs_iff.2 (t16 a b), _, _, callIs_iff.2 (t16 b a), _, _, callIs_iff.2 (t16n a), ⟨fun h => ?_, fun _ => ⟨_, callIs_iff.2 (t20 _ _ lab), fun _ => ⟨fun h => ?_, fun _ => ⟨_, callIs_iff.2 (t20 _ _ (prod_len _ _ _)), fun _ => ⟨(), hV, hS, ⟨ha, hb, hc⟩, trivial⟩, fun h => ?_⟩⟩, fun h => ?_⟩⟩, fun _ _ _ => ⟨⟨fun h => ⟨_, _, callIs_iff.2 (t18 _ b), fun h2 => ?_, fun h2 => ⟨_, callIs_iff.2 (t20 _ _ (prod_len _ _ _)), fun _ => ⟨(), hV, hS, ⟨ha, hb, hc⟩, trivial⟩, fun h3 => ?_⟩⟩, fun _ => ⟨(), hV, hS, ⟨ha, hb, hc⟩, trivial⟩⟩, fun _ _ _ => ⟨_, _, callIs_iff.2 (t18 a b), ⟨fun h => ⟨_, _, callIs_iff.2 (t16 _ b), fun h2 => ?_, fun h2 => ⟨_, callIs_iff.2 (t20 _ _ (prod_len _ _ _)), fun _ => ⟨(), hV, hS, ⟨ha, hb, hc⟩, trivial⟩, fun h3 => ?_⟩⟩, fun _ => ⟨(), hV, hS, ⟨ha, hb, hc⟩, trivial⟩⟩, fun _ _ _ => ⟨_, _, callIs_iff.2 (t16 b c), fun _ => retT, fun h => ⟨fun _ => retT, fun h2 => ⟨_, _, callIs_iff.2 (t16 _ c), _, _, callIs_iff.2 (t16 a _), fun _ => ⟨_, callIs_iff.2 (t20 _ _ (prod_len _ _ _)), fun _ => retT, fun h3 => ?_⟩, fun h3 => ?_⟩⟩⟩⟩⟩⟩
  · rw [prod_comm hb ha] at h; simp at h
  · rw [prod_nil ha] at h; simp at h
  · exact hB h (by rw [prod_nil ha])
  · exact hB h (by rw [prod_comm hb ha])
  · rw [prod_back (.inl ⟨rfl, rfl⟩) ha hb (eqq h)] at h2; simp at h2
  · exact hB h3 (by rw [prod_back (.inl ⟨rfl, rfl⟩) ha hb (eqq h)])
  · rw [prod_back (.inr ⟨rfl, rfl⟩) ha hb (eqq h)] at h2; simp at h2
  · exact hB h3 (by rw [prod_back (.inr ⟨rfl, rfl⟩) ha hb (eqq h)])
  · exact hB h3 (by rw [prod_assoc ha hb hc (neq h) (neq h2)])
  · rw [prod_assoc ha hb hc (neq h) (neq h2)] at h3; simp at h3
end Go.Abs

namespace Go.Abs
open Go.Proofs Go.RowKit
theorem rep_succ (l : List Fac) (n : Nat) : repL l (n + 1) = repL l n ++ l := by
  unfold repL
  rw [List.replicate_succ', List.flatten_append]
  simp
theorem repL_len (l : List Fac) (n : Nat) : (repL l n).length = n * l.length := by
  induction n with
  | zero => simp [repL]
  | succ n ih => rw [rep_succ, List.length_append, ih, Nat.add_mul]; omega
theorem rep_sum (l : List Fac) (n : Nat) (s : List UInt8) : sumN (repL l n) s = n * sumN l s := by
  induction n with
  | zero => simp [repL, sumN]
  | succ n ih =>
    rw [rep_succ, sumN_app, ih]
    have : ((n + 1 : Nat) : Int) = n + 1 := by omega
    rw [this, Int.add_mul]; omega
theorem rep_mem {l : List Fac} {n : Nat} {f : Fac} (h : f ∈ repL l n) : f ∈ l := by
  obtain ⟨x, hx, hf⟩ := List.mem_flatten.1 h
  rw [List.eq_of_mem_replicate hx] at hf; exact hf
theorem sum_mem {l : List Fac} (h : Inc l) {f : Fac} (hf : f ∈ l) : sumN l f.s = f.e := by
  induction l with
  | nil => simp at hf
  | cons g l ih =>
    obtain ⟨h1, h2⟩ := List.pairwise_cons.1 h
    simp only [sumN]
    rcases List.mem_cons.1 hf with rfl | hf
    · rw [if_pos rfl, sumN_not, Int.add_zero]
      intro g hg e
      have := h1 g hg; rw [e] at this; exact List.lt_irrefl _ this
    · rw [if_neg, ih h2 hf, Int.zero_add]
      intro e
      have := h1 f hf; rw [e] at this; exact List.lt_irrefl _ this
theorem times_inc {l : List Fac} (k : Int) (h : Inc l) : Inc (timesL l k) := by
  unfold Inc timesL
  rw [List.pairwise_map]
  exact h
/-- powers of units -/
theorem pow_far {l : List Fac} {k : Nat} (h : checkF l = 0) (hf : (l.any fun f => farB (f.e * (k : Int))) = true) : (normP (repL l k)).2 = 70 := by
  obtain ⟨f, hf, hb⟩ := List.any_eq_true.1 hf
  rw [norm_eq fun g hg => check_words h g (rep_mem hg), if_pos]
  rw [farL_iff]
  exact ⟨f.s, by rw [rep_sum, sum_mem (check_inc h) hf, Int.mul_comm]; exact hb⟩
theorem pow_near {l : List Fac} {k : Nat} (h : checkF l = 0) (hk : k ≠ 0) (hf : (l.any fun f => farB (f.e * (k : Int))) = false) : normP (repL l k) = (timesL l k, 0) := by
  have hn : ∀ f ∈ l, farB (f.e * (k : Int)) = false := fun f hm => by
    cases hb : farB (f.e * (k : Int)) with
    | false => rfl
    | true => rw [List.any_eq_true.2 ⟨f, hm, hb⟩] at hf; cases hf
  have hv : checkF (timesL l k) = 0 := by
    refine check_of (by simpa [timesL] using check_len h) (fun f hm => ?_) (times_inc k (check_inc h))
    obtain ⟨g, hg, rfl⟩ := List.mem_map.1 hm
    obtain ⟨w1, w2, _⟩ := check_mem h g hg
    refine ⟨w1, ?_, by rw [Int.mul_comm]; exact hn g hg⟩
    simp only
    intro e
    rcases Int.mul_eq_zero.1 e with e | e
    · omega
    · exact w2 e
  rw [← norm_valid hv]
  exact norm_congr (fun g hg => check_words h g (rep_mem hg)) (check_words hv) fun s => by rw [rep_sum, sumN_times]
theorem take_name' {l : List Fac} {i : Nat} (h : i < l.length) : takeAt PU 9 (facsL l) i 0 = some (.str l[i].s) := take_name (List.getElem?_eq_getElem h)
theorem take_exp' {l : List Fac} {i : Nat} (h : i < l.length) : takeAt PU 3 (facsL l) i 1 = some (.int .i64 l[i].e) := take_exp (List.getElem?_eq_getElem h)
theorem retF {P : Prop} {b : Bool} (h : b = false) (h2 : b = true) : P := by rw [h] at h2; cases h2
abbrev T8 : List (FuncId × Spec) := [(10, s10), (13, s13), (11, s11)]
set_option maxHeartbeats 1000000 in
theorem p8 (m : Int) (l : List Fac) (n : Nat) (_hl : hugeOk l) (_hn : n < 256) : PureOk PU (GU m) XQ (tbl T8) (itbl []) (a8 l n) [] 8 [.sl 2 (facsL l) .no, .int .u8 n] (.bool true, []) := by
  constructor
  rw [w8]
  have hS : ∀ {S : St}, StIs S S := stIs_iff.2 rfl
  have hV : ∀ {l : List AV}, ValsAre l l := valsAre_iff.2 rfl
  have hlen : ∀ x : List Fac, (facsL x).length = x.length := fun x => List.length_map ..
  have t13 : ∀ x : List Fac, tbl T8 13 [.sl 2 (facsL x) .no] = some (.int .i64 (checkF x), []) := fun x => by unfold T8; rw [tb_miss (by decide), tb_hit, s13, tF]
  have t11 : ∀ x : List Fac, lenOk x → (∀ f ∈ x, iOk f.e) → tbl T8 11 [.sl 2 (facsL x) .no] = some (.tup [.sl 2 (facsL (normP x).1) .no, .int .i64 (normP x).2], []) := fun x h h' => by unfold T8; rw [tb_miss (by decide), tb_miss (by decide), tb_hit, s11, tF, if_pos ⟨h, h'⟩]; rfl
  have hk : (n : Int).tmod 20 = ((n % 20 : Nat) : Int) := (Int.ofNat_tmod n 20).symm
  have hk2 : n % 20 < 20 := Nat.mod_lt _ (by decide)
  have hkw : IntKind.i64.wrap ((n : Int).tmod 20) = ((n % 20 : Nat) : Int) := by rw [hk]; exact wrap64_in (by omega) (by omega)
  rw [hkw, hk]
  simp only [hlen]
  show _ ∧ _
  generalize hq : n % 20 = k at *
  clear hk hkw
  refine ⟨⟨true, callIs_iff.2 rfl, fun _ => ⟨(), hV, hS, trivial, trivial⟩, fun h => (nomatch h)⟩, fun _ _ _ => ⟨_, callIs_iff.2 (t13 l), fun _ => retT, fun hc => ?_⟩⟩
  have hc : checkF l = 0 := by simpa using hc
  have h4 := check_len hc
  have near8 : ∀ f ∈ l, -8 ≤ f.e ∧ f.e ≤ 8 := fun f hf => near (check_mem hc f hf).2.2
  have hrl : ∀ i, i ≤ k → (repL l i).length ≤ 80 := fun i hi => by
    rw [repL_len]
    exact Nat.le_trans (Nat.mul_le_mul hi h4) (by omega)
  refine ⟨⟨0, hV, hS, Nat.zero_le _, trivial⟩, fun x hx => ⟨by decide, fun hlt => ?_, fun hlt => ?_⟩⟩
  · have hlt := of_decide_eq_true hlt
    have := hrl x hx
    have h3 : (repL l (x + 1)).length = (repL l x).length + l.length := by rw [rep_succ, List.length_append]
    refine ⟨.inl trivial, Nat.le_trans (Nat.mul_le_mul_right 25 (show (repL l x).length + l.length ≤ 84 by omega)) (by decide), trivial, x + 1, valsAre_iff.2 ?_, stIs_iff.2 ?_, by omega, by omega⟩
    · have ea : facsL (repL l x) ++ facsL l = facsL (repL l (x + 1)) := by rw [rep_succ]; exact (List.map_append ..).symm
      rw [wrap64_in (by omega) (by omega), ea]; rfl
    · rw [h3]
  · have hlt := of_decide_eq_false hlt
    obtain rfl : x = k := by omega
    have hlo := hrl x (Nat.le_refl _)
    have key := @pow_far l x hc
    have key2 := @pow_near l x hc
    refine ⟨_, _, callIs_iff.2 (t11 _ (by unfold lenOk; omega) fun f hf => by have := near8 f (rep_mem hf); unfold iOk; omega), ?_⟩
    have hl4 := norm_len (repL l x)
    have hz : x = 0 → normP (repL l x) = ([], 0) := fun h => by subst h; exact norm_valid (l := []) rfl
    generalize normP (repL l x) = p at *
    refine ⟨⟨0, hV, hS, Nat.zero_le _, trivial⟩, fun y hy => ⟨fun hb => ⟨fun hlt2 => ?_, fun hlt2 => ⟨fun _ => retT, fun h7 => ?_⟩⟩, fun hb => ⟨fun hlt2 => ?_, fun hlt2 => ⟨by decide, fun hz2 => ⟨fun _ => ⟨fun _ => retT, fun h => ?_⟩, fun h => ?_⟩, fun hz2 => ⟨fun h => ?_, fun h => ⟨fun h5 => ?_, fun h5 => ?_⟩⟩⟩⟩⟩⟩
    · have hlt2 := of_decide_eq_true hlt2
      have hy2 : y < l.length := by omega
      refine ⟨⟨by omega, by omega⟩, _, take_exp' (by simpa using hy2), by decide, y + 1, valsAre_iff.2 ?_, hS, by omega, by omega⟩
      rw [wrap64_in (by omega) (by omega), List.take_add_one, List.any_append, hb]; rfl
    · have hlt2 := of_decide_eq_false hlt2
      obtain rfl : y = l.length := by omega
      rw [List.take_length] at hb
      rw [key hb] at h7; simp at h7
    · have hlt2 := of_decide_eq_true hlt2
      have hy2 : y < l.length := by omega
      have hr := near8 l[y] (List.getElem_mem hy2)
      have hg : l[y]? = some l[y] := List.getElem?_eq_getElem hy2
      refine ⟨⟨by omega, by omega⟩, _, take_exp' (by simpa using hy2), by decide, ?_⟩
      simp only [Int.toNat_natCast]
      have hm1 : l[y].e * (x : Int) ≤ 160 := Int.le_trans (Int.mul_le_mul_of_nonneg_right hr.2 (by omega)) (by omega)
      have hm2 : -160 ≤ l[y].e * (x : Int) := Int.le_trans (by omega) (Int.mul_le_mul_of_nonneg_right hr.1 (by omega))
      have hw : IntKind.i64.wrap (l[y].e * (x : Int)) = l[y].e * (x : Int) := wrap64_in (by omega) (by omega)
      have next : ∀ b : Bool, b = farB (l[y].e * (x : Int)) → ValsAre [AV.sl 2 (facsL l) Own.no, AV.int IntKind.u8 n, AV.bool true, AV.sl 2 (facsL p.1) Own.no, AV.int IntKind.i64 p.2, AV.bool b, AV.int IntKind.i64 (IntKind.i64.wrap ((y : Int) + 1))] [AV.sl 2 (facsL l) Own.no, AV.int IntKind.u8 n, AV.bool true, AV.sl 2 (facsL p.1) Own.no, AV.int IntKind.i64 p.2, AV.bool ((l.take (y + 1)).any fun f => farB (f.e * (x : Int))), AV.int IntKind.i64 ((y + 1 : Nat) : Int)] := fun b hb2 => valsAre_iff.2 (by
        rw [wrap64_in (by omega) (by omega), List.take_add_one, List.any_append, hb, hg, hb2]
        simp)
      refine ⟨fun g => ⟨y + 1, next true ?_, hS, by omega, by omega⟩, fun g => ⟨fun g2 => ⟨y + 1, next true ?_, hS, by omega, by omega⟩, fun g2 => ⟨y + 1, next false ?_, hS, by omega, by omega⟩⟩⟩
      · have h8 := of_decide_eq_true g
        rw [hw] at h8
        symm; exact decide_eq_true (by omega)
      · have h8 := of_decide_eq_true g2
        rw [hw] at h8
        symm; exact decide_eq_true (by omega)
      · have h8 := of_decide_eq_false g
        have h9 := of_decide_eq_false g2
        rw [hw] at h8 h9
        symm; exact decide_eq_false (by omega)
    · have hx0 : x = 0 := by have : (x : Int) = 0 := by simpa using hz2
                             omega
      rw [hz hx0] at h; simp at h
    · have hx0 : x = 0 := by have : (x : Int) = 0 := by simpa using hz2
                             omega
      rw [hz hx0] at h; simp at h
    all_goals
      have hlt2 := of_decide_eq_false hlt2
      obtain rfl : y = l.length := by omega
      rw [List.take_length] at hb
      have hx0 : x ≠ 0 := fun h => by rw [h] at hz2; simp at hz2
      have key3 := key2 hx0 hb
      subst key3
    · simp at h
    · simp [timesL] at h5
    · refine ⟨⟨0, hV, hS, Nat.zero_le _, trivial⟩, fun z hz => ⟨fun hlt3 => ?_, fun _ => retT⟩⟩
      have hlt3 := of_decide_eq_true hlt3
      have hz2 : z < l.length := by omega
      have hz3 : z < (timesL l x).length := by simpa [timesL] using hz2
      have hr := near8 l[z] (List.getElem_mem hz2)
      have hm1 : l[z].e * (x : Int) ≤ 160 := Int.le_trans (Int.mul_le_mul_of_nonneg_right hr.2 (by omega)) (by omega)
      have hm2 : -160 ≤ l[z].e * (x : Int) := Int.le_trans (by omega) (Int.mul_le_mul_of_nonneg_right hr.1 (by omega))
      have e1 : (timesL l x)[z] = ⟨l[z].s, x * l[z].e⟩ := by simp [timesL]
      refine ⟨⟨by omega, Int.ofNat_lt.2 hz3⟩, _, take_name' (by simpa using hz3), ⟨by omega, by omega⟩, _, take_name' (by simpa using hz2), fun g => ?_, fun _ => ⟨⟨by omega, Int.ofNat_lt.2 hz3⟩, _, take_exp' (by simpa using hz3), ⟨by omega, by omega⟩, _, take_exp' (by simpa using hz2), by decide, fun g => ?_, fun _ => ⟨z + 1, valsAre_iff.2 (by rw [wrap64_in (by omega) (by omega)]; rfl), hS, by omega, by omega⟩⟩⟩
      · simp only [Int.toNat_natCast, e1] at g; simp at g
      · simp only [Int.toNat_natCast, e1] at g
        rw [wrap64_in (by omega) (by omega), Int.mul_comm] at g; simp at g
end Go.Abs

namespace Go.Abs
open Go.Proofs Go.RowKit
theorem index1_none {c : UInt8} : ∀ {l : List UInt8}, (∀ x ∈ l, x ≠ c) → Lib.index l [c] = -1
  | [], _ => rfl
  | b :: l, h => by
    have hb : ([c].isPrefixOf (b :: l)) = false := by simp [List.isPrefixOf, Ne.symm (h b (by simp))]
    have ih := index1_none (l := l) fun x hx => h x (by simp [hx])
    unfold Lib.index
    rw [hb, ih]; rfl
theorem index1_at {c : UInt8} (r : List UInt8) : ∀ {a : List UInt8}, (∀ x ∈ a, x ≠ c) → Lib.index (a ++ c :: r) [c] = a.length
  | [], _ => by
    show Lib.index (c :: r) [c] = 0
    unfold Lib.index; simp [List.isPrefixOf]
  | b :: a, h => by
    have hb : ([c].isPrefixOf (b :: (a ++ c :: r))) = false := by simp [List.isPrefixOf, Ne.symm (h b (by simp))]
    have ih := index1_at r (a := a) fun x hx => h x (by simp [hx])
    show Lib.index (b :: (a ++ c :: r)) [c] = _
    unfold Lib.index
    rw [hb, ih]
    have : ((a.length : Int) == -1) = false := by simp
    rw [this]; simp
theorem split_tail {c : UInt8} : ∀ {r : List (List UInt8)} {x : List UInt8} {k : Nat}, (∀ t ∈ x :: r, ∀ d ∈ t, d ≠ c) → r.length ≤ k → Lib.splitK [c] 0 k (x ++ Lib.joinTail [c] r) = x :: r
  | [], x, k, h, _ => by
    have hx := h x (by simp)
    have e : x ++ Lib.joinTail [c] [] = x := by simp [Lib.joinTail]
    rw [e]
    cases k with
    | zero => rfl
    | succ k => unfold Lib.splitK; rw [index1_none hx]; rfl
  | y :: r, x, 0, _, hk => by simp at hk
  | y :: r, x, k + 1, h, hk => by
    have hx := h x (by simp)
    have e : x ++ Lib.joinTail [c] (y :: r) = x ++ c :: (y ++ Lib.joinTail [c] r) := by simp [Lib.joinTail]
    have ih := split_tail (r := r) (x := y) (k := k) (fun t ht => h t (by simp only [List.mem_cons] at ht ⊢; exact .inr ht)) (by simpa using hk)
    rw [e]
    unfold Lib.splitK
    rw [index1_at _ hx]
    have : ((x.length : Int) == -1) = false := by simp
    rw [this]
    simp only [Int.toNat_natCast, List.length_singleton, Nat.add_zero]
    rw [if_neg (by simp), List.take_left, List.drop_append, List.drop_eq_nil_of_le (by omega)]
    simp only [Nat.add_sub_cancel_left, List.drop_succ_cons, List.drop_zero, List.nil_append]
    rw [ih]
theorem tail_len (c : UInt8) : ∀ r : List (List UInt8), r.length ≤ (Lib.joinTail [c] r).length
  | [] => by simp
  | y :: r => by
    have := tail_len c r
    simp only [Lib.joinTail, List.map_cons, List.flatten_cons, List.length_append, List.length_cons, List.length_nil] at *
    omega
theorem exps_ok : ([-8, -7, -6, -5, -4, -3, -2, -1, 0, 1, 2, 3, 4, 5, 6, 7, 8].all fun e : Int => atoiB (Lib.itoa e) && (atoiV (Lib.itoa e) == e) && ((Lib.itoa e).all fun d => d != 42)) = true := by kernel_rfl
theorem exp_text {e : Int} (h : farB e = false) : atoiB (Lib.itoa e) = true ∧ atoiV (Lib.itoa e) = e ∧ ∀ d ∈ Lib.itoa e, d ≠ 42 := by
  have hn := near h
  have := List.all_eq_true.1 exps_ok e (by simp only [List.mem_cons, List.not_mem_nil, or_false]; omega)
  simp only [Bool.and_eq_true, beq_iff_eq, List.all_eq_true, bne_iff_ne] at this
  exact ⟨this.1.1, this.1.2, this.2⟩
theorem word_mem {s : List UInt8} (h : wordB s = true) : s ≠ [] ∧ ∀ d ∈ s, d ≠ 42 ∧ d ≠ 94 := by
  simp only [wordB, Bool.and_eq_true, decide_eq_true_eq, List.all_eq_true] at h
  refine ⟨h.1.1.1, fun d hd => ?_⟩
  have := h.2 d hd
  constructor
  · rintro rfl; revert this; decide
  · rintro rfl; revert this; decide
theorem part_text {f : Fac} (hw : wordB f.s = true) (he : farB f.e = false) : facP (partF f) = some f ∧ partF f ≠ [] ∧ ∀ d ∈ partF f, d ≠ 42 := by
  obtain ⟨hne, hm⟩ := word_mem hw
  obtain ⟨h1, h2, h3⟩ := exp_text he
  by_cases e : f.e = 1
  · have e1 : partF f = f.s := by unfold partF; rw [if_pos e]
    rw [e1]
    have hc : Lib.cut f.s [94] = (f.s, [], false) := by
      unfold Lib.cut; rw [index1_none fun d hd => (hm d hd).2]; rfl
    refine ⟨?_, hne, fun d hd => (hm d hd).1⟩
    unfold facP
    rw [hc, if_neg (by simp), ← e]
  · have e1 : partF f = f.s ++ 94 :: Lib.itoa f.e := by unfold partF; rw [if_neg e]; rfl
    rw [e1]
    have hc : Lib.cut (f.s ++ 94 :: Lib.itoa f.e) [94] = (f.s, Lib.itoa f.e, true) := by
      unfold Lib.cut
      rw [index1_at _ fun d hd => (hm d hd).2, if_pos (by omega)]
      simp only [Int.toNat_natCast, List.length_singleton]
      rw [List.take_left, List.drop_append, List.drop_eq_nil_of_le (by omega)]
      simp
    refine ⟨?_, by simp, fun d hd => ?_⟩
    · unfold facP
      rw [hc, if_pos rfl]
      simp only
      rw [if_pos h1, h2]
    · rcases List.mem_append.1 hd with hd | hd
      · exact (hm d hd).1
      · rcases List.mem_cons.1 hd with rfl | hd
        · decide
        · exact h3 d hd
theorem facsP_parts : ∀ {l : List Fac}, (∀ f ∈ l, facP (partF f) = some f) → facsP (l.map partF) = some l
  | [], _ => rfl
  | f :: l, h => by
    simp only [List.map_cons, facsP]
    rw [h f (by simp), facsP_parts fun g hg => h g (by simp [hg])]
/-- valid units are read back -/
theorem parse_fmt {l : List Fac} (h : checkF l = 0) : parseP (fmtF l) = (l, 0) := by
  have hm := check_mem h
  have h4 := check_len h
  have hp : ∀ f ∈ l, facP (partF f) = some f ∧ partF f ≠ [] ∧ ∀ d ∈ partF f, d ≠ 42 := fun f hf => part_text (hm f hf).1 (hm f hf).2.2
  cases l with
  | nil => rfl
  | cons f r =>
    have e : fmtF (f :: r) = partF f ++ Lib.joinTail [42] (r.map partF) := by unfold fmtF; rw [List.map_cons, Lib.join_cons]
    have hne : fmtF (f :: r) ≠ [] := by
      rw [e]; intro h
      exact (hp f (by simp)).2.1 (List.append_eq_nil_iff.1 h).1
    have hs : Lib.splitN (fmtF (f :: r)) [42] 5 = (f :: r).map partF := by
      unfold Lib.splitN
      have h1 : r.length ≤ (fmtF (f :: r)).length := by
        have := tail_len 42 (r.map partF)
        rw [e, List.length_append]
        rw [List.length_map] at this; omega
      simp only [List.length_cons] at h4
      generalize hk : min 5 ((fmtF (f :: r)).length + 1) - 1 = k
      have hk2 : r.length ≤ k := by omega
      rw [e]
      refine split_tail (fun t ht => ?_) (by simpa using hk2)
      have ht : t ∈ (f :: r).map partF := by simpa using ht
      obtain ⟨g, hg, rfl⟩ := List.mem_map.1 ht
      exact (hp g hg).2.2
    unfold parseP
    rw [if_neg hne, hs, facsP_parts fun g hg => (hp g hg).1]
    simp only [h, and_self, if_true]
theorem fmt_inj {a b : List Fac} (ha : checkF a = 0) (hb : checkF b = 0) (h : fmtF a = fmtF b) : a = b := by
  have h1 := parse_fmt ha
  rw [h, parse_fmt hb] at h1
  exact (congrArg Prod.fst h1).symm
theorem parse_cases (s : List UInt8) : ((parseP s).2 = 0 ∧ checkF (parseP s).1 = 0 ∧ fmtF (parseP s).1 = s) ∨ parseP s = ([], 3) := by
  unfold parseP
  split
  · rename_i h; subst h; exact .inl ⟨rfl, rfl, rfl⟩
  · split
    · exact .inr rfl
    · split
      · rename_i h; exact .inl ⟨rfl, h.1, h.2⟩
      · exact .inr rfl
abbrev T7 : List (FuncId × Spec) := [(10, s10), (13, s13), (20, s39), (21, s21), (23, s23)]
set_option maxHeartbeats 1000000 in
theorem p7 (m : Int) (a b : List Fac) (s : List UInt8) (hs : strOk s) : PureOk PU (GU m) XQ (tbl T7) (itbl []) (a7 a b s) [] 7 [.sl 2 (facsL a) .no, .sl 2 (facsL b) .no, .str s] (.bool true, []) := by
  constructor
  rw [w7]
  have hS : ∀ {S : St}, StIs S S := stIs_iff.2 rfl
  have hV : ∀ {l : List AV}, ValsAre l l := valsAre_iff.2 rfl
  have t13 : ∀ x : List Fac, tbl T7 13 [.sl 2 (facsL x) .no] = some (.int .i64 (checkF x), []) := fun x => by unfold T7; rw [tb_miss (by decide), tb_hit, s13, tF]
  have t20 : ∀ x y : List Fac, x.length ≤ 4 → tbl T7 20 [.sl 2 (facsL x) .no, .sl 2 (facsL y) .no] = some (.bool (decide (x = y)), []) := fun x y hx => by
    unfold T7; rw [tb_miss (by decide), tb_miss (by decide), tb_hit, s39, tF2, if_pos (huge4 hx)]
  have t21 : ∀ t : List UInt8, strOk t → tbl T7 21 [.str t] = some (.tup [.sl 2 (facsL (parseP t).1) .no, .int .i64 (parseP t).2], []) := fun t ht => by
    unfold T7; rw [tb_miss (by decide), tb_miss (by decide), tb_miss (by decide), tb_hit]
    simp only [s21]; rw [if_pos ht]; rfl
  have t23 : ∀ x : List Fac, checkF x = 0 → tbl T7 23 [.sl 2 (facsL x) .no] = some (.str (fmtF x), []) := fun x hx => by
    unfold T7; rw [tb_miss (by decide), tb_miss (by decide), tb_miss (by decide), tb_miss (by decide), tb_hit, s23, tF, if_pos (check_print hx)]
  have eqq : ∀ {n : Int}, (n == 0) = true → n = 0 := fun h => by simpa using h
  have hB : ∀ {p : Prop} [Decidable p] {q : Prop}, decide p = false → p → q := fun h h2 => absurd h2 (of_decide_eq_false h)
  have hlen : ∀ x : List Fac, (facsL x).length = x.length := fun x => List.length_map ..
  refine ⟨⟨true, callIs_iff.2 rfl, fun _ => ⟨(), hV, hS, trivial, trivial⟩, fun h => (nomatch h)⟩, fun _ _ _ => ⟨⟨_, callIs_iff.2 (t13 a), fun ha => ?_, fun _ => ⟨(), hV, hS, trivial, trivial⟩⟩, fun _ _ _ => ?_⟩⟩
  · have ha := eqq ha
    have hso : strOk (fmtF a) := by have := fmt_len (check_print ha); unfold strOk; omega
    refine ⟨_, callIs_iff.2 (t23 a ha), _, _, callIs_iff.2 (t21 _ hso), ?_⟩
    rw [parse_fmt ha]
    refine ⟨⟨fun h => by simp at h, fun _ => ⟨_, callIs_iff.2 (t20 a a (check_len ha)), fun _ => ⟨(), hV, hS, ha, trivial⟩, fun h => hB h rfl⟩⟩, fun _ _ _ => ⟨_, callIs_iff.2 (t13 b), fun hb => ?_, fun _ => ⟨(), hV, hS, trivial, trivial⟩⟩⟩
    have hb := eqq hb
    refine ⟨_, callIs_iff.2 (t23 a ha), _, callIs_iff.2 (t23 b hb), fun h => ⟨_, callIs_iff.2 (t20 a b (check_len ha)), fun _ => ⟨fun h => (nomatch h), fun _ => ⟨(), hV, hS, trivial, trivial⟩⟩, fun h2 => hB h2 (fmt_inj ha hb (by simpa using h))⟩, fun h => ⟨_, callIs_iff.2 (t20 a b (check_len ha)), fun h2 => ?_, fun _ => ⟨fun h => (nomatch h), fun _ => ⟨(), hV, hS, trivial, trivial⟩⟩⟩⟩
    rw [of_decide_eq_true h2] at h; simp at h
  · refine ⟨_, _, callIs_iff.2 (t21 s hs), ?_⟩
    rcases parse_cases s with ⟨h1, h2, h3⟩ | h
    · refine ⟨fun _ => ⟨_, callIs_iff.2 (t13 _), fun _ => ⟨_, callIs_iff.2 (t23 _ h2), fun _ => retT, fun h => ?_⟩, fun h => ?_⟩, fun h => ?_⟩
      · rw [h3] at h; simp at h
      · rw [h2] at h; simp at h
      · rw [h1] at h; simp at h
    · rw [h]
      exact ⟨fun h => by simp at h, fun _ => ⟨fun _ => ⟨fun _ => retT, fun h => by simp at h⟩, fun h => by simp at h⟩⟩
end Go.Abs

namespace Go.Abs
open Go.Proofs Go.RowKit
theorem o9 (m : Int) : SpecOk PU (GU m) 9 s9 := spec_ofW (X := XQ) (m := []) [2, 2] mixedU (tbl_cons (o10 m) (tbl_cons (o16 m) (tbl_cons (o18 m) (tbl_cons (o25 m) tbl_nil)))) itbl_nil fun args r h' => by
  unfold s9 at h'
  split at h'
  · split at h'
    · rename_i sz es o sz' es' o' s hz
      cases hu : unL unF es with
      | none => rw [hu] at h'; cases h'
      | some l =>
        cases hu' : unL unF es' with
        | none => rw [hu, hu'] at h'; cases h'
        | some k =>
          rw [hu, hu'] at h'
          simp only [Option.bind_some] at h'
          split at h'
          · rename_i hl
            injection h' with h'; subst h'
            simp only [wkL, wkF hz.1 hu, wkF hz.2 hu']
            exact ⟨_, p9 m l k s hl.1 hl.2⟩
          · cases h'
    · cases h'
  · cases h'
theorem o7 (m : Int) : SpecOk PU (GU m) 7 s7 := spec_ofW (X := XQ) (m := []) [2, 2] mixedU (tbl_cons (o10 m) (tbl_cons (o13 m) (tbl_cons (o20 m) (tbl_cons (o21 m) (tbl_cons (o23 m) tbl_nil))))) itbl_nil fun args r h' => by
  unfold s7 at h'
  split at h'
  · split at h'
    · rename_i sz es o sz' es' o' s hz
      cases hu : unL unF es with
      | none => rw [hu] at h'; cases h'
      | some l =>
        cases hu' : unL unF es' with
        | none => rw [hu, hu'] at h'; cases h'
        | some k =>
          rw [hu, hu'] at h'
          simp only [Option.bind_some] at h'
          split at h'
          · injection h' with h'; subst h'
            simp only [wkL, wkF hz.1 hu, wkF hz.2.1 hu']
            exact ⟨_, p7 m l k s hz.2.2⟩
          · cases h'
    · cases h'
  · cases h'
theorem o6 (m : Int) : SpecOk PU (GU m) 6 s6 := spec_ofW (X := XQ) (m := []) [2, 2, 2] mixedU (tbl_cons (o10 m) (tbl_cons (o13 m) (tbl_cons (o16 m) (tbl_cons (o18 m) (tbl_cons (o20 m) tbl_nil))))) itbl_nil fun args r h' => by
  unfold s6 at h'
  split at h'
  · split at h'
    · rename_i sz es o sz' es' o' sz'' es'' o'' hz
      cases hu : unL unF es with
      | none => rw [hu] at h'; cases h'
      | some l =>
        cases hu' : unL unF es' with
        | none => rw [hu, hu'] at h'; cases h'
        | some k =>
          cases hu'' : unL unF es'' with
          | none => rw [hu, hu', hu''] at h'; cases h'
          | some q =>
            rw [hu, hu', hu''] at h'
            simp only [Option.bind_some] at h'
            split at h'
            · injection h' with h'; subst h'
              simp only [wkL, wkF hz.1 hu, wkF hz.2.1 hu', wkF hz.2.2 hu'']
              exact ⟨_, p6 m l k q⟩
            · cases h'
    · cases h'
  · cases h'
theorem o8 (m : Int) : SpecOk PU (GU m) 8 s8 := spec_ofW (X := XQ) (m := []) [2] mixedU (tbl_cons (o10 m) (tbl_cons (o13 m) (tbl_cons (o11 m) tbl_nil))) itbl_nil fun args r h' => by
  unfold s8 at h'
  split at h'
  · split at h'
    · rename_i sz es o n hz
      obtain ⟨hz, hn0, hn1⟩ := hz
      obtain ⟨k, rfl⟩ := Int.eq_ofNat_of_zero_le hn0
      cases hu : unL unF es with
      | none => rw [hu] at h'; cases h'
      | some l =>
        rw [hu] at h'
        simp only [Option.bind_some] at h'
        split at h'
        · rename_i hl
          injection h' with h'; subst h'
          simp only [wkL, wkF hz hu]
          exact ⟨_, p8 m l k hl (by omega)⟩
        · cases h'
    · cases h'
  · cases h'
theorem s9_true (a b : List Fac) (s : List UInt8) (h : hugeOk a) (h' : hugeOk b) : s9 [.sl 2 (facsL a) .no, .sl 2 (facsL b) .no, .str s] = some (.bool true, []) := by
  simp only [s9, true_or, and_self, if_true, unFs, Option.bind_some]; rw [if_pos ⟨h, h'⟩]
theorem s7_true (a b : List Fac) (s : List UInt8) (h : hugeOk a) (h' : hugeOk b) (hs : strOk s) : s7 [.sl 2 (facsL a) .no, .sl 2 (facsL b) .no, .str s] = some (.bool true, []) := by
  simp only [s7, true_or, true_and]; rw [if_pos hs, unFs, unFs]; simp only [Option.bind_some]; rw [if_pos ⟨h, h'⟩]
theorem s6_true (a b c : List Fac) (h : hugeOk a) (h' : hugeOk b) (h'' : hugeOk c) : s6 [.sl 2 (facsL a) .no, .sl 2 (facsL b) .no, .sl 2 (facsL c) .no] = some (.bool true, []) := by
  simp only [s6, true_or, and_self, if_true, unFs, Option.bind_some]; rw [if_pos ⟨h, h', h''⟩]
theorem s8_true (a : List Fac) (n : Int) (h : hugeOk a) (h0 : 0 ≤ n ∧ n < 256) : s8 [.sl 2 (facsL a) .no, .int .u8 n] = some (.bool true, []) := by
  simp only [s8, true_or, true_and]; rw [if_pos h0, unFs]; simp only [Option.bind_some]; rw [if_pos h]
end Go.Abs

namespace Go.Abs
open Go.Proofs Go.RowKit
/-- digits in base 65536, of negative numbers in the two's complement -/
def keptDig (n : Nat) (x : Int) : List Int := (List.range n).map fun i => x / (65536 : Int) ^ i % 65536
def valB : List Int → Int
  | [] => 0
  | d :: r => d + 65536 * valB r
abbrev intsA (l : List Int) : List AV := l.map (AV.int .i64)
def unI : AV → Option Int
  | .int .i64 n => some n
  | _ => none
theorem unI_some {x : AV} {n : Int} (h : unI x = some n) : x = .int .i64 n := by
  unfold unI at h
  split at h
  · injection h with h; subst h; rfl
  · cases h
theorem unIs (l : List Int) : unL unI (intsA l) = some l := unL_mk (g := AV.int .i64) (fun _ => rfl) l
theorem unIs_some {es : List AV} {l : List Int} (h : unL unI es = some l) : es = intsA l := unL_some (fun _ _ h => unI_some h) h
/-- eight digits -/
def dOk (l : List Int) : Prop := l.length = 8 ∧ ∀ d ∈ l, 0 ≤ d ∧ d < 65536
/-- eight numbers that are not great -/
def cOk (l : List Int) : Prop := l.length = 8 ∧ ∀ d ∈ l, -1000000000000 ≤ d ∧ d ≤ 1000000000000
instance (l : List Int) : Decidable (dOk l) := inferInstanceAs (Decidable (_ ∧ _))
instance (l : List Int) : Decidable (cOk l) := inferInstanceAs (Decidable (_ ∧ _))
def s67 : Spec := fun args => match args with
  | [.agg [.int .i64 h, .int .u64 l]] => if wOk h l then some (.sl 1 (intsA (keptDig 8 (wv h l))) (.tok 0), [(8, 3)]) else none
  | _ => none
def s69 : Spec := fun args => match args with
  | [.sl sz es _] => if sz = 1 then (unL unI es).bind fun l => if cOk l then some (.sl 1 (intsA (keptDig 8 (valB l))) (.tok 0), [(8, 3)]) else none else none
  | _ => none
def s68 : Spec := fun args => match args with
  | [.sl sz es _] => if sz = 1 then (unL unI es).bind fun l => if dOk l then some (wideA (valB l), []) else none else none
  | _ => none
def s72 : Spec := fun args => match args with
  | [.sl sz es _, .sl sz' es' _] => if sz = 1 ∧ sz' = 1 then (unL unI es).bind fun l => (unL unI es').bind fun r => if dOk l ∧ dOk r then some (.bool (decide (valB l < valB r)), []) else none else none
  | _ => none
def s73 : Spec := fun args => match args with
  | [.sl sz es _, .sl sz' es' _] => if sz = 1 ∧ sz' = 1 then (unL unI es).bind fun l => (unL unI es').bind fun r => if dOk l ∧ dOk r then some (.sl 1 (intsA (keptDig 8 (valB l - valB r))) (.tok 0), [(8, 3)]) else none else none
  | _ => none
def s71 : Spec := fun args => match args with
  | [.sl sz es _, .int .i64 n] => if sz = 1 ∧ 0 ≤ n ∧ n ≤ 1 then (unL unI es).bind fun l => if dOk l then some (.sl 1 (intsA (keptDig 8 (2 * valB l + n))) (.tok 0), [(8, 3)]) else none else none
  | _ => none
abbrev s51 : Spec := s29
abbrev s52 : Spec := s28
abbrev s122 : Spec := s97
abbrev s98 : Spec := s65
def absI (x : Int) : Int := x.natAbs
def s70 : Spec := fun args => match args with
  | [.agg [.int .i64 h, .int .u64 l]] => if wOk h l then some (.sl 1 (intsA (keptDig 8 (absI (wv h l)))) (.tok 0), [(8, 3)]) else none
  | _ => none
abbrev s53 : Spec := s31
def shD : Sh × Option TypeId := (.val (.one (.sl 1 (.tok 0))), some 3)
def XD : Shapes := fun f => match f with
  | 67 | 69 | 70 | 71 | 73 => some shD
  | 68 | 51 | 52 | 98 | 122 => some shW
  | 72 => some shB
  | 53 => some shIB
  | _ => none
def hiZ (h : Int) : Int := h % 18446744073709551616
def a67 (h l : Int) : Anns := ⟨fun k => match k with
  | 5 => some { α := Nat, slots := [3, 4, 5, 6], nb := 1, vals := fun i => [.sl 1 (intsA (keptDig i l)) (.tok 0), .int .u64 (l / (65536 : Int) ^ i), .int .u64 (hiZ h), .int .i64 i], sS := fun i => ⟨[some [.int .i64 h, .int .u64 l]], [((keptDig i l).length, 3)]⟩, I := fun i => i ≤ 4, μ := fun i => 4 - i, mint := [(3, 3)] }
  | 10 => some { α := Nat, slots := [3, 5, 7], nb := 1, vals := fun i => [.sl 1 (intsA (keptDig 4 l ++ keptDig i (hiZ h))) (.tok 0), .int .u64 (hiZ h / (65536 : Int) ^ i), .int .i64 i], sS := fun i => ⟨[some [.int .i64 h, .int .u64 l]], [((keptDig 4 l ++ keptDig i (hiZ h)).length, 3)]⟩, I := fun i => i ≤ 4, μ := fun i => 4 - i }
  | _ => none, nA⟩
def a69 (l : List Int) : Anns := ⟨fun k => match k with
  | 4 => some { α := Nat, slots := [0, 3, 4, 5], nb := 0, vals := fun i => [.sl 1 (intsA l) .no, .sl 1 (intsA (keptDig i (valB l))) (.tok 0), .int .i64 (valB (l.take i) / (65536 : Int) ^ i), .int .i64 i], sS := fun i => ⟨[], [((keptDig i (valB l)).length, 3)]⟩, I := fun i => i ≤ 8, μ := fun i => 8 - i, mint := [(3, 3)] }
  | _ => none, nA⟩
def a68 (l : List Int) : Anns := ⟨fun k => match k with
  | 4 => some { α := Nat, slots := [0, 2, 3, 4, 5], nb := 1, vals := fun j => [.sl 1 (intsA l) .no, .ptr 0 0, .int .u64 (valB ((l.take 4).drop (4 - j))), .int .u64 (valB ((l.drop 4).drop (4 - j))), .int .i64 (3 - (j : Int))], sS := fun _ => ⟨[some [.int .i64 0, .int .u64 0]], []⟩, I := fun j => j ≤ 4, μ := fun j => 4 - j }
  | _ => none, nA⟩
def a72 (l r : List Int) : Anns := ⟨fun k => match k with
  | 2 => some { α := Nat, slots := [0, 1, 5], nb := 0, vals := fun j => [.sl 1 (intsA l) .no, .sl 1 (intsA r) .no, .int .i64 (7 - (j : Int))], sS := fun _ => ⟨[], []⟩, I := fun j => j ≤ 8 ∧ l.drop (8 - j) = r.drop (8 - j), μ := fun j => 8 - j }
  | _ => none, nA⟩
def subL (l r : List Int) : List Int := (l.zip r).map fun p => p.1 - p.2
def a73 (l r : List Int) : Anns := ⟨fun k => match k with
  | 3 => some { α := Nat, slots := [0, 1, 5, 6], nb := 0, vals := fun i => [.sl 1 (intsA l) .no, .sl 1 (intsA r) .no, .sl 1 (intsA ((subL l r).take i)) (.tok 0), .int .i64 i], sS := fun i => ⟨[], [(((subL l r).take i).length, 3)]⟩, I := fun i => i ≤ 8, μ := fun i => 8 - i, mint := [(5, 3)] }
  | _ => none, nA⟩
end Go.Abs

namespace Go.Abs
open Go.Proofs Go.RowKit
theorem w51 (G : Glob) (n : Int) : (pureW PU G XD (tbl []) (itbl []) nAn [] 51 [.int .i64 n] (wideA n, [])) =
((decide (n < (0 : Int)) = true →
    RetIs (AV.agg [AV.int IntKind.i64 (-1 : Int), AV.int IntKind.u64 (IntKind.u64.wrap n)]) []
      (AV.agg [AV.int IntKind.i64 (IntKind.i64.wrap (n / (18446744073709551616 : Int))), AV.int IntKind.u64 (n % (18446744073709551616 : Int))], [])) ∧
  (decide (n < (0 : Int)) = false →
    RetIs (AV.agg [AV.int IntKind.i64 (0 : Int), AV.int IntKind.u64 (IntKind.u64.wrap n)]) []
      (AV.agg [AV.int IntKind.i64 (IntKind.i64.wrap (n / (18446744073709551616 : Int))), AV.int IntKind.u64 (n % (18446744073709551616 : Int))], []))) := by kernel_rfl
theorem w67 (G : Glob) (h l : Int) : (pureW PU G XD (tbl []) (itbl []) (a67 h l) [] 67 [.agg [.int .i64 h, .int .u64 l]] (.sl 1 (intsA (keptDig 8 (wv h l))) (.tok 0), [(8, 3)])) =
((∃ (y : Nat),
    ValsAre [AV.sl (nat_lit 1) [] (Own.tok (0 : Nat)), AV.int IntKind.u64 l, AV.int IntKind.u64 (IntKind.u64.wrap h), AV.int IntKind.i64 (0 : Int)]
        [AV.sl (nat_lit 1) (intsA (keptDig y l)) (Own.tok (nat_lit 0)), AV.int IntKind.u64 (l / (65536 : Int) ^ y), AV.int IntKind.u64 (hiZ h),
 AV.int IntKind.i64 (↑y : Int)] ∧
      StIs { boxes := [some [AV.int IntKind.i64 h, AV.int IntKind.u64 l]], live := [(nat_lit 0, nat_lit 3)] }
 { boxes := [some [AV.int IntKind.i64 h, AV.int IntKind.u64 l]], live := [((keptDig y l).length, nat_lit 3)] } ∧
        y ≤ (4 : Nat) ∧ True) ∧
  ∀ (x : Nat),
    x ≤ (4 : Nat) →
      (decide ((↑x : Int) < (4 : Int)) = true →
 (65536 : Int) ≠ (0 : Int) ∧
 (nat_lit 1 = nat_lit 1 ∨ intsA (keptDig x l) = []) ∧
 ((intsA (keptDig x l)).length + (1 : Nat)) * nat_lit 9 ≤ nat_lit 70368744177664 ∧
 (keptDig x l).length = (intsA (keptDig x l)).length ∧
 (65536 : Int) ≠ (0 : Int) ∧
 ∃ (y : Nat),
 ValsAre
 [AV.sl (nat_lit 1) (intsA (keptDig x l) ++ [AV.int IntKind.i64 (IntKind.i64.wrap ((l / (65536 : Int) ^ x).tmod (65536 : Int)))])
 (Own.tok (nat_lit 0)),
 AV.int IntKind.u64 (IntKind.u64.wrap ((l / (65536 : Int) ^ x).tdiv (65536 : Int))), AV.int IntKind.u64 (hiZ h),
 AV.int IntKind.i64 (IntKind.i64.wrap ((↑x : Int) + (1 : Int)))]
 [AV.sl (nat_lit 1) (intsA (keptDig y l)) (Own.tok (nat_lit 0)), AV.int IntKind.u64 (l / (65536 : Int) ^ y),
 AV.int IntKind.u64 (hiZ h), AV.int IntKind.i64 (↑y : Int)] ∧
 StIs { boxes := [some [AV.int IntKind.i64 h, AV.int IntKind.u64 l]], live := [((intsA (keptDig x l)).length + nat_lit 1, nat_lit 3)] }
 { boxes := [some [AV.int IntKind.i64 h, AV.int IntKind.u64 l]], live := [((keptDig y l).length, nat_lit 3)] } ∧
 y ≤ (4 : Nat) ∧ nat_lit 4 - y < nat_lit 4 - x) ∧
        (decide ((↑x : Int) < (4 : Int)) = false →
 (∃ (y : Nat),
 ValsAre [AV.sl (nat_lit 1) (intsA (keptDig x l)) (Own.tok (nat_lit 0)), AV.int IntKind.u64 (hiZ h), AV.int IntKind.i64 (0 : Int)]
 [AV.sl (nat_lit 1) (intsA (keptDig (4 : Nat) l ++ keptDig y (hiZ h))) (Own.tok (nat_lit 0)), AV.int IntKind.u64 (hiZ h / (65536 : Int) ^ y),
 AV.int IntKind.i64 (↑y : Int)] ∧
 StIs { boxes := [some [AV.int IntKind.i64 h, AV.int IntKind.u64 l]], live := [((keptDig x l).length, nat_lit 3)] }
 { boxes := [some [AV.int IntKind.i64 h, AV.int IntKind.u64 l]], live := [((keptDig (4 : Nat) l ++ keptDig y (hiZ h)).length, nat_lit 3)] } ∧
 y ≤ (4 : Nat) ∧ True) ∧
 ∀ (x : Nat),
 x ≤ (4 : Nat) →
 (decide ((↑x : Int) < (4 : Int)) = true →
 (65536 : Int) ≠ (0 : Int) ∧
 (nat_lit 1 = nat_lit 1 ∨ intsA (keptDig (4 : Nat) l ++ keptDig x (hiZ h)) = []) ∧
 ((intsA (keptDig (4 : Nat) l ++ keptDig x (hiZ h))).length + (1 : Nat)) * nat_lit 9 ≤ nat_lit 70368744177664 ∧
 (keptDig (4 : Nat) l ++ keptDig x (hiZ h)).length = (intsA (keptDig (4 : Nat) l ++ keptDig x (hiZ h))).length ∧
 (65536 : Int) ≠ (0 : Int) ∧
 ∃ (y : Nat),
 ValsAre
 [AV.sl (nat_lit 1)
 (intsA (keptDig (4 : Nat) l ++ keptDig x (hiZ h)) ++
 [AV.int IntKind.i64 (IntKind.i64.wrap ((hiZ h / (65536 : Int) ^ x).tmod (65536 : Int)))])
 (Own.tok (nat_lit 0)),
 AV.int IntKind.u64 (IntKind.u64.wrap ((hiZ h / (65536 : Int) ^ x).tdiv (65536 : Int))),
 AV.int IntKind.i64 (IntKind.i64.wrap ((↑x : Int) + (1 : Int)))]
 [AV.sl (nat_lit 1) (intsA (keptDig (4 : Nat) l ++ keptDig y (hiZ h))) (Own.tok (nat_lit 0)),
 AV.int IntKind.u64 (hiZ h / (65536 : Int) ^ y), AV.int IntKind.i64 (↑y : Int)] ∧
 StIs
 { boxes := [some [AV.int IntKind.i64 h, AV.int IntKind.u64 l]], live := [((intsA (keptDig (4 : Nat) l ++ keptDig x (hiZ h))).length + nat_lit 1, nat_lit 3)] }
 { boxes := [some [AV.int IntKind.i64 h, AV.int IntKind.u64 l]], live := [((keptDig (4 : Nat) l ++ keptDig y (hiZ h)).length, nat_lit 3)] } ∧
 y ≤ (4 : Nat) ∧ nat_lit 4 - y < nat_lit 4 - x) ∧
 (decide ((↑x : Int) < (4 : Int)) = false →
 ((keptDig (4 : Nat) l ++ keptDig x (hiZ h)).length, nat_lit 3).fst = (intsA (keptDig (4 : Nat) l ++ keptDig x (hiZ h))).length ∧
 RetIs (AV.sl (nat_lit 1) (intsA (keptDig (4 : Nat) l ++ keptDig x (hiZ h))) (Own.tok (nat_lit 0)))
 [((keptDig (4 : Nat) l ++ keptDig x (hiZ h)).length, nat_lit 3)]
 (AV.sl (nat_lit 1)
 [AV.int IntKind.i64 (wv h l / (1 : Int) % (65536 : Int)), AV.int IntKind.i64 (wv h l / (65536 : Int) % (65536 : Int)),
 AV.int IntKind.i64 (wv h l / (4294967296 : Int) % (65536 : Int)),
 AV.int IntKind.i64 (wv h l / (281474976710656 : Int) % (65536 : Int)),
 AV.int IntKind.i64 (wv h l / (18446744073709551616 : Int) % (65536 : Int)),
 AV.int IntKind.i64 (wv h l / (1208925819614629174706176 : Int) % (65536 : Int)),
 AV.int IntKind.i64 (wv h l / (79228162514264337593543950336 : Int) % (65536 : Int)),
 AV.int IntKind.i64 (wv h l / (5192296858534827628530496329220096 : Int) % (65536 : Int))]
 (Own.tok (nat_lit 0)),
 [(nat_lit 8, nat_lit 3)])))) := by kernel_rfl
theorem w69 (G : Glob) (l : List Int) : (pureW PU G XD (tbl []) (itbl []) (a69 l) [] 69 [.sl 1 (intsA l) .no] (.sl 1 (intsA (keptDig 8 (valB l))) (.tok 0), [(8, 3)])) =
((∃ (y : Nat),
    ValsAre [AV.sl (nat_lit 1) (intsA l) Own.no, AV.sl (nat_lit 1) [] (Own.tok (nat_lit 0)), AV.int IntKind.i64 (0 : Int), AV.int IntKind.i64 (0 : Int)]
        [AV.sl (nat_lit 1) (intsA l) Own.no, AV.sl (nat_lit 1) (intsA (keptDig y (valB l))) (Own.tok (nat_lit 0)),
 AV.int IntKind.i64 (valB (List.take y l) / (65536 : Int) ^ y), AV.int IntKind.i64 (↑y : Int)] ∧
      StIs { boxes := [], live := [(nat_lit 0, nat_lit 3)] } { boxes := [], live := [((keptDig y (valB l)).length, nat_lit 3)] } ∧ y ≤ (8 : Nat) ∧ True) ∧
  ∀ (x : Nat),
    x ≤ (8 : Nat) →
      (decide ((↑x : Int) < (8 : Int)) = true →
 ((0 : Int) ≤ (↑x : Int) ∧ (↑x : Int) < (↑(intsA l).length : Int)) ∧
 ∃ (n : Int),
 takeAt PU (nat_lit 3) (intsA l) (↑x : Int).toNat (nat_lit 0) = some (AV.int IntKind.i64 n) ∧
 (65536 : Int) ≠ (0 : Int) ∧
 (65536 : Int) ≠ (0 : Int) ∧
 (decide ((IntKind.i64.wrap (n + valB (List.take x l) / (65536 : Int) ^ x)).tmod (65536 : Int) < (0 : Int)) = true →
 (nat_lit 1 = nat_lit 1 ∨ intsA (keptDig x (valB l)) = []) ∧
 ((intsA (keptDig x (valB l))).length + (1 : Nat)) * nat_lit 9 ≤ nat_lit 70368744177664 ∧
 (keptDig x (valB l)).length = (intsA (keptDig x (valB l))).length ∧
 ∃ (y : Nat),
 ValsAre
 [AV.sl (nat_lit 1) (intsA l) Own.no,
 AV.sl (nat_lit 1)
 (intsA (keptDig x (valB l)) ++
 [AV.int IntKind.i64
 (IntKind.i64.wrap
 ((IntKind.i64.wrap (n + valB (List.take x l) / (65536 : Int) ^ x)).tmod (65536 : Int) + (65536 : Int)))])
 (Own.tok (nat_lit 0)),
 AV.int IntKind.i64
 (IntKind.i64.wrap
 (IntKind.i64.wrap ((IntKind.i64.wrap (n + valB (List.take x l) / (65536 : Int) ^ x)).tdiv (65536 : Int)) -
 (1 : Int))),
 AV.int IntKind.i64 (IntKind.i64.wrap ((↑x : Int) + (1 : Int)))]
 [AV.sl (nat_lit 1) (intsA l) Own.no, AV.sl (nat_lit 1) (intsA (keptDig y (valB l))) (Own.tok (nat_lit 0)),
 AV.int IntKind.i64 (valB (List.take y l) / (65536 : Int) ^ y), AV.int IntKind.i64 (↑y : Int)] ∧
 StIs { boxes := [], live := [((intsA (keptDig x (valB l))).length + nat_lit 1, nat_lit 3)] }
 { boxes := [], live := [((keptDig y (valB l)).length, nat_lit 3)] } ∧
 y ≤ (8 : Nat) ∧ nat_lit 8 - y < nat_lit 8 - x) ∧
 (decide ((IntKind.i64.wrap (n + valB (List.take x l) / (65536 : Int) ^ x)).tmod (65536 : Int) < (0 : Int)) = false →
 (nat_lit 1 = nat_lit 1 ∨ intsA (keptDig x (valB l)) = []) ∧
 ((intsA (keptDig x (valB l))).length + (1 : Nat)) * nat_lit 9 ≤ nat_lit 70368744177664 ∧
 (keptDig x (valB l)).length = (intsA (keptDig x (valB l))).length ∧
 ∃ (y : Nat),
 ValsAre
 [AV.sl (nat_lit 1) (intsA l) Own.no,
 AV.sl (nat_lit 1)
 (intsA (keptDig x (valB l)) ++
 [AV.int IntKind.i64 ((IntKind.i64.wrap (n + valB (List.take x l) / (65536 : Int) ^ x)).tmod (65536 : Int))])
 (Own.tok (nat_lit 0)),
 AV.int IntKind.i64
 (IntKind.i64.wrap ((IntKind.i64.wrap (n + valB (List.take x l) / (65536 : Int) ^ x)).tdiv (65536 : Int))),
 AV.int IntKind.i64 (IntKind.i64.wrap ((↑x : Int) + (1 : Int)))]
 [AV.sl (nat_lit 1) (intsA l) Own.no, AV.sl (nat_lit 1) (intsA (keptDig y (valB l))) (Own.tok (nat_lit 0)),
 AV.int IntKind.i64 (valB (List.take y l) / (65536 : Int) ^ y), AV.int IntKind.i64 (↑y : Int)] ∧
 StIs { boxes := [], live := [((intsA (keptDig x (valB l))).length + nat_lit 1, nat_lit 3)] }
 { boxes := [], live := [((keptDig y (valB l)).length, nat_lit 3)] } ∧
 y ≤ (8 : Nat) ∧ nat_lit 8 - y < nat_lit 8 - x)) ∧
        (decide ((↑x : Int) < (8 : Int)) = false →
 ((keptDig x (valB l)).length, nat_lit 3).fst = (intsA (keptDig x (valB l))).length ∧
 RetIs (AV.sl (nat_lit 1) (intsA (keptDig x (valB l))) (Own.tok (nat_lit 0))) [((keptDig x (valB l)).length, nat_lit 3)]
 (AV.sl (nat_lit 1)
 [AV.int IntKind.i64 (valB l / (1 : Int) % (65536 : Int)), AV.int IntKind.i64 (valB l / (65536 : Int) % (65536 : Int)),
 AV.int IntKind.i64 (valB l / (4294967296 : Int) % (65536 : Int)), AV.int IntKind.i64 (valB l / (281474976710656 : Int) % (65536 : Int)),
 AV.int IntKind.i64 (valB l / (18446744073709551616 : Int) % (65536 : Int)),
 AV.int IntKind.i64 (valB l / (1208925819614629174706176 : Int) % (65536 : Int)),
 AV.int IntKind.i64 (valB l / (79228162514264337593543950336 : Int) % (65536 : Int)),
 AV.int IntKind.i64 (valB l / (5192296858534827628530496329220096 : Int) % (65536 : Int))]
 (Own.tok (nat_lit 0)),
 [(nat_lit 8, nat_lit 3)]))) := by kernel_rfl
theorem w68 (G : Glob) (l : List Int) : (pureW PU G XD (tbl []) (itbl []) (a68 l) [] 68 [.sl 1 (intsA l) .no] (wideA (valB l), [])) =
((∃ (y : Nat),
    ValsAre
        [AV.sl (nat_lit 1) (intsA l) Own.no, AV.ptr (nat_lit 0) (nat_lit 0), AV.int IntKind.u64 (0 : Int), AV.int IntKind.u64 (0 : Int),
 AV.int IntKind.i64 (3 : Int)]
        [AV.sl (nat_lit 1) (intsA l) Own.no, AV.ptr (nat_lit 0) (nat_lit 0), AV.int IntKind.u64 (valB (List.drop (nat_lit 4 - y) (List.take (nat_lit 4) l))),
 AV.int IntKind.u64 (valB (List.drop (nat_lit 4 - y) (List.drop (nat_lit 4) l))), AV.int IntKind.i64 ((3 : Int) - (↑y : Int))] ∧
      StIs { boxes := [some [AV.int IntKind.i64 (0 : Int), AV.int IntKind.u64 (0 : Int)]], live := [] }
 { boxes := [some [AV.int IntKind.i64 (0 : Int), AV.int IntKind.u64 (0 : Int)]], live := [] } ∧
        y ≤ (4 : Nat) ∧ True) ∧
  ∀ (x : Nat),
    x ≤ (4 : Nat) →
      (decide ((3 : Int) - (↑x : Int) ≥ (0 : Int)) = true →
 ((0 : Int) ≤ (3 : Int) - (↑x : Int) ∧ (3 : Int) - (↑x : Int) < (↑(intsA l).length : Int)) ∧
 ∃ (n : Int),
 takeAt PU (nat_lit 3) (intsA l) ((3 : Int) - (↑x : Int)).toNat (nat_lit 0) = some (AV.int IntKind.i64 n) ∧
 ((0 : Int) ≤ IntKind.i64.wrap ((3 : Int) - (↑x : Int) + (4 : Int)) ∧
 IntKind.i64.wrap ((3 : Int) - (↑x : Int) + (4 : Int)) < (↑(intsA l).length : Int)) ∧
 ∃ (n_1 : Int),
 takeAt PU (nat_lit 3) (intsA l) (IntKind.i64.wrap ((3 : Int) - (↑x : Int) + (4 : Int))).toNat (nat_lit 0) = some (AV.int IntKind.i64 n_1) ∧
 ∃ (y : Nat),
 ValsAre
 [AV.sl (nat_lit 1) (intsA l) Own.no, AV.ptr (nat_lit 0) (nat_lit 0),
 AV.int IntKind.u64
 (IntKind.u64.wrap
 (IntKind.u64.wrap (valB (List.drop (nat_lit 4 - x) (List.take (nat_lit 4) l)) * (65536 : Int)) + IntKind.u64.wrap n)),
 AV.int IntKind.u64
 (IntKind.u64.wrap
 (IntKind.u64.wrap (valB (List.drop (nat_lit 4 - x) (List.drop (nat_lit 4) l)) * (65536 : Int)) + IntKind.u64.wrap n_1)),
 AV.int IntKind.i64 (IntKind.i64.wrap ((3 : Int) - (↑x : Int) - (1 : Int)))]
 [AV.sl (nat_lit 1) (intsA l) Own.no, AV.ptr (nat_lit 0) (nat_lit 0),
 AV.int IntKind.u64 (valB (List.drop (nat_lit 4 - y) (List.take (nat_lit 4) l))),
 AV.int IntKind.u64 (valB (List.drop (nat_lit 4 - y) (List.drop (nat_lit 4) l))), AV.int IntKind.i64 ((3 : Int) - (↑y : Int))] ∧
 StIs { boxes := [some [AV.int IntKind.i64 (0 : Int), AV.int IntKind.u64 (0 : Int)]], live := [] }
 { boxes := [some [AV.int IntKind.i64 (0 : Int), AV.int IntKind.u64 (0 : Int)]], live := [] } ∧
 y ≤ (4 : Nat) ∧ nat_lit 4 - y < nat_lit 4 - x) ∧
        (decide ((3 : Int) - (↑x : Int) ≥ (0 : Int)) = false →
 RetIs
 (AV.agg
 [AV.int IntKind.i64 (IntKind.i64.wrap (valB (List.drop (nat_lit 4 - x) (List.drop (nat_lit 4) l)))),
 AV.int IntKind.u64 (valB (List.drop (nat_lit 4 - x) (List.take (nat_lit 4) l)))])
 []
 (AV.agg [AV.int IntKind.i64 (IntKind.i64.wrap (valB l / (18446744073709551616 : Int))), AV.int IntKind.u64 (valB l % (18446744073709551616 : Int))],
 []))) := by kernel_rfl
theorem w72 (G : Glob) (l r : List Int) : (pureW PU G XD (tbl []) (itbl []) (a72 l r) [] 72 [.sl 1 (intsA l) .no, .sl 1 (intsA r) .no] (.bool (decide (valB l < valB r)), [])) =
((∃ (y : Nat),
    ValsAre [AV.sl (nat_lit 1) (intsA l) Own.no, AV.sl (nat_lit 1) (intsA r) Own.no, AV.int IntKind.i64 (7 : Int)]
        [AV.sl (nat_lit 1) (intsA l) Own.no, AV.sl (nat_lit 1) (intsA r) Own.no, AV.int IntKind.i64 ((7 : Int) - (↑y : Int))] ∧
      StIs { boxes := [], live := [] } { boxes := [], live := [] } ∧ (y ≤ (8 : Nat) ∧ List.drop ((8 : Nat) - y) l = List.drop ((8 : Nat) - y) r) ∧ True) ∧
  ∀ (x : Nat),
    x ≤ (8 : Nat) ∧ List.drop ((8 : Nat) - x) l = List.drop ((8 : Nat) - x) r →
      (decide ((7 : Int) - (↑x : Int) ≥ (0 : Int)) = true →
 ((0 : Int) ≤ (7 : Int) - (↑x : Int) ∧ (7 : Int) - (↑x : Int) < (↑(intsA l).length : Int)) ∧
 ∃ (n : Int),
 takeAt PU (nat_lit 3) (intsA l) ((7 : Int) - (↑x : Int)).toNat (nat_lit 0) = some (AV.int IntKind.i64 n) ∧
 ((0 : Int) ≤ (7 : Int) - (↑x : Int) ∧ (7 : Int) - (↑x : Int) < (↑(intsA r).length : Int)) ∧
 ∃ (n_1 : Int),
 takeAt PU (nat_lit 3) (intsA r) ((7 : Int) - (↑x : Int)).toNat (nat_lit 0) = some (AV.int IntKind.i64 n_1) ∧
 ((n != n_1) = true →
 ((0 : Int) ≤ (7 : Int) - (↑x : Int) ∧ (7 : Int) - (↑x : Int) < (↑(intsA l).length : Int)) ∧
 ∃ (n : Int),
 takeAt PU (nat_lit 3) (intsA l) ((7 : Int) - (↑x : Int)).toNat (nat_lit 0) = some (AV.int IntKind.i64 n) ∧
 ((0 : Int) ≤ (7 : Int) - (↑x : Int) ∧ (7 : Int) - (↑x : Int) < (↑(intsA r).length : Int)) ∧
 ∃ (n_2 : Int),
 takeAt PU (nat_lit 3) (intsA r) ((7 : Int) - (↑x : Int)).toNat (nat_lit 0) = some (AV.int IntKind.i64 n_2) ∧
 (decide (n < n_2) = true → RetIs (AV.bool true) [] (AV.bool (decide (valB l < valB r)), [])) ∧
 (decide (n < n_2) = false → RetIs (AV.bool false) [] (AV.bool (decide (valB l < valB r)), []))) ∧
 ((n != n_1) = false →
 ∃ (y : Nat),
 ValsAre
 [AV.sl (nat_lit 1) (intsA l) Own.no, AV.sl (nat_lit 1) (intsA r) Own.no,
 AV.int IntKind.i64 (IntKind.i64.wrap ((7 : Int) - (↑x : Int) - (1 : Int)))]
 [AV.sl (nat_lit 1) (intsA l) Own.no, AV.sl (nat_lit 1) (intsA r) Own.no, AV.int IntKind.i64 ((7 : Int) - (↑y : Int))] ∧
 StIs { boxes := [], live := [] } { boxes := [], live := [] } ∧
 (y ≤ (8 : Nat) ∧ List.drop ((8 : Nat) - y) l = List.drop ((8 : Nat) - y) r) ∧ nat_lit 8 - y < nat_lit 8 - x)) ∧
        (decide ((7 : Int) - (↑x : Int) ≥ (0 : Int)) = false → RetIs (AV.bool false) [] (AV.bool (decide (valB l < valB r)), []))) := by kernel_rfl
theorem w73 (G : Glob) (l r : List Int) : (pureW PU G XD (tbl [(69, s69)]) (itbl []) (a73 l r) [] 73 [.sl 1 (intsA l) .no, .sl 1 (intsA r) .no] (.sl 1 (intsA (keptDig 8 (valB l - valB r))) (.tok 0), [(8, 3)])) =
((∃ (y : Nat),
    ValsAre [AV.sl (nat_lit 1) (intsA l) Own.no, AV.sl (nat_lit 1) (intsA r) Own.no, AV.sl (nat_lit 1) [] (Own.tok (nat_lit 0)), AV.int IntKind.i64 (0 : Int)]
        [AV.sl (nat_lit 1) (intsA l) Own.no, AV.sl (nat_lit 1) (intsA r) Own.no, AV.sl (nat_lit 1) (intsA (List.take y (subL l r))) (Own.tok (nat_lit 0)),
 AV.int IntKind.i64 (↑y : Int)] ∧
      StIs { boxes := [], live := [(nat_lit 0, nat_lit 3)] } { boxes := [], live := [((List.take y (subL l r)).length, nat_lit 3)] } ∧ y ≤ (8 : Nat) ∧ True) ∧
  ∀ (x : Nat),
    x ≤ (8 : Nat) →
      (decide ((↑x : Int) < (8 : Int)) = true →
 ((0 : Int) ≤ (↑x : Int) ∧ (↑x : Int) < (↑(intsA l).length : Int)) ∧
 ∃ (n : Int),
 takeAt PU (nat_lit 3) (intsA l) (↑x : Int).toNat (nat_lit 0) = some (AV.int IntKind.i64 n) ∧
 ((0 : Int) ≤ (↑x : Int) ∧ (↑x : Int) < (↑(intsA r).length : Int)) ∧
 ∃ (n_1 : Int),
 takeAt PU (nat_lit 3) (intsA r) (↑x : Int).toNat (nat_lit 0) = some (AV.int IntKind.i64 n_1) ∧
 (nat_lit 1 = nat_lit 1 ∨ intsA (List.take x (subL l r)) = []) ∧
 ((intsA (List.take x (subL l r))).length + (1 : Nat)) * nat_lit 9 ≤ nat_lit 70368744177664 ∧
 (List.take x (subL l r)).length = (intsA (List.take x (subL l r))).length ∧
 ∃ (y : Nat),
 ValsAre
 [AV.sl (nat_lit 1) (intsA l) Own.no, AV.sl (nat_lit 1) (intsA r) Own.no,
 AV.sl (nat_lit 1) (intsA (List.take x (subL l r)) ++ [AV.int IntKind.i64 (IntKind.i64.wrap (n - n_1))])
 (Own.tok (nat_lit 0)),
 AV.int IntKind.i64 (IntKind.i64.wrap ((↑x : Int) + (1 : Int)))]
 [AV.sl (nat_lit 1) (intsA l) Own.no, AV.sl (nat_lit 1) (intsA r) Own.no,
 AV.sl (nat_lit 1) (intsA (List.take y (subL l r))) (Own.tok (nat_lit 0)), AV.int IntKind.i64 (↑y : Int)] ∧
 StIs { boxes := [], live := [((intsA (List.take x (subL l r))).length + nat_lit 1, nat_lit 3)] }
 { boxes := [], live := [((List.take y (subL l r)).length, nat_lit 3)] } ∧
 y ≤ (8 : Nat) ∧ nat_lit 8 - y < nat_lit 8 - x) ∧
        (decide ((↑x : Int) < (8 : Int)) = false →
 ∃ (es : List AV),
 CallIs (tbl [(nat_lit 69, s69)] (nat_lit 69) [AV.sl (nat_lit 1) (intsA (List.take x (subL l r))) Own.no])
 (AV.sl (nat_lit 1) es (Own.tok (nat_lit 0))) [(es.length, nat_lit 3)] ∧
 (es.length, nat_lit 3).fst = es.length ∧
 RetIs (AV.sl (nat_lit 1) es (Own.tok (nat_lit 0))) [(es.length, nat_lit 3)]
 (AV.sl (nat_lit 1)
 [AV.int IntKind.i64 ((valB l - valB r) / (1 : Int) % (65536 : Int)),
 AV.int IntKind.i64 ((valB l - valB r) / (65536 : Int) % (65536 : Int)),
 AV.int IntKind.i64 ((valB l - valB r) / (4294967296 : Int) % (65536 : Int)),
 AV.int IntKind.i64 ((valB l - valB r) / (281474976710656 : Int) % (65536 : Int)),
 AV.int IntKind.i64 ((valB l - valB r) / (18446744073709551616 : Int) % (65536 : Int)),
 AV.int IntKind.i64 ((valB l - valB r) / (1208925819614629174706176 : Int) % (65536 : Int)),
 AV.int IntKind.i64 ((valB l - valB r) / (79228162514264337593543950336 : Int) % (65536 : Int)),
 AV.int IntKind.i64 ((valB l - valB r) / (5192296858534827628530496329220096 : Int) % (65536 : Int))]
 (Own.tok (nat_lit 0)),
 [(nat_lit 8, nat_lit 3)]))) := by kernel_rfl
theorem w98 (G : Glob) (h l : Int) : (pureW PU G XD (tbl [(51, s51), (122, s122)]) (itbl []) nAn [] 98 [.agg [.int .i64 h, .int .u64 l]] (wideA (-(wv h l)), [])) =
(∃ (n : Int),
  ∃ (n_1 : Int),
    CallIs (some (AV.agg [AV.int IntKind.i64 (0 : Int), AV.int IntKind.u64 (0 : Int)], [])) (AV.agg [AV.int IntKind.i64 n, AV.int IntKind.u64 n_1]) [] ∧
      ∃ (n_2 : Int),
        ∃ (n_3 : Int),
 CallIs
 (tbl [(nat_lit 51, s51), (nat_lit 122, s122)] (nat_lit 122)
 [AV.agg [AV.int IntKind.i64 n, AV.int IntKind.u64 n_1], AV.agg [AV.int IntKind.i64 h, AV.int IntKind.u64 l]])
 (AV.agg [AV.int IntKind.i64 n_2, AV.int IntKind.u64 n_3]) [] ∧
 RetIs (AV.agg [AV.int IntKind.i64 n_2, AV.int IntKind.u64 n_3]) []
 (AV.agg
 [AV.int IntKind.i64 (IntKind.i64.wrap (-wv h l / (18446744073709551616 : Int))), AV.int IntKind.u64 (-wv h l % (18446744073709551616 : Int))],
 [])) := by kernel_rfl
theorem w70 (G : Glob) (h l : Int) : (pureW PU G XD (tbl [(98, s98), (67, s67)]) (itbl []) nAn [] 70 [.agg [.int .i64 h, .int .u64 l]] (.sl 1 (intsA (keptDig 8 (absI (wv h l)))) (.tok 0), [(8, 3)])) =
((decide (h < (0 : Int)) = true →
    ∃ (n : Int),
      ∃ (n_1 : Int),
        CallIs (tbl [(nat_lit 98, s98), (nat_lit 67, s67)] (nat_lit 98) [AV.agg [AV.int IntKind.i64 h, AV.int IntKind.u64 l]])
 (AV.agg [AV.int IntKind.i64 n, AV.int IntKind.u64 n_1]) [] ∧
 ∃ (es : List AV),
 CallIs (tbl [(nat_lit 98, s98), (nat_lit 67, s67)] (nat_lit 67) [AV.agg [AV.int IntKind.i64 n, AV.int IntKind.u64 n_1]])
 (AV.sl (nat_lit 1) es (Own.tok (nat_lit 0))) [(es.length, nat_lit 3)] ∧
 (es.length, nat_lit 3).fst = es.length ∧
 RetIs (AV.sl (nat_lit 1) es (Own.tok (nat_lit 0))) [(es.length, nat_lit 3)]
 (AV.sl (nat_lit 1)
 [AV.int IntKind.i64 (absI (wv h l) / (1 : Int) % (65536 : Int)), AV.int IntKind.i64 (absI (wv h l) / (65536 : Int) % (65536 : Int)),
 AV.int IntKind.i64 (absI (wv h l) / (4294967296 : Int) % (65536 : Int)),
 AV.int IntKind.i64 (absI (wv h l) / (281474976710656 : Int) % (65536 : Int)),
 AV.int IntKind.i64 (absI (wv h l) / (18446744073709551616 : Int) % (65536 : Int)),
 AV.int IntKind.i64 (absI (wv h l) / (1208925819614629174706176 : Int) % (65536 : Int)),
 AV.int IntKind.i64 (absI (wv h l) / (79228162514264337593543950336 : Int) % (65536 : Int)),
 AV.int IntKind.i64 (absI (wv h l) / (5192296858534827628530496329220096 : Int) % (65536 : Int))]
 (Own.tok (nat_lit 0)),
 [(nat_lit 8, nat_lit 3)])) ∧
  (decide (h < (0 : Int)) = false →
    ∃ (es : List AV),
      CallIs (tbl [(nat_lit 98, s98), (nat_lit 67, s67)] (nat_lit 67) [AV.agg [AV.int IntKind.i64 h, AV.int IntKind.u64 l]])
 (AV.sl (nat_lit 1) es (Own.tok (nat_lit 0))) [(es.length, nat_lit 3)] ∧
        (es.length, nat_lit 3).fst = es.length ∧
 RetIs (AV.sl (nat_lit 1) es (Own.tok (nat_lit 0))) [(es.length, nat_lit 3)]
 (AV.sl (nat_lit 1)
 [AV.int IntKind.i64 (absI (wv h l) / (1 : Int) % (65536 : Int)), AV.int IntKind.i64 (absI (wv h l) / (65536 : Int) % (65536 : Int)),
 AV.int IntKind.i64 (absI (wv h l) / (4294967296 : Int) % (65536 : Int)),
 AV.int IntKind.i64 (absI (wv h l) / (281474976710656 : Int) % (65536 : Int)),
 AV.int IntKind.i64 (absI (wv h l) / (18446744073709551616 : Int) % (65536 : Int)),
 AV.int IntKind.i64 (absI (wv h l) / (1208925819614629174706176 : Int) % (65536 : Int)),
 AV.int IntKind.i64 (absI (wv h l) / (79228162514264337593543950336 : Int) % (65536 : Int)),
 AV.int IntKind.i64 (absI (wv h l) / (5192296858534827628530496329220096 : Int) % (65536 : Int))]
 (Own.tok (nat_lit 0)),
 [(nat_lit 8, nat_lit 3)]))) := by kernel_rfl
end Go.Abs

namespace Go.Abs
open Go.Proofs Go.RowKit
theorem dig_succ (i : Nat) (x : Int) : keptDig (i + 1) x = keptDig i x ++ [x / (65536 : Int) ^ i % 65536] := by
  unfold keptDig; rw [List.range_succ, List.map_append]; rfl
theorem dig_len (n : Nat) (x : Int) : (keptDig n x).length = n := by simp [keptDig]
theorem pow_pos' (n : Nat) : (0 : Int) < 65536 ^ n := Int.pow_pos (by omega)
theorem valB_app : ∀ a b : List Int, valB (a ++ b) = valB a + 65536 ^ a.length * valB b
  | [], b => by simp [valB]
  | d :: a, b => by
    have := valB_app a b
    simp only [List.cons_append, valB, List.length_cons, this, Int.pow_succ, Int.mul_add]
    rw [Int.mul_comm (65536 ^ a.length) 65536, Int.mul_assoc]; omega
theorem mod_step (x p : Int) (hp : 0 < p) : x % (p * 65536) = x % p + p * (x / p % 65536) := by
  have h1 := Int.mul_ediv_add_emod x p
  have h2 := Int.mul_ediv_add_emod (x / p) 65536
  have h3 := Int.emod_nonneg x (Int.ne_of_gt hp)
  have h4 := Int.emod_lt_of_pos x hp
  have h5 : 0 ≤ x / p % 65536 := by omega
  have h6 : x / p % 65536 ≤ 65535 := by omega
  have e : x = x % p + p * (x / p % 65536) + p * 65536 * (x / p / 65536) := by
    conv => lhs; rw [← h1]
    conv => lhs; rw [← h2]
    rw [Int.mul_add, Int.mul_assoc]; omega
  conv => lhs; rw [e]
  rw [Int.add_mul_emod_self_left]
  have h7 : p * (x / p % 65536) ≤ p * 65535 := Int.mul_le_mul_of_nonneg_left h6 (by omega)
  have h8 : 0 ≤ p * (x / p % 65536) := Int.mul_nonneg (by omega) h5
  exact Int.emod_eq_of_lt (by omega) (by omega)
theorem valB_dig (n : Nat) (x : Int) : valB (keptDig n x) = x % 65536 ^ n := by
  induction n with
  | zero => simp [keptDig, valB]
  | succ n ih =>
    rw [dig_succ, valB_app, ih, dig_len, Int.pow_succ, mod_step _ _ (pow_pos' n)]
    simp [valB]
theorem div_step (x : Int) (n : Nat) : x / 65536 ^ n / 65536 = x / 65536 ^ (n + 1) := by
  rw [Int.pow_succ, Int.ediv_ediv_of_nonneg (Int.le_of_lt (pow_pos' n))]
theorem dig8 (x : Int) : keptDig 8 x = [x / 1 % 65536, x / 65536 % 65536, x / 4294967296 % 65536, x / 281474976710656 % 65536, x / 18446744073709551616 % 65536, x / 1208925819614629174706176 % 65536, x / 79228162514264337593543950336 % 65536, x / 5192296858534827628530496329220096 % 65536] := rfl
theorem dig4 (x : Int) : keptDig 4 x = [x / 1 % 65536, x / 65536 % 65536, x / 4294967296 % 65536, x / 281474976710656 % 65536] := rfl
theorem dig_wide {h l : Int} (hw : wOk h l) : keptDig 4 l ++ keptDig 4 (hiZ h) = keptDig 8 (wv h l) := by
  obtain ⟨a1, a2, a3, a4⟩ := hw
  rw [dig4, dig4, dig8]
  unfold hiZ wv
  simp only [List.cons_append, List.nil_append, List.cons.injEq, and_true]
  refine ⟨?_, ?_, ?_, ?_, ?_, ?_, ?_, ?_⟩ <;> omega
theorem dig_mem {n : Nat} {x d : Int} (h : d ∈ keptDig n x) : 0 ≤ d ∧ d < 65536 := by
  unfold keptDig at h
  obtain ⟨i, _, rfl⟩ := List.mem_map.1 h
  omega
theorem dig_ok (x : Int) : dOk (keptDig 8 x) := ⟨dig_len 8 x, fun _ h => dig_mem h⟩
theorem dig_c {l : List Int} (h : dOk l) : cOk l := ⟨h.1, fun d hd => by have := h.2 d hd; omega⟩
/-- what a list of digits says is all of it -/
theorem dig_val {l : List Int} (h : dOk l) : keptDig 8 (valB l) = l := by
  obtain ⟨h1, h2⟩ := h
  match l, h1 with
  | [d0, d1, d2, d3, d4, d5, d6, d7], _ =>
    have a0 := h2 d0 (by simp); have a1 := h2 d1 (by simp); have a2 := h2 d2 (by simp); have a3 := h2 d3 (by simp)
    have a4 := h2 d4 (by simp); have a5 := h2 d5 (by simp); have a6 := h2 d6 (by simp); have a7 := h2 d7 (by simp)
    rw [dig8]
    simp only [valB, List.cons.injEq, and_true]
    refine ⟨?_, ?_, ?_, ?_, ?_, ?_, ?_, ?_⟩ <;> omega
theorem agg3' : aggA PU 3 = some false := by kernel_rfl
theorem size3' : (sizeA PU 3).isSome = true := by kernel_rfl
theorem take_i {l : List Int} {i : Nat} {d : Int} (h : l[i]? = some d) : takeAt PU 3 (intsA l) i 0 = some (.int .i64 d) := take_one agg3' size3' (by rw [List.getElem?_map, h]; rfl) rfl
theorem p51 (G : Glob) (n : Int) (hn : iOk n) : PureOk PU G XD (tbl []) (itbl []) nAn [] 51 [.int .i64 n] (wideA n, []) := by
  constructor
  rw [w51]
  unfold iOk at hn
  refine ⟨fun h => retIs_iff.2 ?_, fun h => retIs_iff.2 ?_⟩
  · have h := of_decide_eq_true h
    rw [wrapU, wrap64_in (by omega) (by omega), show n / 18446744073709551616 = -1 by omega]
  · have h := of_decide_eq_false h
    rw [wrapU, wrap64_in (by omega) (by omega), show n / 18446744073709551616 = 0 by omega]
theorem tdm {x : Int} (h : 0 ≤ x) : x.tdiv 65536 = x / 65536 ∧ x.tmod 65536 = x % 65536 := ⟨Int.tdiv_eq_ediv_of_nonneg h, Int.tmod_eq_emod_of_nonneg h⟩
theorem tdm_neg {x : Int} (h : x < 0) : x.tdiv 65536 = -((-x) / 65536) ∧ x.tmod 65536 = -((-x) % 65536) := by
  have h1 := (@tdm (-x) (by omega)).1
  have h2 := (@tdm (-x) (by omega)).2
  rw [Int.neg_tdiv] at h1
  rw [Int.neg_tmod] at h2
  omega
theorem p67 (G : Glob) (h l : Int) (hw : wOk h l) : PureOk PU G XD (tbl []) (itbl []) (a67 h l) [] 67 [.agg [.int .i64 h, .int .u64 l]] (.sl 1 (intsA (keptDig 8 (wv h l))) (.tok 0), [(8, 3)]) := by
  constructor
  rw [w67]
  have hw' := hw
  obtain ⟨b1, b2, b3, b4⟩ := hw'
  have hS : ∀ {S : St}, StIs S S := stIs_iff.2 rfl
  have hlen : ∀ x : List Int, (intsA x).length = x.length := fun x => List.length_map ..
  have hH : 0 ≤ hiZ h ∧ hiZ h < 18446744073709551616 := by unfold hiZ; omega
  have one : ∀ {u : Int} {x : Nat}, 0 ≤ u → u < 18446744073709551616 → IntKind.i64.wrap ((u / 65536 ^ x).tmod 65536) = u / 65536 ^ x % 65536 ∧ IntKind.u64.wrap ((u / 65536 ^ x).tdiv 65536) = u / 65536 ^ (x + 1) := fun {u x} h0 h1 => by
    have h2 : 0 ≤ u / 65536 ^ x := Int.ediv_nonneg h0 (Int.le_of_lt (pow_pos' x))
    have h3 : u / 65536 ^ x ≤ u := Int.ediv_le_self _ h0
    rw [(tdm h2).1, (tdm h2).2, ← div_step]
    generalize u / 65536 ^ x = q at *
    exact ⟨wrap64_in (by omega) (by omega), by rw [wrapU]; omega⟩
  have ints_snoc : ∀ (a : List Int) (d : Int), intsA a ++ [AV.int .i64 d] = intsA (a ++ [d]) := fun a d => by simp [intsA]
  refine ⟨⟨0, valsAre_iff.2 ?_, stIs_iff.2 rfl, Nat.zero_le _, trivial⟩, fun x hx => ⟨fun hlt => ?_, fun hlt => ?_⟩⟩
  · rw [wrapU]; simp [keptDig, hiZ]
  · have hlt := of_decide_eq_true hlt
    obtain ⟨e1, e2⟩ := one (x := x) b3 b4
    refine ⟨by decide, .inl rfl, by rw [hlen, dig_len]; exact Nat.le_trans (Nat.mul_le_mul_right 9 (show x + 1 ≤ 8 by omega)) (by decide), (hlen _).symm, by decide, x + 1, valsAre_iff.2 ?_, stIs_iff.2 ?_, by omega, show 4 - (x + 1) < 4 - x by omega⟩
    · rw [e1, e2, ints_snoc, ← dig_succ, wrap64_in (by omega) (by omega)]; rfl
    · rw [hlen, dig_len, dig_len]
  · have hlt := of_decide_eq_false hlt
    obtain rfl : x = 4 := by omega
    refine ⟨⟨0, valsAre_iff.2 ?_, stIs_iff.2 ?_, Nat.zero_le _, trivial⟩, fun y hy => ⟨fun hlt => ?_, fun hlt => ?_⟩⟩
    · simp [keptDig]
    · simp [keptDig]
    · have hlt := of_decide_eq_true hlt
      obtain ⟨e1, e2⟩ := one (x := y) hH.1 hH.2
      refine ⟨by decide, .inl rfl, by rw [hlen, List.length_append, dig_len, dig_len]; exact Nat.le_trans (Nat.mul_le_mul_right 9 (show 4 + y + 1 ≤ 9 by omega)) (by decide), (hlen _).symm, by decide, y + 1, valsAre_iff.2 ?_, stIs_iff.2 ?_, by omega, show 4 - (y + 1) < 4 - y by omega⟩
      · rw [e1, e2, ints_snoc, List.append_assoc, ← dig_succ, wrap64_in (by omega) (by omega)]; rfl
      · rw [hlen, List.length_append, List.length_append, dig_len, dig_len, dig_len]; rfl
    · have hlt := of_decide_eq_false hlt
      obtain rfl : y = 4 := by omega
      refine ⟨(hlen _).symm, retIs_iff.2 ?_⟩
      rw [dig_wide hw]; rfl
/-! ### carry -/
theorem valB_take {l : List Int} {i : Nat} {d : Int} (h : l[i]? = some d) : valB (l.take (i + 1)) = valB (l.take i) + 65536 ^ i * d := by
  have hlt := (List.getElem?_eq_some_iff.1 h).1
  rw [List.take_add_one, h, valB_app, List.length_take, Nat.min_eq_left (by omega)]
  simp [valB]
theorem carry_step {l : List Int} {i : Nat} {d : Int} (h : l[i]? = some d) : valB (l.take (i + 1)) / 65536 ^ (i + 1) = (d + valB (l.take i) / 65536 ^ i) / 65536 ∧ valB l / 65536 ^ i % 65536 = (d + valB (l.take i) / 65536 ^ i) % 65536 := by
  have hp := Int.ne_of_gt (pow_pos' i)
  have e1 : valB (l.take (i + 1)) / 65536 ^ i = d + valB (l.take i) / 65536 ^ i := by
    rw [valB_take h, Int.add_mul_ediv_left _ _ hp, Int.add_comm]
  refine ⟨by rw [← div_step, e1], ?_⟩
  have hlt := (List.getElem?_eq_some_iff.1 h).1
  have e2 : valB l = valB (l.take (i + 1)) + 65536 ^ i * (65536 * valB (l.drop (i + 1))) := by
    conv => lhs; rw [← List.take_append_drop (i + 1) l]
    rw [valB_app, List.length_take, Nat.min_eq_left (by omega), Int.pow_succ, Int.mul_assoc]
  rw [e2, Int.add_mul_ediv_left _ _ hp, e1, Int.add_mul_emod_self_left]
theorem carry_bound {l : List Int} (h : cOk l) : ∀ i, i ≤ 8 → -1000000000000 ≤ valB (l.take i) / 65536 ^ i ∧ valB (l.take i) / 65536 ^ i ≤ 1000000000000
  | 0, _ => by simp [valB]
  | i + 1, hi => by
    have ih := carry_bound h i (by omega)
    have hlt : i < l.length := by have := h.1; omega
    have hd := List.getElem?_eq_getElem hlt
    have hb := h.2 l[i] (List.getElem_mem hlt)
    rw [(carry_step hd).1]
    omega
theorem p69 (G : Glob) (l : List Int) (hc : cOk l) : PureOk PU G XD (tbl []) (itbl []) (a69 l) [] 69 [.sl 1 (intsA l) .no] (.sl 1 (intsA (keptDig 8 (valB l))) (.tok 0), [(8, 3)]) := by
  constructor
  rw [w69]
  have hS : ∀ {S : St}, StIs S S := stIs_iff.2 rfl
  have hlen : ∀ x : List Int, (intsA x).length = x.length := fun x => List.length_map ..
  have ints_snoc : ∀ (a : List Int) (d : Int), intsA a ++ [AV.int .i64 d] = intsA (a ++ [d]) := fun a d => by simp [intsA]
  have h8 := hc.1
  refine ⟨⟨0, valsAre_iff.2 (by simp [keptDig, valB]), stIs_iff.2 rfl, Nat.zero_le _, trivial⟩, fun x hx => ⟨fun hlt => ?_, fun hlt => ?_⟩⟩
  · have hlt := of_decide_eq_true hlt
    have hlt' : x < l.length := by omega
    have hd := List.getElem?_eq_getElem hlt'
    have hb := hc.2 l[x] (List.getElem_mem hlt')
    have hb2 := carry_bound hc x hx
    obtain ⟨e1, e2⟩ := carry_step hd
    refine ⟨⟨by omega, by rw [hlen]; omega⟩, l[x], take_i (by simp), by decide, by decide, ?_⟩
    generalize l[x] = d at *
    have hw : IntKind.i64.wrap (d + valB (List.take x l) / 65536 ^ x) = d + valB (List.take x l) / 65536 ^ x := wrap64_in (by omega) (by omega)
    rw [hw]
    have hq : -2000000000000 ≤ d + valB (List.take x l) / 65536 ^ x ∧ d + valB (List.take x l) / 65536 ^ x ≤ 2000000000000 := by omega
    clear hw
    generalize d + valB (List.take x l) / 65536 ^ x = q at *
    have hroom : ((intsA (keptDig x (valB l))).length + 1) * 9 ≤ 70368744177664 := by rw [hlen, dig_len]; exact Nat.le_trans (Nat.mul_le_mul_right 9 (show x + 1 ≤ 9 by omega)) (by decide)
    have next : ∀ {a b : Int}, a = q % 65536 → b = q / 65536 → ∃ y : Nat, ValsAre [AV.sl 1 (intsA l) Own.no, AV.sl 1 (intsA (keptDig x (valB l)) ++ [AV.int .i64 a]) (Own.tok 0), AV.int .i64 b, AV.int .i64 (IntKind.i64.wrap ((x : Int) + 1))] [AV.sl 1 (intsA l) Own.no, AV.sl 1 (intsA (keptDig y (valB l))) (Own.tok 0), AV.int .i64 (valB (List.take y l) / 65536 ^ y), AV.int .i64 (y : Int)] ∧
        StIs { boxes := [], live := [((intsA (keptDig x (valB l))).length + 1, 3)] } { boxes := [], live := [((keptDig y (valB l)).length, 3)] } ∧ y ≤ 8 ∧ 8 - y < 8 - x := fun {a b} ha hb => by
      subst ha; subst hb
      refine ⟨x + 1, valsAre_iff.2 ?_, stIs_iff.2 ?_, by omega, by omega⟩
      · rw [ints_snoc, ← e2, ← dig_succ, ← e1, wrap64_in (by omega) (by omega)]; rfl
      · rw [hlen, dig_len, dig_len]
    refine ⟨fun hn => ⟨.inl rfl, hroom, (hlen _).symm, next ?_ ?_⟩, fun hn => ⟨.inl rfl, hroom, (hlen _).symm, next ?_ ?_⟩⟩
    all_goals
      have ht : (0 ≤ q ∧ q.tdiv 65536 = q / 65536 ∧ q.tmod 65536 = q % 65536) ∨ (q < 0 ∧ q.tdiv 65536 = -((-q) / 65536) ∧ q.tmod 65536 = -((-q) % 65536)) := by
        rcases Int.lt_or_le q 0 with h0 | h0
        · exact .inr ⟨h0, tdm_neg h0⟩
        · exact .inl ⟨h0, tdm h0⟩
      clear next
      generalize q.tdiv 65536 = u at *
      generalize q.tmod 65536 = v at *
    · have hn := of_decide_eq_true hn
      rw [wrap64_in (by omega) (by omega)]; omega
    · have hn := of_decide_eq_true hn
      rw [wrap64_in (n := u) (by omega) (by omega), wrap64_in (by omega) (by omega)]; omega
    · have hn := of_decide_eq_false hn
      omega
    · have hn := of_decide_eq_false hn
      rw [wrap64_in (by omega) (by omega)]; omega
  · have hlt := of_decide_eq_false hlt
    obtain rfl : x = 8 := by omega
    exact ⟨(hlen _).symm, retIs_iff.2 rfl⟩
end Go.Abs

namespace Go.Abs
open Go.Proofs Go.RowKit
theorem mk_step {V d : Int} (h0 : 0 ≤ V) (h1 : V < 281474976710656) (h2 : 0 ≤ d) (h3 : d < 65536) : IntKind.u64.wrap (IntKind.u64.wrap (V * 65536) + IntKind.u64.wrap d) = d + 65536 * V := by
  rw [wrapU, wrapU, wrapU]; omega
theorem p68 (G : Glob) (l : List Int) (hl : dOk l) : PureOk PU G XD (tbl []) (itbl []) (a68 l) [] 68 [.sl 1 (intsA l) .no] (wideA (valB l), []) := by
  constructor
  rw [w68]
  have hS : ∀ {S : St}, StIs S S := stIs_iff.2 rfl
  obtain ⟨h1, h2⟩ := hl
  match l, h1 with
  | [d0, d1, d2, d3, d4, d5, d6, d7], _ =>
    have a0 := h2 d0 (by simp); have a1 := h2 d1 (by simp); have a2 := h2 d2 (by simp); have a3 := h2 d3 (by simp)
    have a4 := h2 d4 (by simp); have a5 := h2 d5 (by simp); have a6 := h2 d6 (by simp); have a7 := h2 d7 (by simp)
    clear h2
    refine ⟨⟨0, valsAre_iff.2 rfl, hS, Nat.zero_le _, trivial⟩, fun x hx => ⟨fun hlt => ?_, fun hlt => ?_⟩⟩
    · have hlt := of_decide_eq_true hlt
      have hc : x = 0 ∨ x = 1 ∨ x = 2 ∨ x = 3 := by omega
      rcases hc with rfl | rfl | rfl | rfl
      · refine ⟨⟨by decide, show _ < (8 : Int) from by decide⟩, d3, take_i rfl, ⟨by decide, show _ < (8 : Int) from by decide⟩, d7, take_i rfl, 1, valsAre_iff.2 ?_, hS, by decide, by decide⟩
        rw [mk_step (by simp [valB]) (by simp [valB]) a3.1 a3.2, mk_step (by simp [valB]) (by simp [valB]) a7.1 a7.2]; rfl
      · refine ⟨⟨by decide, show _ < (8 : Int) from by decide⟩, d2, take_i rfl, ⟨by decide, show _ < (8 : Int) from by decide⟩, d6, take_i rfl, 2, valsAre_iff.2 ?_, hS, by decide, by decide⟩
        rw [mk_step (by simp [valB]; omega) (by simp [valB]; omega) a2.1 a2.2, mk_step (by simp [valB]; omega) (by simp [valB]; omega) a6.1 a6.2]; rfl
      · refine ⟨⟨by decide, show _ < (8 : Int) from by decide⟩, d1, take_i rfl, ⟨by decide, show _ < (8 : Int) from by decide⟩, d5, take_i rfl, 3, valsAre_iff.2 ?_, hS, by decide, by decide⟩
        rw [mk_step (by simp [valB]; omega) (by simp [valB]; omega) a1.1 a1.2, mk_step (by simp [valB]; omega) (by simp [valB]; omega) a5.1 a5.2]; rfl
      · refine ⟨⟨by decide, show _ < (8 : Int) from by decide⟩, d0, take_i rfl, ⟨by decide, show _ < (8 : Int) from by decide⟩, d4, take_i rfl, 4, valsAre_iff.2 ?_, hS, by decide, by decide⟩
        rw [mk_step (by simp [valB]; omega) (by simp [valB]; omega) a0.1 a0.2, mk_step (by simp [valB]; omega) (by simp [valB]; omega) a4.1 a4.2]; rfl
    · have hlt := of_decide_eq_false hlt
      obtain rfl : x = 4 := by omega
      refine retIs_iff.2 ?_
      have e1 : valB (List.drop (4 - 4) (List.drop 4 [d0, d1, d2, d3, d4, d5, d6, d7])) = valB [d0, d1, d2, d3, d4, d5, d6, d7] / 18446744073709551616 := by simp [valB]; omega
      have e2 : valB (List.drop (4 - 4) (List.take 4 [d0, d1, d2, d3, d4, d5, d6, d7])) = valB [d0, d1, d2, d3, d4, d5, d6, d7] % 18446744073709551616 := by simp [valB]; omega
      rw [e1, e2]
theorem valB_lt : ∀ {l : List Int}, (∀ d ∈ l, 0 ≤ d ∧ d < 65536) → 0 ≤ valB l ∧ valB l < 65536 ^ l.length
  | [], _ => by simp [valB]
  | d :: l, h => by
    have ih := valB_lt (l := l) fun x hx => h x (by simp [hx])
    have hd := h d (by simp)
    simp only [valB, List.length_cons, Int.pow_succ]
    omega
theorem lt_split {l r : List Int} (hl : dOk l) (hr : dOk r) {i : Nat} {d e : Int} (h1 : l[i]? = some d) (h2 : r[i]? = some e) (ht : l.drop (i + 1) = r.drop (i + 1)) (hne : d ≠ e) : (valB l < valB r ↔ d < e) := by
  have g1 := (List.getElem?_eq_some_iff.1 h1).1
  have g2 := (List.getElem?_eq_some_iff.1 h2).1
  have e1 : valB l = valB (l.take i) + 65536 ^ i * (d + 65536 * valB (l.drop (i + 1))) := by
    conv => lhs; rw [← List.take_append_drop (i + 1) l]
    rw [valB_app, valB_take h1, List.length_take, Nat.min_eq_left (by omega), Int.pow_succ, Int.mul_add, Int.mul_assoc]; omega
  have e2 : valB r = valB (r.take i) + 65536 ^ i * (e + 65536 * valB (l.drop (i + 1))) := by
    conv => lhs; rw [← List.take_append_drop (i + 1) r]
    rw [valB_app, valB_take h2, List.length_take, Nat.min_eq_left (by omega), Int.pow_succ, Int.mul_add, Int.mul_assoc, ht]; omega
  have b1 := valB_lt (l := l.take i) fun x hx => hl.2 x (List.mem_of_mem_take hx)
  have b2 := valB_lt (l := r.take i) fun x hx => hr.2 x (List.mem_of_mem_take hx)
  rw [List.length_take, Nat.min_eq_left (by omega)] at b1 b2
  rw [e1, e2]
  generalize valB (l.drop (i + 1)) = T
  generalize valB (l.take i) = A at *
  generalize valB (r.take i) = C at *
  have hp := pow_pos' i
  generalize (65536 : Int) ^ i = p at *
  rcases Int.lt_or_gt_of_ne hne with h | h
  · have := Int.mul_le_mul_of_nonneg_left (show d + 65536 * T + 1 ≤ e + 65536 * T by omega) (Int.le_of_lt hp)
    rw [Int.mul_add p (d + 65536 * T) 1] at this
    omega
  · have := Int.mul_le_mul_of_nonneg_left (show e + 65536 * T + 1 ≤ d + 65536 * T by omega) (Int.le_of_lt hp)
    rw [Int.mul_add p (e + 65536 * T) 1] at this
    omega
theorem p72 (G : Glob) (l r : List Int) (hl : dOk l) (hr : dOk r) : PureOk PU G XD (tbl []) (itbl []) (a72 l r) [] 72 [.sl 1 (intsA l) .no, .sl 1 (intsA r) .no] (.bool (decide (valB l < valB r)), []) := by
  constructor
  rw [w72]
  have hS : ∀ {S : St}, StIs S S := stIs_iff.2 rfl
  have hlen : ∀ x : List Int, (intsA x).length = x.length := fun x => List.length_map ..
  have l8 := hl.1
  have r8 := hr.1
  refine ⟨⟨0, valsAre_iff.2 rfl, hS, ⟨Nat.zero_le _, by rw [List.drop_of_length_le (by omega), List.drop_of_length_le (by omega)]⟩, trivial⟩, fun x hx => ⟨fun hlt => ?_, fun hlt => ?_⟩⟩
  · have hlt := of_decide_eq_true hlt
    obtain ⟨hx8, heq⟩ := hx
    have hi : ((7 : Int) - (x : Int)).toNat = 7 - x := by omega
    have h1 : 7 - x < l.length := by omega
    have h2 : 7 - x < r.length := by omega
    have g1 := List.getElem?_eq_getElem h1
    have g2 := List.getElem?_eq_getElem h2
    have t1 : takeAt PU 3 (intsA l) ((7 : Int) - (x : Int)).toNat 0 = some (.int .i64 l[7 - x]) := by rw [hi]; exact take_i g1
    have t2 : takeAt PU 3 (intsA r) ((7 : Int) - (x : Int)).toNat 0 = some (.int .i64 r[7 - x]) := by rw [hi]; exact take_i g2
    have c1 := List.drop_eq_getElem_cons h1
    have c2 := List.drop_eq_getElem_cons h2
    generalize l[7 - x] = d at *
    generalize r[7 - x] = e at *
    rw [show 8 - x = 7 - x + 1 by omega] at heq
    have r1 : 0 ≤ (7 : Int) - (x : Int) ∧ (7 : Int) - (x : Int) < ((intsA l).length : Int) := by rw [hlen]; omega
    have r2 : 0 ≤ (7 : Int) - (x : Int) ∧ (7 : Int) - (x : Int) < ((intsA r).length : Int) := by rw [hlen]; omega
    refine ⟨r1, d, t1, r2, e, t2, fun hne => ⟨r1, d, t1, r2, e, t2, fun h => retIs_iff.2 ?_, fun h => retIs_iff.2 ?_⟩, fun he => ⟨x + 1, valsAre_iff.2 ?_, hS, ⟨by omega, ?_⟩, show 8 - (x + 1) < 8 - x by omega⟩⟩
    · rw [decide_eq_true ((lt_split hl hr g1 g2 heq (by simpa using hne)).2 (of_decide_eq_true h))]
    · rw [decide_eq_false fun h3 => of_decide_eq_false h ((lt_split hl hr g1 g2 heq (by simpa using hne)).1 h3)]
    · rw [wrap64_in (by omega) (by omega), show ((x + 1 : Nat) : Int) = (x : Int) + 1 by omega, Int.sub_sub]
    · have he : d = e := by simpa using he
      rw [show 8 - (x + 1) = 7 - x by omega, c1, c2, he, heq]
  · have hlt := of_decide_eq_false hlt
    obtain ⟨hx8, heq⟩ := hx
    obtain rfl : x = 8 := by omega
    have : l = r := by simpa using heq
    subst this
    exact retIs_iff.2 (by simp)
theorem subL_len {l r : List Int} (hl : l.length = 8) (hr : r.length = 8) : (subL l r).length = 8 := by simp [subL, hl, hr]
theorem subL_get {l r : List Int} {i : Nat} {d e : Int} (h1 : l[i]? = some d) (h2 : r[i]? = some e) : (subL l r)[i]? = some (d - e) := by
  have := (List.getElem?_zip_eq_some (l₁ := l) (l₂ := r) (z := (d, e)) (i := i)).2 ⟨h1, h2⟩
  unfold subL
  rw [List.getElem?_map, this]; rfl
theorem subL_val : ∀ {l r : List Int}, l.length = r.length → valB (subL l r) = valB l - valB r
  | [], [], _ => rfl
  | d :: l, e :: r, h => by
    have ih := subL_val (l := l) (r := r) (by simpa using h)
    simp only [subL, List.zip_cons_cons, List.map_cons, valB] at *
    omega
theorem subL_ok {l r : List Int} (hl : dOk l) (hr : dOk r) : cOk (subL l r) := by
  refine ⟨subL_len hl.1 hr.1, fun d hd => ?_⟩
  obtain ⟨⟨a, b⟩, hp, rfl⟩ := List.mem_map.1 hd
  have := hl.2 a (List.of_mem_zip hp).1
  have := hr.2 b (List.of_mem_zip hp).2
  simp only
  omega
theorem t_ints {f : Int → AV × List (Nat × TypeId)} (l : List Int) : (unL unI (intsA l)).bind (fun x => some (f x.length)) = some (f l.length) := by rw [unIs]; rfl
theorem p73 (G : Glob) (l r : List Int) (hl : dOk l) (hr : dOk r) : PureOk PU G XD (tbl [(69, s69)]) (itbl []) (a73 l r) [] 73 [.sl 1 (intsA l) .no, .sl 1 (intsA r) .no] (.sl 1 (intsA (keptDig 8 (valB l - valB r))) (.tok 0), [(8, 3)]) := by
  constructor
  rw [w73]
  have hS : ∀ {S : St}, StIs S S := stIs_iff.2 rfl
  have hlen : ∀ x : List Int, (intsA x).length = x.length := fun x => List.length_map ..
  have l8 := hl.1
  have r8 := hr.1
  have s8 := subL_len l8 r8
  refine ⟨⟨0, valsAre_iff.2 rfl, stIs_iff.2 rfl, Nat.zero_le _, trivial⟩, fun x hx => ⟨fun hlt => ?_, fun hlt => ?_⟩⟩
  · have hlt := of_decide_eq_true hlt
    have g1 := List.getElem?_eq_getElem (show x < l.length by omega)
    have g2 := List.getElem?_eq_getElem (show x < r.length by omega)
    have m1 := hl.2 l[x] (List.getElem_mem _)
    have m2 := hr.2 r[x] (List.getElem_mem _)
    have g3 := subL_get g1 g2
    refine ⟨⟨by omega, by rw [hlen]; omega⟩, l[x], take_i (by simp), ⟨by omega, by rw [hlen]; omega⟩, r[x], take_i (by simp), .inl rfl, ?_, (hlen _).symm, x + 1, valsAre_iff.2 ?_, stIs_iff.2 ?_, by omega, show 8 - (x + 1) < 8 - x by omega⟩
    · rw [hlen, List.length_take]; exact Nat.le_trans (Nat.mul_le_mul_right 9 (show min x (subL l r).length + 1 ≤ 9 by omega)) (by decide)
    · rw [List.take_add_one, g3, wrap64_in (by omega) (by omega), wrap64_in (by omega) (by omega)]
      simp [intsA]
    · rw [hlen, List.length_take, List.length_take, s8, Nat.min_eq_left (by omega), Nat.min_eq_left (by omega)]
  · have hlt := of_decide_eq_false hlt
    obtain rfl : x = 8 := by omega
    rw [List.take_of_length_le (by omega)]
    refine ⟨intsA (keptDig 8 (valB l - valB r)), callIs_iff.2 ?_, rfl, retIs_iff.2 rfl⟩
    rw [tb_hit]
    simp only [s69, if_true, unIs, Option.bind_some]
    rw [if_pos (subL_ok hl hr), subL_val (by omega)]; rfl
/-! ### put together -/
theorem goodD (G : Glob) {f : FuncId} {s : Spec} (h : ∀ args r, s args = some r → ∃ A, PureOk PU G XD (tbl []) (itbl []) A [] f args r) : SpecOk PU G f s := spec_of (X := XD) (m := []) mixedU tbl_nil itbl_nil h
theorem wkI {sz : Nat} {es : List AV} {o : Own} {l : List Int} (hz : sz = 1) (hb : unL unI es = some l) : wkA 1 (.sl sz es o) = .sl 1 (intsA l) .no := by
  obtain rfl := unIs_some hb
  subst hz
  cases l <;> rfl
theorem o51 (G : Glob) : SpecOk PU G 51 s51 := goodD G fun args r h => by
  unfold s51 s29 at h
  split at h
  · split at h
    · rename_i n hn; injection h with h; subst h; exact ⟨_, p51 G n hn⟩
    · cases h
  · cases h
theorem o67 (G : Glob) : SpecOk PU G 67 s67 := goodD G fun args r h => by
  unfold s67 at h
  split at h
  · split at h
    · rename_i n hn; injection h with h; subst h; exact ⟨_, p67 G _ _ hn⟩
    · cases h
  · cases h
theorem sI_of {G : Glob} {f : FuncId} {s : Spec} {R : List (FuncId × Spec)} (hR : CalleeOk PU G (tbl R)) {g : List Int → Option (AV × List (Nat × TypeId))} (hs : ∀ args r, s args = some r → ∃ sz es o l, args = [.sl sz es o] ∧ sz = 1 ∧ unL unI es = some l ∧ g l = some r)
    (h : ∀ l r, g l = some r → ∃ A, PureOk PU G XD (tbl R) (itbl []) A [] f [.sl 1 (intsA l) .no] r) : SpecOk PU G f s := spec_ofW (X := XD) (m := []) [1] mixedU hR itbl_nil fun args r h' => by
  obtain ⟨sz, es, o, l, rfl, hz, hu, hg⟩ := hs args r h'
  simp only [wkL, wkI hz hu]
  exact h l r hg
theorem o69 (G : Glob) : SpecOk PU G 69 s69 := sI_of (g := fun l => if cOk l then some (.sl 1 (intsA (keptDig 8 (valB l))) (.tok 0), [(8, 3)]) else none) tbl_nil (fun args r h => by
    unfold s69 at h
    split at h
    · split at h
      · rename_i hz
        cases hu : unL unI _ with
        | none => rw [hu] at h; cases h
        | some l => rw [hu] at h; exact ⟨_, _, _, l, rfl, hz, hu, h⟩
      · cases h
    · cases h) fun l r h => by
  split at h
  · rename_i hl; injection h with h; subst h; exact ⟨_, p69 G l hl⟩
  · cases h
theorem o68 (G : Glob) : SpecOk PU G 68 s68 := sI_of (g := fun l => if dOk l then some (wideA (valB l), []) else none) tbl_nil (fun args r h => by
    unfold s68 at h
    split at h
    · split at h
      · rename_i hz
        cases hu : unL unI _ with
        | none => rw [hu] at h; cases h
        | some l => rw [hu] at h; exact ⟨_, _, _, l, rfl, hz, hu, h⟩
      · cases h
    · cases h) fun l r h => by
  split at h
  · rename_i hl; injection h with h; subst h; exact ⟨_, p68 G l hl⟩
  · cases h
theorem sI2_of {G : Glob} {f : FuncId} {s : Spec} {R : List (FuncId × Spec)} (hR : CalleeOk PU G (tbl R)) {g : List Int → List Int → Option (AV × List (Nat × TypeId))} (hs : ∀ args r, s args = some r → ∃ sz es o sz' es' o' l l', args = [.sl sz es o, .sl sz' es' o'] ∧ sz = 1 ∧ sz' = 1 ∧ unL unI es = some l ∧ unL unI es' = some l' ∧ g l l' = some r)
    (h : ∀ l l' r, g l l' = some r → ∃ A, PureOk PU G XD (tbl R) (itbl []) A [] f [.sl 1 (intsA l) .no, .sl 1 (intsA l') .no] r) : SpecOk PU G f s := spec_ofW (X := XD) (m := []) [1, 1] mixedU hR itbl_nil fun args r h' => by
  obtain ⟨sz, es, o, sz', es', o', l, l', rfl, hz, hz', hu, hu', hg⟩ := hs args r h'
  simp only [wkL, wkI hz hu, wkI hz' hu']
  exact h l l' r hg
theorem o72 (G : Glob) : SpecOk PU G 72 s72 := sI2_of (g := fun l r => if dOk l ∧ dOk r then some (.bool (decide (valB l < valB r)), []) else none) tbl_nil (fun args r h => by
    unfold s72 at h
    split at h
    · split at h
      · rename_i sz es o sz' es' o' hz
        cases hu : unL unI es with
        | none => rw [hu] at h; cases h
        | some l =>
          cases hu' : unL unI es' with
          | none => rw [hu, hu'] at h; cases h
          | some l' => rw [hu, hu'] at h; exact ⟨_, _, _, _, _, _, l, l', rfl, hz.1, hz.2, hu, hu', h⟩
      · cases h
    · cases h) fun l l' r h => by
  split at h
  · rename_i hl; injection h with h; subst h; exact ⟨_, p72 G l l' hl.1 hl.2⟩
  · cases h
theorem o73 (G : Glob) : SpecOk PU G 73 s73 := sI2_of (g := fun l r => if dOk l ∧ dOk r then some (.sl 1 (intsA (keptDig 8 (valB l - valB r))) (.tok 0), [(8, 3)]) else none) (tbl_cons (o69 G) tbl_nil) (fun args r h => by
    unfold s73 at h
    split at h
    · split at h
      · rename_i sz es o sz' es' o' hz
        cases hu : unL unI es with
        | none => rw [hu] at h; cases h
        | some l =>
          cases hu' : unL unI es' with
          | none => rw [hu, hu'] at h; cases h
          | some l' => rw [hu, hu'] at h; exact ⟨_, _, _, _, _, _, l, l', rfl, hz.1, hz.2, hu, hu', h⟩
      · cases h
    · cases h) fun l l' r h => by
  split at h
  · rename_i hl; injection h with h; subst h; exact ⟨_, p73 G l l' hl.1 hl.2⟩
  · cases h
end Go.Abs

namespace Go.Abs
open Go.Proofs Go.RowKit
section
variable {P : Program} {G : Glob} {w w' : World}
/-- a call of which the spec is known -/
theorem calls_of {f : FuncId} {s : Spec} (hs : SpecOk P G f s) (hg : goodFn P f) {args : List AV} {r : AV} {lv : List (Nat × TypeId)} (h : s args = some (r, lv)) {E : Env} {vs : Array Value} (hI : ∀ b o, E.I b o → b < w.heap.size) (hG : GlobOk G E w) (hn : vs.size = args.length)
    (hv : ∀ (i : Nat) (c : AV) (v : Value), args[i]? = some c → vs[i]? = some v → Rep E w c v) (hcl : ∀ c ∈ args, c.closed1 = true) : Calls P f vs w fun e w' => ∃ v, e = .returned v ∧ Res P E w w' r lv v := by
  have hc := hs f args r lv (by simp only [if_true]; exact h) E w vs hI hG hn hv hcl
  rcases hc with ⟨_, hc⟩ | ⟨v, w', hrun, _⟩
  · exact hc
  · rw [run_callFunc hg] at hrun
    cases hrun
abbrev intV (l : List Int) : List Value := l.map (Value.int .i64)
/-- eight numbers in a block of their own -/
def Row8 (w : World) (base g cap : Nat) (l : List Int) : Prop := w.ownsRow base 3 1 (.slice (some ⟨g, 0, none⟩) 8 cap) 8 (intV l)
theorem size3s : sizeA PU 3 = some 1 := by kernel_rfl
theorem res_row8 {E : Env} {l : List Int} {v : Value} (h : Res PU E w w' (.sl 1 (intsA l) (.tok 0)) [(8, 3)] v) : Below w.heap.size w w' ∧ ∃ g cap, v = .slice (some ⟨g, 0, none⟩) 8 cap ∧ Row8 w' w.heap.size g cap l := by
  obtain ⟨I', h1, h2, hb, h⟩ := h
  refine ⟨hb, ?_⟩
  rcases h with ⟨h, _⟩ | ⟨n, e, hv, sz, xs, hlv, hsz, hown, _, hr⟩
  · cases h
  · obtain ⟨rfl, rfl⟩ : n = 8 ∧ e = 3 := by simpa [eq_comm] using hlv
    rw [size3s] at hsz
    obtain rfl : (1 : Nat) = sz := by simpa using hsz
    have hr := hr (fun _ => none) (fun _ n v => n = 8 ∧ v = hv) 0 ⟨rfl, rfl⟩
    simp only [adopt] at hr
    rcases hown.2 with ⟨_, hz⟩ | ⟨g, cap, cur, rfl, hrest⟩
    · cases hz
    generalize hes : intsA l = es at hr
    cases hr with | sl _ _ _ A cap' u hcap hmax hA hsz' hcl ho hrr h11 =>
    have hlen : es.length = l.length := by rw [← hes]; simp
    simp only [OwnOk] at ho
    obtain ⟨h8, hvv⟩ := ho
    have h8' : es.length = 8 := h8
    simp only [Value.slice.injEq] at hvv
    obtain ⟨rfl, _, rfl⟩ := hvv
    refine ⟨g, cap', by rw [h8'], ?_⟩
    have hx : xs = intV l := by
      apply List.ext_getElem?
      intro j
      have hxl : xs.length = 8 := by simpa using hown.1
      by_cases hj : j < 8
      · rw [← hown.cellAt j (by omega)]
        rcases hA with hA | ⟨b, off, hA, hc⟩
        · rw [hA] at h8'; cases h8'
        · simp only [Option.some.injEq, Addr.mk.injEq, and_true] at hA
          obtain ⟨rfl, rfl⟩ := hA
          have hjl : j < l.length := by omega
          have he : es[j]? = some (.int .i64 l[j]) := by rw [← hes]; simp [hjl]
          have h4 := hc j _ 0 _ he rfl
          have h5 := rep_int (hrr j _ 0 _ he rfl)
          simp only [Nat.mul_one, Nat.add_zero, Nat.zero_add] at h4
          rw [h4.2, h5]
          simp [intV, hjl]
      · rw [List.getElem?_eq_none (by omega), List.getElem?_eq_none (by simp [intV]; omega)]
    unfold Row8
    rw [← hx]
    exact hown
theorem row8_rep {base g cap : Nat} {l : List Int} (h : Row8 w base g cap l) (B : Nat → Option Nat) (K : Nat → Nat → Value → Prop) : Rep ⟨(oldE w).I, B, K⟩ w (.sl 1 (intsA l) .no) (.slice (some ⟨g, 0, none⟩) 8 cap) := by
  have hl : l.length = 8 := by simpa [intV] using h.1
  have hg := (h.lt g rfl).2
  have hcap : 8 ≤ cap ∧ cap ≤ maxLen := by
    rcases h.2 with ⟨h', _⟩ | ⟨g', cap', cur, h', _, _, h1, h2, _⟩
    · simp at h'
    · simp only [Value.slice.injEq] at h'
      obtain ⟨_, _, rfl⟩ := h'
      exact ⟨h1, h2⟩
  have hlen : (intsA l).length = 8 := by simp [hl]
  have key := Rep.sl (E := ⟨(oldE w).I, B, K⟩) (w := w) 1 (intsA l) .no (some ⟨g, 0, none⟩) cap (fun i _ => .int .i64 (l.getD i 0)) (by omega) hcap.2 ?_ ?_ ?_ trivial ?_ ?_
  · rw [hlen] at key; exact key
  · refine .inr ⟨g, 0, rfl, fun i e j c hi hj => ?_⟩
    obtain ⟨d, hd, rfl⟩ : ∃ d, l[i]? = some d ∧ e = .int .i64 d := by
      rw [List.getElem?_map] at hi
      cases hd : l[i]? with
      | none => rw [hd] at hi; cases hi
      | some d => rw [hd] at hi; exact ⟨d, rfl, by simpa [eq_comm] using hi⟩
    have hj0 : j = 0 := by
      cases j with
      | zero => rfl
      | succ j => simp [AV.cells] at hj
    subst hj0
    have hil := (List.getElem?_eq_some_iff.1 hd).1
    refine ⟨hg, ?_⟩
    simp only [Nat.mul_one, Nat.add_zero, Nat.zero_add]
    rw [h.cellAt i (by omega)]
    simp [intV, hil]
  · intro e he
    obtain ⟨d, _, rfl⟩ := List.mem_map.1 he
    rfl
  · intro e he
    obtain ⟨d, _, rfl⟩ := List.mem_map.1 he
    rfl
  · intro i e j c hi hj
    rw [List.getElem?_map] at hi
    cases hd : l[i]? with
    | none => rw [hd] at hi; cases hi
    | some d =>
      rw [hd] at hi
      obtain rfl : AV.int .i64 d = e := by simpa using hi
      have hj0 : j = 0 := by
        cases j with
        | zero => rfl
        | succ j => simp [AV.cells] at hj
      subst hj0
      obtain rfl : AV.int .i64 d = c := by simpa [AV.cells] using hj
      have := (List.getElem?_eq_some_iff.1 hd).2
      rw [show l.getD i 0 = d by simp [List.getD, hd]]
      exact .int _ _
  · intro i j; rfl
def G0 : Glob := fun _ => none
theorem glob0 {E : Env} : GlobOk G0 E w := fun g e h => by cases h
theorem rep_wide {E : Env} {h l : Int} {v : Value} (hr : Rep E w (.agg [.int .i64 h, .int .u64 l]) v) : v = .agg #[.int .i64 h, .int .u64 l] := by
  cases hr with | agg _ vs hn h1 hr =>
  obtain ⟨a, b, rfl⟩ := vs_two hn
  obtain rfl := rep_int (hr 0 _ _ rfl rfl)
  obtain rfl := rep_int (hr 1 _ _ rfl rfl)
  rfl
theorem wide_rep {E : Env} (h l : Int) : Rep E w (.agg [.int .i64 h, .int .u64 l]) (.agg #[.int .i64 h, .int .u64 l]) := by
  refine .agg _ _ rfl ?_ ?_
  · intro i v hv
    rcases i with _ | _ | i <;> simp at hv <;> subst hv <;> rfl
  · intro i c v hc hv
    rcases i with _ | _ | i <;> simp at hc hv <;> subst hc <;> subst hv <;> exact .int _ _
def wideV (x : Int) : Value := .agg #[.int .i64 (IntKind.i64.wrap (x / 18446744073709551616)), .int .u64 (x % 18446744073709551616)]
theorem good67 : goodFn PU 67 := goodU (by kernel_rfl)
theorem good68 : goodFn PU 68 := goodU (by kernel_rfl)
theorem good69 : goodFn PU 69 := goodU (by kernel_rfl)
theorem dig_calls {h l : Int} (hw : wOk h l) (w : World) : Calls PU 67 #[.agg #[.int .i64 h, .int .u64 l]] w fun e w' => ∃ g cap, e = .returned (.slice (some ⟨g, 0, none⟩) 8 cap) ∧ Row8 w' w.heap.size g cap (keptDig 8 (wv h l)) ∧ Below w.heap.size w w' := by
  refine (calls_of (o67 G0) good67 (args := [.agg [.int .i64 h, .int .u64 l]]) (by simp only [s67]; rw [if_pos hw]) (E := oldE w) (fun b o h => h) glob0 rfl (fun i c v hc hv => ?_) (fun c hc => ?_)).mono ?_
  · rcases i with _ | i
    · simp at hc hv; subst hc; subst hv; exact wide_rep _ _
    · simp at hc
  · simp at hc; subst hc; rfl
  · rintro e w' ⟨v, rfl, hr⟩
    obtain ⟨hb, g, cap, rfl, hrow⟩ := res_row8 hr
    exact ⟨g, cap, rfl, hrow, hb⟩
theorem carry_calls {base g cap : Nat} {l : List Int} {w : World} (hrow : Row8 w base g cap l) (hl : cOk l) : Calls PU 69 #[.slice (some ⟨g, 0, none⟩) 8 cap] w fun e w' => ∃ g' cap', e = .returned (.slice (some ⟨g', 0, none⟩) 8 cap') ∧ Row8 w' w.heap.size g' cap' (keptDig 8 (valB l)) ∧ Below w.heap.size w w' := by
  refine (calls_of (o69 G0) good69 (args := [.sl 1 (intsA l) .no]) (by simp only [s69, if_true, unIs, Option.bind_some]; rw [if_pos hl]) (E := oldE w) (fun b o h => h) glob0 rfl (fun i c v hc hv => ?_) (fun c hc => ?_)).mono ?_
  · rcases i with _ | i
    · simp at hc hv; subst hc; subst hv; exact row8_rep hrow _ _
    · simp at hc
  · simp at hc; subst hc
    simp [AV.closed1, AV.closed]
  · rintro e w' ⟨v, rfl, hr⟩
    obtain ⟨hb, g, cap, rfl, hrow⟩ := res_row8 hr
    exact ⟨g, cap, rfl, hrow, hb⟩
theorem make_calls {base g cap : Nat} {l : List Int} {w : World} (hrow : Row8 w base g cap l) (hl : dOk l) : Calls PU 68 #[.slice (some ⟨g, 0, none⟩) 8 cap] w fun e w' => e = .returned (wideV (valB l)) ∧ Below w.heap.size w w' := by
  refine (calls_of (o68 G0) good68 (args := [.sl 1 (intsA l) .no]) (by simp only [s68, if_true, unIs, Option.bind_some]; rw [if_pos hl]) (E := oldE w) (fun b o h => h) glob0 rfl (fun i c v hc hv => ?_) (fun c hc => ?_)).mono ?_
  · rcases i with _ | i
    · simp at hc hv; subst hc; subst hv; exact row8_rep hrow _ _
    · simp at hc
  · simp at hc; subst hc
    simp [AV.closed1, AV.closed]
  · rintro e w' ⟨v, rfl, I', _, _, hb, hr⟩
    rcases hr with ⟨_, hr⟩ | ⟨n, e', hv', sz, xs, hlv, _⟩
    · have := rep_wide (hr (fun _ => none) (fun _ _ _ => False))
      subst this
      exact ⟨rfl, hb⟩
    · cases hlv
end
end Go.Abs

namespace Go.Abs
open Go.Proofs Go.RowKit
def RowC (W : World) (l : List Int) (e : Ending) (w' : World) : Prop := ∃ g cap, e = .returned (.slice (some ⟨g, 0, none⟩) 8 cap) ∧ Row8 w' W.heap.size g cap l ∧ Below W.heap.size W w'
def WideC (W : World) (x : Value) (e : Ending) (w' : World) : Prop := e = .returned x ∧ Below W.heap.size W w'
/-- the first i numbers are written anew -/
def mixO (f : Int → Int → Int) (x y : List Int) (i : Nat) : List Int := (List.zipWith f x y).take i ++ x.drop i
theorem mix_step (f : Int → Int → Int) {x y : List Int} (hx : dOk x) (hy : dOk y) {i : Nat} (h : i < 8) : ∃ a b, (intV (mixO f x y i))[i]? = some (.int .i64 a) ∧ (intV y)[i]? = some (.int .i64 b) ∧ (intV (mixO f x y i)).set i (.int .i64 (f a b)) = intV (mixO f x y (i + 1)) ∧ (0 ≤ a ∧ a < 65536) ∧ 0 ≤ b ∧ b < 65536 := by
  have hxl := hx.1
  have hyl := hy.1
  have h1 : i < x.length := by omega
  have h2 : i < y.length := by omega
  have hz : (List.zipWith f x y).length = 8 := by simp [hxl, hyl]
  have hg : (List.zipWith f x y)[i]? = some (f x[i] y[i]) := by rw [List.getElem?_eq_getElem (by omega), List.getElem_zipWith]
  have hd := List.drop_eq_getElem_cons h1
  have ht : ((List.zipWith f x y).take i).length = i := by simp [hxl, hyl]; omega
  refine ⟨x[i], y[i], ?_, ?_, ?_, hx.2 _ (List.getElem_mem _), hy.2 _ (List.getElem_mem _)⟩
  · unfold mixO
    rw [List.getElem?_map, List.getElem?_append_right (by omega), ht, Nat.sub_self, hd]; rfl
  · rw [List.getElem?_map, List.getElem?_eq_getElem h2]; rfl
  · unfold mixO
    rw [← List.map_set, List.set_append_right _ _ (by omega), ht, Nat.sub_self, hd, List.set_cons_zero, List.take_add_one, hg]
    simp
theorem heap_setCell' {w : World} {b o : Nat} {cs : Array Value} {t : TypeId} {v : Value} (h : w.heap[b]? = some (.cells cs t (0, 0))) : (w.setCell ⟨b, o, none⟩ v).heap[b]? = some (.cells (cs.setIfInBounds o v) t (0, 0)) := by
  unfold World.setCell
  simp only [Array.getElem?_modify, if_true, h, Option.map_some]
  rfl
theorem info45 : (Tryz.prog.info? 45).map (·.size) = some 2 := by kernel_rfl
theorem und45 : ∃ a, Tryz.prog.underlying 45 = some (.struct a) := by
  have h : (match Tryz.prog.underlying 45 with | some (.struct _) => true | _ => false) = true := by kernel_rfl
  split at h
  · rename_i a he; exact ⟨a, he⟩
  · exact absurd h (by simp)
theorem three_size (w : World) (a b c : Obj) : (((w.alloc a).alloc b).alloc c).heap.size = w.heap.size + 3 := by
  show (((w.heap.push a).push b).push c).size = _
  simp
theorem three_one (w : World) (a b c : Obj) : (((w.alloc a).alloc b).alloc c).heap[w.heap.size + 1]? = some b := by
  show (((w.heap.push a).push b).push c)[_]? = _
  simp [Array.getElem_push]
theorem three_two (w : World) (a b c : Obj) : (((w.alloc a).alloc b).alloc c).heap[w.heap.size + 2]? = some c := by
  show (((w.heap.push a).push b).push c)[_]? = _
  simp [Array.getElem_push]
theorem three_below (w : World) (a b c : Obj) : Below w.heap.size w (((w.alloc a).alloc b).alloc c) :=
  (((Below.refl w.heap.size w).alloc (Nat.le_refl _) _).alloc (by show _ ≤ (w.heap.push a).size; simp) _).alloc (by show _ ≤ ((w.heap.push a).push b).size; simp; omega) _
theorem Row8.mono {w : World} {b b' g cap : Nat} {l : List Int} (h : Row8 w b g cap l) (hb : b' ≤ b) : Row8 w b' g cap l := by
  refine ⟨h.1, ?_⟩
  rcases h.2 with h' | ⟨g', cap', cur, h1, h2, h3⟩
  · exact .inl h'
  · exact .inr ⟨g', cap', cur, h1, Nat.le_trans hb h2, h3⟩
theorem Row8.kept {w w' : World} {b g cap n : Nat} {l : List Int} (h : Row8 w b g cap l) (hb : Below n w w') (hg : g < n) : Row8 w' b g cap l := by
  refine ⟨h.1, ?_⟩
  rcases h.2 with h' | ⟨g', cap', cur, h1, h2, h3, h4⟩
  · exact .inl h'
  · refine .inr ⟨g', cap', cur, h1, h2, ?_, h4⟩
    simp only [Value.slice.injEq, Option.some.injEq, Addr.mk.injEq, and_true, true_and] at h1
    rw [← h1.1] at h3 ⊢
    rw [hb.block _ hg]; exact h3
theorem below_cells {w w' : World} {n b : Nat} {cs : Array Value} {t : TypeId} (hb : Below n w w') (h : w.heap[b]? = some (.cells cs t (0, 0))) (hn : b < n) (j : Nat) : w'.cell? ⟨b, j, none⟩ = cs[j]? := cell_of_row w' b j cs t (0, 0) ((hb.block _ hn).trans h)
set_option maxHeartbeats 2000000 in
set_option maxRecDepth 100000 in
theorem add_walk {h l h' l' : Int} {x y z : List Int} {u v : Int} (w : World)
    (c1 : ∀ w, Calls Tryz.prog 67 #[.agg #[.int .i64 h, .int .u64 l]] w (RowC w x)) (c2 : ∀ w, Calls Tryz.prog 67 #[.agg #[.int .i64 h', .int .u64 l']] w (RowC w y))
    (C3 : ∀ w g b cap, Row8 w b g cap (mixO (· + ·) x y 8) → Calls Tryz.prog 69 #[.slice (some ⟨g, 0, none⟩) 8 cap] w (RowC w z)) (C4 : ∀ w g b cap, Row8 w b g cap z → Calls Tryz.prog 68 #[.slice (some ⟨g, 0, none⟩) 8 cap] w (WideC w (.agg #[.int .i64 u, .int .u64 v])))
    (hx : dOk x) (hy : dOk y) : Calls Tryz.prog 52 #[.agg #[.int .i64 h, .int .u64 l], .agg #[.int .i64 h', .int .u64 l']] w (WideC w (.agg #[.int .i64 u, .int .u64 v])) := by
  have C1 := Lib.hid c1
  have C2 := Lib.hid c2
  have HX := Lib.hid hx
  have HY := Lib.hid hy
  have C3' := Lib.hid C3
  have C4' := Lib.hid C4
  clear c1 c2 hx hy C3 C4
  have hsz := three_size w (Obj.cells #[Value.int IntKind.i64 h, Value.int IntKind.u64 l] 45) (Obj.cells #[Value.int IntKind.i64 h', Value.int IntKind.u64 l'] 45) (Obj.cells #[Value.int IntKind.i64 0, Value.int IntKind.u64 0] 45)
  have hW1 := three_one w (Obj.cells #[Value.int IntKind.i64 h, Value.int IntKind.u64 l] 45) (Obj.cells #[Value.int IntKind.i64 h', Value.int IntKind.u64 l'] 45) (Obj.cells #[Value.int IntKind.i64 0, Value.int IntKind.u64 0] 45)
  have hW2 := three_two w (Obj.cells #[Value.int IntKind.i64 h, Value.int IntKind.u64 l] 45) (Obj.cells #[Value.int IntKind.i64 h', Value.int IntKind.u64 l'] 45) (Obj.cells #[Value.int IntKind.i64 0, Value.int IntKind.u64 0] 45)
  have hW0 := three_below w (Obj.cells #[Value.int IntKind.i64 h, Value.int IntKind.u64 l] 45) (Obj.cells #[Value.int IntKind.i64 h', Value.int IntKind.u64 l'] 45) (Obj.cells #[Value.int IntKind.i64 0, Value.int IntKind.u64 0] 45)
  have HS := Lib.hid hsz
  have HW := Lib.hid (And.intro hW1 (And.intro hW2 hW0))
  clear hsz hW1 hW2 hW0
  go_enter Tryz.func52, Tryz.ntmps52
  go_wp2_with fail
  refine (C1.out _).mono ?_
  rintro e w1 ⟨g, cap, rfl, hr1, hb1⟩
  rw [HS.out] at hr1 hb1
  obtain ⟨hW1, hW2, hW0⟩ := HW.out
  have e1 : w1.cell? ⟨w.heap.size + 1, 0, none⟩ = some (.int .i64 h') := below_cells hb1 hW1 (by omega) 0
  have e2 : w1.cell? ⟨w.heap.size + 1, 1, none⟩ = some (.int .u64 l') := below_cells hb1 hW1 (by omega) 1
  have e3 := (hb1.block (w.heap.size + 2) (by simp)).trans hW2
  have hb1' := hW0.trans (hb1.mono (by omega))
  have R1 := Lib.hid (And.intro hr1 (And.intro e3 hb1'))
  clear hW1 hW2 hW0 hr1 hb1 e3 hb1' C1 HW HS
  go_wp2_with fail
  refine (C2.out _).mono ?_
  rintro e w2 ⟨g2, cap2, rfl, hr2, hb2⟩
  clear e1 e2
  obtain ⟨hr1, e3, hb1⟩ := R1.out
  have hg := hr1.lt g rfl
  have hg2 := hr2.lt g2 rfl
  have hr1' : Row8 w2 (w.heap.size + 3) g cap (mixO (· + ·) x y 0) := Row8.kept hr1 hb2 hg.2
  have e3' := (hb2.block _ (Array.getElem?_eq_some_iff.1 e3).1).trans e3
  have hb2' := hb1.trans (hb2.mono (Nat.le_of_lt (by have := hg.1; have := hg.2; omega)))
  have hne : g < w1.heap.size ∧ w1.heap.size ≤ g2 ∧ w.heap.size + 3 ≤ w1.heap.size := by have := hg.1; have := hg.2; exact ⟨hg.2, hg2.1, by omega⟩
  have hr2' : Row8 w2 (w.heap.size + 3) g2 cap2 y := Row8.mono hr2 hne.2.2
  have hgg : g ≠ g2 := by omega
  have R2 := Lib.hid (And.intro hr1' (And.intro hr2' (And.intro e3' (And.intro hb2' hgg))))
  clear hr1 hr2 e3 hb1 hb2 hg hg2 hr1' e3' hb2' hne hr2' hgg R1 C2
  go_wp2_with fail
  go_loopw [7] (fun v wr => ∃ i : Nat, i ≤ 8 ∧ v = .int .i64 i ∧ Row8 wr (w.heap.size + 3) g cap (mixO (· + ·) x y i) ∧ Row8 wr (w.heap.size + 3) g2 cap2 y ∧ wr.heap[w.heap.size + 2]? = some (Obj.cells #[Value.int IntKind.i64 0, Value.int IntKind.u64 0] 45) ∧ Below w.heap.size w wr)
    (fun v _ => 8 - (RowKit.intOf v).toNat)
  case atStart =>
    obtain ⟨hr1, hr2, e3, hb, _⟩ := R2.out
    exact ⟨0, by omega, rfl, hr1, hr2, e3, hb⟩
  case round =>
    obtain ⟨i, hi, rfl, hr1, hr2, e3, hb⟩ := hrel
    have hgg := R2.out.2.2.2.2
    clear R2
    by_cases hi8 : i < 8
    · obtain ⟨xi, yi, hxi, hyi, hset, hbx, hby⟩ := mix_step (· + ·) HX.out HY.out hi8
      have e1 := (hr1.cellAt i (by omega)).trans hxi
      have e2 := (hr2.cellAt i (by omega)).trans hyi
      have e4 := hr1.frozenAt i
      have R := Lib.hid (And.intro hr1 (And.intro hr2 (And.intro e3 (And.intro hb (And.intro hgg hset)))))
      clear hr1 hr2 e3 hb hgg hset hxi hyi HX HY
      go_wp2_with fail
      go_region
      obtain ⟨hr1, hr2, e3, hb, hgg, hset⟩ := R.out
      have hg := hr1.lt g rfl
      have s1 : Row8 (wr.setCell ⟨g, i, none⟩ (.int .i64 (xi + yi))).drew (w.heap.size + 3) g cap (mixO (· + ·) x y (i + 1)) := by
        have := (hr1.stored i (.int .i64 (xi + yi))).1
        rw [hset] at this
        exact this.drew
      have s2 : Row8 (wr.setCell ⟨g, i, none⟩ (.int .i64 (xi + yi))).drew (w.heap.size + 3) g2 cap2 y := (World.ownsRow.kept hr2 (hr1.stored i (.int .i64 (xi + yi))).2 (Or.inr (by simp [Value.ownBlock]; omega))).drew
      have s3 : (wr.setCell ⟨g, i, none⟩ (.int .i64 (xi + yi))).drew.heap[w.heap.size + 2]? = some (Obj.cells #[Value.int IntKind.i64 0, Value.int IntKind.u64 0] 45) := by
        show (wr.setCell ⟨g, i, none⟩ (.int .i64 (xi + yi))).heap[w.heap.size + 2]? = _
        rw [Below.heap_setCell _ _ _ _ (by show w.heap.size + 2 ≠ g; omega)]; exact e3
      have s4 : Below w.heap.size w (wr.setCell ⟨g, i, none⟩ (.int .i64 (xi + yi))).drew := by
        have := hb.setCell (p := ⟨g, i, none⟩) (by show w.heap.size ≤ g; omega) (.int .i64 (xi + yi))
        exact ⟨this.os, this.tape, this.output, this.size, this.block⟩
      generalize (wr.setCell ⟨g, i, none⟩ (.int .i64 (xi + yi))).drew = w5 at *
      clear hr1 hr2 e3 hb hgg hset hg e1 e2 e4
      have R := Lib.hid (And.intro s1 (And.intro s2 (And.intro s3 s4)))
      clear s1 s2 s3 s4
      go_wp2_with fail
      obtain ⟨s1, s2, s3, s4⟩ := R.out
      exact ⟨⟨i + 1, by omega, by simp, s1, s2, s3, s4⟩, by simp [RowKit.intOf]; omega⟩
    · obtain rfl : i = 8 := by omega
      have R := Lib.hid (And.intro hr1 (And.intro hr2 (And.intro e3 (And.intro hb hgg))))
      clear hr1 hr2 e3 hb hgg
      go_wp2_with fail
      obtain ⟨hr1, hr2, e3, hb, hgg⟩ := R.out
      refine (C3'.out _ _ _ _ hr1).mono ?_
      rintro e w3 ⟨g3, cap3, rfl, hr3, hb3⟩
      have hsz := hb.size
      have e3' := (hb3.block _ (Array.getElem?_eq_some_iff.1 e3).1).trans e3
      have hb3' := hb.trans (hb3.mono hsz)
      have R := Lib.hid (And.intro hr3 (And.intro e3' hb3'))
      clear hr1 hr2 e3 hb hgg hb3 hsz e3' hb3' hr3
      go_wp2_with fail
      obtain ⟨hr3, e3, hb⟩ := R.out
      refine (C4'.out _ _ _ _ hr3).mono ?_
      rintro e w4 ⟨rfl, hb4⟩
      have hsz := hb.size
      have e3' := (hb4.block _ (Array.getElem?_eq_some_iff.1 e3).1).trans e3
      have hb4' := hb.trans (hb4.mono hsz)
      clear hb hb4 e3 hsz hr3
      have f1 : w4.cell? ⟨w.heap.size + 1 + 1, 0, none⟩ = some (.int .i64 0) := cell_of_row w4 (w.heap.size + 2) 0 _ _ _ e3'
      have f2 : w4.cell? ⟨w.heap.size + 1 + 1, 1, none⟩ = some (.int .u64 0) := cell_of_row w4 (w.heap.size + 2) 1 _ _ _ e3'
      have f3 : w4.frozen? ⟨w.heap.size + 1 + 1, 0, none⟩ = false := frozen_of_row w4 (w.heap.size + 2) 0 _ _ e3'
      have f4 : w4.frozen? ⟨w.heap.size + 1 + 1, 1, none⟩ = false := frozen_of_row w4 (w.heap.size + 2) 1 _ _ e3'
      have R := Lib.hid (And.intro hb4' e3')
      clear hb4' e3'
      go_wp2_with fail
      obtain ⟨hb, e3⟩ := R.out
      have g1 : ((w4.setCell ⟨w.heap.size + 1 + 1, 0, none⟩ (.int .i64 u)).setCell ⟨w.heap.size + 1 + 1, 1, none⟩ (.int .u64 v)).heap[w.heap.size + 2]? = some (.cells #[.int .i64 u, .int .u64 v] 45 (0, 0)) := heap_setCell' (o := 1) (v := .int .u64 v) (heap_setCell' (o := 0) (v := .int .i64 u) e3)
      have g2 := (hb.setCell (p := ⟨w.heap.size + 1 + 1, 0, none⟩) (by show w.heap.size ≤ w.heap.size + 1 + 1; omega) (.int .i64 u)).setCell (p := ⟨w.heap.size + 1 + 1, 1, none⟩) (by show w.heap.size ≤ w.heap.size + 1 + 1; omega) (.int .u64 v)
      generalize ((w4.setCell ⟨w.heap.size + 1 + 1, 0, none⟩ (.int .i64 u)).setCell ⟨w.heap.size + 1 + 1, 1, none⟩ (.int .u64 v)) = w5 at *
      clear f1 f2 f3 f4 hb e3 R C3' C4'
      have hres : ∀ tmps : Array Value, tmps.getD 4 undef = .pointer (some ⟨w.heap.size + 2, 0, none⟩) → (results Tryz.f52 tmps).run Tryz.prog w5 = .ok (.agg #[.int .i64 u, .int .u64 v]) w5 := fun tmps ht => by
        obtain ⟨f0, hu⟩ := und45
        exact results_cell_row (P := Tryz.prog) (fn := Tryz.f52) (p := 4) (ty := 45) rfl tmps w5 (w.heap.size + 2) 45 _ (0, 0) _ ht g1 hu rfl info45
      exact ⟨rfl, _, hres _ rfl, rfl, g2⟩
set_option maxHeartbeats 2000000 in
set_option maxRecDepth 100000 in
theorem sub_walk {h l h' l' : Int} {x y z : List Int} {u v : Int} (w : World)
    (c1 : ∀ w, Calls Tryz.prog 67 #[.agg #[.int .i64 h, .int .u64 l]] w (RowC w x)) (c2 : ∀ w, Calls Tryz.prog 67 #[.agg #[.int .i64 h', .int .u64 l']] w (RowC w y))
    (C3 : ∀ w g b cap, Row8 w b g cap (mixO (· - ·) x y 8) → Calls Tryz.prog 69 #[.slice (some ⟨g, 0, none⟩) 8 cap] w (RowC w z)) (C4 : ∀ w g b cap, Row8 w b g cap z → Calls Tryz.prog 68 #[.slice (some ⟨g, 0, none⟩) 8 cap] w (WideC w (.agg #[.int .i64 u, .int .u64 v])))
    (hx : dOk x) (hy : dOk y) : Calls Tryz.prog 122 #[.agg #[.int .i64 h, .int .u64 l], .agg #[.int .i64 h', .int .u64 l']] w (WideC w (.agg #[.int .i64 u, .int .u64 v])) := by
  have C1 := Lib.hid c1
  have C2 := Lib.hid c2
  have HX := Lib.hid hx
  have HY := Lib.hid hy
  have C3' := Lib.hid C3
  have C4' := Lib.hid C4
  clear c1 c2 hx hy C3 C4
  have hsz := three_size w (Obj.cells #[Value.int IntKind.i64 h, Value.int IntKind.u64 l] 45) (Obj.cells #[Value.int IntKind.i64 h', Value.int IntKind.u64 l'] 45) (Obj.cells #[Value.int IntKind.i64 0, Value.int IntKind.u64 0] 45)
  have hW1 := three_one w (Obj.cells #[Value.int IntKind.i64 h, Value.int IntKind.u64 l] 45) (Obj.cells #[Value.int IntKind.i64 h', Value.int IntKind.u64 l'] 45) (Obj.cells #[Value.int IntKind.i64 0, Value.int IntKind.u64 0] 45)
  have hW2 := three_two w (Obj.cells #[Value.int IntKind.i64 h, Value.int IntKind.u64 l] 45) (Obj.cells #[Value.int IntKind.i64 h', Value.int IntKind.u64 l'] 45) (Obj.cells #[Value.int IntKind.i64 0, Value.int IntKind.u64 0] 45)
  have hW0 := three_below w (Obj.cells #[Value.int IntKind.i64 h, Value.int IntKind.u64 l] 45) (Obj.cells #[Value.int IntKind.i64 h', Value.int IntKind.u64 l'] 45) (Obj.cells #[Value.int IntKind.i64 0, Value.int IntKind.u64 0] 45)
  have HS := Lib.hid hsz
  have HW := Lib.hid (And.intro hW1 (And.intro hW2 hW0))
  clear hsz hW1 hW2 hW0
  go_enter Tryz.func122, Tryz.ntmps122
  go_wp2_with fail
  refine (C1.out _).mono ?_
  rintro e w1 ⟨g, cap, rfl, hr1, hb1⟩
  rw [HS.out] at hr1 hb1
  obtain ⟨hW1, hW2, hW0⟩ := HW.out
  have e1 : w1.cell? ⟨w.heap.size + 1, 0, none⟩ = some (.int .i64 h') := below_cells hb1 hW1 (by omega) 0
  have e2 : w1.cell? ⟨w.heap.size + 1, 1, none⟩ = some (.int .u64 l') := below_cells hb1 hW1 (by omega) 1
  have e3 := (hb1.block (w.heap.size + 2) (by simp)).trans hW2
  have hb1' := hW0.trans (hb1.mono (by omega))
  have R1 := Lib.hid (And.intro hr1 (And.intro e3 hb1'))
  clear hW1 hW2 hW0 hr1 hb1 e3 hb1' C1 HW HS
  go_wp2_with fail
  refine (C2.out _).mono ?_
  rintro e w2 ⟨g2, cap2, rfl, hr2, hb2⟩
  clear e1 e2
  obtain ⟨hr1, e3, hb1⟩ := R1.out
  have hg := hr1.lt g rfl
  have hg2 := hr2.lt g2 rfl
  have hr1' : Row8 w2 (w.heap.size + 3) g cap (mixO (· - ·) x y 0) := Row8.kept hr1 hb2 hg.2
  have e3' := (hb2.block _ (Array.getElem?_eq_some_iff.1 e3).1).trans e3
  have hb2' := hb1.trans (hb2.mono (Nat.le_of_lt (by have := hg.1; have := hg.2; omega)))
  have hne : g < w1.heap.size ∧ w1.heap.size ≤ g2 ∧ w.heap.size + 3 ≤ w1.heap.size := by have := hg.1; have := hg.2; exact ⟨hg.2, hg2.1, by omega⟩
  have hr2' : Row8 w2 (w.heap.size + 3) g2 cap2 y := Row8.mono hr2 hne.2.2
  have hgg : g ≠ g2 := by omega
  have R2 := Lib.hid (And.intro hr1' (And.intro hr2' (And.intro e3' (And.intro hb2' hgg))))
  clear hr1 hr2 e3 hb1 hb2 hg hg2 hr1' e3' hb2' hne hr2' hgg R1 C2
  go_wp2_with fail
  go_loopw [7] (fun v wr => ∃ i : Nat, i ≤ 8 ∧ v = .int .i64 i ∧ Row8 wr (w.heap.size + 3) g cap (mixO (· - ·) x y i) ∧ Row8 wr (w.heap.size + 3) g2 cap2 y ∧ wr.heap[w.heap.size + 2]? = some (Obj.cells #[Value.int IntKind.i64 0, Value.int IntKind.u64 0] 45) ∧ Below w.heap.size w wr)
    (fun v _ => 8 - (RowKit.intOf v).toNat)
  case atStart =>
    obtain ⟨hr1, hr2, e3, hb, _⟩ := R2.out
    exact ⟨0, by omega, rfl, hr1, hr2, e3, hb⟩
  case round =>
    obtain ⟨i, hi, rfl, hr1, hr2, e3, hb⟩ := hrel
    have hgg := R2.out.2.2.2.2
    clear R2
    by_cases hi8 : i < 8
    · obtain ⟨xi, yi, hxi, hyi, hset, hbx, hby⟩ := mix_step (· - ·) HX.out HY.out hi8
      have e1 := (hr1.cellAt i (by omega)).trans hxi
      have e2 := (hr2.cellAt i (by omega)).trans hyi
      have e4 := hr1.frozenAt i
      have R := Lib.hid (And.intro hr1 (And.intro hr2 (And.intro e3 (And.intro hb (And.intro hgg hset)))))
      clear hr1 hr2 e3 hb hgg hset hxi hyi HX HY
      go_wp2_with fail
      go_region
      obtain ⟨hr1, hr2, e3, hb, hgg, hset⟩ := R.out
      have hg := hr1.lt g rfl
      have s1 : Row8 (wr.setCell ⟨g, i, none⟩ (.int .i64 (xi - yi))).drew (w.heap.size + 3) g cap (mixO (· - ·) x y (i + 1)) := by
        have := (hr1.stored i (.int .i64 (xi - yi))).1
        rw [hset] at this
        exact this.drew
      have s2 : Row8 (wr.setCell ⟨g, i, none⟩ (.int .i64 (xi - yi))).drew (w.heap.size + 3) g2 cap2 y := (World.ownsRow.kept hr2 (hr1.stored i (.int .i64 (xi - yi))).2 (Or.inr (by simp [Value.ownBlock]; omega))).drew
      have s3 : (wr.setCell ⟨g, i, none⟩ (.int .i64 (xi - yi))).drew.heap[w.heap.size + 2]? = some (Obj.cells #[Value.int IntKind.i64 0, Value.int IntKind.u64 0] 45) := by
        show (wr.setCell ⟨g, i, none⟩ (.int .i64 (xi - yi))).heap[w.heap.size + 2]? = _
        rw [Below.heap_setCell _ _ _ _ (by show w.heap.size + 2 ≠ g; omega)]; exact e3
      have s4 : Below w.heap.size w (wr.setCell ⟨g, i, none⟩ (.int .i64 (xi - yi))).drew := by
        have := hb.setCell (p := ⟨g, i, none⟩) (by show w.heap.size ≤ g; omega) (.int .i64 (xi - yi))
        exact ⟨this.os, this.tape, this.output, this.size, this.block⟩
      generalize (wr.setCell ⟨g, i, none⟩ (.int .i64 (xi - yi))).drew = w5 at *
      clear hr1 hr2 e3 hb hgg hset hg e1 e2 e4
      have R := Lib.hid (And.intro s1 (And.intro s2 (And.intro s3 s4)))
      clear s1 s2 s3 s4
      go_wp2_with fail
      obtain ⟨s1, s2, s3, s4⟩ := R.out
      exact ⟨⟨i + 1, by omega, by simp, s1, s2, s3, s4⟩, by simp [RowKit.intOf]; omega⟩
    · obtain rfl : i = 8 := by omega
      have R := Lib.hid (And.intro hr1 (And.intro hr2 (And.intro e3 (And.intro hb hgg))))
      clear hr1 hr2 e3 hb hgg
      go_wp2_with fail
      obtain ⟨hr1, hr2, e3, hb, hgg⟩ := R.out
      refine (C3'.out _ _ _ _ hr1).mono ?_
      rintro e w3 ⟨g3, cap3, rfl, hr3, hb3⟩
      have hsz := hb.size
      have e3' := (hb3.block _ (Array.getElem?_eq_some_iff.1 e3).1).trans e3
      have hb3' := hb.trans (hb3.mono hsz)
      have R := Lib.hid (And.intro hr3 (And.intro e3' hb3'))
      clear hr1 hr2 e3 hb hgg hb3 hsz e3' hb3' hr3
      go_wp2_with fail
      obtain ⟨hr3, e3, hb⟩ := R.out
      refine (C4'.out _ _ _ _ hr3).mono ?_
      rintro e w4 ⟨rfl, hb4⟩
      have hsz := hb.size
      have e3' := (hb4.block _ (Array.getElem?_eq_some_iff.1 e3).1).trans e3
      have hb4' := hb.trans (hb4.mono hsz)
      clear hb hb4 e3 hsz hr3
      have f1 : w4.cell? ⟨w.heap.size + 1 + 1, 0, none⟩ = some (.int .i64 0) := cell_of_row w4 (w.heap.size + 2) 0 _ _ _ e3'
      have f2 : w4.cell? ⟨w.heap.size + 1 + 1, 1, none⟩ = some (.int .u64 0) := cell_of_row w4 (w.heap.size + 2) 1 _ _ _ e3'
      have f3 : w4.frozen? ⟨w.heap.size + 1 + 1, 0, none⟩ = false := frozen_of_row w4 (w.heap.size + 2) 0 _ _ e3'
      have f4 : w4.frozen? ⟨w.heap.size + 1 + 1, 1, none⟩ = false := frozen_of_row w4 (w.heap.size + 2) 1 _ _ e3'
      have R := Lib.hid (And.intro hb4' e3')
      clear hb4' e3'
      go_wp2_with fail
      obtain ⟨hb, e3⟩ := R.out
      have g1 : ((w4.setCell ⟨w.heap.size + 1 + 1, 0, none⟩ (.int .i64 u)).setCell ⟨w.heap.size + 1 + 1, 1, none⟩ (.int .u64 v)).heap[w.heap.size + 2]? = some (.cells #[.int .i64 u, .int .u64 v] 45 (0, 0)) := heap_setCell' (o := 1) (v := .int .u64 v) (heap_setCell' (o := 0) (v := .int .i64 u) e3)
      have g2 := (hb.setCell (p := ⟨w.heap.size + 1 + 1, 0, none⟩) (by show w.heap.size ≤ w.heap.size + 1 + 1; omega) (.int .i64 u)).setCell (p := ⟨w.heap.size + 1 + 1, 1, none⟩) (by show w.heap.size ≤ w.heap.size + 1 + 1; omega) (.int .u64 v)
      generalize ((w4.setCell ⟨w.heap.size + 1 + 1, 0, none⟩ (.int .i64 u)).setCell ⟨w.heap.size + 1 + 1, 1, none⟩ (.int .u64 v)) = w5 at *
      clear f1 f2 f3 f4 hb e3 R C3' C4'
      have hres : ∀ tmps : Array Value, tmps.getD 4 undef = .pointer (some ⟨w.heap.size + 2, 0, none⟩) → (results Tryz.f122 tmps).run Tryz.prog w5 = .ok (.agg #[.int .i64 u, .int .u64 v]) w5 := fun tmps ht => by
        obtain ⟨f0, hu⟩ := und45
        exact results_cell_row (P := Tryz.prog) (fn := Tryz.f122) (p := 4) (ty := 45) rfl tmps w5 (w.heap.size + 2) 45 _ (0, 0) _ ht g1 hu rfl info45
      exact ⟨rfl, _, hres _ rfl, rfl, g2⟩
end Go.Abs

namespace Go.Abs
open Go.Proofs Go.RowKit Go.Maps
theorem wide_congr {a b : Int} (h : (a - b) % 340282366920938463463374607431768211456 = 0) : wideV a = wideV b := by
  obtain ⟨k, hk⟩ : ∃ k, a = b + k * 340282366920938463463374607431768211456 := ⟨(a - b) / 340282366920938463463374607431768211456, by omega⟩
  subst hk
  unfold wideV
  rw [IntKind.wrap_i64, IntKind.wrap_i64]
  congr 4
  · omega
  · congr 1
    omega
theorem zip_valA : ∀ {l r : List Int}, l.length = r.length → valB (List.zipWith (· + ·) l r) = valB l + valB r
  | [], [], _ => rfl
  | d :: l, e :: r, h => by
    have ih := zip_valA (l := l) (r := r) (by simpa using h)
    simp only [List.zipWith_cons_cons, valB] at *
    omega
theorem zip_valS : ∀ {l r : List Int}, l.length = r.length → valB (List.zipWith (· - ·) l r) = valB l - valB r
  | [], [], _ => rfl
  | d :: l, e :: r, h => by
    have ih := zip_valS (l := l) (r := r) (by simpa using h)
    simp only [List.zipWith_cons_cons, valB] at *
    omega
theorem zip_memF {f : Int → Int → Int} : ∀ {l r : List Int} {d : Int}, d ∈ List.zipWith f l r → ∃ a ∈ l, ∃ b ∈ r, d = f a b
  | [], r, d, h => by simp at h
  | a :: l, [], d, h => by simp at h
  | a :: l, b :: r, d, h => by
    rw [List.zipWith_cons_cons] at h
    rcases List.mem_cons.1 h with rfl | h
    · exact ⟨a, by simp, b, by simp, rfl⟩
    · obtain ⟨x, hx, y, hy, e⟩ := zip_memF h
      exact ⟨x, by simp [hx], y, by simp [hy], e⟩
theorem mix_end {f : Int → Int → Int} {x y : List Int} (hx : dOk x) (hy : dOk y) : mixO f x y 8 = List.zipWith f x y := by
  have := hx.1
  have := hy.1
  unfold mixO
  rw [List.take_of_length_le (by simp; omega), List.drop_of_length_le (by omega), List.append_nil]
theorem mix_ok {f : Int → Int → Int} {x y : List Int} (hx : dOk x) (hy : dOk y) (hf : ∀ a b, 0 ≤ a ∧ a < 65536 → 0 ≤ b ∧ b < 65536 → -1000000000000 ≤ f a b ∧ f a b ≤ 1000000000000) : cOk (mixO f x y 8) := by
  rw [mix_end hx hy]
  refine ⟨by simp [hx.1, hy.1], fun d hd => ?_⟩
  obtain ⟨a, ha, b, hb, rfl⟩ := zip_memF hd
  exact hf a b (hx.2 a ha) (hy.2 b hb)
theorem add_calls {h l h' l' : Int} (h1 : wOk h l) (h2 : wOk h' l') (w : World) : Calls PU 52 #[.agg #[.int .i64 h, .int .u64 l], .agg #[.int .i64 h', .int .u64 l']] w (WideC w (wideV (wv h l + wv h' l'))) := by
  have d1 := dig_ok (wv h l)
  have d2 := dig_ok (wv h' l')
  have hm := mix_ok (f := (· + ·)) d1 d2 (fun a b ha hb => by omega)
  have e := zip_valA (l := keptDig 8 (wv h l)) (r := keptDig 8 (wv h' l')) (by rw [d1.1, d2.1])
  rw [valB_dig, valB_dig] at e
  have key := add_walk (u := IntKind.i64.wrap ((valB (keptDig 8 (valB (mixO (· + ·) (keptDig 8 (wv h l)) (keptDig 8 (wv h' l')) 8)))) / 18446744073709551616)) (v := (valB (keptDig 8 (valB (mixO (· + ·) (keptDig 8 (wv h l)) (keptDig 8 (wv h' l')) 8)))) % 18446744073709551616)
    w (fun w => dig_calls h1 w) (fun w => dig_calls h2 w) (fun w g b cap hr => carry_calls hr hm) (fun w g b cap hr => make_calls hr (dig_ok _)) d1 d2
  have hv : wideV (valB (keptDig 8 (valB (mixO (· + ·) (keptDig 8 (wv h l)) (keptDig 8 (wv h' l')) 8)))) = wideV (wv h l + wv h' l') := wide_congr (by
    rw [valB_dig, mix_end d1 d2, e]
    generalize wv h l = p
    generalize wv h' l' = q
    simp only [show (65536 : Int) ^ 8 = 340282366920938463463374607431768211456 from rfl]
    omega)
  unfold wideV at hv ⊢
  rw [hv] at key
  exact key
theorem sub_calls {h l h' l' : Int} (h1 : wOk h l) (h2 : wOk h' l') (w : World) : Calls PU 122 #[.agg #[.int .i64 h, .int .u64 l], .agg #[.int .i64 h', .int .u64 l']] w (WideC w (wideV (wv h l - wv h' l'))) := by
  have d1 := dig_ok (wv h l)
  have d2 := dig_ok (wv h' l')
  have hm := mix_ok (f := (· - ·)) d1 d2 (fun a b ha hb => by omega)
  have e := zip_valS (l := keptDig 8 (wv h l)) (r := keptDig 8 (wv h' l')) (by rw [d1.1, d2.1])
  rw [valB_dig, valB_dig] at e
  have key := sub_walk (u := IntKind.i64.wrap ((valB (keptDig 8 (valB (mixO (· - ·) (keptDig 8 (wv h l)) (keptDig 8 (wv h' l')) 8)))) / 18446744073709551616)) (v := (valB (keptDig 8 (valB (mixO (· - ·) (keptDig 8 (wv h l)) (keptDig 8 (wv h' l')) 8)))) % 18446744073709551616)
    w (fun w => dig_calls h1 w) (fun w => dig_calls h2 w) (fun w g b cap hr => carry_calls hr hm) (fun w g b cap hr => make_calls hr (dig_ok _)) d1 d2
  have hv : wideV (valB (keptDig 8 (valB (mixO (· - ·) (keptDig 8 (wv h l)) (keptDig 8 (wv h' l')) 8)))) = wideV (wv h l - wv h' l') := wide_congr (by
    rw [valB_dig, mix_end d1 d2, e]
    generalize wv h l = p
    generalize wv h' l' = q
    simp only [show (65536 : Int) ^ 8 = 340282366920938463463374607431768211456 from rfl]
    omega)
  unfold wideV at hv ⊢
  rw [hv] at key
  exact key
theorem good52 : goodFn PU 52 := goodU (by kernel_rfl)
theorem good122 : goodFn PU 122 := goodU (by kernel_rfl)
theorem good71 : goodFn PU 71 := goodU (by kernel_rfl)
theorem oW2 {G : Glob} {f : FuncId} {g : Int → Int → Int} (hg : goodFn PU f) (hc : ∀ {h l h' l' : Int}, wOk h l → wOk h' l' → ∀ w, Calls PU f #[.agg #[.int .i64 h, .int .u64 l], .agg #[.int .i64 h', .int .u64 l']] w (WideC w (wideV (g (wv h l) (wv h' l'))))) :
    SpecOk PU G f (sW2 fun x y => wideA (g x y)) := by
  intro g' args r lv h E w vs hI hG hn' hv hcl
  simp only at h
  split at h
  · rename_i e
    subst e
    unfold sW2 at h
    split at h
    · rename_i a b a' b'
      split at h
      · rename_i hw
        simp only [Option.some.injEq, Prod.mk.injEq] at h
        obtain ⟨rfl, rfl⟩ := h
        obtain ⟨x, y, rfl⟩ := vs_two hn'
        obtain rfl := rep_wide (hv 0 _ _ rfl rfl)
        obtain rfl := rep_wide (hv 1 _ _ rfl rfl)
        refine .inl ⟨hg, (hc hw.1 hw.2 w).mono ?_⟩
        rintro e w' ⟨rfl, hb⟩
        exact ⟨_, rfl, res_below hb fun B K => wide_rep _ _⟩
      · cases h
    · cases h
  · cases h
theorem o52 (G : Glob) : SpecOk PU G 52 s52 := oW2 (g := (· + ·)) good52 fun h1 h2 w => add_calls h1 h2 w
theorem o122 (G : Glob) : SpecOk PU G 122 s122 := oW2 (g := (· - ·)) good122 fun h1 h2 w => sub_calls h1 h2 w
end Go.Abs

namespace Go.Abs
open Go.Proofs Go.RowKit Go.Maps
theorem int_info : (PU.info? 3).map (fun i => (i.zero, i.size, i.bytes)) = some (some (.int .i64 0), 1, 8) := by kernel_rfl
theorem und87 : PU.underlying 87 = some (.slice 3) := by kernel_rfl
abbrev dblL (l : List Int) : List Int := l.map (2 * ·)
theorem und22 : PU.cellsOf 3 = 1 := by kernel_rfl
theorem getD_at {l : List Int} {i : Nat} (h : i < l.length) : l.getD i 0 = l[i] := by
  simp [List.getD, List.getElem?_eq_getElem h]
theorem dbl_val : ∀ l : List Int, valB (dblL l) = 2 * valB l
  | [] => rfl
  | d :: l => by
    have ih := dbl_val l
    show 2 * d + 65536 * valB (dblL l) = 2 * (d + 65536 * valB l)
    omega
set_option maxHeartbeats 2000000 in
set_option maxRecDepth 100000 in
theorem twice_walk {l : List Int} {b off cap0 : Nat} {n : Int} (w : World) (hl : dOk l) (hn0 : 0 ≤ n) (hn1 : n ≤ 1) (hb : b < w.heap.size) (hcell : ∀ i, i < 8 → w.cell? ⟨b, off + i, none⟩ = some (.int .i64 (l.getD i 0)))
    (C3 : ∀ w' g cap z, Row8 w' w.heap.size g cap z → cOk z → Calls PU 69 #[.slice (some ⟨g, 0, none⟩) 8 cap] w' (RowC w' (keptDig 8 (valB z)))) :
    Calls PU 71 #[.slice (some ⟨b, off, none⟩) 8 cap0, .int .i64 n] w (RowC w (keptDig 8 (2 * valB l + n))) := by
  obtain ⟨i0, hi0, hz0, hz1, hz2⟩ := info_parts int_info
  have HC := Lib.hid hcell
  have HL := Lib.hid hl
  have H3 := Lib.hid C3
  have HB := Lib.hid hb
  clear hcell hl C3 hb
  go_enter Tryz.func71, Tryz.ntmps71
  go_wp2_with fail
  go_loopw [5, 6] (fun v x wr => ∃ i : Nat, i ≤ 8 ∧ x = .int .i64 i ∧ wr.ownsRow w.heap.size 3 1 v i (intV ((dblL l).take i)) ∧ Below w.heap.size w wr)
    (fun _ x _ => 8 - (RowKit.intOf x).toNat)
  case atStart => exact ⟨0, by omega, rfl, World.ownsRow_nil _ _ _ _, Below.refl _ _⟩
  case round =>
    obtain ⟨i, hi, rfl, hrow, hnx⟩ := hrel
    by_cases hi8 : i < 8
    · obtain ⟨d, hd, hd0, hd1⟩ : ∃ d, l.getD i 0 = d ∧ 0 ≤ d ∧ d < 65536 := by
        have h1 := HL.out.1
        refine ⟨_, rfl, ?_⟩
        have : l.getD i 0 ∈ l := by rw [getD_at (by omega)]; exact List.getElem_mem _
        exact HL.out.2 _ this
      have e1 : wr.cell? ⟨b, off + i, none⟩ = some (.int .i64 d) := by
        rw [World.cell?_of_block (hnx.block b HB.out), HC.out i hi8, hd]
      have hsz := hnx.size
      go_wp2_with (first
        | (at_builtin; refine wpList_append_own _ rfl _ _ 87 rfl w.heap.size 3 i0 (.int .i64 0) 1 8 und87 hi0 hz0 hz1 hz2 rfl (by decide) _ _ _ rfl (hrow.alloc _) ⟨wr.heap.size, 0, none⟩ 1 1 [.int .i64 (2 * d)] rfl rfl (cell_one_new _ _ _) (by simp [Value.oneCell']) (by unfold maxLen at *; omega) (by omega) (by simp; omega) ?_; intro v' w3 hown' hg3 hnil3; go_frame)
        | go_in)
      go_roundw
      case rel =>
        refine ⟨i + 1, by omega, by simp, ?_, (hnx.alloc hsz _).grown hg3 (by simp; omega) (fun j hj => (hrow.lt j hj).1)⟩
        have ht : intV ((dblL l).take i) ++ [.int .i64 (2 * d)] = intV ((dblL l).take (i + 1)) := by
          have h1 := HL.out.1
          have hg : l[i]? = some d := by rw [← hd, getD_at (by omega)]; exact List.getElem?_eq_getElem _
          rw [List.take_add_one, List.getElem?_map, hg]; simp [intV]
        rw [← ht]; exact hown'
      case measure => simp [RowKit.intOf]; omega
    · obtain rfl : i = 8 := by omega
      have hdl : (dblL l).length = 8 := by simp [HL.out.1]
      rw [List.take_of_length_le (by omega)] at hrow
      rcases hrow.2 with ⟨_, hz⟩ | ⟨g, cap, cur, rfl, hrest⟩
      · cases hz
      obtain ⟨d, t, hdt⟩ : ∃ d t, dblL l = d :: t := by
        cases h : dblL l with
        | nil => rw [h] at hdl; cases hdl
        | cons d t => exact ⟨d, t, rfl⟩
      have hd := HL.out
      have hr : Row8 wr w.heap.size g cap (d :: t) := by unfold Row8; rw [← hdt]; exact hrow
      have hdb : 0 ≤ d ∧ d < 131072 := by
        have : d ∈ dblL l := by rw [hdt]; simp
        obtain ⟨c, hc, rfl⟩ := List.mem_map.1 this
        have := hd.2 c hc
        omega
      have e1 := hr.cellAt 0 (by omega)
      simp only [intV, List.map_cons, List.getElem?_cons_zero] at e1
      have e2 := hr.frozenAt 0
      have hgl := (hr.lt g rfl)
      have R := Lib.hid (And.intro hr (And.intro hnx (And.intro hdt hgl)))
      clear hr hnx hrow hrest hdl hd hdt hgl
      go_wp2_with fail
      obtain ⟨hr, hnx, hdt, hgl⟩ := R.out
      have s1 := (hr.stored 0 (.int .i64 (d + n))).1
      have s2 := hnx.setCell (p := ⟨g, 0, none⟩) hgl.1 (.int .i64 (d + n))
      generalize (wr.setCell ⟨g, 0, none⟩ (.int .i64 (d + n))) = w5 at *
      have hz : Row8 w5 w.heap.size g cap ((d + n) :: t) := s1
      have hcz : cOk ((d + n) :: t) := by
        have h1 := HL.out
        have hl8 : (d :: t).length = 8 := by rw [← hdt]; simp [h1.1]
        refine ⟨by simpa using hl8, fun x hx => ?_⟩
        rcases List.mem_cons.1 hx with rfl | hx
        · omega
        · have : x ∈ dblL l := by rw [hdt]; simp [hx]
          obtain ⟨c, hc, rfl⟩ := List.mem_map.1 this
          have := h1.2 c hc
          omega
      have hv : valB ((d + n) :: t) = 2 * valB l + n := by
        have : valB (d :: t) = 2 * valB l := by rw [← hdt]; exact dbl_val l
        simp only [valB] at this ⊢
        omega
      have hC := H3.out w5 g cap _ hz hcz
      rw [hv] at hC
      have HS := Lib.hid s2
      clear s1 s2 hz hcz hv e1 e2 hr hnx hdt hgl R
      have HCC := Lib.hid hC
      clear hC
      go_wp2_with fail
      refine HCC.out.mono ?_
      rintro e w6 ⟨g6, cap6, rfl, hr6, hb6⟩
      have hs5 := HS.out.size
      have hb7 := HS.out.trans (hb6.mono hs5)
      have hr7 := Row8.mono hr6 hs5
      clear hr6 hb6 HS
      have RR := Lib.hid (And.intro hr7 hb7)
      clear hr7 hb7
      go_wp2_with fail
      go_ret
      exact ⟨g6, cap6, rfl, RR.out.1, RR.out.2⟩
end Go.Abs

namespace Go.Abs
open Go.Proofs Go.RowKit
theorem row8_repI {I : Nat → Nat → Prop} {w : World} {base g cap : Nat} {l : List Int} (h : Row8 w base g cap l) (hI : ∀ i, i < 8 → I g i) (B : Nat → Option Nat) (K : Nat → Nat → Value → Prop) (o : Own) (ho : OwnOk K o 8 cap (.slice (some ⟨g, 0, none⟩) 8 cap)) : Rep ⟨I, B, K⟩ w (.sl 1 (intsA l) o) (.slice (some ⟨g, 0, none⟩) 8 cap) := by
  have hl : l.length = 8 := by simpa [intV] using h.1
  have hcap : 8 ≤ cap ∧ cap ≤ maxLen := by
    rcases h.2 with ⟨h', _⟩ | ⟨g', cap', cur, h', _, _, h1, h2, _⟩
    · simp at h'
    · simp only [Value.slice.injEq] at h'
      obtain ⟨_, _, rfl⟩ := h'
      exact ⟨h1, h2⟩
  have hlen : (intsA l).length = 8 := by simp [hl]
  have hes : ∀ (i : Nat) (e : AV) (j : Nat) (c : AV), (intsA l)[i]? = some e → e.cells[j]? = some c → ∃ d, l[i]? = some d ∧ j = 0 ∧ c = .int .i64 d := by
    intro i e j c hi hj
    rw [List.getElem?_map] at hi
    cases hd : l[i]? with
    | none => rw [hd] at hi; cases hi
    | some d =>
      rw [hd] at hi
      obtain rfl : AV.int .i64 d = e := by simpa using hi
      cases j with
      | zero => exact ⟨d, rfl, rfl, by simpa [AV.cells, eq_comm] using hj⟩
      | succ j => simp [AV.cells] at hj
  have key := Rep.sl (E := ⟨I, B, K⟩) (w := w) 1 (intsA l) o (some ⟨g, 0, none⟩) cap (fun i _ => .int .i64 (l.getD i 0)) (by omega) hcap.2 ?_ ?_ ?_ (by rw [hlen]; exact ho) ?_ ?_
  · rw [hlen] at key; exact key
  · refine .inr ⟨g, 0, rfl, fun i e j c hi hj => ?_⟩
    obtain ⟨d, hd, rfl, rfl⟩ := hes i e j c hi hj
    have hil := (List.getElem?_eq_some_iff.1 hd).1
    refine ⟨by have := hI i (by omega); simpa using this, ?_⟩
    simp only [Nat.mul_one, Nat.add_zero, Nat.zero_add]
    rw [h.cellAt i (by omega)]
    simp [intV, hil]
  · intro e he
    obtain ⟨d, _, rfl⟩ := List.mem_map.1 he
    rfl
  · intro e he
    obtain ⟨d, _, rfl⟩ := List.mem_map.1 he
    rfl
  · intro i e j c hi hj
    obtain ⟨d, hd, rfl, rfl⟩ := hes i e j c hi hj
    rw [show l.getD i 0 = d by simp [List.getD, hd]]
    exact .int _ _
  · intro i j; rfl
theorem row8_res {E : Env} {w w' : World} {g cap : Nat} {l : List Int} (hI : ∀ b o, E.I b o → b < w.heap.size) (h : Row8 w' w.heap.size g cap l) (hb : Below w.heap.size w w') : Res PU E w w' (.sl 1 (intsA l) (.tok 0)) [(8, 3)] (.slice (some ⟨g, 0, none⟩) 8 cap) := by
  have hg := h.lt g rfl
  refine ⟨fun b o => E.I b o ∨ (b = g ∧ o < 8), fun b o h => .inl h, fun b o h => h.imp_right fun h => by rw [h.1]; exact hg, hb, .inr ⟨8, 3, _, 1, _, rfl, size3s, h, ?_, fun B K L hK => ?_⟩⟩
  · intro g' hg' o ho
    simp only [Value.ownBlock, Option.some.injEq] at hg'
    subst hg'
    rcases ho with ho | ho
    · exact absurd (hI _ _ ho) (by omega)
    · omega
  · exact row8_repI h (fun i hi => .inr ⟨rfl, hi⟩) B K (.tok L) hK
theorem o71 (G : Glob) : SpecOk PU G 71 s71 := by
  intro g' args r lv h E w vs hI hG hn' hv hcl
  simp only at h
  split at h
  · rename_i e
    subst e
    unfold s71 at h
    split at h
    · rename_i sz es o n
      split at h
      · rename_i hz
        cases hu : unL unI es with
        | none => rw [hu] at h; cases h
        | some l =>
          rw [hu, Option.bind_some] at h
          split at h
          · rename_i hl
            simp only [Option.some.injEq, Prod.mk.injEq] at h
            obtain ⟨rfl, rfl⟩ := h
            obtain ⟨x, y, rfl⟩ := vs_two hn'
            obtain rfl := unIs_some hu
            obtain rfl := rep_int (hv 1 _ _ rfl rfl)
            have hx := hv 0 _ _ rfl rfl
            have hlen : (intsA l).length = 8 := by simp [hl.1]
            generalize hes : intsA l = es at hx hlen
            cases hx with | sl _ _ _ A cap u hcap hmax hA hsz hcl' ho hr h1 =>
            obtain rfl := hz.1
            rcases hA with hA | ⟨b, off, rfl, hc⟩
            · rw [hA] at hlen; cases hlen
            rw [hlen]
            have hcell : ∀ i, i < 8 → w.cell? ⟨b, off + i, none⟩ = some (.int .i64 (l.getD i 0)) ∧ E.I b (off + i) := by
              intro i hi
              have hil : i < l.length := by rw [hl.1]; exact hi
              have he : es[i]? = some (.int .i64 l[i]) := by rw [← hes]; simp [hil]
              have h4 := hc i _ 0 _ he rfl
              have h5 := rep_int (hr i _ 0 _ he rfl)
              simp only [Nat.mul_one, Nat.add_zero] at h4
              exact ⟨by rw [h4.2, h5, getD_at hil], h4.1⟩
            have hb : b < w.heap.size := hI b (off + 0) (hcell 0 (by omega)).2
            refine .inl ⟨good71, (twice_walk w hl hz.2.1 hz.2.2 hb (fun i hi => (hcell i hi).1) (fun w' g cap z hz hcz => carry_calls hz hcz)).mono ?_⟩
            rintro e w' ⟨g, cap', rfl, hrow, hbl⟩
            exact ⟨_, rfl, row8_res hI hrow hbl⟩
          · cases h
      · cases h
    · cases h
  · cases h
end Go.Abs

namespace Go.Abs
open Go.Proofs Go.RowKit
def bx (h l : Int) : St := ⟨[some [.int .i64 h, .int .u64 l]], []⟩
def a53 (h l : Int) : Anns := ⟨fun k => match k with
  | 1000004 => some { α := Unit, slots := [0, 1, 2, 6], nb := 1, vals := fun _ => [.agg [.int .i64 h, .int .u64 l], .int .i64 1, .ptr 0 0, .sl 1 (intsA (keptDig 8 (absI (wv h l)))) .no], sS := fun _ => bx h l, I := fun _ => True, μ := fun _ => 0, keep := some 0 }
  | 1000005 => some { α := Unit, slots := [0, 1, 2, 6, 7], nb := 1, vals := fun _ => [.agg [.int .i64 h, .int .u64 l], .int .i64 1, .ptr 0 0, .sl 1 (intsA (keptDig 8 (absI (wv h l)))) .no, .sl 1 (intsA (keptDig 8 1)) .no], sS := fun _ => bx h l, I := fun _ => True, μ := fun _ => 0, keep := some 0 }
  | 1000006 => some { α := Unit, slots := [0, 1, 2, 6, 7, 8], nb := 1, vals := fun _ => [.agg [.int .i64 h, .int .u64 l], .int .i64 1, .ptr 0 0, .sl 1 (intsA (keptDig 8 (absI (wv h l)))) .no, .sl 1 (intsA (keptDig 8 1)) .no, .sl 1 (intsA (keptDig 8 0)) .no], sS := fun _ => bx h l, I := fun _ => True, μ := fun _ => 0, keep := some 0 }
  | 8 => some { α := Nat, slots := [0, 1, 2, 6, 7, 8, 9, 10], nb := 1, vals := fun j => [.agg [.int .i64 h, .int .u64 l], .int .i64 1, .ptr 0 0, .sl 1 (intsA (keptDig 8 (absI (wv h l)))) .no, .sl 1 (intsA (keptDig 8 1)) .no, .sl 1 (intsA (keptDig 8 0)) .no, .int .i64 (absI (wv h l) / 2 ^ (128 - j)), .int .i64 (127 - (j : Int))], sS := fun _ => bx h l, I := fun j => j ≤ 128 ∧ absI (wv h l) / 2 ^ (128 - j) ≤ 1152921504606846976, μ := fun j => 128 - j, keep := some 0 }
  | 1000018 => some { α := Unit, slots := [0, 1, 2, 7, 8, 9], nb := 1, vals := fun _ => [.agg [.int .i64 h, .int .u64 l], .int .i64 1, .ptr 0 0, .sl 1 (intsA (keptDig 8 1)) .no, .sl 1 (intsA (keptDig 8 0)) .no, .int .i64 (absI (wv h l))], sS := fun _ => bx h l, I := fun _ => absI (wv h l) ≤ 1152921504606846976, μ := fun _ => 0, keep := some 0 }
  | _ => none, nA⟩
/-! ### asofref07 -/
abbrev s33 : Spec := s27
def s36 : Spec := fun args => match args with
  | [.int .i64 n] => some (.bool (farB n), [])
  | _ => none
abbrev s14 : Spec := s13
abbrev strsA (l : List (List UInt8)) : List AV := l.map AV.str
def s34 : Spec := sF fun l => if lenOk l then some (.sl 1 (strsA (namesOf l)) .no, []) else none
def expR (l : List Fac) (s : List UInt8) : AV × List (Nat × TypeId) := (.tup [.int .i64 (if farB (sumN l s) then 0 else sumN l s), .bool (!farB (sumN l s))], [])
def s35 : Spec := fun args => match args with
  | [.sl sz es _, .str s] => if sz = 2 ∨ es = [] then (unL unF es).bind fun l => if lenOk l ∧ (∀ f ∈ l, iOk f.e) then some (expR l s) else none else none
  | _ => none
abbrev s12 : Spec := s11
def s38 : Spec := sF fun l => if checkF l = 0 then some (.sl 2 (facsL (timesL l (-1))) .no, []) else none
abbrev s17 : Spec := s16
abbrev s19 : Spec := s18
abbrev s15 : Spec := s39
def XE : Shapes := fun f => match f with
  | 51 | 52 => some shW
  | 53 | 35 => some shIB
  | 33 | 36 | 10 | 15 | 20 => some shB
  | 14 | 13 => some shI
  | 34 => some shStrs
  | 11 | 12 | 16 | 17 | 18 | 19 => some shFI
  | 38 => some (.val (.one (.sl 2 .no)), none)
  | _ => none
def a33 (s : List UInt8) : Anns := ⟨fun k => if k = 4 then some { α := Nat, slots := [0, 3], nb := 0, vals := fun i => [.str s, .int .i64 i], sS := fun _ => ⟨[], []⟩, I := fun i => i ≤ s.length ∧ (s.take i).all inB = true, μ := fun i => s.length - i } else none, nA⟩
def a14 (l : List Fac) : Anns := ⟨fun k => if k = 4 then some { α := Nat, slots := [0, 3], nb := 0, vals := fun i => [.sl 2 (facsL l) .no, .int .i64 i], sS := fun _ => ⟨[], []⟩, I := fun i => i ≤ l.length ∧ l.length ≤ 4 ∧ chk none l = chk (if i = 0 then none else some (l.getD (i - 1) default).s) (l.drop i), μ := fun i => l.length - i } else none, nA⟩
def nmL (l : List Fac) (i : Nat) : List (List UInt8) := namesOf (l.take i)
def a34 (l : List Fac) : Anns := ⟨fun k => match k with
  | 3 => some { α := Nat, slots := [0, 3, 4], nb := 0, vals := fun i => [.sl 2 (facsL l) .no, .sl 1 (strsA (nmL l i)) .no, .int .i64 i], sS := fun _ => ⟨[], []⟩, I := fun i => i ≤ l.length, μ := fun i => l.length - i, mint := [(3, 9)], keep := some 0 }
  | 6 => some { α := Nat × Nat, slots := [0, 3, 4, 5], nb := 0, vals := fun p => [.sl 2 (facsL l) .no, .sl 1 (strsA (nmL l p.1)) .no, .int .i64 p.1, .int .i64 p.2], sS := fun _ => ⟨[], []⟩, I := fun p => p.1 < l.length ∧ p.2 ≤ (nmL l p.1).length ∧ ∀ s ∈ (nmL l p.1).take p.2, s < (l.getD p.1 default).s, μ := fun p => (nmL l p.1).length - p.2, link := some fun T p => T[4]? = some (.int .i64 p.1) }
  | 1000009 => some { α := Nat × Nat, slots := [0, 3, 4, 5], nb := 0, vals := fun p => [.sl 2 (facsL l) .no, .sl 1 (strsA (nmL l p.1)) .no, .int .i64 p.1, .int .i64 p.2], sS := fun _ => ⟨[], []⟩, I := fun p => p.1 < l.length ∧ p.2 ≤ (nmL l p.1).length ∧ (∀ s ∈ (nmL l p.1).take p.2, s < (l.getD p.1 default).s) ∧ ∀ s ∈ (nmL l p.1).drop p.2, (l.getD p.1 default).s < s, μ := fun _ => 0, rel := fun T p => T[4]? = some (.int .i64 p.1) ∧ T[5]? = some (.int .i64 p.2) }
  | _ => none, nA⟩
def a35 (l : List Fac) (s : List UInt8) : Anns := ⟨fun k => if k = 3 then some { α := Nat, slots := [0, 1, 6, 7], nb := 1, vals := fun i => [.sl 2 (facsL l) .no, .str s, .ptr 0 0, .int .i64 i], sS := fun i => ⟨[some [.int .i64 (IntKind.i64.wrap (sumN (l.take i) s / 18446744073709551616)), .int .u64 (sumN (l.take i) s % 18446744073709551616)]], []⟩, I := fun i => i ≤ l.length, μ := fun i => l.length - i } else none, nA⟩
def outR (l : List Fac) (i : Nat) : List Fac := pickF (sumsL l []) ((namesOf l).take i)
def a12 (l : List Fac) : Anns := ⟨fun k => match k with
  | 2 => some { α := Nat, slots := [0, 4], nb := 0, vals := fun i => [.sl 2 (facsL l) .no, .int .i64 i], sS := fun _ => ⟨[], []⟩, I := fun i => i ≤ l.length ∧ ((l.take i).all fun f => wordB f.s) = true, μ := fun i => l.length - i }
  | 10 => some { α := Nat, slots := [0, 6, 7, 8], nb := 0, vals := fun i => [.sl 2 (facsL l) .no, .sl 1 (strsA (namesOf l)) .no, .sl 2 (facsL (outR l i)) (.tok 0), .int .i64 i], sS := fun i => ⟨[], [((outR l i).length, 37)]⟩, I := fun i => i ≤ (namesOf l).length ∧ ((namesOf l).take i).any (fun s => farB (getS (sumsL l []) s)) = false, μ := fun i => (namesOf l).length - i, mint := [(7, 37)] }
  | _ => none, nA⟩
def a38 (l : List Fac) : Anns := ⟨fun k => if k = 3 then some { α := Nat, slots := [0, 3, 4], nb := 0, vals := fun i => [.sl 2 (facsL l) .no, .sl 2 (facsL (timesL (l.take i) (-1))) (.tok 0), .int .i64 i], sS := fun i => ⟨[], [((timesL (l.take i) (-1)).length, 37)]⟩, I := fun i => i ≤ l.length, μ := fun i => l.length - i, mint := [(3, 37)] } else none, nA⟩
def a15 (l r : List Fac) : Anns := ⟨fun k => if k = 4 then some { α := Nat, slots := [0, 1, 5], nb := 0, vals := fun i => [.sl 2 (facsL l) .no, .sl 2 (facsL r) .no, .int .i64 i], sS := fun _ => ⟨[], []⟩, I := fun i => i ≤ l.length ∧ l.length = r.length ∧ l.take i = r.take i, μ := fun i => l.length - i } else none, nA⟩
end Go.Abs
