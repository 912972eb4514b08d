/- Own texts, part 6. -/
import Derived.Test.YtpfdmcpnbkohdaaGreatDoorPart5
import Derived.Test.YtpfdmcpnbkohdaaGreatDoorPart3
import Derived.Test.YtpfdmcpnbkohdaaGreatDoorRows
import Derived.Lib.LaidTab
import Derived.Lib.LaidU8
import Derived.LaidLaws
import Derived.Lay
import Derived.Shelf.Lay

namespace Go.Abs
open Go.Proofs Go.RowKit
theorem norm_len (l : List Fac) : (normP l).1.length ≤ 4 := by
  unfold normP
  split
  · simp
  · split
    · simp
    · split
      · simp
      · rename_i h; simp only; omega
theorem prod_len (l r : List Fac) (k : Int) : (prodP l r k).1.length ≤ 4 := by
  unfold prodP
  split
  · simp
  · split
    · simp
    · exact norm_len _
theorem huge4 {l : List Fac} (h : l.length ≤ 4) : hugeOk l := by unfold hugeOk; omega
theorem norm_fst {l : List Fac} (h : (normP l).2 ≠ 0) : (normP l).1 = [] := by
  unfold normP at h ⊢
  split
  · rfl
  · split
    · rfl
    · split
      · rfl
      · rename_i h1 h2 h3
        rw [if_neg h1, if_neg h2, if_neg h3] at h
        exact absurd rfl h
theorem sum_bound {l : List Fac} (h : checkF l = 0) (s : List UInt8) : -8 ≤ sumN l s ∧ sumN l s ≤ 8 := near (sum_near h s)
theorem exp_check {l : List Fac} (h : checkF l = 0) (s : List UInt8) : expF l s = sumN l s := exp_sum (check_inc h) s
theorem prod_exp {l r : List Fac} {k : Int} (_hk : k = 1 ∨ k = -1) (s : List UInt8) (h : (prodP l r k).2 = 0) : expF (prodP l r k).1 s = expF l s + k * expF r s ∧ -8 ≤ expF l s ∧ expF l s ≤ 8 ∧ -8 ≤ expF r s ∧ expF r s ≤ 8 := by
  obtain ⟨h1, h2, h3, h4⟩ := prod_ok (p := (prodP l r k).1) (l := l) (r := r) (k := k) (by rw [← h])
  rw [exp_check h1, exp_check h2, exp_check h3, h4]
  have := sum_bound h1 s
  have := sum_bound h2 s
  exact ⟨rfl, by omega, by omega, by omega, by omega⟩
theorem prod_comm {l r : List Fac} (hl : checkF l = 0) (hr : checkF r = 0) : prodP l r 1 = prodP r l 1 := by
  rw [prod_eq hl hr, prod_eq hr hl]
  exact norm_congr (prod_words hl hr) (prod_words hr hl) fun s => by rw [prod_sum, prod_sum]; omega
theorem prod_nil {l : List Fac} (hl : checkF l = 0) : prodP l [] 1 = (l, 0) := by
  rw [prod_eq hl rfl]
  simp only [timesL, List.map_nil, List.append_nil]
  exact norm_valid hl
theorem prod_back {l r : List Fac} {k k' : Int} (hk : k = 1 ∧ k' = -1 ∨ k = -1 ∧ k' = 1) (hl : checkF l = 0) (hr : checkF r = 0) (h : (prodP l r k).2 = 0) : prodP (prodP l r k).1 r k' = (l, 0) := by
  obtain ⟨h1, h2, h3, h4⟩ := prod_ok (p := (prodP l r k).1) (l := l) (r := r) (k := k) (by rw [← h])
  rw [prod_eq h3 hr, ← norm_valid hl]
  refine norm_congr (prod_words h3 hr) (check_words hl) fun s => ?_
  rw [prod_sum, h4]
  rcases hk with ⟨rfl, rfl⟩ | ⟨rfl, rfl⟩
  · omega
  · omega
theorem prod_assoc {a b c : List Fac} (ha : checkF a = 0) (_hb : checkF b = 0) (hc : checkF c = 0) (h : (prodP a b 1).2 = 0) (h' : (prodP b c 1).2 = 0) : prodP (prodP a b 1).1 c 1 = prodP a (prodP b c 1).1 1 := by
  obtain ⟨_, _, h3, h4⟩ := prod_ok (p := (prodP a b 1).1) (l := a) (r := b) (k := 1) (by rw [← h])
  obtain ⟨_, _, g3, g4⟩ := prod_ok (p := (prodP b c 1).1) (l := b) (r := c) (k := 1) (by rw [← h'])
  rw [prod_eq h3 hc, prod_eq ha g3]
  refine norm_congr (prod_words h3 hc) (prod_words ha g3) fun s => ?_
  rw [prod_sum, prod_sum, h4, g4]; omega
theorem retT : RetIs (AV.bool true) [] (AV.bool true, []) := retIs_iff.2 rfl
abbrev T9 : List (FuncId × Spec) := [(10, s10), (16, s16), (18, s18), (25, s25)]
set_option maxHeartbeats 1000000 in
theorem p9 (m : Int) (a b : List Fac) (s : List UInt8) (ha : hugeOk a) (hb : hugeOk b) : PureOk PU (GU m) XQ (tbl T9) (itbl []) nAn [] 9 [.sl 2 (facsL a) .no, .sl 2 (facsL b) .no, .str s] (.bool true, []) := by
  constructor
  rw [w9]
  have t16 : tbl T9 16 [.sl 2 (facsL a) .no, .sl 2 (facsL b) .no] = some (.tup [.sl 2 (facsL (prodP a b 1).1) .no, .int .i64 (prodP a b 1).2], []) := by unfold T9; rw [tb_miss (by decide), tb_hit, s16, tF2]; rfl
  have t18 : tbl T9 18 [.sl 2 (facsL a) .no, .sl 2 (facsL b) .no] = some (.tup [.sl 2 (facsL (prodP a b (-1)).1) .no, .int .i64 (prodP a b (-1)).2], []) := by unfold T9; rw [tb_miss (by decide), tb_miss (by decide), tb_hit, s18, tF2]; rfl
  have t25 : ∀ x : List Fac, hugeOk x → tbl T9 25 [.sl 2 (facsL x) .no, .str s] = some (.int .i64 (expF x s), []) := fun x hx => by
    unfold T9; rw [tb_miss (by decide), tb_miss (by decide), tb_miss (by decide), tb_hit]
    simp only [s25, true_or, if_true, unFs, Option.bind_some]; rw [if_pos hx]
  have e1 := fun h => prod_exp (l := a) (r := b) (.inl rfl) s h
  have e2 := fun h => prod_exp (l := a) (r := b) (.inr rfl) s h
  have k1 := huge4 (prod_len a b 1)
  have k2 := huge4 (prod_len a b (-1))
  generalize prodP a b 1 = p at *
  generalize prodP a b (-1) = q at *
  have f1 : p.2 = 0 → (expF p.1 s == IntKind.i64.wrap (expF a s + expF b s)) = true := fun h => by
    obtain ⟨h1, _⟩ := e1 h
    rw [wrap64_in (by omega) (by omega), h1]; simp
  have f2 : q.2 = 0 → (expF q.1 s == IntKind.i64.wrap (expF a s - expF b s)) = true := fun h => by
    obtain ⟨h1, _⟩ := e2 h
    rw [wrap64_in (by omega) (by omega), h1]
    simp only [beq_iff_eq]; omega
  have last : (((q.2 != (0 : Int)) = true → RetIs (AV.bool true) [] (AV.bool true, [])) ∧
      ((q.2 != (0 : Int)) = false → ∃ n : Int, CallIs (tbl T9 25 [AV.sl 2 (facsL q.1) Own.no, AV.str s]) (AV.int IntKind.i64 n) [] ∧
        ((n == IntKind.i64.wrap (expF a s - expF b s)) = true → RetIs (AV.bool true) [] (AV.bool true, [])) ∧
        ((n == IntKind.i64.wrap (expF a s - expF b s)) = false → RetIs (AV.bool false) [] (AV.bool true, [])))) := by
    refine ⟨fun _ => retT, fun h => ⟨_, callIs_iff.2 (t25 _ k2), fun _ => retT, fun h2 => ?_⟩⟩
    rw [f2 (by simpa using h)] at h2; cases h2
  refine ⟨true, callIs_iff.2 rfl, fun _ => ⟨_, _, callIs_iff.2 t16, _, _, callIs_iff.2 t18, _, callIs_iff.2 (t25 a ha), _, callIs_iff.2 (t25 b hb), fun _ => last, fun h => ⟨_, callIs_iff.2 (t25 _ k1), fun _ => last, fun h2 => ?_⟩⟩, fun h => (nomatch h)⟩
  rw [f1 (by simpa using h)] at h2; cases h2
abbrev T6 : List (FuncId × Spec) := [(10, s10), (13, s13), (16, s16), (18, s18), (20, s39)]
set_option maxHeartbeats 1000000 in
theorem p6 (m : Int) (a b c : List Fac) : PureOk PU (GU m) XQ (tbl T6) (itbl []) (a6 a b c) [] 6 [.sl 2 (facsL a) .no, .sl 2 (facsL b) .no, .sl 2 (facsL c) .no] (.bool true, []) := by
  constructor
  rw [w6]
  have hS : ∀ {S : St}, StIs S S := stIs_iff.2 rfl
  have hV : ∀ {l : List AV}, ValsAre l l := valsAre_iff.2 rfl
  have t13 : ∀ x : List Fac, tbl T6 13 [.sl 2 (facsL x) .no] = some (.int .i64 (checkF x), []) := fun x => by unfold T6; rw [tb_miss (by decide), tb_hit, s13, tF]
  have t16 : ∀ x y : List Fac, tbl T6 16 [.sl 2 (facsL x) .no, .sl 2 (facsL y) .no] = some (.tup [.sl 2 (facsL (prodP x y 1).1) .no, .int .i64 (prodP x y 1).2], []) := fun x y => by unfold T6; rw [tb_miss (by decide), tb_miss (by decide), tb_hit, s16, tF2]; rfl
  have t16n : ∀ x : List Fac, tbl T6 16 [.sl 2 (facsL x) .no, .sl 0 [] .nil] = some (.tup [.sl 2 (facsL (prodP x [] 1).1) .no, .int .i64 (prodP x [] 1).2], []) := fun x => by
    unfold T6; rw [tb_miss (by decide), tb_miss (by decide), tb_hit]
    simp only [s16, sF2, true_or, or_true, and_self, if_true, unFs, unL, Option.bind_some]; rfl
  have t18 : ∀ x y : List Fac, tbl T6 18 [.sl 2 (facsL x) .no, .sl 2 (facsL y) .no] = some (.tup [.sl 2 (facsL (prodP x y (-1)).1) .no, .int .i64 (prodP x y (-1)).2], []) := fun x y => by unfold T6; rw [tb_miss (by decide), tb_miss (by decide), tb_miss (by decide), tb_hit, s18, tF2]; rfl
  have t20 : ∀ x y : List Fac, x.length ≤ 4 → tbl T6 20 [.sl 2 (facsL x) .no, .sl 2 (facsL y) .no] = some (.bool (decide (x = y)), []) := fun x y hx => by
    unfold T6; rw [tb_miss (by decide), tb_miss (by decide), tb_miss (by decide), tb_miss (by decide), tb_hit, s39, tF2, if_pos (huge4 hx)]
  have neq : ∀ {n : Int}, (n != 0) = false → n = 0 := fun h => by simpa using h
  have eqq : ∀ {n : Int}, (n == 0) = true → n = 0 := fun h => by simpa using h
  have hB : ∀ {p : Prop} [Decidable p] {q : Prop}, decide p = false → p → q := fun h h2 => absurd h2 (of_decide_eq_false h)
  refine ⟨⟨true, callIs_iff.2 rfl, fun _ => ⟨(), hV, hS, trivial, trivial⟩, fun h => (nomatch h)⟩, fun _ _ _ => ⟨⟨_, callIs_iff.2 (t13 a), fun _ => retT, fun ha => ⟨_, callIs_iff.2 (t13 b), fun _ => retT, fun hb => ⟨_, callIs_iff.2 (t13 c), fun _ => retT, fun hc => ⟨(), hV, hS, ⟨neq ha, neq hb, neq hc⟩, trivial⟩⟩⟩⟩, fun _ hok _ => ?_⟩⟩
  obtain ⟨ha, hb, hc⟩ := hok
  have lab := prod_len a b 1
  refine ⟨_, _, callIs_iff.2 (t16 a b), _, _, callIs_iff.2 (t16 b a), _, _, callIs_iff.2 (t16n a), ⟨fun h => ?_, fun _ => ⟨_, callIs_iff.2 (t20 _ _ lab), fun _ => ⟨fun h => ?_, fun _ => ⟨_, callIs_iff.2 (t20 _ _ (prod_len _ _ _)), fun _ => ⟨(), hV, hS, ⟨ha, hb, hc⟩, trivial⟩, fun h => ?_⟩⟩, fun h => ?_⟩⟩, fun _ _ _ => ⟨⟨fun h => ⟨_, _, callIs_iff.2 (t18 _ b), fun h2 => ?_, fun h2 => ⟨_, callIs_iff.2 (t20 _ _ (prod_len _ _ _)), fun _ => ⟨(), hV, hS, ⟨ha, hb, hc⟩, trivial⟩, fun h3 => ?_⟩⟩, fun _ => ⟨(), hV, hS, ⟨ha, hb, hc⟩, trivial⟩⟩, fun _ _ _ => ⟨_, _, callIs_iff.2 (t18 a b), ⟨fun h => ⟨_, _, callIs_iff.2 (t16 _ b), fun h2 => ?_, fun h2 => ⟨_, callIs_iff.2 (t20 _ _ (prod_len _ _ _)), fun _ => ⟨(), hV, hS, ⟨ha, hb, hc⟩, trivial⟩, fun h3 => ?_⟩⟩, fun _ => ⟨(), hV, hS, ⟨ha, hb, hc⟩, trivial⟩⟩, fun _ _ _ => ⟨_, _, callIs_iff.2 (t16 b c), fun _ => retT, fun h => ⟨fun _ => retT, fun h2 => ⟨_, _, callIs_iff.2 (t16 _ c), _, _, callIs_iff.2 (t16 a _), fun _ => ⟨_, callIs_iff.2 (t20 _ _ (prod_len _ _ _)), fun _ => retT, fun h3 => ?_⟩, fun h3 => ?_⟩⟩⟩⟩⟩⟩
  · rw [prod_comm hb ha] at h; simp at h
  · rw [prod_nil ha] at h; simp at h
  · exact hB h (by rw [prod_nil ha])
  · exact hB h (by rw [prod_comm hb ha])
  · rw [prod_back (.inl ⟨rfl, rfl⟩) ha hb (eqq h)] at h2; simp at h2
  · exact hB h3 (by rw [prod_back (.inl ⟨rfl, rfl⟩) ha hb (eqq h)])
  · rw [prod_back (.inr ⟨rfl, rfl⟩) ha hb (eqq h)] at h2; simp at h2
  · exact hB h3 (by rw [prod_back (.inr ⟨rfl, rfl⟩) ha hb (eqq h)])
  · exact hB h3 (by rw [prod_assoc ha hb hc (neq h) (neq h2)])
  · rw [prod_assoc ha hb hc (neq h) (neq h2)] at h3; simp at h3
end Go.Abs

namespace Go.Abs
open Go.Proofs Go.RowKit
theorem rep_succ (l : List Fac) (n : Nat) : repL l (n + 1) = repL l n ++ l := by
  unfold repL
  rw [List.replicate_succ', List.flatten_append]
  simp
theorem repL_len (l : List Fac) (n : Nat) : (repL l n).length = n * l.length := by
  induction n with
  | zero => simp [repL]
  | succ n ih => rw [rep_succ, List.length_append, ih, Nat.add_mul]; omega
theorem rep_sum (l : List Fac) (n : Nat) (s : List UInt8) : sumN (repL l n) s = n * sumN l s := by
  induction n with
  | zero => simp [repL, sumN]
  | succ n ih =>
    rw [rep_succ, sumN_app, ih]
    have : ((n + 1 : Nat) : Int) = n + 1 := by omega
    rw [this, Int.add_mul]; omega
theorem rep_mem {l : List Fac} {n : Nat} {f : Fac} (h : f ∈ repL l n) : f ∈ l := by
  obtain ⟨x, hx, hf⟩ := List.mem_flatten.1 h
  rw [List.eq_of_mem_replicate hx] at hf; exact hf
theorem sum_mem {l : List Fac} (h : Inc l) {f : Fac} (hf : f ∈ l) : sumN l f.s = f.e := by
  induction l with
  | nil => simp at hf
  | cons g l ih =>
    obtain ⟨h1, h2⟩ := List.pairwise_cons.1 h
    simp only [sumN]
    rcases List.mem_cons.1 hf with rfl | hf
    · rw [if_pos rfl, sumN_not, Int.add_zero]
      intro g hg e
      have := h1 g hg; rw [e] at this; exact List.lt_irrefl _ this
    · rw [if_neg, ih h2 hf, Int.zero_add]
      intro e
      have := h1 f hf; rw [e] at this; exact List.lt_irrefl _ this
theorem times_inc {l : List Fac} (k : Int) (h : Inc l) : Inc (timesL l k) := by
  unfold Inc timesL
  rw [List.pairwise_map]
  exact h
/-- powers of units -/
theorem pow_far {l : List Fac} {k : Nat} (h : checkF l = 0) (hf : (l.any fun f => farB (f.e * (k : Int))) = true) : (normP (repL l k)).2 = 70 := by
  obtain ⟨f, hf, hb⟩ := List.any_eq_true.1 hf
  rw [norm_eq fun g hg => check_words h g (rep_mem hg), if_pos]
  rw [farL_iff]
  exact ⟨f.s, by rw [rep_sum, sum_mem (check_inc h) hf, Int.mul_comm]; exact hb⟩
theorem pow_near {l : List Fac} {k : Nat} (h : checkF l = 0) (hk : k ≠ 0) (hf : (l.any fun f => farB (f.e * (k : Int))) = false) : normP (repL l k) = (timesL l k, 0) := by
  have hn : ∀ f ∈ l, farB (f.e * (k : Int)) = false := fun f hm => by
    cases hb : farB (f.e * (k : Int)) with
    | false => rfl
    | true => rw [List.any_eq_true.2 ⟨f, hm, hb⟩] at hf; cases hf
  have hv : checkF (timesL l k) = 0 := by
    refine check_of (by simpa [timesL] using check_len h) (fun f hm => ?_) (times_inc k (check_inc h))
    obtain ⟨g, hg, rfl⟩ := List.mem_map.1 hm
    obtain ⟨w1, w2, _⟩ := check_mem h g hg
    refine ⟨w1, ?_, by rw [Int.mul_comm]; exact hn g hg⟩
    simp only
    intro e
    rcases Int.mul_eq_zero.1 e with e | e
    · omega
    · exact w2 e
  rw [← norm_valid hv]
  exact norm_congr (fun g hg => check_words h g (rep_mem hg)) (check_words hv) fun s => by rw [rep_sum, sumN_times]
theorem take_name' {l : List Fac} {i : Nat} (h : i < l.length) : takeAt PU 9 (facsL l) i 0 = some (.str l[i].s) := take_name (List.getElem?_eq_getElem h)
theorem take_exp' {l : List Fac} {i : Nat} (h : i < l.length) : takeAt PU 3 (facsL l) i 1 = some (.int .i64 l[i].e) := take_exp (List.getElem?_eq_getElem h)
theorem retF {P : Prop} {b : Bool} (h : b = false) (h2 : b = true) : P := by rw [h] at h2; cases h2
abbrev T8 : List (FuncId × Spec) := [(10, s10), (13, s13), (11, s11)]
set_option maxHeartbeats 1000000 in
theorem p8 (m : Int) (l : List Fac) (n : Nat) (_hl : hugeOk l) (_hn : n < 256) : PureOk PU (GU m) XQ (tbl T8) (itbl []) (a8 l n) [] 8 [.sl 2 (facsL l) .no, .int .u8 n] (.bool true, []) := by
  constructor
  rw [w8]
  have hS : ∀ {S : St}, StIs S S := stIs_iff.2 rfl
  have hV : ∀ {l : List AV}, ValsAre l l := valsAre_iff.2 rfl
  have hlen : ∀ x : List Fac, (facsL x).length = x.length := fun x => List.length_map ..
  have t13 : ∀ x : List Fac, tbl T8 13 [.sl 2 (facsL x) .no] = some (.int .i64 (checkF x), []) := fun x => by unfold T8; rw [tb_miss (by decide), tb_hit, s13, tF]
  have t11 : ∀ x : List Fac, lenOk x → (∀ f ∈ x, iOk f.e) → tbl T8 11 [.sl 2 (facsL x) .no] = some (.tup [.sl 2 (facsL (normP x).1) .no, .int .i64 (normP x).2], []) := fun x h h' => by unfold T8; rw [tb_miss (by decide), tb_miss (by decide), tb_hit, s11, tF, if_pos ⟨h, h'⟩]; rfl
  have hk : (n : Int).tmod 20 = ((n % 20 : Nat) : Int) := (Int.ofNat_tmod n 20).symm
  have hk2 : n % 20 < 20 := Nat.mod_lt _ (by decide)
  have hkw : IntKind.i64.wrap ((n : Int).tmod 20) = ((n % 20 : Nat) : Int) := by rw [hk]; exact wrap64_in (by omega) (by omega)
  rw [hkw, hk]
  simp only [hlen]
  show _ ∧ _
  generalize hq : n % 20 = k at *
  clear hk hkw
  refine ⟨⟨true, callIs_iff.2 rfl, fun _ => ⟨(), hV, hS, trivial, trivial⟩, fun h => (nomatch h)⟩, fun _ _ _ => ⟨_, callIs_iff.2 (t13 l), fun _ => retT, fun hc => ?_⟩⟩
  have hc : checkF l = 0 := by simpa using hc
  have h4 := check_len hc
  have near8 : ∀ f ∈ l, -8 ≤ f.e ∧ f.e ≤ 8 := fun f hf => near (check_mem hc f hf).2.2
  have hrl : ∀ i, i ≤ k → (repL l i).length ≤ 80 := fun i hi => by
    rw [repL_len]
    exact Nat.le_trans (Nat.mul_le_mul hi h4) (by omega)
  refine ⟨⟨0, hV, hS, Nat.zero_le _, trivial⟩, fun x hx => ⟨by decide, fun hlt => ?_, fun hlt => ?_⟩⟩
  · have hlt := of_decide_eq_true hlt
    have := hrl x hx
    have h3 : (repL l (x + 1)).length = (repL l x).length + l.length := by rw [rep_succ, List.length_append]
    refine ⟨.inl trivial, Nat.le_trans (Nat.mul_le_mul_right 25 (show (repL l x).length + l.length ≤ 84 by omega)) (by decide), trivial, x + 1, valsAre_iff.2 ?_, stIs_iff.2 ?_, by omega, by omega⟩
    · have ea : facsL (repL l x) ++ facsL l = facsL (repL l (x + 1)) := by rw [rep_succ]; exact (List.map_append ..).symm
      rw [wrap64_in (by omega) (by omega), ea]; rfl
    · rw [h3]
  · have hlt := of_decide_eq_false hlt
    obtain rfl : x = k := by omega
    have hlo := hrl x (Nat.le_refl _)
    have key := @pow_far l x hc
    have key2 := @pow_near l x hc
    refine ⟨_, _, callIs_iff.2 (t11 _ (by unfold lenOk; omega) fun f hf => by have := near8 f (rep_mem hf); unfold iOk; omega), ?_⟩
    have hl4 := norm_len (repL l x)
    have hz : x = 0 → normP (repL l x) = ([], 0) := fun h => by subst h; exact norm_valid (l := []) rfl
    generalize normP (repL l x) = p at *
    refine ⟨⟨0, hV, hS, Nat.zero_le _, trivial⟩, fun y hy => ⟨fun hb => ⟨fun hlt2 => ?_, fun hlt2 => ⟨fun _ => retT, fun h7 => ?_⟩⟩, fun hb => ⟨fun hlt2 => ?_, fun hlt2 => ⟨by decide, fun hz2 => ⟨fun _ => ⟨fun _ => retT, fun h => ?_⟩, fun h => ?_⟩, fun hz2 => ⟨fun h => ?_, fun h => ⟨fun h5 => ?_, fun h5 => ?_⟩⟩⟩⟩⟩⟩
    · have hlt2 := of_decide_eq_true hlt2
      have hy2 : y < l.length := by omega
      refine ⟨⟨by omega, by omega⟩, _, take_exp' (by simpa using hy2), by decide, y + 1, valsAre_iff.2 ?_, hS, by omega, by omega⟩
      rw [wrap64_in (by omega) (by omega), List.take_add_one, List.any_append, hb]; rfl
    · have hlt2 := of_decide_eq_false hlt2
      obtain rfl : y = l.length := by omega
      rw [List.take_length] at hb
      rw [key hb] at h7; simp at h7
    · have hlt2 := of_decide_eq_true hlt2
      have hy2 : y < l.length := by omega
      have hr := near8 l[y] (List.getElem_mem hy2)
      have hg : l[y]? = some l[y] := List.getElem?_eq_getElem hy2
      refine ⟨⟨by omega, by omega⟩, _, take_exp' (by simpa using hy2), by decide, ?_⟩
      simp only [Int.toNat_natCast]
      have hm1 : l[y].e * (x : Int) ≤ 160 := Int.le_trans (Int.mul_le_mul_of_nonneg_right hr.2 (by omega)) (by omega)
      have hm2 : -160 ≤ l[y].e * (x : Int) := Int.le_trans (by omega) (Int.mul_le_mul_of_nonneg_right hr.1 (by omega))
      have hw : IntKind.i64.wrap (l[y].e * (x : Int)) = l[y].e * (x : Int) := wrap64_in (by omega) (by omega)
      have next : ∀ b : Bool, b = farB (l[y].e * (x : Int)) → ValsAre [AV.sl 2 (facsL l) Own.no, AV.int IntKind.u8 n, AV.bool true, AV.sl 2 (facsL p.1) Own.no, AV.int IntKind.i64 p.2, AV.bool b, AV.int IntKind.i64 (IntKind.i64.wrap ((y : Int) + 1))] [AV.sl 2 (facsL l) Own.no, AV.int IntKind.u8 n, AV.bool true, AV.sl 2 (facsL p.1) Own.no, AV.int IntKind.i64 p.2, AV.bool ((l.take (y + 1)).any fun f => farB (f.e * (x : Int))), AV.int IntKind.i64 ((y + 1 : Nat) : Int)] := fun b hb2 => valsAre_iff.2 (by
        rw [wrap64_in (by omega) (by omega), List.take_add_one, List.any_append, hb, hg, hb2]
        simp)
      refine ⟨fun g => ⟨y + 1, next true ?_, hS, by omega, by omega⟩, fun g => ⟨fun g2 => ⟨y + 1, next true ?_, hS, by omega, by omega⟩, fun g2 => ⟨y + 1, next false ?_, hS, by omega, by omega⟩⟩⟩
      · have h8 := of_decide_eq_true g
        rw [hw] at h8
        symm; exact decide_eq_true (by omega)
      · have h8 := of_decide_eq_true g2
        rw [hw] at h8
        symm; exact decide_eq_true (by omega)
      · have h8 := of_decide_eq_false g
        have h9 := of_decide_eq_false g2
        rw [hw] at h8 h9
        symm; exact decide_eq_false (by omega)
    · have hx0 : x = 0 := by have : (x : Int) = 0 := by simpa using hz2
                             omega
      rw [hz hx0] at h; simp at h
    · have hx0 : x = 0 := by have : (x : Int) = 0 := by simpa using hz2
                             omega
      rw [hz hx0] at h; simp at h
    all_goals
      have hlt2 := of_decide_eq_false hlt2
      obtain rfl : y = l.length := by omega
      rw [List.take_length] at hb
      have hx0 : x ≠ 0 := fun h => by rw [h] at hz2; simp at hz2
      have key3 := key2 hx0 hb
      subst key3
    · simp at h
    · simp [timesL] at h5
    · refine ⟨⟨0, hV, hS, Nat.zero_le _, trivial⟩, fun z hz => ⟨fun hlt3 => ?_, fun _ => retT⟩⟩
      have hlt3 := of_decide_eq_true hlt3
      have hz2 : z < l.length := by omega
      have hz3 : z < (timesL l x).length := by simpa [timesL] using hz2
      have hr := near8 l[z] (List.getElem_mem hz2)
      have hm1 : l[z].e * (x : Int) ≤ 160 := Int.le_trans (Int.mul_le_mul_of_nonneg_right hr.2 (by omega)) (by omega)
      have hm2 : -160 ≤ l[z].e * (x : Int) := Int.le_trans (by omega) (Int.mul_le_mul_of_nonneg_right hr.1 (by omega))
      have e1 : (timesL l x)[z] = ⟨l[z].s, x * l[z].e⟩ := by simp [timesL]
      refine ⟨⟨by omega, Int.ofNat_lt.2 hz3⟩, _, take_name' (by simpa using hz3), ⟨by omega, by omega⟩, _, take_name' (by simpa using hz2), fun g => ?_, fun _ => ⟨⟨by omega, Int.ofNat_lt.2 hz3⟩, _, take_exp' (by simpa using hz3), ⟨by omega, by omega⟩, _, take_exp' (by simpa using hz2), by decide, fun g => ?_, fun _ => ⟨z + 1, valsAre_iff.2 (by rw [wrap64_in (by omega) (by omega)]; rfl), hS, by omega, by omega⟩⟩⟩
      · simp only [Int.toNat_natCast, e1] at g; simp at g
      · simp only [Int.toNat_natCast, e1] at g
        rw [wrap64_in (by omega) (by omega), Int.mul_comm] at g; simp at g
end Go.Abs

namespace Go.Abs
open Go.Proofs Go.RowKit
theorem index1_none {c : UInt8} : ∀ {l : List UInt8}, (∀ x ∈ l, x ≠ c) → Lib.index l [c] = -1
  | [], _ => rfl
  | b :: l, h => by
    have hb : ([c].isPrefixOf (b :: l)) = false := by simp [List.isPrefixOf, Ne.symm (h b (by simp))]
    have ih := index1_none (l := l) fun x hx => h x (by simp [hx])
    unfold Lib.index
    rw [hb, ih]; rfl
theorem index1_at {c : UInt8} (r : List UInt8) : ∀ {a : List UInt8}, (∀ x ∈ a, x ≠ c) → Lib.index (a ++ c :: r) [c] = a.length
  | [], _ => by
    show Lib.index (c :: r) [c] = 0
    unfold Lib.index; simp [List.isPrefixOf]
  | b :: a, h => by
    have hb : ([c].isPrefixOf (b :: (a ++ c :: r))) = false := by simp [List.isPrefixOf, Ne.symm (h b (by simp))]
    have ih := index1_at r (a := a) fun x hx => h x (by simp [hx])
    show Lib.index (b :: (a ++ c :: r)) [c] = _
    unfold Lib.index
    rw [hb, ih]
    have : ((a.length : Int) == -1) = false := by simp
    rw [this]; simp
theorem split_tail {c : UInt8} : ∀ {r : List (List UInt8)} {x : List UInt8} {k : Nat}, (∀ t ∈ x :: r, ∀ d ∈ t, d ≠ c) → r.length ≤ k → Lib.splitK [c] 0 k (x ++ Lib.joinTail [c] r) = x :: r
  | [], x, k, h, _ => by
    have hx := h x (by simp)
    have e : x ++ Lib.joinTail [c] [] = x := by simp [Lib.joinTail]
    rw [e]
    cases k with
    | zero => rfl
    | succ k => unfold Lib.splitK; rw [index1_none hx]; rfl
  | y :: r, x, 0, _, hk => by simp at hk
  | y :: r, x, k + 1, h, hk => by
    have hx := h x (by simp)
    have e : x ++ Lib.joinTail [c] (y :: r) = x ++ c :: (y ++ Lib.joinTail [c] r) := by simp [Lib.joinTail]
    have ih := split_tail (r := r) (x := y) (k := k) (fun t ht => h t (by simp only [List.mem_cons] at ht ⊢; exact .inr ht)) (by simpa using hk)
    rw [e]
    unfold Lib.splitK
    rw [index1_at _ hx]
    have : ((x.length : Int) == -1) = false := by simp
    rw [this]
    simp only [Int.toNat_natCast, List.length_singleton, Nat.add_zero]
    rw [if_neg (by simp), List.take_left, List.drop_append, List.drop_eq_nil_of_le (by omega)]
    simp only [Nat.add_sub_cancel_left, List.drop_succ_cons, List.drop_zero, List.nil_append]
    rw [ih]
theorem tail_len (c : UInt8) : ∀ r : List (List UInt8), r.length ≤ (Lib.joinTail [c] r).length
  | [] => by simp
  | y :: r => by
    have := tail_len c r
    simp only [Lib.joinTail, List.map_cons, List.flatten_cons, List.length_append, List.length_cons, List.length_nil] at *
    omega
theorem exps_ok : ([-8, -7, -6, -5, -4, -3, -2, -1, 0, 1, 2, 3, 4, 5, 6, 7, 8].all fun e : Int => atoiB (Lib.itoa e) && (atoiV (Lib.itoa e) == e) && ((Lib.itoa e).all fun d => d != 42)) = true := by kernel_rfl
theorem exp_text {e : Int} (h : farB e = false) : atoiB (Lib.itoa e) = true ∧ atoiV (Lib.itoa e) = e ∧ ∀ d ∈ Lib.itoa e, d ≠ 42 := by
  have hn := near h
  have := List.all_eq_true.1 exps_ok e (by simp only [List.mem_cons, List.not_mem_nil, or_false]; omega)
  simp only [Bool.and_eq_true, beq_iff_eq, List.all_eq_true, bne_iff_ne] at this
  exact ⟨this.1.1, this.1.2, this.2⟩
theorem word_mem {s : List UInt8} (h : wordB s = true) : s ≠ [] ∧ ∀ d ∈ s, d ≠ 42 ∧ d ≠ 94 := by
  simp only [wordB, Bool.and_eq_true, decide_eq_true_eq, List.all_eq_true] at h
  refine ⟨h.1.1.1, fun d hd => ?_⟩
  have := h.2 d hd
  constructor
  · rintro rfl; revert this; decide
  · rintro rfl; revert this; decide
theorem part_text {f : Fac} (hw : wordB f.s = true) (he : farB f.e = false) : facP (partF f) = some f ∧ partF f ≠ [] ∧ ∀ d ∈ partF f, d ≠ 42 := by
  obtain ⟨hne, hm⟩ := word_mem hw
  obtain ⟨h1, h2, h3⟩ := exp_text he
  by_cases e : f.e = 1
  · have e1 : partF f = f.s := by unfold partF; rw [if_pos e]
    rw [e1]
    have hc : Lib.cut f.s [94] = (f.s, [], false) := by
      unfold Lib.cut; rw [index1_none fun d hd => (hm d hd).2]; rfl
    refine ⟨?_, hne, fun d hd => (hm d hd).1⟩
    unfold facP
    rw [hc, if_neg (by simp), ← e]
  · have e1 : partF f = f.s ++ 94 :: Lib.itoa f.e := by unfold partF; rw [if_neg e]; rfl
    rw [e1]
    have hc : Lib.cut (f.s ++ 94 :: Lib.itoa f.e) [94] = (f.s, Lib.itoa f.e, true) := by
      unfold Lib.cut
      rw [index1_at _ fun d hd => (hm d hd).2, if_pos (by omega)]
      simp only [Int.toNat_natCast, List.length_singleton]
      rw [List.take_left, List.drop_append, List.drop_eq_nil_of_le (by omega)]
      simp
    refine ⟨?_, by simp, fun d hd => ?_⟩
    · unfold facP
      rw [hc, if_pos rfl]
      simp only
      rw [if_pos h1, h2]
    · rcases List.mem_append.1 hd with hd | hd
      · exact (hm d hd).1
      · rcases List.mem_cons.1 hd with rfl | hd
        · decide
        · exact h3 d hd
theorem facsP_parts : ∀ {l : List Fac}, (∀ f ∈ l, facP (partF f) = some f) → facsP (l.map partF) = some l
  | [], _ => rfl
  | f :: l, h => by
    simp only [List.map_cons, facsP]
    rw [h f (by simp), facsP_parts fun g hg => h g (by simp [hg])]
/-- valid units are read back -/
theorem parse_fmt {l : List Fac} (h : checkF l = 0) : parseP (fmtF l) = (l, 0) := by
  have hm := check_mem h
  have h4 := check_len h
  have hp : ∀ f ∈ l, facP (partF f) = some f ∧ partF f ≠ [] ∧ ∀ d ∈ partF f, d ≠ 42 := fun f hf => part_text (hm f hf).1 (hm f hf).2.2
  cases l with
  | nil => rfl
  | cons f r =>
    have e : fmtF (f :: r) = partF f ++ Lib.joinTail [42] (r.map partF) := by unfold fmtF; rw [List.map_cons, Lib.join_cons]
    have hne : fmtF (f :: r) ≠ [] := by
      rw [e]; intro h
      exact (hp f (by simp)).2.1 (List.append_eq_nil_iff.1 h).1
    have hs : Lib.splitN (fmtF (f :: r)) [42] 5 = (f :: r).map partF := by
      unfold Lib.splitN
      have h1 : r.length ≤ (fmtF (f :: r)).length := by
        have := tail_len 42 (r.map partF)
        rw [e, List.length_append]
        rw [List.length_map] at this; omega
      simp only [List.length_cons] at h4
      generalize hk : min 5 ((fmtF (f :: r)).length + 1) - 1 = k
      have hk2 : r.length ≤ k := by omega
      rw [e]
      refine split_tail (fun t ht => ?_) (by simpa using hk2)
      have ht : t ∈ (f :: r).map partF := by simpa using ht
      obtain ⟨g, hg, rfl⟩ := List.mem_map.1 ht
      exact (hp g hg).2.2
    unfold parseP
    rw [if_neg hne, hs, facsP_parts fun g hg => (hp g hg).1]
    simp only [h, and_self, if_true]
theorem fmt_inj {a b : List Fac} (ha : checkF a = 0) (hb : checkF b = 0) (h : fmtF a = fmtF b) : a = b := by
  have h1 := parse_fmt ha
  rw [h, parse_fmt hb] at h1
  exact (congrArg Prod.fst h1).symm
theorem parse_cases (s : List UInt8) : ((parseP s).2 = 0 ∧ checkF (parseP s).1 = 0 ∧ fmtF (parseP s).1 = s) ∨ parseP s = ([], 3) := by
  unfold parseP
  split
  · rename_i h; subst h; exact .inl ⟨rfl, rfl, rfl⟩
  · split
    · exact .inr rfl
    · split
      · rename_i h; exact .inl ⟨rfl, h.1, h.2⟩
      · exact .inr rfl
abbrev T7 : List (FuncId × Spec) := [(10, s10), (13, s13), (20, s39), (21, s21), (23, s23)]
set_option maxHeartbeats 1000000 in
theorem p7 (m : Int) (a b : List Fac) (s : List UInt8) (hs : strOk s) : PureOk PU (GU m) XQ (tbl T7) (itbl []) (a7 a b s) [] 7 [.sl 2 (facsL a) .no, .sl 2 (facsL b) .no, .str s] (.bool true, []) := by
  constructor
  rw [w7]
  have hS : ∀ {S : St}, StIs S S := stIs_iff.2 rfl
  have hV : ∀ {l : List AV}, ValsAre l l := valsAre_iff.2 rfl
  have t13 : ∀ x : List Fac, tbl T7 13 [.sl 2 (facsL x) .no] = some (.int .i64 (checkF x), []) := fun x => by unfold T7; rw [tb_miss (by decide), tb_hit, s13, tF]
  have t20 : ∀ x y : List Fac, x.length ≤ 4 → tbl T7 20 [.sl 2 (facsL x) .no, .sl 2 (facsL y) .no] = some (.bool (decide (x = y)), []) := fun x y hx => by
    unfold T7; rw [tb_miss (by decide), tb_miss (by decide), tb_hit, s39, tF2, if_pos (huge4 hx)]
  have t21 : ∀ t : List UInt8, strOk t → tbl T7 21 [.str t] = some (.tup [.sl 2 (facsL (parseP t).1) .no, .int .i64 (parseP t).2], []) := fun t ht => by
    unfold T7; rw [tb_miss (by decide), tb_miss (by decide), tb_miss (by decide), tb_hit]
    simp only [s21]; rw [if_pos ht]; rfl
  have t23 : ∀ x : List Fac, checkF x = 0 → tbl T7 23 [.sl 2 (facsL x) .no] = some (.str (fmtF x), []) := fun x hx => by
    unfold T7; rw [tb_miss (by decide), tb_miss (by decide), tb_miss (by decide), tb_miss (by decide), tb_hit, s23, tF, if_pos (check_print hx)]
  have eqq : ∀ {n : Int}, (n == 0) = true → n = 0 := fun h => by simpa using h
  have hB : ∀ {p : Prop} [Decidable p] {q : Prop}, decide p = false → p → q := fun h h2 => absurd h2 (of_decide_eq_false h)
  have hlen : ∀ x : List Fac, (facsL x).length = x.length := fun x => List.length_map ..
  refine ⟨⟨true, callIs_iff.2 rfl, fun _ => ⟨(), hV, hS, trivial, trivial⟩, fun h => (nomatch h)⟩, fun _ _ _ => ⟨⟨_, callIs_iff.2 (t13 a), fun ha => ?_, fun _ => ⟨(), hV, hS, trivial, trivial⟩⟩, fun _ _ _ => ?_⟩⟩
  · have ha := eqq ha
    have hso : strOk (fmtF a) := by have := fmt_len (check_print ha); unfold strOk; omega
    refine ⟨_, callIs_iff.2 (t23 a ha), _, _, callIs_iff.2 (t21 _ hso), ?_⟩
    rw [parse_fmt ha]
    refine ⟨⟨fun h => by simp at h, fun _ => ⟨_, callIs_iff.2 (t20 a a (check_len ha)), fun _ => ⟨(), hV, hS, ha, trivial⟩, fun h => hB h rfl⟩⟩, fun _ _ _ => ⟨_, callIs_iff.2 (t13 b), fun hb => ?_, fun _ => ⟨(), hV, hS, trivial, trivial⟩⟩⟩
    have hb := eqq hb
    refine ⟨_, callIs_iff.2 (t23 a ha), _, callIs_iff.2 (t23 b hb), fun h => ⟨_, callIs_iff.2 (t20 a b (check_len ha)), fun _ => ⟨fun h => (nomatch h), fun _ => ⟨(), hV, hS, trivial, trivial⟩⟩, fun h2 => hB h2 (fmt_inj ha hb (by simpa using h))⟩, fun h => ⟨_, callIs_iff.2 (t20 a b (check_len ha)), fun h2 => ?_, fun _ => ⟨fun h => (nomatch h), fun _ => ⟨(), hV, hS, trivial, trivial⟩⟩⟩⟩
    rw [of_decide_eq_true h2] at h; simp at h
  · refine ⟨_, _, callIs_iff.2 (t21 s hs), ?_⟩
    rcases parse_cases s with ⟨h1, h2, h3⟩ | h
    · refine ⟨fun _ => ⟨_, callIs_iff.2 (t13 _), fun _ => ⟨_, callIs_iff.2 (t23 _ h2), fun _ => retT, fun h => ?_⟩, fun h => ?_⟩, fun h => ?_⟩
      · rw [h3] at h; simp at h
      · rw [h2] at h; simp at h
      · rw [h1] at h; simp at h
    · rw [h]
      exact ⟨fun h => by simp at h, fun _ => ⟨fun _ => ⟨fun _ => retT, fun h => by simp at h⟩, fun h => by simp at h⟩⟩
end Go.Abs

namespace Go.Abs
open Go.Proofs Go.RowKit
theorem o9 (m : Int) : SpecOk PU (GU m) 9 s9 := spec_ofW (X := XQ) (m := []) [2, 2] mixedU (tbl_cons (o10 m) (tbl_cons (o16 m) (tbl_cons (o18 m) (tbl_cons (o25 m) tbl_nil)))) itbl_nil fun args r h' => by
  unfold s9 at h'
  split at h'
  · split at h'
    · rename_i sz es o sz' es' o' s hz
      cases hu : unL unF es with
      | none => rw [hu] at h'; cases h'
      | some l =>
        cases hu' : unL unF es' with
        | none => rw [hu, hu'] at h'; cases h'
        | some k =>
          rw [hu, hu'] at h'
          simp only [Option.bind_some] at h'
          split at h'
          · rename_i hl
            injection h' with h'; subst h'
            simp only [wkL, wkF hz.1 hu, wkF hz.2 hu']
            exact ⟨_, p9 m l k s hl.1 hl.2⟩
          · cases h'
    · cases h'
  · cases h'
theorem o7 (m : Int) : SpecOk PU (GU m) 7 s7 := spec_ofW (X := XQ) (m := []) [2, 2] mixedU (tbl_cons (o10 m) (tbl_cons (o13 m) (tbl_cons (o20 m) (tbl_cons (o21 m) (tbl_cons (o23 m) tbl_nil))))) itbl_nil fun args r h' => by
  unfold s7 at h'
  split at h'
  · split at h'
    · rename_i sz es o sz' es' o' s hz
      cases hu : unL unF es with
      | none => rw [hu] at h'; cases h'
      | some l =>
        cases hu' : unL unF es' with
        | none => rw [hu, hu'] at h'; cases h'
        | some k =>
          rw [hu, hu'] at h'
          simp only [Option.bind_some] at h'
          split at h'
          · injection h' with h'; subst h'
            simp only [wkL, wkF hz.1 hu, wkF hz.2.1 hu']
            exact ⟨_, p7 m l k s hz.2.2⟩
          · cases h'
    · cases h'
  · cases h'
theorem o6 (m : Int) : SpecOk PU (GU m) 6 s6 := spec_ofW (X := XQ) (m := []) [2, 2, 2] mixedU (tbl_cons (o10 m) (tbl_cons (o13 m) (tbl_cons (o16 m) (tbl_cons (o18 m) (tbl_cons (o20 m) tbl_nil))))) itbl_nil fun args r h' => by
  unfold s6 at h'
  split at h'
  · split at h'
    · rename_i sz es o sz' es' o' sz'' es'' o'' hz
      cases hu : unL unF es with
      | none => rw [hu] at h'; cases h'
      | some l =>
        cases hu' : unL unF es' with
        | none => rw [hu, hu'] at h'; cases h'
        | some k =>
          cases hu'' : unL unF es'' with
          | none => rw [hu, hu', hu''] at h'; cases h'
          | some q =>
            rw [hu, hu', hu''] at h'
            simp only [Option.bind_some] at h'
            split at h'
            · injection h' with h'; subst h'
              simp only [wkL, wkF hz.1 hu, wkF hz.2.1 hu', wkF hz.2.2 hu'']
              exact ⟨_, p6 m l k q⟩
            · cases h'
    · cases h'
  · cases h'
theorem o8 (m : Int) : SpecOk PU (GU m) 8 s8 := spec_ofW (X := XQ) (m := []) [2] mixedU (tbl_cons (o10 m) (tbl_cons (o13 m) (tbl_cons (o11 m) tbl_nil))) itbl_nil fun args r h' => by
  unfold s8 at h'
  split at h'
  · split at h'
    · rename_i sz es o n hz
      obtain ⟨hz, hn0, hn1⟩ := hz
      obtain ⟨k, rfl⟩ := Int.eq_ofNat_of_zero_le hn0
      cases hu : unL unF es with
      | none => rw [hu] at h'; cases h'
      | some l =>
        rw [hu] at h'
        simp only [Option.bind_some] at h'
        split at h'
        · rename_i hl
          injection h' with h'; subst h'
          simp only [wkL, wkF hz hu]
          exact ⟨_, p8 m l k hl (by omega)⟩
        · cases h'
    · cases h'
  · cases h'
theorem s9_true (a b : List Fac) (s : List UInt8) (h : hugeOk a) (h' : hugeOk b) : s9 [.sl 2 (facsL a) .no, .sl 2 (facsL b) .no, .str s] = some (.bool true, []) := by
  simp only [s9, true_or, and_self, if_true, unFs, Option.bind_some]; rw [if_pos ⟨h, h'⟩]
theorem s7_true (a b : List Fac) (s : List UInt8) (h : hugeOk a) (h' : hugeOk b) (hs : strOk s) : s7 [.sl 2 (facsL a) .no, .sl 2 (facsL b) .no, .str s] = some (.bool true, []) := by
  simp only [s7, true_or, true_and]; rw [if_pos hs, unFs, unFs]; simp only [Option.bind_some]; rw [if_pos ⟨h, h'⟩]
theorem s6_true (a b c : List Fac) (h : hugeOk a) (h' : hugeOk b) (h'' : hugeOk c) : s6 [.sl 2 (facsL a) .no, .sl 2 (facsL b) .no, .sl 2 (facsL c) .no] = some (.bool true, []) := by
  simp only [s6, true_or, and_self, if_true, unFs, Option.bind_some]; rw [if_pos ⟨h, h', h''⟩]
theorem s8_true (a : List Fac) (n : Int) (h : hugeOk a) (h0 : 0 ≤ n ∧ n < 256) : s8 [.sl 2 (facsL a) .no, .int .u8 n] = some (.bool true, []) := by
  simp only [s8, true_or, true_and]; rw [if_pos h0, unFs]; simp only [Option.bind_some]; rw [if_pos h]
end Go.Abs

namespace Go.Abs
open Go.Proofs Go.Proofs.YtpfdmcpnbkohdaaGreatDoor Go.ChangeShapes Go.WideShapes Go.ChangeAt Go.RowKit Go.Deep Go.ChangeMaps

abbrev laid7 : List (String × DataW Unit) := Rows.unitsGroupRow.laid
theorem gSyn : PU.globalNamed "strconv.ErrSyntax" = some 3 := by kernel_rfl
theorem gRange : PU.globalNamed "strconv.ErrRange" = some 4 := by kernel_rfl
theorem gPows : PU.globalNamed "internal/strconv.uint64pow10" = some 5 := by kernel_rfl
theorem nGlob : PU.globals.size = 10 := by kernel_rfl
section
variable {W : World}
theorem pow_cells (h : laidMet PU laid7 W) : ∀ i, i < 20 → W.cell? ⟨5, i, none⟩ = some (.int .u64 ((10 ^ i : Nat) : Int)) := by
  obtain ⟨g, t, cs, fuel, p, h1, h2, h3, h4⟩ := Lib.laidMet.reads h (n := "internal/strconv.uint64pow10") (d := Rows.laid_internal_strconv_uint64pow10) (by simp [laid7, Rows.unitsGroupRow])
  obtain rfl := Option.some.inj (gPows.symm.trans h1)
  have ty : ∃ t0 e, (PU.globals[5]?).map (·.type) = some t0 ∧ PU.underlying t0 = some (.array 20 e) ∧ PU.underlying e = some (.int .u64) ∧ PU.cellsOf e = 1 ∧ PU.cellsOf t0 = 20 := ⟨145, 43, by kernel_rfl, by kernel_rfl, by kernel_rfl, by kernel_rfl, by kernel_rfl⟩
  obtain ⟨t0, e, g1, g2, g3, g4, g5⟩ := ty
  obtain rfl := Option.some.inj (g1.symm.trans h2)
  have hd : (Rows.laid_internal_strconv_uint64pow10 : DataW Unit) = Lib.tabData .u64 Lib.pow10Tab := by kernel_rfl
  rw [hd] at h4
  have hcs := Lib.cells_of_tab g2 g3 g4 g5 h4
  intro i hi
  rw [World.var?_cell h1 h3 i, ← Array.getElem?_toList, hcs]
  simp [Lib.pow10Tab, hi]
theorem range_cell (h : laidMet PU laid7 W) : ∃ t v, W.cell? ⟨4, 0, none⟩ = some (.iface t v) := by
  obtain ⟨g, t, cs, fuel, p, h1, h2, h3, h4⟩ := Lib.laidMet.reads h (n := "strconv.ErrRange") (d := Rows.laid_strconv_ErrRange) (by simp [laid7, Rows.unitsGroupRow])
  obtain rfl := Option.some.inj (gRange.symm.trans h1)
  have ty : ∃ t0 ms, (PU.globals[4]?).map (·.type) = some t0 ∧ PU.underlying t0 = some (.interface ms) := ⟨62, _, by kernel_rfl, Tryz.underlying62⟩
  obtain ⟨t0, ms, g1, g2⟩ := ty
  obtain rfl := Option.some.inj (g1.symm.trans h2)
  obtain ⟨_, u, v, hcs, _⟩ := iface_of_trod g2 h4
  refine ⟨u, v, ?_⟩
  rw [World.var?_cell h1 h3 0, ← Array.getElem?_toList, hcs]
  rfl
theorem syn_cell (h : laidMet PU laid7 W) : ∃ t v, W.cell? ⟨3, 0, none⟩ = some (.iface t v) := by
  obtain ⟨g, t, cs, fuel, p, h1, h2, h3, h4⟩ := Lib.laidMet.reads h (n := "strconv.ErrSyntax") (d := Rows.laid_strconv_ErrSyntax) (by simp [laid7, Rows.unitsGroupRow])
  obtain rfl := Option.some.inj (gSyn.symm.trans h1)
  have ty : ∃ t0 ms, (PU.globals[3]?).map (·.type) = some t0 ∧ PU.underlying t0 = some (.interface ms) := ⟨62, _, by kernel_rfl, Tryz.underlying62⟩
  obtain ⟨t0, ms, g1, g2⟩ := ty
  obtain rfl := Option.some.inj (g1.symm.trans h2)
  obtain ⟨_, u, v, hcs, _⟩ := iface_of_trod g2 h4
  refine ⟨u, v, ?_⟩
  rw [World.var?_cell h1 h3 0, ← Array.getElem?_toList, hcs]
  rfl
theorem glob7A (h : laidMet PU laid7 W) (hsh : W.ShapedOpen PU) {m : Int} (hm : W.cell? ⟨2, 0, none⟩ = some (.int .i64 m)) : GlobOk (GU m) (oldE W) W := by
  refine globA (fun g e hg => ?_) fun g e hg => ?_
  · match g, hg with
    | 0, hg => cases hg
    | 1, hg => cases hg
    | 2, hg =>
      simp only [GU, Option.some.injEq] at hg
      subst hg
      refine ⟨rfl, fun j c hj => ?_⟩
      match j, hj with
      | 0, hj => simp [AV.cells] at hj; subst hj; exact ⟨_, hm, .int _ _, rfl⟩
      | j + 1, hj => simp [AV.cells] at hj
    | 3, hg =>
      simp only [GU, Option.some.injEq] at hg
      subst hg
      refine ⟨rfl, fun j c hj => ?_⟩
      match j, hj with
      | 0, hj =>
        simp [AV.cells] at hj; subst hj
        obtain ⟨t, v, hv⟩ := syn_cell h
        exact ⟨_, hv, .ifc _ _, rfl⟩
      | j + 1, hj => simp [AV.cells] at hj
    | 4, hg =>
      simp only [GU, Option.some.injEq] at hg
      subst hg
      refine ⟨rfl, fun j c hj => ?_⟩
      match j, hj with
      | 0, hj =>
        simp [AV.cells] at hj; subst hj
        obtain ⟨t, v, hv⟩ := range_cell h
        exact ⟨_, hv, .ifc _ _, rfl⟩
      | j + 1, hj => simp [AV.cells] at hj
    | 5, hg =>
      simp only [GU, Option.some.injEq] at hg
      subst hg
      refine ⟨?_, fun j c hj => ?_⟩
      · simp only [keptPowsA, AV.closed1, keptPows, List.all_map, List.all_eq_true]
        intro x _; rfl
      · have hlt : j < 20 := by
          have := (List.getElem?_eq_some_iff.1 hj).1
          simpa [keptPowsA, AV.cells, keptPows] using this
        refine ⟨_, pow_cells h j hlt, ?_, rfl⟩
        have : c = .int .u64 ((10 ^ j : Nat) : Int) := by
          simp only [keptPowsA, AV.cells, keptPows, List.getElem?_map, List.getElem?_range hlt, Option.map_some, Option.some.injEq] at hj
          exact hj.symm
        subst this
        exact .int _ _
    | g + 6, hg => cases hg
  · match g, hg with
    | 0, hg => cases hg
    | 1, hg => cases hg
    | 2, hg =>
      simp only [GU, Option.some.injEq] at hg
      subst hg
      exact glob_size hsh (n := 1) (by rw [nGlob]; omega) (by kernel_rfl)
    | 3, hg =>
      simp only [GU, Option.some.injEq] at hg
      subst hg
      exact glob_size hsh (n := 1) (by rw [nGlob]; omega) (by kernel_rfl)
    | 4, hg =>
      simp only [GU, Option.some.injEq] at hg
      subst hg
      exact glob_size hsh (n := 1) (by rw [nGlob]; omega) (by kernel_rfl)
    | 5, hg =>
      simp only [GU, Option.some.injEq] at hg
      subst hg
      have := glob_size (P := PU) hsh (g := 5) (n := 20) (by rw [nGlob]; omega) (by kernel_rfl)
      have hn : keptPowsA.cells.length = 20 := by simp [keptPowsA, AV.cells, keptPows]
      rw [hn]; exact this
    | g + 6, hg => cases hg
end
theorem int_cells : PU.cellsOf 3 = 1 := by kernel_rfl
theorem str_cells : PU.cellsOf 9 = 1 := by kernel_rfl
theorem fac_struct : ∃ f0 f1 : Field, PU.underlying 37 = some (.struct #[f0, f1]) ∧ f0.type = 9 ∧ f0.offset = 0 ∧ f1.type = 3 ∧ f1.offset = 1 := ⟨_, _, Tryz.underlying37, rfl, rfl, rfl, rfl⟩
theorem fac_cells : PU.cellsOf 37 = 2 := by kernel_rfl
/-- a factor whose exponent is an int -/
abbrev FacI := { f : Fac // iOk f.e }
instance : Inhabited FacI := ⟨⟨⟨[], 0⟩, by decide⟩⟩
set_option maxRecDepth 100000 in
theorem elem_fac {H : Type} {enc : TypeId × Value → H} {W : World} : ElemOk PU W enc 37 fun f : FacI => facA f.1 := by
  intro n cs x h
  obtain ⟨f0, f1, hu, t0, o0, t1, o1⟩ := fac_struct
  obtain ⟨xs, m, _, _, hlen, hxl, hf⟩ := DataW.trod_struct hu h
  rw [fac_cells] at hlen
  have h0 := hf 0 f0 rfl
  have h1 := hf 1 f1 rfl
  rw [t0, o0, str_cells] at h0
  rw [t1, o1, int_cells] at h1
  match cs, hlen, xs, hxl with
  | [c0, c1], _, [y0, y1], _ =>
    simp at h0 h1
    obtain ⟨s, e0, _, _⟩ := DataW.trod_string Tryz.underlying9 h0
    obtain ⟨k, e1, _, wk⟩ := DataW.trod_int Tryz.underlying3 h1
    simp at e0 e1
    subst e0; subst e1
    refine ⟨⟨⟨s.data.toList, k⟩, int_rng wk⟩, fun E j c u hc hu => ?_⟩
    match j, hc, hu with
    | 0, hc, hu => simp [facA, AV.cells] at hc hu; subst hc; subst hu; exact ⟨mk_str s, rfl⟩
    | 1, hc, hu => simp [facA, AV.cells] at hc hu; subst hc; subst hu; exact ⟨.int _ _, rfl⟩
    | j + 2, hc, hu => simp [facA, AV.cells] at hc
/-! what a bound on what is read gives -/
namespace Bulks
theorem one_le {H : Type} (d : DataW H) : 1 ≤ Rows.uptoBulk d := by
  cases d with
  | lit l => cases l <;> simp [Rows.uptoBulk]
  | nil => simp [Rows.uptoBulk]
  | ptr d => simp [Rows.uptoBulk]
  | slice elems spare => simp [Rows.uptoBulk]
  | agg parts => simp [Rows.uptoBulk]
  | iface t d => simp [Rows.uptoBulk]
  | map entries => simp [Rows.uptoBulk]
  | held h => simp [Rows.uptoBulk]

/-- a part's bulk is at most the whole's -/
theorem part_le {H : Type} {d : DataW H} {l : List (DataW H)} (h : d ∈ l) : Rows.uptoBulk d ≤ Rows.uptoBulkAll l := by
  induction l with
  | nil => cases h
  | cons x r ih =>
    simp only [Rows.uptoBulkAll]
    cases List.mem_cons.1 h with
    | inl e => subst e; omega
    | inr e => have := ih e; omega

theorem append {H : Type} (l r : List (DataW H)) : Rows.uptoBulkAll (l ++ r) = Rows.uptoBulkAll l + Rows.uptoBulkAll r := by
  induction l with
  | nil => simp [Rows.uptoBulkAll]
  | cons x l ih => simp only [List.cons_append, Rows.uptoBulkAll, ih]; omega

/-- so many values at the most -/
theorem length_le {H : Type} (l : List (DataW H)) : l.length ≤ Rows.uptoBulkAll l := by
  induction l with
  | nil => simp [Rows.uptoBulkAll]
  | cons x r ih => have := one_le x; simp only [Rows.uptoBulkAll, List.length_cons]; omega

/-- a slice's places, and what they hold -/
theorem slice_le {H : Type} (elems spare : List (DataW H)) : elems.length + spare.length + 1 ≤ Rows.uptoBulk (.slice elems spare) := by
  have h1 := length_le elems
  have h2 := length_le spare
  simp only [Rows.uptoBulk]
  omega
theorem slice_elems {H : Type} (elems spare : List (DataW H)) : Rows.uptoBulkAll elems + 1 ≤ Rows.uptoBulk (.slice elems spare) := by
  simp only [Rows.uptoBulk]
  omega

/-- a string's letters -/
theorem string_eq {H : Type} (bytes : List UInt8) : Rows.uptoBulk (DataW.lit (H := H) (.string bytes)) = bytes.length + 1 := by
  simp [Rows.uptoBulk]

/-- THE BOUND, as the builder hands it over ('hk') -/
theorem bound {H : Type} {l : List (DataW H)} (hk : Rows.uptoSmall H l = true) : Rows.uptoBulkAll l ≤ 1048576 := by
  simpa [Rows.uptoSmall] using hk

end Bulks
set_option maxRecDepth 100000 in
theorem open_facsA {H : Type} {enc : TypeId × Value → H} {W : World} {v : Value} {d : DataW H} {ps : List MemPlace} {b0 : Nat} (hv : Value.okWide PU W .any b0 22 v) (h : DataW.Trod enc PU W 0 (fun _ => true) true 22 v d ps) :
    ∃ l : List Fac, Rep (oldE W) W (.sl 2 (facsL l) .no) v ∧ hugeOk l ∧ (∀ f ∈ l, iOk f.e) ∧ l.length ≤ Rows.uptoBulk d := by
  obtain ⟨l, hl⟩ := open_slA (P := PU) (g := fun f : FacI => facA f.1) (sz := 2) Tryz.underlying22 fac_cells (by omega) (fun _ => ⟨rfl, rfl⟩) elem_fac hv h
  have e : l.map (fun f : FacI => facA f.1) = facsL (l.map (·.1)) := by unfold facsL; rw [List.map_map]; rfl
  rw [e] at hl
  refine ⟨l.map (·.1), hl, ?_, fun f hf => ?_, ?_⟩
  · have := rep_len hl
    rw [List.length_map] at this; exact this
  · obtain ⟨g, _, rfl⟩ := List.mem_map.1 hf
    exact g.2
  · obtain ⟨fuel, h⟩ := h
    have hlen : ∃ A cap, v = .slice A (l.map (·.1)).length cap := by
      generalize l.map (·.1) = k at hl
      have e2 : (facsL k).length = k.length := List.length_map ..
      generalize facsL k = es at hl e2
      cases hl with | sl _ _ _ A cap u _ _ _ _ _ _ _ _ => exact ⟨_, _, by rw [e2]⟩
    obtain ⟨A, cap, rfl⟩ := hlen
    rcases open_slice Tryz.underlying22 h with ⟨hcs, _⟩ | ⟨a', len', cap', m, n, D, Pl, hcs, hb, hlc, hmx, hm, hx, hels⟩
    · simp [Value.cells] at hcs; simp [hcs.2.1]
    · simp only [Value.cells, List.cons.injEq, Value.slice.injEq, and_true] at hcs
      have hx1 := congrArg Prod.fst hx
      simp only at hx1
      subst hx1
      have := Bulks.slice_le ((List.range len').map D) ((List.range (m - len')).map fun j => D (len' + j))
      rw [List.length_map, List.length_range] at this
      rw [hcs.2.1]; omega
set_option maxRecDepth 100000 in
theorem open_strU {H : Type} {enc : TypeId × Value → H} {W : World} {v : Value} {d : DataW H} {ps : List MemPlace} {b0 : Nat} (hv : Value.okWide PU W .any b0 9 v) (h : DataW.Trod enc PU W 0 (fun _ => true) true 9 v d ps) :
    ∃ l : List UInt8, Rep (oldE W) W (.str l) v ∧ l.length ≤ Rows.uptoBulk d := by
  obtain ⟨s, rfl, rfl, _⟩ := open_string Tryz.underlying9 hv h
  refine ⟨s.data.toList, mk_str s, ?_⟩
  rw [Bulks.string_eq]; omega
set_option maxRecDepth 100000 in
theorem open_u8A {H : Type} {enc : TypeId × Value → H} {W : World} {v : Value} {d : DataW H} {ps : List MemPlace} {b0 : Nat} (hv : Value.okWide PU W .any b0 5 v) (h : DataW.Trod enc PU W 0 (fun _ => true) true 5 v d ps) : ∃ n : Int, Rep (oldE W) W (.int .u8 n) v ∧ 0 ≤ n ∧ n < 256 := by
  obtain ⟨n, rfl⟩ := okWide_int Tryz.underlying5 hv
  obtain ⟨fuel, h⟩ := h
  obtain ⟨k, e, _, hw⟩ := DataW.trod_int Tryz.underlying5 h
  simp [Value.cells] at e
  subst e
  refine ⟨n, .int _ _, ?_⟩
  simp [Lit.wf, IntKind.min, IntKind.max, IntKind.signed, IntKind.bits] at hw
  omega
theorem witness_row_shaped {H : Type} {enc : TypeId × Value → H} {C : Checked} {os : Os} {f : FuncId} {fn : Func} {s : OpenSpec} {conds : List PathCond} {apart : Bool} {laid : List (String × DataW Unit)} (w0 : World) (args : Array Value) (hos : w0.os = os)
    (hsh : (w0.forCall (fun _ _ => 0) ⟨#[], args, []⟩).Shaped C.prog)
    (hok : Input.okWideB C.prog (w0.forCall (fun _ _ => 0) ⟨#[], args, []⟩) f ⟨#[], args, []⟩ = true)
    (hrow : s.preRow enc C.prog fn conds apart laid (w0.forCall (fun _ _ => 0) ⟨#[], args, []⟩).memory args) :
    ∃ (w : World) (tape : Tape) (i : Input), w.os = os ∧ (w.forCall tape i).Shaped C.prog ∧ i.vars = [] ∧ Input.okWide C.prog (w.forCall tape i) .any w.heap.size f i ∧
      s.preRow enc C.prog fn conds apart laid (w.forCall tape i).memory i.args ∧ ({} : Assume).holds C.prog (lone (Frame.enter C.prog f i.args .normal) [] (w.forCall tape i)) :=
  ⟨w0, fun _ _ => 0, ⟨#[], args, []⟩, hos, hsh, (Input.okWide_of_okWideB (base := 0) hok).1, (Input.okWide_of_okWideB hok).2, hrow, by
    simp only [Assume.holds]
    exact ⟨by simp, by simp, fun _ => Modest.zero, by simp, by simp⟩⟩

end Go.Abs
