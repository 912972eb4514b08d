/- Own texts, part 10. -/
import Derived.Test.YtdajfgkcpflacaaGreatPart9

namespace Go.Abs
open Go.Proofs Go.Proofs.K17 Go.Proofs.D17 Go.RowKit
theorem x3 (kind : Int) (l : List ItI) (p : Int) (r : AV) : (pureW PA GA XU RQ (itbl []) (b3 kind l p) [] 3 [.int .i64 kind, .sl 6 (itsL l) .no, .int .i64 p] (r, [])) =
(CallIs (some (AV.bool true, [])) (AV.bool true) [] ∧
  (true = true →
      ∃ (b : Bool),
        CallIs (RQ ((8 : Nat)) [AV.int IntKind.i64 kind, AV.sl ((6 : Nat)) (itsL l) Own.no]) (AV.bool b) [] ∧
 (b = true →
 (((↑(itsL l).length : Int) == (0 : Int)) = true → RetIs (AV.bool true) [] (r, [])) ∧
 (((↑(itsL l).length : Int) == (0 : Int)) = false →
 (∃ (n : Int),
 ∃ (n_1 : Int),
 ∃ (n_2 : Int),
 ∃ (es : List AV),
 ∃ (es_1 : List AV),
 CallIs
 (RQ ((10 : Nat))
 [AV.str
 [(113 : UInt8), (117 : UInt8), (97 : UInt8), (110 : UInt8), (116 : UInt8), (105 : UInt8), (108 : UInt8), (101 : UInt8)],
 AV.sl ((6 : Nat)) (itsL l) Own.no])
 (AV.agg
 [AV.int IntKind.i64 n, AV.int IntKind.i64 n_1, AV.int IntKind.u64 n_2, AV.sl ((6 : Nat)) es Own.no,
 AV.sl ((2 : Nat)) es_1 Own.no])
 [] ∧
 ∃ (n_3 : Int),
 ∃ (n_4 : Int),
 ∃ (s : List UInt8),
 CallIs
 (RQ ((9 : Nat))
 [AV.agg
 [AV.int IntKind.i64 (5 : Int),
 AV.str
 [(113 : UInt8), (117 : UInt8), (97 : UInt8), (110 : UInt8), (116 : UInt8), (105 : UInt8), (108 : UInt8),
 (101 : UInt8)],
 AV.str [], AV.str [], AV.int IntKind.i64 (0 : Int), AV.int IntKind.i64 (0 : Int), AV.str [],
 AV.sl ((0 : Nat)) [] Own.nil, AV.int IntKind.i64 p, AV.int IntKind.i64 (0 : Int),
 AV.int IntKind.i64 (0 : Int), AV.sl ((0 : Nat)) [] Own.nil],
 AV.int IntKind.i64 kind,
 AV.sl ((6 : Nat))
 [AV.agg
 [AV.int IntKind.i64 (0 : Int), AV.int IntKind.i64 n, AV.int IntKind.i64 n_1, AV.int IntKind.u64 n_2,
 AV.sl ((6 : Nat)) es Own.no, AV.sl ((2 : Nat)) es_1 Own.no]]
 Own.full,
 AV.int IntKind.i64 (0 : Int)])
 (AV.agg [AV.int IntKind.i64 n_3, AV.int IntKind.i64 n_4, AV.str s]) [] ∧
 ∃ (_y : Unit),
 ValsAre
 [AV.int IntKind.i64 kind, AV.sl ((6 : Nat)) (itsL l) Own.no, AV.int IntKind.i64 p, AV.ptr ((0 : Nat)) ((0 : Nat)),
 AV.ptr ((1 : Nat)) ((0 : Nat))]
 [AV.int IntKind.i64 kind, AV.sl ((6 : Nat)) (itsL l) Own.no, AV.int IntKind.i64 p, AV.ptr ((0 : Nat)) ((0 : Nat)),
 AV.ptr ((1 : Nat)) ((0 : Nat))] ∧
 StIs
 { boxes := [some [AV.int IntKind.i64 (5 : Int), AV.str [(113 : UInt8), (117 : UInt8), (97 : UInt8), (110 : UInt8), (116 : UInt8), (105 : UInt8), (108 : UInt8), (101 : UInt8)], AV.str [], AV.str [], AV.int IntKind.i64 (0 : Int), AV.int IntKind.i64 (0 : Int), AV.str [], AV.sl ((0 : Nat)) [] Own.nil, AV.int IntKind.i64 p, AV.int IntKind.i64 (0 : Int), AV.int IntKind.i64 (0 : Int), AV.sl ((0 : Nat)) [] Own.nil], some [AV.int IntKind.i64 n_3, AV.int IntKind.i64 n_4, AV.str s]], live := [] }
 { boxes := [some [AV.int IntKind.i64 (5 : Int), AV.str [(113 : UInt8), (117 : UInt8), (97 : UInt8), (110 : UInt8), (116 : UInt8), (105 : UInt8), (108 : UInt8), (101 : UInt8)], AV.str [], AV.str [], AV.int IntKind.i64 (0 : Int), AV.int IntKind.i64 (0 : Int), AV.str [], AV.sl ((0 : Nat)) [] Own.nil, AV.int IntKind.i64 p, AV.int IntKind.i64 (0 : Int), AV.int IntKind.i64 (0 : Int), AV.sl ((0 : Nat)) [] Own.nil], some [AV.int IntKind.i64 (valQ kind l p).k, AV.int IntKind.i64 (valQ kind l p).n, AV.str (valQ kind l p).s]], live := [] } ∧
 True ∧ True) ∧
 ∀ (_x : Unit),
 True →
 True →
 (decide (p < (1 : Int)) = true →
 (((valQ kind l p).k == (0 : Int) && ((valQ kind l p).n == (0 : Int) && ((valQ kind l p).s == [] && true))) = true →
 RetIs (AV.bool true) [] (r, [])) ∧
 (((valQ kind l p).k == (0 : Int) && ((valQ kind l p).n == (0 : Int) && ((valQ kind l p).s == [] && true))) = false →
 RetIs (AV.bool false) [] (r, []))) ∧
 (decide (p < (1 : Int)) = false →
 (decide (p > (1000 : Int)) = true →
 (((valQ kind l p).k == (0 : Int) && ((valQ kind l p).n == (0 : Int) && ((valQ kind l p).s == [] && true))) = true →
 RetIs (AV.bool true) [] (r, [])) ∧
 (((valQ kind l p).k == (0 : Int) && ((valQ kind l p).n == (0 : Int) && ((valQ kind l p).s == [] && true))) = false →
 RetIs (AV.bool false) [] (r, []))) ∧
 (decide (p > (1000 : Int)) = false →
 ((1000 : Int) ≠ (0 : Int) ∧
 ∃ (_y : Unit),
 ValsAre
 [AV.int IntKind.i64 kind, AV.sl ((6 : Nat)) (itsL l) Own.no, AV.int IntKind.i64 p, AV.ptr ((0 : Nat)) ((0 : Nat)),
 AV.ptr ((1 : Nat)) ((0 : Nat)),
 AV.int IntKind.i64
 (max
 (IntKind.i64.wrap
 ((IntKind.i64.wrap (IntKind.i64.wrap (p * (↑(itsL l).length : Int)) + (999 : Int))).tdiv (1000 : Int)))
 (1 : Int))]
 [AV.int IntKind.i64 kind, AV.sl ((6 : Nat)) (itsL l) Own.no, AV.int IntKind.i64 p, AV.ptr ((0 : Nat)) ((0 : Nat)),
 AV.ptr ((1 : Nat)) ((0 : Nat)), AV.int IntKind.i64 (placeQ l p)] ∧
 StIs
 { boxes := [some [AV.int IntKind.i64 (5 : Int), AV.str [(113 : UInt8), (117 : UInt8), (97 : UInt8), (110 : UInt8), (116 : UInt8), (105 : UInt8), (108 : UInt8), (101 : UInt8)], AV.str [], AV.str [], AV.int IntKind.i64 (0 : Int), AV.int IntKind.i64 (0 : Int), AV.str [], AV.sl ((0 : Nat)) [] Own.nil, AV.int IntKind.i64 p, AV.int IntKind.i64 (0 : Int), AV.int IntKind.i64 (0 : Int), AV.sl ((0 : Nat)) [] Own.nil], some [AV.int IntKind.i64 (valQ kind l p).k, AV.int IntKind.i64 (valQ kind l p).n, AV.str (valQ kind l p).s]], live := [] }
 { boxes := [some [AV.int IntKind.i64 (5 : Int), AV.str [(113 : UInt8), (117 : UInt8), (97 : UInt8), (110 : UInt8), (116 : UInt8), (105 : UInt8), (108 : UInt8), (101 : UInt8)], AV.str [], AV.str [], AV.int IntKind.i64 (0 : Int), AV.int IntKind.i64 (0 : Int), AV.str [], AV.sl ((0 : Nat)) [] Own.nil, AV.int IntKind.i64 p, AV.int IntKind.i64 (0 : Int), AV.int IntKind.i64 (0 : Int), AV.sl ((0 : Nat)) [] Own.nil], some [AV.int IntKind.i64 (valQ kind l p).k, AV.int IntKind.i64 (valQ kind l p).n, AV.str (valQ kind l p).s]], live := [] } ∧
 True ∧ True) ∧
 ∀ (_x : Unit),
 True →
 True →
 ∃ (n : Int),
 CallIs (RQ ((11 : Nat)) [AV.sl ((6 : Nat)) (itsL l) Own.no, AV.int IntKind.i64 (placeQ l p)]) (AV.int IntKind.i64 n)
 [] ∧
 (((valQ kind l p).k != kind) = true →
 (((valQ kind l p).k == kind && ((valQ kind l p).n == (0 : Int) && ((valQ kind l p).s == [] && true))) = true →
 RetIs (AV.bool true) [] (r, [])) ∧
 (((valQ kind l p).k == kind && ((valQ kind l p).n == (0 : Int) && ((valQ kind l p).s == [] && true))) =
 false →
 RetIs (AV.bool false) [] (r, []))) ∧
 (((valQ kind l p).k != kind) = false →
 ((n == (0 : Int)) = true →
 (((valQ kind l p).k == kind && ((valQ kind l p).n == (0 : Int) && ((valQ kind l p).s == [] && true))) =
 true →
 RetIs (AV.bool true) [] (r, [])) ∧
 (((valQ kind l p).k == kind && ((valQ kind l p).n == (0 : Int) && ((valQ kind l p).s == [] && true))) =
 false →
 RetIs (AV.bool false) [] (r, []))) ∧
 ((n == (0 : Int)) = false →
 (decide ((valQ kind l p).n < (0 : Int)) = true →
 (decide (n < (0 : Int)) = true →
 (true = true →
 (decide
 (IntKind.i64.wrap
 (max n (IntKind.i64.wrap ((0 : Int) - n)) -
 max (valQ kind l p).n (IntKind.i64.wrap ((0 : Int) - (valQ kind l p).n))) ≥
 (0 : Int)) =
 true →
 (32 : Int) ≠ (0 : Int) ∧
 (decide
 (IntKind.i64.wrap
 (max n (IntKind.i64.wrap ((0 : Int) - n)) -
 max (valQ kind l p).n
 (IntKind.i64.wrap ((0 : Int) - (valQ kind l p).n))) ≤
 IntKind.i64.wrap
 ((IntKind.i64.wrap
 (max n (IntKind.i64.wrap ((0 : Int) - n)) - (1 : Int))).tdiv
 (32 : Int))) =
 true →
 RetIs (AV.bool true) [] (r, [])) ∧
 (decide
 (IntKind.i64.wrap
 (max n (IntKind.i64.wrap ((0 : Int) - n)) -
 max (valQ kind l p).n
 (IntKind.i64.wrap ((0 : Int) - (valQ kind l p).n))) ≤
 IntKind.i64.wrap
 ((IntKind.i64.wrap
 (max n (IntKind.i64.wrap ((0 : Int) - n)) - (1 : Int))).tdiv
 (32 : Int))) =
 false →
 RetIs (AV.bool false) [] (r, []))) ∧
 (decide
 (IntKind.i64.wrap
 (max n (IntKind.i64.wrap ((0 : Int) - n)) -
 max (valQ kind l p).n (IntKind.i64.wrap ((0 : Int) - (valQ kind l p).n))) ≥
 (0 : Int)) =
 false →
 RetIs (AV.bool false) [] (r, []))) ∧
 (true = false → RetIs (AV.bool false) [] (r, []))) ∧
 (decide (n < (0 : Int)) = false →
 (false = true →
 (decide
 (IntKind.i64.wrap
 (max n (IntKind.i64.wrap ((0 : Int) - n)) -
 max (valQ kind l p).n (IntKind.i64.wrap ((0 : Int) - (valQ kind l p).n))) ≥
 (0 : Int)) =
 true →
 (32 : Int) ≠ (0 : Int) ∧
 (decide
 (IntKind.i64.wrap
 (max n (IntKind.i64.wrap ((0 : Int) - n)) -
 max (valQ kind l p).n
 (IntKind.i64.wrap ((0 : Int) - (valQ kind l p).n))) ≤
 IntKind.i64.wrap
 ((IntKind.i64.wrap
 (max n (IntKind.i64.wrap ((0 : Int) - n)) - (1 : Int))).tdiv
 (32 : Int))) =
 true →
 RetIs (AV.bool true) [] (r, [])) ∧
 (decide
 (IntKind.i64.wrap
 (max n (IntKind.i64.wrap ((0 : Int) - n)) -
 max (valQ kind l p).n
 (IntKind.i64.wrap ((0 : Int) - (valQ kind l p).n))) ≤
 IntKind.i64.wrap
 ((IntKind.i64.wrap
 (max n (IntKind.i64.wrap ((0 : Int) - n)) - (1 : Int))).tdiv
 (32 : Int))) =
 false →
 RetIs (AV.bool false) [] (r, []))) ∧
 (decide
 (IntKind.i64.wrap
 (max n (IntKind.i64.wrap ((0 : Int) - n)) -
 max (valQ kind l p).n (IntKind.i64.wrap ((0 : Int) - (valQ kind l p).n))) ≥
 (0 : Int)) =
 false →
 RetIs (AV.bool false) [] (r, []))) ∧
 (false = false → RetIs (AV.bool false) [] (r, [])))) ∧
 (decide ((valQ kind l p).n < (0 : Int)) = false →
 (decide (n < (0 : Int)) = true →
 (false = true →
 (decide
 (IntKind.i64.wrap
 (max n (IntKind.i64.wrap ((0 : Int) - n)) -
 max (valQ kind l p).n (IntKind.i64.wrap ((0 : Int) - (valQ kind l p).n))) ≥
 (0 : Int)) =
 true →
 (32 : Int) ≠ (0 : Int) ∧
 (decide
 (IntKind.i64.wrap
 (max n (IntKind.i64.wrap ((0 : Int) - n)) -
 max (valQ kind l p).n
 (IntKind.i64.wrap ((0 : Int) - (valQ kind l p).n))) ≤
 IntKind.i64.wrap
 ((IntKind.i64.wrap
 (max n (IntKind.i64.wrap ((0 : Int) - n)) - (1 : Int))).tdiv
 (32 : Int))) =
 true →
 RetIs (AV.bool true) [] (r, [])) ∧
 (decide
 (IntKind.i64.wrap
 (max n (IntKind.i64.wrap ((0 : Int) - n)) -
 max (valQ kind l p).n
 (IntKind.i64.wrap ((0 : Int) - (valQ kind l p).n))) ≤
 IntKind.i64.wrap
 ((IntKind.i64.wrap
 (max n (IntKind.i64.wrap ((0 : Int) - n)) - (1 : Int))).tdiv
 (32 : Int))) =
 false →
 RetIs (AV.bool false) [] (r, []))) ∧
 (decide
 (IntKind.i64.wrap
 (max n (IntKind.i64.wrap ((0 : Int) - n)) -
 max (valQ kind l p).n (IntKind.i64.wrap ((0 : Int) - (valQ kind l p).n))) ≥
 (0 : Int)) =
 false →
 RetIs (AV.bool false) [] (r, []))) ∧
 (false = false → RetIs (AV.bool false) [] (r, []))) ∧
 (decide (n < (0 : Int)) = false →
 (true = true →
 (decide
 (IntKind.i64.wrap
 (max n (IntKind.i64.wrap ((0 : Int) - n)) -
 max (valQ kind l p).n (IntKind.i64.wrap ((0 : Int) - (valQ kind l p).n))) ≥
 (0 : Int)) =
 true →
 (32 : Int) ≠ (0 : Int) ∧
 (decide
 (IntKind.i64.wrap
 (max n (IntKind.i64.wrap ((0 : Int) - n)) -
 max (valQ kind l p).n
 (IntKind.i64.wrap ((0 : Int) - (valQ kind l p).n))) ≤
 IntKind.i64.wrap
 ((IntKind.i64.wrap
 (max n (IntKind.i64.wrap ((0 : Int) - n)) - (1 : Int))).tdiv
 (32 : Int))) =
 true →
 RetIs (AV.bool true) [] (r, [])) ∧
 (decide
 (IntKind.i64.wrap
 (max n (IntKind.i64.wrap ((0 : Int) - n)) -
 max (valQ kind l p).n
 (IntKind.i64.wrap ((0 : Int) - (valQ kind l p).n))) ≤
 IntKind.i64.wrap
 ((IntKind.i64.wrap
 (max n (IntKind.i64.wrap ((0 : Int) - n)) - (1 : Int))).tdiv
 (32 : Int))) =
 false →
 RetIs (AV.bool false) [] (r, []))) ∧
 (decide
 (IntKind.i64.wrap
 (max n (IntKind.i64.wrap ((0 : Int) - n)) -
 max (valQ kind l p).n (IntKind.i64.wrap ((0 : Int) - (valQ kind l p).n))) ≥
 (0 : Int)) =
 false →
 RetIs (AV.bool false) [] (r, []))) ∧
 (true = false → RetIs (AV.bool false) [] (r, [])))))))))) ∧
 (b = false → RetIs (AV.bool true) [] (r, []))) ∧
    (true = false → RetIs (AV.bool false) [] (r, []))) := by kernel_rfl
end Go.Abs

namespace Go.Abs
open Go.Proofs Go.Proofs.K17 Go.Proofs.D17 Go.RowKit
theorem nuQ_of {kind : Int} {l : List ItI} (h : nuP kind l = true) (ok : ∀ x ∈ l, itOk x) : NuQ l ∧ (kind = 2 ∨ kind = 3) ∧ ∀ x ∈ l, x.k = kind ∧ x.s = [] := by
  unfold nuP at h
  simp only [Bool.and_eq_true, Bool.or_eq_true, beq_iff_eq] at h
  obtain ⟨⟨h1, h2⟩, h3⟩ := h
  have h4 : l.length ≤ 40 := by
    unfold smallP at h2
    simp only [Bool.and_eq_true, decide_eq_true_eq] at h2
    exact h2.2
  have each : ∀ x ∈ l, x.c = 1 ∧ x.k = kind ∧ ckP x.k x.n x.s = 0 := fun x hx => by
    have := List.all_eq_true.1 h1 x hx
    unfold nuI at this
    simp only [Bool.and_eq_true, beq_iff_eq, decide_eq_true_eq] at this
    exact ⟨this.1.1, this.1.2, this.2⟩
  have val : ∀ x ∈ l, inR x.n = true ∧ x.s = [] := fun x hx => by
    obtain ⟨_, e2, e3⟩ := each x hx
    unfold ckP at e3
    split at e3
    · omega
    · rename_i hfd
      split at e3
      · omega
      · rename_i hin
        constructor
        · cases hh : inR x.n with
          | true => rfl
          | false => exact absurd (.inl hh) hin
        · unfold fdP at hfd
          rw [e2] at hfd
          rcases h3 with h3 | h3 <;> subst h3 <;> simpa using hfd
  exact ⟨⟨h4, fun x hx => (each x hx).1, fun x hx => by have := (val x hx).1; unfold inR at this; simpa using this, ok⟩, h3, fun x hx => ⟨(each x hx).2.1, (val x hx).2⟩⟩
abbrev tQ : List (FuncId × Spec) := [(7, s7), (8, v8), (10, s12), (9, s18), (11, v11)]
theorem sq8 {kind : Int} {l : List ItI} (h : l.length ≤ maxLen) : tbl tQ 8 [.int .i64 kind, .sl 6 (itsL l) .no] = some (.bool (nuP kind l), []) := by
  rw [tb_miss (by decide), tb_hit]; simp only [v8, show unL unI (itsL l) = some l from unL_map unI_ok l]
  rw [if_pos ⟨.inl trivial, h⟩]
theorem sq10 {op : List UInt8} {l : List ItI} (h : l.length ≤ 1000) (hx : ∀ x ∈ l, itOk x) : tbl tQ 10 [.str op, .sl 6 (itsL l) .no] = some (stA (ofP op l), []) := by
  rw [tb_miss (by decide), tb_miss (by decide), tb_hit]; simp only [s12, show unL unI (itsL l) = some l from unL_map unI_ok l]
  rw [if_pos ⟨.inl trivial, h, hx⟩]
theorem sq9 {op : List UInt8} {param kind t : Int} {o : Own} {C : List CeI} (hC : cesOk C) (hp : iOk param) : tbl tQ 9 [.agg (exC 5 op param), .int .i64 kind, .sl 6 (cesL C) o, .int .i64 t] = some (resP op param kind C t, []) := by
  rw [tb_miss (by decide), tb_miss (by decide), tb_miss (by decide), tb_hit]
  simp only [s18, show unL unCe (cesL C) = some C from unL_map unCe_ok C]
  rw [if_pos ⟨⟨⟨rfl, rfl, rfl⟩, by simp⟩, .inl trivial, hC, hp⟩]
theorem sq11 {l : List ItI} {r : Int} (h : l.length ≤ 1000) : tbl tQ 11 [.sl 6 (itsL l) .no, .int .i64 r] = some (.int .i64 (rankP l r), []) := by
  rw [tb_miss (by decide), tb_miss (by decide), tb_miss (by decide), tb_miss (by decide), tb_hit]
  simp only [v11, show unL unI (itsL l) = some l from unL_map unI_ok l]
  rw [if_pos ⟨.inl trivial, h⟩]
theorem res_q {kind p : Int} {l : List ItI} (h : NuQ l) (hk : kind = 2 ∨ kind = 3) (h0 : l ≠ []) : resP bQuantile p kind [⟨0, ofP bQuantile l⟩] 0 = .agg (bC (valQ kind l p)) := by
  have S := stOf_of famQ h.ok
  have hN : 1 ≤ l.length := List.length_pos_iff.2 h0
  have hl := h.len
  have hsm : sm ItI.c l = l.length := by
    have : ∀ l : List ItI, (∀ x ∈ l, x.c = 1) → sm ItI.c l = l.length := by
      intro l
      induction l with
      | nil => intro _; rfl
      | cons x l ih =>
        intro hh
        have h1 := hh x (by simp)
        have h2 := ih fun y hy => hh y (by simp [hy])
        show x.c + sm ItI.c l = ((l.length + 1 : Nat) : Int)
        omega
    exact this l h.one
  have hc : cntP [⟨0, ofP bQuantile l⟩] = l.length := by
    show wrap64 (0 + (ofP bQuantile l).n) = _
    rw [S.n, hsm, Int.zero_add, w64_in (w64_iOk _), w64_in ⟨by omega, by omega⟩]
  unfold resP
  rw [famQ]
  simp only
  rw [hc, if_neg (fun hh => by have := hh.1; omega)]
  show smpV p kind _ = _
  obtain ⟨b1, b2, _⟩ := S.b.1 rfl
  have e : mrgB [⟨0, ofP bQuantile l⟩] = (ofP bQuantile l).bks := by
    show normB ([] ++ (ofP bQuantile l).bks) = _
    rw [List.nil_append, norm_self b1 b2]
  unfold smpV valQ resQ
  rw [e]
  cases quantile (ofP bQuantile l).bks p with
  | none => rfl
  | some n =>
    rcases hk with rfl | rfl
    · rfl
    · rfl
theorem ceOk_q {l : List ItI} (h : NuQ l) : cesOk [⟨0, ofP bQuantile l⟩] := ⟨by simp, fun c hc => by
  obtain rfl := List.mem_singleton.1 hc
  have S := stOf_of famQ h.ok
  have B := ofP_ok bQuantile h.ok
  have hi := S.i.2 fun f => by simp
  have hl := h.len
  have := B.k
  exact ⟨B.w, B.b, fun x (hx : x ∈ (ofP bQuantile l).its) => (by rw [hi] at hx; cases hx), by show (ofP bQuantile l).its.length ≤ _; rw [hi]; simp, by show (ofP bQuantile l).bks.length ≤ _; omega⟩⟩
theorem r3 (kind : Int) (l : List ItI) (p : Int) (hl : l.length ≤ maxLen) (ol : ∀ x ∈ l, itOk x) (hp : iOk p) :
    PureOk PA GA XU RQ (itbl []) (b3 kind l p) [] 3 [.int .i64 kind, .sl 6 (itsL l) .no, .int .i64 p] (.bool true, []) := by
  constructor
  rw [x3]
  unfold RQ
  have yes : RetIs (AV.bool true) [] (AV.bool true, []) := retIs_iff.2 rfl
  refine ⟨callIs_iff.2 rfl, fun _ => ⟨_, callIs_iff.2 (sq8 hl), fun c1 => ⟨fun _ => yes, fun c2 => ?_⟩, fun _ => yes⟩, fun h => (nomatch h)⟩
  obtain ⟨hN, hk, _⟩ := nuQ_of c1 ol
  have h0 : l ≠ [] := fun e => by subst e; exact absurd c2 (by decide)
  have hl40 := hN.len
  have c9 := sq9 (op := bQuantile) (param := p) (kind := kind) (t := 0) (o := .full) (ceOk_q hN) hp
  rw [res_q hN hk h0] at c9
  have none_ : p < 1 ∨ 1000 < p → valQ kind l p = ⟨0, 0, [], false⟩ := fun h => by
    unfold valQ resQ quantile
    rw [if_pos (by omega)]
  refine ⟨⟨_, _, _, _, _, callIs_iff.2 (sq10 (by omega) ol), _, _, _, callIs_iff.2 c9, (), ⟨rfl⟩, ⟨rfl⟩, trivial, trivial⟩, fun _ _ _ => ⟨fun d => ?_, fun d => ⟨fun e => ?_, fun e => ⟨⟨by decide, (), ⟨?_⟩, ⟨rfl⟩, trivial, trivial⟩, fun _ _ _ => ⟨_, callIs_iff.2 (sq11 (by omega)), ?_⟩⟩⟩⟩⟩
  · rw [none_ (.inl (of_decide_eq_true d))]
    exact ⟨fun _ => yes, fun c => by simp at c⟩
  · rw [none_ (.inr (of_decide_eq_true e))]
    exact ⟨fun _ => yes, fun c => by simp at c⟩
  · have d := of_decide_eq_false d
    have e := of_decide_eq_false e
    have hpN : 0 ≤ p * l.length ∧ p * l.length ≤ 1000 * l.length := ⟨Int.mul_nonneg (by omega) (by omega), Int.mul_le_mul_of_nonneg_right (by omega) (by omega)⟩
    rw [len_its, iwN (x := p * l.length) ⟨by omega, by omega⟩, iwN (x := p * l.length + 999) ⟨by omega, by omega⟩, tdivN (by omega), iwN ⟨by omega, by omega⟩]
    have : max ((p * l.length + 999) / 1000) 1 = placeQ l p := by unfold placeQ; split <;> omega
    rw [this]
  · have d := of_decide_eq_false d
    have e := of_decide_eq_false e
    obtain ⟨q1, q2, q3⟩ := quant_law hN h0 (p := p) (by omega) (by omega)
    have hv : valQ kind l p = ⟨kind, low (idx (rankP l (placeQ l p))), [], true⟩ := by unfold valQ resQ; rw [q1]
    rw [hv]
    obtain ⟨z1, z2, z3⟩ := low_idx ⟨q2, q3⟩
    generalize rankP l (placeQ l p) = n at *
    generalize low (idx n) = v at *
    dsimp only
    have hvb : -1152921504606846976 ≤ v ∧ v ≤ 1152921504606846976 := by
      by_cases a : n = 0
      · have := z1 a; omega
      · by_cases b : n < 0
        · have := z2 b; omega
        · have := z3 (by omega); omega
    have w1 : IntKind.i64.wrap (0 - n) = -n := by rw [iwN ⟨by omega, by omega⟩]; omega
    have w2 : IntKind.i64.wrap (0 - v) = -v := by rw [iwN ⟨by omega, by omega⟩]; omega
    rw [w1, w2]
    have w3 : IntKind.i64.wrap (max n (-n) - max v (-v)) = max n (-n) - max v (-v) := iwN ⟨by omega, by omega⟩
    have w4 : IntKind.i64.wrap (max n (-n) - 1) = max n (-n) - 1 := iwN ⟨by omega, by omega⟩
    rw [w3, w4]
    refine ⟨fun c => by simp at c, fun _ => ⟨fun c => ?_, fun c => ?_⟩⟩
    · have c : n = 0 := by simpa using c
      rw [z1 c]
      exact ⟨fun _ => yes, fun c => by simp at c⟩
    · have c : n ≠ 0 := by simpa using c
      have w5 : IntKind.i64.wrap ((max n (-n) - 1).tdiv 32) = (max n (-n) - 1) / 32 := by rw [tdivN (by omega)]; exact iwN ⟨by omega, by omega⟩
      rw [w5]
      have fine : (n < 0 ↔ v < 0) ∧ 0 ≤ max n (-n) - max v (-v) ∧ max n (-n) - max v (-v) ≤ (max n (-n) - 1) / 32 := by
        by_cases b : n < 0
        · have := z2 b; omega
        · have := z3 (by omega); omega
      clear z1 z2 z3
      generalize max n (-n) - max v (-v) = A at *
      generalize (max n (-n) - 1) / 32 = B at *
      repeat' first
        | apply And.intro
        | intro _
      all_goals first
        | exact yes
        | (exfalso; simp only [decide_eq_true_eq, decide_eq_false_iff_not] at *; omega)
        | omega
        | simp_all
theorem k3 : SpecOk PA GA 3 u3 := spec_wkS fun args r h => by
  unfold u3 at h
  split at h
  case h_2 => cases h
  split at h
  case h_2 => cases h
  rename_i l hl
  split at h
  case isFalse => cases h
  rename_i hc
  injection h with h; subst h
  obtain rfl := unL_inv unI_inv hl
  rw [List.map_cons, List.map_cons, List.map_cons, List.map_nil, wk_its hc.1]
  have hR : CalleeOk PA GA RQ := tbl_cons o7 (tbl_cons j8 (tbl_cons o12 (tbl_cons o18 (tbl_cons j11 tbl_nil))))
  exact one_pure mixedA hR itbl_nil (r3 _ l _ hc.2.1 hc.2.2.1 hc.2.2.2.2)
theorem u3_true (kind : Int) (l : List ItI) (p : Int) (nk : iOk kind) (nl : l.length ≤ maxLen ∧ ∀ x ∈ l, itOk x) (np : iOk p) : u3 [.int .i64 kind, .sl 6 (itsL l) .no, .int .i64 p] = some (.bool true, []) := by
  simp only [u3, show unL unI (itsL l) = some l from unL_map unI_ok l]
  rw [if_pos ⟨.inl trivial, nl.1, nl.2, nk, np⟩]
end Go.Abs
