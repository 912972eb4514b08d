/- Own texts, part 7. -/
import Derived.Test.YtfcdefnkhkijaaaGreatDoorPart6
import Derived.Test.YtfcdefnkhkijaaaGreatDoorPart5
import Derived.Test.YtfcdefnkhkijaaaGreatDoorPart3
import Derived.Test.YtfcdefnkhkijaaaGreatDoorPart2
import Derived.Test.YtfcdefnkhkijaaaGreatDoorPart4
import Derived.Deep.LoopGhost
import Derived.WalkKit
import Derived.Lib.Walk
import Derived.Lib.Hide
import Derived.Lib.SliceRun
import Derived.Test.YtfcdefnkhkijaaaGreatDoorRows
import Derived.LaidLaws
import Derived.Lay
import Derived.Shelf.Lay

namespace Go.Abs
open Go.Proofs
theorem gt_cons {ts : List Tk} (h : GoodT ts) : ∃ t l, ts = t :: l := by
 obtain ⟨l, t, rfl, _⟩ := h.ends
 cases l with
 | nil => exact ⟨t, [], rfl⟩
 | cons a l => exact ⟨a, l ++ [t], rfl⟩
theorem gt_tail {t : Tk} {l : List Tk} (h : GoodT (t :: l)) (hk : t.k ≠ 6) : GoodT l := by
 refine ⟨?_, fun u hu => h.ints u (List.mem_cons_of_mem _ hu), by have := h.few; simp only [List.length_cons] at this; omega⟩
 obtain ⟨l0, u, e, hu⟩ := h.ends
 cases l0 with
 | nil => simp only [List.nil_append, List.cons.injEq] at e; obtain ⟨rfl, _⟩ := e; exact absurd hu hk
 | cons a l0 =>
  simp only [List.cons_append, List.cons.injEq] at e
  exact ⟨l0, u, e.2, hu⟩
theorem gt_tokIn {ts : List Tk} (h : GoodT ts) : TokIn (toksL ts) := by
 obtain ⟨t, l, rfl⟩ := gt_cons h
 exact ⟨t, l, rfl⟩
theorem gt_intIn {ts : List Tk} (h : GoodT ts) : IntIn (toksL ts) := by
 obtain ⟨t, l, rfl⟩ := gt_cons h
 exact ⟨fun hk => h.ints t List.mem_cons_self hk⟩
theorem nx_ok {k : Int} {acc : List UInt8 → Bool} {t : Tk} {l : List Tk} (h : t.k = k ∧ acc t.s = true) (hk : k ≠ 6) : nx k acc (t :: l) = .ok (t.s, l) := by
 rw [nx, if_pos h, if_neg hk]
theorem nx_no {k : Int} {acc : List UInt8 → Bool} {t : Tk} {l : List Tk} (h : ¬ (t.k = k ∧ acc t.s = true)) : nx k acc (t :: l) = .error t.a := by
 rw [nx, if_neg h]
theorem thn_ok {α β : Type} {x : Except Int α} {f : α → Except Int β} {a : α} (h : x = .ok a) : thn x f = f a := by rw [h]; rfl
theorem thn_no {α β : Type} {x : Except Int α} {f : α → Except Int β} {a : Int} (h : x = .error a) : thn x f = .error a := by rw [h]; rfl
theorem num_okT {t : Tk} {l : List Tk} (h : t.k = 2) : num (t :: l) = .ok (numV t.s, l) := by
 unfold num; rw [thn_ok (nx_ok ⟨h, rfl⟩ (by decide))]
theorem num_no {t : Tk} {l : List Tk} (h : t.k ≠ 2) : num (t :: l) = .error t.a := by
 unfold num; rw [thn_no (nx_no fun e => h e.1)]
theorem take_k {t : Tk} {l : List Tk} : takeAt PQ 3 (toksL (t :: l)) 0 0 = some (.int .i64 t.k) := by kernel_rfl
theorem take_s {t : Tk} {l : List Tk} : takeAt PQ 9 (toksL (t :: l)) 0 1 = some (.str t.s) := by kernel_rfl
theorem take_pa {p : Pb} {l : List Pb} : takeAt PQ 3 (pbsL (p :: l)) 0 0 = some (.int .i64 p.a) := by kernel_rfl
theorem take_pc {p : Pb} {l : List Pb} : takeAt PQ 28 (pbsL (p :: l)) 0 1 = some (.int .i64 p.c) := by kernel_rfl
theorem lax_z (a c : Int) : RetLax (.tup [.agg [.str [], .sl 0 [] .nil, .sl 0 [] .nil, .int .i64 0, .int .i64 0], .int .i64 a, .int .i64 c]) (zR a c, []) := by
 refine ⟨⟨?_, rfl, rfl, trivial⟩, by rfl, rfl⟩
 exact ⟨rfl, ⟨rfl, rfl, .inr rfl⟩, ⟨rfl, rfl, .inr rfl⟩, rfl, rfl, trivial⟩
theorem lax_r (r : Rq) : RetLax (.tup [.agg [.str r.entity, .sl 1 (strsL r.feats) (.tok 0), .sl 3 (lbsL r.labels) (.tok 1), .int .i64 r.seed, .int .i64 r.permille], .int .i64 0, .int .i64 0]) (.tup [rqA r, .int .i64 0, .int .i64 0], []) := by
 refine ⟨⟨?_, rfl, rfl, trivial⟩, by rfl, rfl⟩
 exact ⟨rfl, ⟨rfl, rfl, .inl rfl⟩, ⟨rfl, rfl, .inl rfl⟩, rfl, rfl, trivial⟩
theorem moreF_end {t : Tk} {l : List Tk} {fs : List (List UInt8)} (h : isCm (t :: l) = false) : moreF (t :: l) fs = .ok (fs, t :: l) := by
 cases l with
 | nil => rfl
 | cons u l =>
  have h' : isCm [t] = false := h
  rw [moreF, h']; rfl
theorem moreL_end {t : Tk} {l : List Tk} {ls : List Lb} (h : isCm (t :: l) = false) : moreL (t :: l) ls = .ok (ls, t :: l) := by
 have h' : isCm [t] = false := h
 match l with
 | [] => rfl
 | [a] => rw [moreL, h']; rfl
 | [a, b] => rw [moreL, h']; rfl
 | a :: b :: c :: l => rw [moreL, h']; rfl
theorem cm_yes {t : Tk} {l : List Tk} (h1 : (t.k == 5) = true) (h2 : (t.s == [44]) = true) : isCm (t :: l) = true := by
 have := eq_of_beq h1
 simp only [isCm, this, decide_true, h2, Bool.and_self]
theorem cm_no1 {t : Tk} {l : List Tk} (h1 : (t.k == 5) = false) : isCm (t :: l) = false := by
 have : t.k ≠ 5 := by simpa using h1
 simp only [isCm, decide_eq_false this, Bool.false_and]
theorem cm_no2 {t : Tk} {l : List Tk} (h1 : (t.s == [44]) = false) : isCm (t :: l) = false := by
 simp only [isCm, h1, Bool.and_false]
theorem at_yes {t : Tk} {l : List Tk} (h1 : (t.k == 1) = true) (h2 : (t.s == [97, 116]) = true) : isAtB (t :: l) = true := by
 have := eq_of_beq h1
 simp only [isAtB, this, decide_true, h2, Bool.and_self]
theorem at_no1 {t : Tk} {l : List Tk} (h1 : (t.k == 1) = false) : isAtB (t :: l) = false := by
 have : t.k ≠ 1 := by simpa using h1
 simp only [isAtB, decide_eq_false this, Bool.false_and]
theorem at_no2 {t : Tk} {l : List Tk} (h1 : (t.s == [97, 116]) = false) : isAtB (t :: l) = false := by
 simp only [isAtB, h1, Bool.and_false]
theorem lab_no0 {a : Tk} {l : List Tk} (h : a.k ≠ 4) : lab (a :: l) = .error a.a := by
 unfold lab; rw [thn_no (nx_no fun e => h e.1)]
theorem lab_no1 {a b : Tk} {l : List Tk} (h : a.k = 4) (h1 : b.k ≠ 2) : lab (a :: b :: l) = .error b.a := by
 unfold lab; rw [thn_ok (nx_ok ⟨h, rfl⟩ (by decide)), thn_no (num_no h1)]
theorem lab_no2 {a b c : Tk} {l : List Tk} (h : a.k = 4) (h1 : b.k = 2) (h2 : c.k ≠ 2) : lab (a :: b :: c :: l) = .error c.a := by
 unfold lab; rw [thn_ok (nx_ok ⟨h, rfl⟩ (by decide)), thn_ok (num_okT h1), thn_no (num_no h2)]
theorem lab_ok {a b c : Tk} {l : List Tk} (h : a.k = 4) (h1 : b.k = 2) (h2 : c.k = 2) : lab (a :: b :: c :: l) = .ok (⟨a.s, numV b.s, numV c.s⟩, l) := by
 unfold lab; rw [thn_ok (nx_ok ⟨h, rfl⟩ (by decide)), thn_ok (num_okT h1), thn_ok (num_okT h2)]
theorem moreL_no0 {t a : Tk} {l : List Tk} {ls : List Lb} (hc : isCm [t] = true) (h : a.k ≠ 4) : moreL (t :: a :: l) ls = .error a.a := by
 match l with
 | [] => rw [moreL, hc]; rfl
 | [b] => rw [moreL, hc, if_pos rfl, if_neg h]
 | b :: c :: l => rw [moreL, hc, if_pos rfl, if_neg h]
theorem moreL_no1 {t a b : Tk} {l : List Tk} {ls : List Lb} (hc : isCm [t] = true) (h : a.k = 4) (h1 : b.k ≠ 2) : moreL (t :: a :: b :: l) ls = .error b.a := by
 match l with
 | [] => rw [moreL, hc, if_pos rfl, if_pos h]
 | c :: l => rw [moreL, hc, if_pos rfl, if_pos h, if_neg h1]
theorem moreL_no2 {t a b c : Tk} {l : List Tk} {ls : List Lb} (hc : isCm [t] = true) (h : a.k = 4) (h1 : b.k = 2) (h2 : c.k ≠ 2) : moreL (t :: a :: b :: c :: l) ls = .error c.a := by
 rw [moreL, hc, if_pos rfl, if_pos h, if_pos h1, if_neg h2]
theorem moreL_ok {t a b c : Tk} {l : List Tk} {ls : List Lb} (hc : isCm [t] = true) (h : a.k = 4) (h1 : b.k = 2) (h2 : c.k = 2) : moreL (t :: a :: b :: c :: l) ls = moreL l (ls ++ [⟨a.s, numV b.s, numV c.s⟩]) := by
 rw [moreL, hc, if_pos rfl, if_pos h, if_pos h1, if_pos h2]
theorem moreF_ok {t u : Tk} {l : List Tk} {fs : List (List UInt8)} (hc : isCm [t] = true) (h : u.k = 1 ∧ nameR u.s = true) : moreF (t :: u :: l) fs = moreF l (fs ++ [u.s]) := by
 rw [moreF, hc, if_pos rfl, if_pos h]
theorem moreF_no {t u : Tk} {l : List Tk} {fs : List (List UInt8)} (hc : isCm [t] = true) (h : ¬ (u.k = 1 ∧ nameR u.s = true)) : moreF (t :: u :: l) fs = .error u.a := by
 rw [moreF, hc, if_pos rfl, if_neg h]
theorem kMf_ok {en : List UInt8} {f1 f2 fs : List (List UInt8)} {ls : List Lb} {sd pm : Int} {t u : Tk} {l : List Tk} (hc : isCm [t] = true) (h : u.k = 1 ∧ nameR u.s = true) : kMf ⟨en, f1, ls, sd, pm⟩ (t :: u :: l) fs = kMf ⟨en, f2, ls, sd, pm⟩ l (fs ++ [u.s]) := by
 unfold kMf; rw [moreF_ok hc h]
theorem kMl_ok {en : List UInt8} {fs : List (List UInt8)} {l1 l2 ls : List Lb} {sd pm : Int} {t a b c : Tk} {l : List Tk} (hc : isCm [t] = true) (h : a.k = 4) (h1 : b.k = 2) (h2 : c.k = 2) : kMl ⟨en, fs, l1, sd, pm⟩ (t :: a :: b :: c :: l) ls = kMl ⟨en, fs, l2, sd, pm⟩ l (ls ++ [⟨a.s, numV b.s, numV c.s⟩]) := by
 unfold kMl; rw [moreL_ok hc h h1 h2]
theorem lab_asked {l : List Tk} (G : GoodT l) : TokIn (toksL l) ∧ ((hdT (toksL l)).k = 4 → TokIn (List.drop 1 (toksL l)) ∧ IntIn (List.drop 1 (toksL l))) ∧ ((hdT (toksL l)).k = 4 → (hdT (List.drop 1 (toksL l))).k = 2 → TokIn (List.drop 2 (toksL l)) ∧ IntIn (List.drop 2 (toksL l))) := by
 obtain ⟨a, l, rfl⟩ := gt_cons G
 refine ⟨gt_tokIn G, fun h => ?_, fun h h1 => ?_⟩
 ·have G1 := gt_tail G (by have h : a.k = 4 := h; rw [h]; decide)
  exact ⟨gt_tokIn G1, gt_intIn G1⟩
 ·have G1 := gt_tail G (by have h : a.k = 4 := h; rw [h]; decide)
  obtain ⟨b, l, rfl⟩ := gt_cons G1
  have G2 := gt_tail G1 (by have h1 : b.k = 2 := h1; rw [h1]; decide)
  exact ⟨gt_tokIn G2, gt_intIn G2⟩
theorem lab_good {l : List Tk} (G : GoodT l) (h : (hdT (toksL l)).k = 4 ∧ (hdT (List.drop 1 (toksL l))).k = 2 ∧ (hdT (List.drop 2 (toksL l))).k = 2) : ∃ a b c l', l = a :: b :: c :: l' ∧ a.k = 4 ∧ b.k = 2 ∧ c.k = 2 ∧ GoodT l' := by
 obtain ⟨h, h1, h2⟩ := h
 obtain ⟨a, l, rfl⟩ := gt_cons G
 have G1 := gt_tail G (by have h : a.k = 4 := h; rw [h]; decide)
 obtain ⟨b, l, rfl⟩ := gt_cons G1
 have G2 := gt_tail G1 (by have h1 : b.k = 2 := h1; rw [h1]; decide)
 obtain ⟨c, l, rfl⟩ := gt_cons G2
 exact ⟨a, b, c, l, rfl, h, h1, h2, gt_tail G2 (by have h2 : c.k = 2 := h2; rw [h2]; decide)⟩
theorem lab_bad0 {l : List Tk} (G : GoodT l) (h : ¬ (hdT (toksL l)).k = 4) : lab l = .error (hdT (toksL l)).a ∧ ∀ t ls, isCm [t] = true → moreL (t :: l) ls = .error (hdT (toksL l)).a := by
 obtain ⟨a, l, rfl⟩ := gt_cons G
 exact ⟨lab_no0 h, fun t ls hc => moreL_no0 hc h⟩
theorem lab_bad1 {l : List Tk} (G : GoodT l) (h : (hdT (toksL l)).k = 4 ∧ (hdT (List.drop 1 (toksL l))).k ≠ 2) : lab l = .error (hdT (List.drop 1 (toksL l))).a ∧ ∀ t ls, isCm [t] = true → moreL (t :: l) ls = .error (hdT (List.drop 1 (toksL l))).a := by
 obtain ⟨h, h1⟩ := h
 obtain ⟨a, l, rfl⟩ := gt_cons G
 have G1 := gt_tail G (by have h : a.k = 4 := h; rw [h]; decide)
 obtain ⟨b, l, rfl⟩ := gt_cons G1
 exact ⟨lab_no1 h h1, fun t ls hc => moreL_no1 hc h h1⟩
theorem lab_bad2 {l : List Tk} (G : GoodT l) (h : (hdT (toksL l)).k = 4 ∧ (hdT (List.drop 1 (toksL l))).k = 2 ∧ (hdT (List.drop 2 (toksL l))).k ≠ 2) : lab l = .error (hdT (List.drop 2 (toksL l))).a ∧ ∀ t ls, isCm [t] = true → moreL (t :: l) ls = .error (hdT (List.drop 2 (toksL l))).a := by
 obtain ⟨h, h1, h2⟩ := h
 obtain ⟨a, l, rfl⟩ := gt_cons G
 have G1 := gt_tail G (by have h : a.k = 4 := h; rw [h]; decide)
 obtain ⟨b, l, rfl⟩ := gt_cons G1
 have G2 := gt_tail G1 (by have h1 : b.k = 2 := h1; rw [h1]; decide)
 obtain ⟨c, l, rfl⟩ := gt_cons G2
 exact ⟨lab_no2 h h1 h2, fun t ls hc => moreL_no2 hc h h1 h2⟩
theorem p11 (m : Int) (s : Spec) (bs : List UInt8) (ts : List Tk) (pb : List Pb) (e : Int) (hs : s [bytesA bs] = some (s36v ts pb e)) (hg : e = 0 → pb = [] → ts ≠ [] → GoodT ts) : TLaxOk PQ (GQ m) (XP ts pb e) (tbl [(36, s), (46, s46)]) (itbl []) fsN (JP m idMk s ts pb e) (gP ts e) 11 [bytesA bs] (resT ts pb e, []) := by
 constructor
 rw [w11]; unfold w11c31 w11c30 w11c29 w11c28 w11c27 w11c26 w11c25 w11c24 w11c22 w11c21 w11c20 w11c19 w11c18 w11c17 w11c16 w11c15 w11c13 w11c12 w11c11 w11c10 w11c14 w11c23 w11c9 w11c8 w11c7 w11c6 w11c5 w11c4 w11c3 w11c2 w11c1 I6
 simp only [valsAre_iff, stIs_iff, callIs_iff, true_and, and_true, forall_const, Bool.true_eq_false, Bool.false_eq_true, false_implies, List.take_length, Int.le_refl, Int.reduceEq, if_false, List.drop_drop, Nat.reduceAdd, true_or]
 refine ⟨hs, fun h => ?_, fun he => ⟨fun hp => ?_, fun hp => ⟨fun hz => ?_, fun hz => ?_⟩⟩⟩
 ·have : e ≠ 0 := by simpa using h
  unfold resT; rw [if_pos this]
  exact lax_z _ _
 ·have e0 : e = 0 := by simpa using he
  cases pb with
  | nil => exact absurd (of_decide_eq_true hp) (by simp)
  | cons p l =>
   refine ⟨by simp, _, take_pa, by simp, _, take_pc, ?_⟩
   unfold resT; rw [if_neg (by omega)]
   exact lax_z _ _
 ·have e0 : e = 0 := by simpa using he
  have p0 : pb = [] := by
   cases pb with
   | nil => rfl
   | cons p l => exact absurd (of_decide_eq_false hp) (by simp)
  have t0 : ts = [] := by
   have := eq_of_beq hz
   rw [List.length_map] at this
   exact List.length_eq_zero_iff.1 (by omega)
  unfold resT; rw [if_neg (by omega), p0]
  simp only [t0, if_true]
  exact lax_z _ _
 have e0 : e = 0 := by simpa using he
 have p0 : pb = [] := by
  cases pb with
  | nil => rfl
  | cons p l => exact absurd (of_decide_eq_false hp) (by simp)
 have t0 : ts ≠ [] := by
  intro h0
  subst h0
  simp at hz
 have G := hg e0 p0 t0
 have hres : resT ts pb e = resP (parseTk ts) := by
  unfold resT; rw [if_neg (by omega), p0]
  simp only [t0, if_false]
 rw [hres]
 have hfew := G.few
 have bad : ∀ a, parseTk ts = .error a → RetLax (.tup [.agg [.str [], .sl 0 [] .nil, .sl 0 [] .nil, .int .i64 0, .int .i64 0], .int .i64 a, .int .i64 90]) (resP (parseTk ts), []) := fun a h => by
  rw [h]; exact lax_z _ _
 clear hp he hz hg hres
 obtain ⟨t, l, hts⟩ := gt_cons G
 refine ⟨⟨⟨t, l, by rw [hts]⟩, rfl, rfl⟩, fun h1 => ?_, fun h1 => ⟨rfl, bad _ ?_⟩⟩
 rotate_left
 ·rw [hts] at h1 ⊢
  exact thn_no (nx_no fun x => h1 x)
 have P11 : parseTk ts = k11 l := by rw [hts] at h1 ⊢; exact thn_ok (nx_ok h1 (by decide))
 have G1 : GoodT l := by
  rw [hts] at h1 G
  have : t.k = 1 := h1.1
  exact gt_tail G (by rw [this]; decide)
 have L1 : l.length ≤ ts.length := by rw [hts]; simp
 have hd1 : ∀ n, List.drop (n + 1) (toksL ts) = List.drop n (toksL l) := fun n => by rw [hts]; rfl
 rw [hd1 0, hd1 1]
 obtain ⟨t1, l1, rfl⟩ := gt_cons G1
 refine ⟨⟨⟨⟨t1, l1, rfl⟩, rfl⟩, fun h2 => ⟨⟨⟨t1.s, [], [], 0, 0⟩, l1⟩, rfl, gt_tail G1 ?_, P11.trans (thn_ok (nx_ok h2 (by decide))), by simp only [List.length_cons] at L1; exact Nat.le_trans (Nat.le_succ _) L1⟩, fun h2 => ⟨rfl, bad _ (P11.trans (thn_no (nx_no fun x => h2 x)))⟩⟩, ?_⟩
 ·have : t1.k = 1 := h2.1
  rw [this]; decide
 rintro ⟨⟨en, fs0, ls0, sd0, pm0⟩, u⟩ ⟨G2, P12, L2⟩
 dsimp only at G2 P12 L2 ⊢
 obtain ⟨t2, l2, rfl⟩ := gt_cons G2
 refine ⟨⟨⟨⟨t2, l2, rfl⟩, ⟨rfl, rfl⟩, rfl, rfl⟩, fun h => ⟨⟨⟨en, [], [], 0, 0⟩, l2⟩, rfl, gt_tail G2 ?_, P12.trans (thn_ok (nx_ok h (by decide))), rfl, rfl, Nat.le_trans (Nat.le_succ _) L2⟩, fun h => ⟨rfl, bad _ (P12.trans (thn_no (nx_no fun x => h x)))⟩⟩, ?_⟩
 ·have : t2.k = 1 := h.1
  rw [this]; decide
 clear G2 P12 L2 t2 l2
 rintro ⟨⟨en, fs, ls, sd, pm⟩, u⟩ ⟨G3, P13, hf, hlb, L3⟩
 dsimp only at G3 P13 hf hlb L3 ⊢
 subst hf; subst hlb
 obtain ⟨t3, l3, rfl⟩ := gt_cons G3
 refine ⟨⟨⟨⟨t3, l3, rfl⟩, ⟨[], rfl⟩, rfl, Nat.zero_le _, rfl⟩, fun h => ⟨⟨⟨⟨en, [t3.s], [], sd, pm⟩, l3⟩, rfl, gt_tail G3 ?_, P13.trans (thn_ok (nx_ok h (by decide))), rfl, by simp only [List.length_cons, List.length_nil] at L3 ⊢; omega⟩, ?_⟩, fun h => ⟨rfl, bad _ (P13.trans (thn_no (nx_no fun x => h x)))⟩⟩, ?_⟩
 ·have : t3.k = 1 := h.1
  rw [this]; decide
 ·-- the features
  clear P13 G3 h L3
  rintro ⟨⟨en, fs, ls, sd, pm⟩, u⟩ ⟨G4, P4, hlb, L4⟩
  dsimp only at G4 P4 hlb L4 ⊢
  subst hlb
  obtain ⟨t4, l4, rfl⟩ := gt_cons G4
  have hn : (strsL fs).length = fs.length := List.length_map _
  have stop : isCm (t4 :: l4) = false → parseTk ts = k14 ⟨en, fs, [], sd, pm⟩ (t4 :: l4) := fun hc => P4.trans (thn_ok (moreF_end hc))
  refine ⟨len_tok _ _, _, take_k, fun c5 => ⟨len_tok _ _, _, take_s, fun cs => ?_, fun cs => ⟨⟨⟨en, fs, [], sd, pm⟩, t4 :: l4⟩, rfl, G4, stop (cm_no2 cs), rfl, Nat.le_trans (Nat.le_add_left _ _) L4⟩⟩, fun c5 => ⟨⟨⟨en, fs, [], sd, pm⟩, t4 :: l4⟩, rfl, G4, stop (cm_no1 c5), rfl, Nat.le_trans (Nat.le_add_left _ _) L4⟩⟩
  have hc : isCm [t4] = true := cm_yes c5 cs
  have G5 : GoodT l4 := gt_tail G4 (by have := eq_of_beq c5; rw [this]; decide)
  obtain ⟨t5, l5, rfl⟩ := gt_cons G5
  refine ⟨by omega, ⟨len_tok1 _ _, Nat.le_refl _⟩, ⟨⟨t5, l5, rfl⟩, ⟨fs, rfl⟩, hn.symm, by simp only [List.length_cons] at L4; omega, rfl⟩, fun h => ⟨⟨⟨en, fs ++ [t5.s], [], sd, pm⟩, l5⟩, ?_, ⟨gt_tail G5 ?_, P4.trans (kMf_ok hc h), rfl, by simp only [List.length_cons, List.length_append, List.length_nil] at L4 ⊢; omega⟩, by simp only [List.length_cons]; omega⟩, fun h => ⟨rfl, bad _ (P4.trans (thn_no (moreF_no hc fun x => h x)))⟩⟩
  ·simp only [List.map_append, List.length_append, hn]; rfl
  ·have : t5.k = 1 := h.1
   rw [this]; decide
 clear P13 G3 L3 t3 l3
 rintro ⟨⟨en, fs, ls, sd, pm⟩, u⟩ ⟨G4, P14, hlb, L4⟩
 dsimp only at G4 P14 hlb L4 ⊢
 subst hlb
 obtain ⟨t4, l4, rfl⟩ := gt_cons G4
 refine ⟨⟨⟨t4, l4, rfl⟩, ⟨rfl, rfl⟩, rfl, rfl⟩, fun h => ?_, fun h => ⟨rfl, bad _ (P14.trans (thn_no (nx_no fun x => h x)))⟩⟩
 have P15 : parseTk ts = k15 ⟨en, fs, [], sd, pm⟩ l4 := P14.trans (thn_ok (nx_ok h (by decide)))
 have G5 : GoodT l4 := gt_tail G4 (by have : t4.k = 1 := h.1; rw [this]; decide)
 obtain ⟨t5, l5, rfl⟩ := gt_cons G5
 refine ⟨⟨⟨⟨t5, l5, rfl⟩, gt_intIn G5, rfl, rfl⟩, fun h => ⟨⟨⟨en, fs, [], numV t5.s, pm⟩, l5⟩, rfl, gt_tail G5 ?_, P15.trans (thn_ok (num_okT h)), rfl, by simp only [List.length_cons] at L4 ⊢; omega⟩, fun h => ⟨rfl, bad _ (P15.trans (thn_no (num_no h)))⟩⟩, ?_⟩
 ·have h : t5.k = 2 := h
  rw [h]; decide
 clear P14 P15 G4 G5 L4 h t4 t5 l5
 rintro ⟨⟨en, fs, ls, sd, pm⟩, u⟩ ⟨G4, P16, hlb, L4⟩
 dsimp only at G4 P16 hlb L4 ⊢
 subst hlb
 obtain ⟨t4, l4, rfl⟩ := gt_cons G4
 refine ⟨⟨⟨t4, l4, rfl⟩, ⟨rfl, rfl⟩, rfl, rfl⟩, fun h => ?_, fun h => ⟨rfl, bad _ (P16.trans (thn_no (nx_no fun x => h x)))⟩⟩
 have P17 : parseTk ts = k17 ⟨en, fs, [], sd, pm⟩ l4 := P16.trans (thn_ok (nx_ok h (by decide)))
 have G5 : GoodT l4 := gt_tail G4 (by have : t4.k = 1 := h.1; rw [this]; decide)
 obtain ⟨t5, l5, rfl⟩ := gt_cons G5
 refine ⟨⟨⟨⟨t5, l5, rfl⟩, gt_intIn G5, rfl, rfl⟩, fun h => ⟨⟨⟨en, fs, [], sd, numV t5.s⟩, l5⟩, rfl, gt_tail G5 ?_, P17.trans (thn_ok (num_okT h)), rfl, by simp only [List.length_cons] at L4 ⊢; omega⟩, fun h => ⟨rfl, bad _ (P17.trans (thn_no (num_no h)))⟩⟩, ?_⟩
 ·have h : t5.k = 2 := h
  rw [h]; decide
 clear P16 P17 G4 G5 L4 h t4 t5 l5
 rintro ⟨⟨en, fs, ls, sd, pm⟩, u⟩ ⟨G4, P18, hlb, L4⟩
 dsimp only at G4 P18 hlb L4 ⊢
 subst hlb
 obtain ⟨t4, l4, rfl⟩ := gt_cons G4
 have stop : isAtB (t4 :: l4) = false → parseTk ts = k21 ⟨en, fs, [], sd, pm⟩ (t4 :: l4) := fun hc => by rw [P18]; unfold k18; rw [hc]; rfl
 refine ⟨⟨len_tok _ _, _, take_k, fun c1 => ⟨len_tok _ _, _, take_s, fun cs => ?_, fun cs => ⟨⟨⟨en, fs, [], sd, pm⟩, t4 :: l4⟩, rfl, G4, stop (at_no2 cs)⟩⟩, fun c1 => ⟨⟨⟨en, fs, [], sd, pm⟩, t4 :: l4⟩, rfl, G4, stop (at_no1 c1)⟩⟩, ?_⟩
 ·have P20 : parseTk ts = k20 ⟨en, fs, [], sd, pm⟩ l4 := by rw [P18]; unfold k18; rw [at_yes c1 cs]; rfl
  have G5 : GoodT l4 := gt_tail G4 (by have := eq_of_beq c1; rw [this]; decide)
  clear stop
  obtain ⟨q1, q2, q3⟩ := lab_asked G5
  refine ⟨by omega, ⟨len_tok1 _ _, Nat.le_refl _⟩, ⟨q1, q2, q3, ⟨[], rfl⟩, rfl, Nat.zero_le _, rfl, rfl⟩, fun h => ?_, fun h => ⟨rfl, bad _ (P20.trans (thn_no (lab_bad0 G5 h).1))⟩, fun h => ⟨rfl, bad _ (P20.trans (thn_no (lab_bad1 G5 h).1))⟩, fun h => ⟨rfl, bad _ (P20.trans (thn_no (lab_bad2 G5 h).1))⟩⟩
  obtain ⟨a, b, c, l5, rfl, ha, hb, hc, G6⟩ := lab_good G5 h
  refine ⟨⟨⟨⟨en, fs, [⟨a.s, numV b.s, numV c.s⟩], sd, pm⟩, l5⟩, rfl, G6, P20.trans (thn_ok (lab_ok ha hb hc)), by simp only [List.length_cons, List.length_nil] at L4 ⊢; omega⟩, ?_⟩
  clear P20 P18 q1 q2 q3 G5 G4 G6 h L4 ha hb hc a b c l5
  rintro ⟨⟨en, fs, ls, sd, pm⟩, u⟩ ⟨G4, P4, L4⟩
  dsimp only at G4 P4 L4 ⊢
  obtain ⟨t4, l4, rfl⟩ := gt_cons G4
  have hn : (lbsL ls).length = ls.length := List.length_map _
  have stop : isCm (t4 :: l4) = false → parseTk ts = k21 ⟨en, fs, ls, sd, pm⟩ (t4 :: l4) := fun hc => P4.trans (thn_ok (moreL_end hc))
  refine ⟨len_tok _ _, _, take_k, fun c5 => ⟨len_tok _ _, _, take_s, fun cs => ?_, fun cs => ⟨⟨⟨en, fs, ls, sd, pm⟩, t4 :: l4⟩, rfl, G4, stop (cm_no2 cs)⟩⟩, fun c5 => ⟨⟨⟨en, fs, ls, sd, pm⟩, t4 :: l4⟩, rfl, G4, stop (cm_no1 c5)⟩⟩
  have hcm : isCm [t4] = true := cm_yes c5 cs
  have G5 : GoodT l4 := gt_tail G4 (by have := eq_of_beq c5; rw [this]; decide)
  obtain ⟨q1, q2, q3⟩ := lab_asked G5
  refine ⟨by omega, ⟨len_tok1 _ _, Nat.le_refl _⟩, ⟨q1, q2, q3, ⟨ls, rfl⟩, hn.symm, by simp only [List.length_cons] at L4; omega, rfl, rfl⟩, fun h => ?_, fun h => ⟨rfl, bad _ (P4.trans (thn_no ((lab_bad0 G5 h).2 _ _ hcm)))⟩, fun h => ⟨rfl, bad _ (P4.trans (thn_no ((lab_bad1 G5 h).2 _ _ hcm)))⟩, fun h => ⟨rfl, bad _ (P4.trans (thn_no ((lab_bad2 G5 h).2 _ _ hcm)))⟩⟩
  obtain ⟨a, b, c, l5, rfl, ha, hb, hc, G6⟩ := lab_good G5 h
  refine ⟨⟨⟨en, fs, ls ++ [⟨a.s, numV b.s, numV c.s⟩], sd, pm⟩, l5⟩, ?_, ⟨G6, P4.trans (kMl_ok hcm ha hb hc), by simp only [List.length_cons, List.length_append, List.length_nil] at L4 ⊢; omega⟩, by simp only [List.length_cons]; omega⟩
  simp only [List.map_append, List.length_append, hn]; rfl
 clear P18 G4 L4 stop t4 l4
 rintro ⟨⟨en, fs, ls, sd, pm⟩, u⟩ ⟨G4, P21⟩
 dsimp only at G4 P21 ⊢
 obtain ⟨t4, l4, rfl⟩ := gt_cons G4
 refine ⟨⟨⟨t4, l4, rfl⟩, rfl, rfl⟩, fun h => ?_, fun h => ⟨rfl, bad _ (P21.trans (thn_no (nx_no fun x => h x)))⟩⟩
 have P : parseTk ts = .ok ⟨en, fs, ls, sd, pm⟩ := P21.trans (by
  have h' : t4.k = 6 ∧ everyB t4.s = true := h
  unfold k21; exact thn_ok (by rw [nx, if_pos h']))
 refine ⟨_, run46 ⟨en, fs, ls, sd, pm⟩, fun hb => ?_, fun hb => ?_⟩
 ·rw [P]
  unfold resP
  simp only [hb, if_true]
  exact lax_r ⟨en, fs, ls, sd, pm⟩
 ·rw [P]
  unfold resP
  simp only [hb, if_false, Bool.false_eq_true]
  exact lax_z _ _
end Go.Abs
namespace Go.Abs
open Go.Proofs Go.Wire
theorem bytL_ok {bs : List UInt8} (hb : strOk bs) : BytL (bytesL bs) := ⟨⟨bs, rfl, hb⟩⟩
theorem rdT_ok {bs : List UInt8} {a : Int} (h : (textA bs a).2.2 = 0) : rdT bs a = .ok ((textA bs a).1, (textA bs a).2.1) := if_pos h
theorem rdT_no {bs : List UInt8} {a : Int} (h : ¬ (textA bs a).2.2 = 0) : rdT bs a = .error (textA bs a).2.2 := if_neg h
theorem rdI_ok {bs : List UInt8} {a : Int} (h : (sintA bs a).2.2 = 0) : rdI bs a = .ok ((sintA bs a).1, (sintA bs a).2.1) := if_pos h
theorem rdI_no {bs : List UInt8} {a : Int} (h : ¬ (sintA bs a).2.2 = 0) : rdI bs a = .error (sintA bs a).2.2 := if_neg h
theorem rdN_ok {bs : List UInt8} {a k : Int} (h : (uintA bs a).2.2 = 0 ∧ (uintA bs a).1 ≤ k) : rdN k bs a = .ok ((uintA bs a).1.toNat, (uintA bs a).2.1) := by
 unfold rdN; rw [if_pos h.1, if_neg (by omega)]
theorem rdN_no {bs : List UInt8} {a k : Int} (h : ¬ (uintA bs a).2.2 = 0) : rdN k bs a = .error (uintA bs a).2.2 := if_neg h
theorem rdN_big {bs : List UInt8} {a k : Int} (h : (uintA bs a).2.2 = 0 ∧ k < (uintA bs a).1) : rdN k bs a = .error 240 := by
 unfold rdN; rw [if_pos h.1, if_pos h.2]
theorem thn_thn {α β γ : Type} {x : Except Int α} {f : α → Except Int β} {g : β → Except Int γ} : thn (thn x f) g = thn x fun y => thn (f y) g := by cases x <;> rfl
theorem rFs_step {bs : List UInt8} {n : Nat} {r : Rq} {a : Int} : rFs bs (n + 1) r a = thn (rdT bs a) fun x => rFs bs n { r with feats := r.feats ++ [x.1] } x.2 := thn_thn
theorem rLs_step {bs : List UInt8} {n : Nat} {r : Rq} {a : Int} : rLs bs (n + 1) r a = thn (rdLb bs a) fun x => rLs bs n { r with labels := r.labels ++ [x.1] } x.2 := thn_thn
theorem sub_step {n k : Nat} (h : k < n) : n - k = n - (k + 1) + 1 := by omega
theorem lax_r' (r : Rq) (a : Int) : RetLax (.tup [.agg [.str r.entity, .sl 1 (strsL r.feats) (.tok 0), .sl 3 (lbsL r.labels) (.tok 1), .int .i64 r.seed, .int .i64 r.permille], .int .i64 a, .int .i64 0]) (.tup [rqA r, .int .i64 a, .int .i64 0], []) := by
 refine ⟨⟨?_, rfl, rfl, trivial⟩, by rfl, rfl⟩
 exact ⟨rfl, ⟨rfl, rfl, .inl rfl⟩, ⟨rfl, rfl, .inl rfl⟩, rfl, rfl, trivial⟩
theorem p28 (m : Int) (a : Int) (bs : List UInt8) (hb : strOk bs) : TLaxOk PQ (GQ m) XD (tbl t28) (itbl []) fsD J28 (g28 bs a) 28 [bytesA bs, .int .i64 a] (resR (readRq bs a), []) := by
 constructor
 rw [w28]; unfold w28c26 w28c25 w28c23 w28c22 w28c21 w28c20 w28c19 w28c18 w28c17 w28c14 w28c13 w28c12 w28c11 w28c10 w28c16 w28c9 w28c8 w28c7 w28c5 w28c2 w28c15 w28c4 w28c3 w28c1 w28c6 w28c24
 simp only [valsAre_iff, stIs_iff, true_and, and_true, forall_const, Bool.true_eq_false, Bool.false_eq_true, false_implies, true_or, and_self, bytL_ok hb, keptTx_ok, keptUi_ok, keptIn_ok]
 have bad : ∀ e, readRq bs a = .error e → RetLax (.tup [.agg [.str [], .sl 0 [] .nil, .sl 0 [] .nil, .int .i64 0, .int .i64 0], .int .i64 0, .int .i64 e]) (resR (readRq bs a), []) := fun e h => by
  rw [h]; exact lax_z _ _
 refine ⟨⟨fun h => ⟨⟨⟨(textA bs a).1, [], [], 0, 0⟩, 0, (textA bs a).2.1⟩, rfl, thn_ok (rdT_ok h), rfl, rfl, rfl, rfl⟩, fun h => ⟨rfl, bad _ (thn_no (rdT_no h))⟩⟩, ?_⟩
 rintro ⟨⟨en, fs, ls, sd, pm⟩, n, at_⟩ ⟨hP, h1, h2, h3, h4⟩
 dsimp only at hP h1 h2 h3 h4 ⊢
 subst h1 h2 h3 h4
 refine ⟨⟨⟨⟨by decide, by decide, rfl⟩, fun h => ⟨⟨⟨en, [], [], 0, 0⟩, (uintA bs at_).1.toNat, (uintA bs at_).2.1⟩, ?_, rfl, hP.trans (thn_ok (rdN_ok h)), ?_, rfl, rfl, rfl, rfl⟩, fun h => ⟨rfl, bad _ (hP.trans (thn_no (rdN_no h)))⟩, fun h => bad _ (hP.trans (thn_no (rdN_big h)))⟩, ?_⟩, ?_⟩
 ·obtain ⟨u0, u1⟩ := uintA_bound (bs := bs) (at_ := at_)
  have : (((uintA bs at_).1.toNat : Nat) : Int) = (uintA bs at_).1 := Int.toNat_of_nonneg u0
  simp only [this]
 ·have := h.2
  show (uintA bs at_).1.toNat ≤ 8
  omega
 ·clear hP en n at_
  rintro ⟨⟨en, fs, ls, sd, pm⟩, n, at_⟩ ⟨hP, hn, h1, h2, h3, h4⟩
  dsimp only at hP hn h1 h2 h3 h4 ⊢
  subst h1 h2 h3 h4
  refine ⟨⟨⟨⟨en, [], [], 0, 0⟩, n, at_⟩, rfl, rfl, hP, Nat.zero_le _, hn, rfl, rfl, rfl⟩, ?_⟩
  clear hP hn en n at_
  rintro ⟨⟨en, fs, ls, sd, pm⟩, n, at_⟩ ⟨hP, hl, hn, h2, h3, h4⟩
  dsimp only at hP hl hn h2 h3 h4 ⊢
  subst h2 h3 h4
  have hlen : (strsL fs).length = fs.length := List.length_map _
  refine ⟨fun hc => ?_, fun hc => ?_⟩
  ·have hlt : fs.length < n := by have := of_decide_eq_true hc; omega
   rw [sub_step hlt, rFs_step] at hP
   refine ⟨⟨rfl, fun h => ⟨by rw [hlen]; omega, hlen.symm, ⟨⟨en, fs ++ [(textA bs at_).1], [], 0, 0⟩, n, (textA bs at_).2.1⟩, ?_, ?_, ⟨?_, ?_, ?_, hn, rfl, rfl, rfl⟩, ?_⟩, fun h => ⟨rfl, bad _ (hP.trans (thn_no (rdT_no h)))⟩⟩, ?_⟩
   ·have : (((fs ++ [(textA bs at_).1]).length : Nat) : Int) - 1 = fs.length := by simp only [List.length_append, List.length_cons, List.length_nil]; omega
    simp only [this]
   ·simp only [List.length_append, List.length_cons, List.length_nil, hlen, strsL, List.map_append]; rfl
   ·rw [hP, thn_ok (rdT_ok h)]; simp only [List.length_append, List.length_cons, List.length_nil]
   ·simp only [List.length_append, List.length_cons, List.length_nil]; omega
   ·simp only [List.length_append, List.length_cons, List.length_nil]; omega
   ·have : (((fs ++ [(textA bs at_).1]).length : Nat) : Int) - 1 = fs.length := by simp only [List.length_append, List.length_cons, List.length_nil]; omega
    simp only [this]
   ·clear hP
    rintro ⟨⟨en, fs2, ls, sd, pm⟩, n2, at_⟩ ⟨hP, hl1, hl2, hn2, h2, h3, h4⟩ hr
    dsimp only at hP hl1 hl2 hn2 h2 h3 h4 hr ⊢
    subst h2 h3 h4
    simp only [List.cons.injEq, AV.int.injEq, true_and, and_true] at hr
    obtain ⟨r1, r2⟩ := hr
    have hw : IntKind.i64.wrap ((fs2.length : Int) - 1 + 1) = fs2.length := by rw [wrapi64]; omega
    exact ⟨⟨⟨en, fs2, [], 0, 0⟩, n2, at_⟩, by simp only [hw], rfl, ⟨hP, hl2, hn2, rfl, rfl, rfl⟩, by show n2 - fs2.length < n - fs.length; omega⟩
  ·have hlt : n = fs.length := by have := of_decide_eq_false hc; omega
   subst hlt
   rw [Nat.sub_self] at hP
   exact ⟨⟨⟨en, fs, [], 0, 0⟩, fs.length, at_⟩, rfl, hP, hn, rfl, rfl, rfl⟩
 ·clear hP en n at_
  rintro ⟨⟨en, fs, ls, sd, pm⟩, n, at_⟩ ⟨hP, hf, h2, h3, h4⟩
  dsimp only at hP hf h2 h3 h4 ⊢
  subst h2 h3 h4
  refine ⟨⟨⟨⟨by decide, by decide, rfl⟩, fun h => ⟨⟨⟨en, fs, [], 0, 0⟩, (uintA bs at_).1.toNat, (uintA bs at_).2.1⟩, ?_, rfl, hP.trans (thn_ok (rdN_ok h)), ?_, hf, rfl, rfl, rfl⟩, fun h => ⟨rfl, bad _ (hP.trans (thn_no (rdN_no h)))⟩, fun h => bad _ (hP.trans (thn_no (rdN_big h)))⟩, ?_⟩, ?_⟩
  ·obtain ⟨u0, u1⟩ := uintA_bound (bs := bs) (at_ := at_)
   have : (((uintA bs at_).1.toNat : Nat) : Int) = (uintA bs at_).1 := Int.toNat_of_nonneg u0
   simp only [this]
  ·have := h.2
   show (uintA bs at_).1.toNat ≤ 256
   omega
  ·clear hP hf en fs n at_
   rintro ⟨⟨en, fs, ls, sd, pm⟩, n, at_⟩ ⟨hP, hn, hf, h2, h3, h4⟩
   dsimp only at hP hn hf h2 h3 h4 ⊢
   subst h2 h3 h4
   refine ⟨⟨⟨⟨en, fs, [], 0, 0⟩, n, at_⟩, rfl, rfl, hP, Nat.zero_le _, hn, hf, rfl, rfl⟩, ?_⟩
   clear hP hn hf en fs n at_
   rintro ⟨⟨en, fs, ls, sd, pm⟩, n, at_⟩ ⟨hP, hl, hn, hf, h3, h4⟩
   dsimp only at hP hl hn hf h3 h4 ⊢
   subst h3 h4
   have hlen : (lbsL ls).length = ls.length := List.length_map _
   refine ⟨fun hc => ?_, fun hc => ?_⟩
   ·have hlt : ls.length < n := by have := of_decide_eq_true hc; omega
    rw [sub_step hlt, rLs_step] at hP
    unfold rdLb at hP
    rw [thn_thn] at hP
    refine ⟨rfl, fun h => ⟨⟨rfl, rfl⟩, fun g => ⟨⟨rfl, rfl⟩, fun k => ⟨by rw [hlen]; omega, hlen.symm, ⟨⟨en, fs, ls ++ [⟨(textA bs at_).1, (sintA bs (textA bs at_).2.1).1, (sintA bs (sintA bs (textA bs at_).2.1).2.1).1⟩], 0, 0⟩, n, (sintA bs (sintA bs (textA bs at_).2.1).2.1).2.1⟩, ?_, ?_, ⟨?_, ?_, hn, hf, rfl, rfl⟩, ?_⟩, fun k => ⟨rfl, bad _ ?_⟩⟩, fun g => ⟨rfl, bad _ ?_⟩⟩, fun h => ⟨rfl, bad _ (hP.trans (thn_no (rdT_no h)))⟩⟩
    ·have hw : IntKind.i64.wrap ((ls.length : Int) + 1) = ls.length + 1 := by rw [wrapi64]; omega
     simp only [List.length_append, List.length_cons, List.length_nil, hw]; rfl
    ·simp only [List.length_append, List.length_cons, List.length_nil, hlen, lbsL, List.map_append]; rfl
    ·rw [hP, thn_ok (rdT_ok h), thn_thn, thn_ok (rdI_ok g), thn_thn, thn_ok (rdI_ok k)]; simp only [List.length_append, List.length_cons, List.length_nil]; rfl
    ·simp only [List.length_append, List.length_cons, List.length_nil]; omega
    ·simp only [List.length_append, List.length_cons, List.length_nil]; omega
    ·rw [hP, thn_ok (rdT_ok h), thn_thn, thn_ok (rdI_ok g), thn_thn, thn_no (rdI_no k)]
    ·rw [hP, thn_ok (rdT_ok h), thn_thn, thn_no (rdI_no g)]
   ·have hlt : n = ls.length := by have := of_decide_eq_false hc; omega
    subst hlt
    rw [Nat.sub_self] at hP
    exact ⟨⟨⟨en, fs, ls, 0, 0⟩, ls.length, at_⟩, rfl, hP, rfl, rfl⟩
  ·clear hP hf en fs n at_
   rintro ⟨⟨en, fs, ls, sd, pm⟩, n, at_⟩ ⟨hP, h3, h4⟩
   dsimp only at hP h3 h4 ⊢
   subst h3 h4
   refine ⟨rfl, fun h => ⟨rfl, fun g => ?_, fun g => ⟨rfl, bad _ ?_⟩⟩, fun h => ⟨rfl, bad _ (hP.trans (thn_no (rdI_no h)))⟩⟩
   ·have P : readRq bs a = .ok (⟨en, fs, ls, (sintA bs at_).1, (sintA bs (sintA bs at_).2.1).1⟩, (sintA bs (sintA bs at_).2.1).2.1) := by
     rw [hP]; unfold r15; rw [thn_ok (rdI_ok h)]; unfold r16; rw [thn_ok (rdI_ok g)]
    have hr : CallIs (tbl [(46, s46)] 46 [rqA ⟨en, fs, ls, (sintA bs at_).1, (sintA bs (sintA bs at_).2.1).1⟩]) (.bool (formB ⟨en, fs, ls, (sintA bs at_).1, (sintA bs (sintA bs at_).2.1).1⟩)) [] := by
     rw [tbl_hit, run46]; exact callSome rfl
    refine ⟨_, hr, fun hb => ?_, fun hb => ?_⟩
    ·rw [P]
     unfold resR
     simp only [hb, if_true]
     exact lax_r' ⟨en, fs, ls, (sintA bs at_).1, (sintA bs (sintA bs at_).2.1).1⟩ _
    ·rw [P]
     unfold resR
     simp only [hb, if_false, Bool.false_eq_true]
     exact lax_z _ _
   ·rw [hP]; unfold r15; rw [thn_ok (rdI_ok h)]; unfold r16; rw [thn_no (rdI_no g)]
def sRead : Spec := sRd fun bs a => resR (readRq bs a)
theorem o28 (m : Int) : SpecOk PQ (GQ m) 28 sRead := spec_wk [1] fun args r hr => tlax_of' mixedQ fun a' r' hr' => by
 split at hr'
 case isFalse => cases hr'
 rename_i e; subst e; injection hr' with hr'; subst hr'
 unfold sRead sRd onBytes at hr
 split at hr
 case h_2 => cases hr
 split at hr
 case isFalse => cases hr
 rename_i hz
 split at hr
 case h_2 => cases hr
 rename_i bs hb
 dsimp only at hr
 split at hr
 case isFalse => cases hr
 rename_i hs
 injection hr with hr; subst hr
 simp only [wkL, wk1 hz hb]
 exact ⟨_, _, _, _, _, _, tbl_cons (o46 m) tbl_nil, itbl_nil, ptbl_cons (o65 m) (ptbl_cons (o66 m) (ptbl_cons (o67 m) (ptbl_nil J0_ok))), p28 m _ bs hs⟩
def smT (bs : List UInt8) (a e : Int) : List UInt8 × Int × Int := if e = 0 then textA bs a else ([], a, e)
def smI (bs : List UInt8) (a e : Int) : Int × Int × Int := if e = 0 then sintA bs a else (0, a, e)
def smN (k : Int) (bs : List UInt8) (a e : Int) : Int × Int × Int := if e = 0 then (if (uintA bs a).2.2 = 0 ∧ k < (uintA bs a).1 then (0, (uintA bs a).2.1, 240) else uintA bs a) else (0, a, e)
def keptST (es : List AV) (a e : Int) : List UInt8 × Int × Int := smT (keptBy es) a e
def keptSI (es : List AV) (a e : Int) : Int × Int × Int := smI (keptBy es) a e
def keptSN (k : Int) (es : List AV) (a e : Int) : Int × Int × Int := smN k (keptBy es) a e
def inE (es : List AV) (a e : Int) : List AV := [.sl 1 es .no, .int .i64 a, .int .i64 e]
def v3 (b0 : List AV) (b2 : Option (List AV)) (es : List AV) (a e : Int) (lv : List (Nat × TypeId)) : St := ⟨[some b0, some (inE es a e), b2], lv⟩
def v4 (b0 b2 : List AV) (b3 : Option (List AV)) (es : List AV) (a e : Int) (lv : List (Nat × TypeId)) : St := ⟨[some b0, some (inE es a e), some b2, b3], lv⟩
def oneT (es : List AV) (a e : Int) (mk : Int → Int → St) : List POut := [⟨True, none, .str (keptST es a e).1, mk (keptST es a e).2.1 (keptST es a e).2.2⟩]
def oneI (es : List AV) (a e : Int) (mk : Int → Int → St) : List POut := [⟨True, none, .int .i64 (keptSI es a e).1, mk (keptSI es a e).2.1 (keptSI es a e).2.2⟩]
def oneN (k : Int) (es : List AV) (a e : Int) (mk : Int → Int → St) : List POut := [⟨True, none, .int .i64 (keptSN k es a e).1, mk (keptSN k es a e).2.1 (keptSN k es a e).2.2⟩]
def s69 : PSpec := fun args S => match args, S with
 | [.ptr 1 0], ⟨[some b0, some [.sl 1 es .no, .int .i64 a, .int .i64 e], none], []⟩ => some (BytL es ∧ pOk 3 b0, oneT es a e fun a e => v3 b0 none es a e [])
 | [.ptr 1 0], ⟨[some b0, some [.sl 1 es .no, .int .i64 a, .int .i64 e], some b2], [q]⟩ => some (BytL es ∧ pOk 3 b0 ∧ pOk 3 b2, oneT es a e fun a e => v3 b0 (some b2) es a e [q])
 | [.ptr 1 0], ⟨[some b0, some [.sl 1 es .no, .int .i64 a, .int .i64 e], some b2, none], [q, q2]⟩ => some (BytL es ∧ pOk 4 b0 ∧ pOk 4 b2, oneT es a e fun a e => v4 b0 b2 none es a e [q, q2])
 | _, _ => none
def s70 : PSpec := fun args S => match args, S with
 | [.ptr 1 0, .int .u64 k], ⟨[some b0, some [.sl 1 es .no, .int .i64 a, .int .i64 e], some b2], []⟩ => some (BytL es ∧ k ≤ 1000 ∧ 0 ≤ k ∧ pOk 3 b0 ∧ pOk 3 b2, oneN k es a e fun a e => v3 b0 (some b2) es a e [])
 | [.ptr 1 0, .int .u64 k], ⟨[some b0, some [.sl 1 es .no, .int .i64 a, .int .i64 e], some b2], [q]⟩ => some (BytL es ∧ k ≤ 1000 ∧ 0 ≤ k ∧ pOk 3 b0 ∧ pOk 3 b2, oneN k es a e fun a e => v3 b0 (some b2) es a e [q])
 | _, _ => none
def s71 : PSpec := fun args S => match args, S with
 | [.ptr 1 0], ⟨[some b0, some [.sl 1 es .no, .int .i64 a, .int .i64 e], some b2], [q, q2]⟩ => some (BytL es ∧ pOk 3 b0 ∧ pOk 3 b2, oneI es a e fun a e => v3 b0 (some b2) es a e [q, q2])
 | [.ptr 1 0], ⟨[some b0, some [.sl 1 es .no, .int .i64 a, .int .i64 e], some b2, some b3], [q, q2]⟩ => some (BytL es ∧ pOk 4 b0 ∧ pOk 4 b2 ∧ pOk 4 b3, oneI es a e fun a e => v4 b0 b2 (some b3) es a e [q, q2])
 | _, _ => none
def XE : Shapes := fun f => match f with
 | 116 => some shTextR
 | 117 => some shUintR
 | 118 => some shIntR
 | 33 => some shB
 | _ => none
def tE : List (FuncId × Spec) := [(116, s116), (117, s117), (118, s68)]
def fsE (f : FuncId) : Bool := f = 69 || f = 70 || f = 71
def g69 : PCfg := { ps := [], A := nAn }
/-! Read -/
def stk (e : Int) (x : Except Int (Rq × Int)) : Except Int (Rq × Int) := if e = 0 then x else .error e
def zqE : List AV := [.str [], .sl 0 [] .nil, .sl 0 [] .nil, .int .i64 0, .int .i64 0]
structure R29 where
 r : Rq
 n : Nat
 a : Int
 e : Int
def qkN (x : R29) : List AV := [.str x.r.entity, .sl 0 [] .nil, .sl 0 [] .nil, .int .i64 0, .int .i64 0]
def qk0 (x : R29) : List AV := [.str x.r.entity, .sl 1 [] (.tok 0), .sl 0 [] .nil, .int .i64 0, .int .i64 0]
def qk1 (x : R29) : List AV := [.str x.r.entity, .sl 1 (strsL x.r.feats) (.tok 0), .sl 0 [] .nil, .int .i64 0, .int .i64 0]
def qk2 (x : R29) : List AV := [.str x.r.entity, .sl 1 (strsL x.r.feats) (.tok 0), .sl 3 [] (.tok 1), .int .i64 0, .int .i64 0]
def qk3 (x : R29) : List AV := [.str x.r.entity, .sl 1 (strsL x.r.feats) (.tok 0), .sl 3 (lbsL x.r.labels) (.tok 1), .int .i64 0, .int .i64 0]
def ql1 (x : R29) : List (Nat × TypeId) := [(x.r.feats.length, 9)]
def ql2 (x : R29) : List (Nat × TypeId) := [(x.r.feats.length, 9), (0, 65)]
def ql3 (x : R29) : List (Nat × TypeId) := [(x.r.feats.length, 9), (x.r.labels.length, 65)]
def keyS (r : Rq) : Prop := ∀ l ∈ r.labels, l.key.length ≤ 2000000
def c29 (bs : List UInt8) (sl : List Nat) (vs : R29 → List AV) (rk : R29 → List AV) (lk : R29 → List (Nat × TypeId)) (I : R29 → Prop) (mb : List (Nat × TypeId)) (mu : R29 → Nat) : Option Ann :=
 some { α := R29, slots := [4, 7, 8] ++ sl, nb := 3, vals := fun x => [.ptr 0 0, .ptr 1 0, .ptr 2 0] ++ vs x, sS := fun x => v3 zqE (some (rk x)) (bytesL bs) x.a x.e (lk x), I := I, μ := mu, mintB := mb }
def c29r (bs : List UInt8) (I7 : R29 → Prop) : Option Ann :=
 some { α := R29, slots := [4, 7, 8, 9, 10], nb := 3, vals := fun x => [.ptr 0 0, .ptr 1 0, .ptr 2 0, .int .i64 x.n, .int .i64 (x.r.feats.length - 1 : Int)], sS := fun x => v3 zqE (some (qk1 x)) (bytesL bs) x.a x.e (ql1 x), I := fun x => I7 x, μ := fun _ => 0, rel := fun T y => ValsAre [T.getD 9 (.tup []), T.getD 10 (.tup [])] [.int .i64 y.n, .int .i64 (y.r.feats.length - 1 : Int)] }
def z0 (_ : R29) : List AV := []
def a29 (bs : List UInt8) (a0 : Int) : Anns := ⟨fun k => match k with
 | 1000003 => c29 bs [] z0 qkN (fun _ => []) (fun x => readRq bs a0 = stk x.e (r4 bs x.r x.a) ∧ x.r.feats = [] ∧ x.r.labels = [] ∧ x.r.seed = 0 ∧ x.r.permille = 0) [] (fun _ => 0)
 | 1000005 => c29 bs [9, 10] (fun x => [.int .i64 x.n, .int .i64 0]) qk0 (fun _ => [(0, 9)]) (fun x => readRq bs a0 = stk x.e (rFs bs x.n x.r x.a) ∧ x.n ≤ 8 ∧ x.r.feats = [] ∧ x.r.labels = [] ∧ x.r.seed = 0 ∧ x.r.permille = 0) [(1002, 9)] (fun _ => 0)
 | 5 => c29 bs [9, 10] (fun x => [.int .i64 x.n, .int .i64 x.r.feats.length]) qk1 ql1 (fun x => readRq bs a0 = stk x.e (rFs bs (x.n - x.r.feats.length) x.r x.a) ∧ x.r.feats.length ≤ x.n ∧ x.n ≤ 8 ∧ x.r.labels = [] ∧ x.r.seed = 0 ∧ x.r.permille = 0) [] (fun x => x.n - x.r.feats.length)
 | 1000006 => c29r bs (fun x => readRq bs a0 = stk x.e (rFs bs (x.n - x.r.feats.length) x.r x.a) ∧ 1 ≤ x.r.feats.length ∧ x.r.feats.length ≤ x.n ∧ x.n ≤ 8 ∧ x.r.labels = [] ∧ x.r.seed = 0 ∧ x.r.permille = 0)
 | 1000008 => c29 bs [] z0 qk1 ql1 (fun x => readRq bs a0 = stk x.e (r8 bs x.r x.a) ∧ x.r.feats.length ≤ 8 ∧ x.r.labels = [] ∧ x.r.seed = 0 ∧ x.r.permille = 0) [] (fun _ => 0)
 | 1000010 => c29 bs [9, 11] (fun x => [.int .i64 x.n, .int .i64 0]) qk2 ql2 (fun x => readRq bs a0 = stk x.e (rLs bs x.n x.r x.a) ∧ x.n ≤ 256 ∧ x.r.feats.length ≤ 8 ∧ x.r.labels = [] ∧ x.r.seed = 0 ∧ x.r.permille = 0) [(2002, 65)] (fun _ => 0)
 | 10 => c29 bs [9, 11] (fun x => [.int .i64 x.n, .int .i64 x.r.labels.length]) qk3 ql3 (fun x => readRq bs a0 = stk x.e (rLs bs (x.n - x.r.labels.length) x.r x.a) ∧ x.r.labels.length ≤ x.n ∧ x.n ≤ 256 ∧ x.r.feats.length ≤ 8 ∧ keyS x.r ∧ x.r.seed = 0 ∧ x.r.permille = 0) [] (fun x => x.n - x.r.labels.length)
 | 1000016 => c29 bs [] z0 qk3 ql3 (fun x => readRq bs a0 = stk x.e (r15 bs x.r x.a) ∧ keyS x.r ∧ x.r.seed = 0 ∧ x.r.permille = 0) [] (fun _ => 0)
 | _ => none, nA⟩
def g29 (bs : List UInt8) (a0 : Int) : TCfg := { ps := [2, 3, 7, 8, 12, 13, 14, 16, 17], A := a29 bs a0, dr := 99 }
def t29 : List (FuncId × Spec) := [(33, s33)]
abbrev J29 : InC := ptbl [(69, s69), (70, s70), (71, s71)] J0
theorem w69a (m : Int) (a e : Int) (bs : List UInt8) (b0 : List AV) (os : List POut) : (pnW PQ idMk (GQ m) XE (tbl tE) (itbl []) fsE J0 g69 69 [.ptr 1 0] (v3 b0 none (bytesL bs) a e []) os) =
(((e != (0 : Int)) = true →
    PEnd
      (AV.p2 (3 : Nat) (AV.str []) &&
        boxesOk (3 : Nat) [some b0, some [AV.sl ((1 : Nat)) (bytesL bs) Own.no, AV.int IntKind.i64 a, AV.int IntKind.i64 e], none])
      none (AV.str []) { boxes := [some b0, some [AV.sl ((1 : Nat)) (bytesL bs) Own.no, AV.int IntKind.i64 a, AV.int IntKind.i64 e], none], live := [] } os) ∧
  ((e != (0 : Int)) = false →
    ∃ (s : List UInt8),
      ∃ (n : Int),
        ∃ (n_1 : Int),
 CallIs (tbl [((116 : Nat), s116), ((117 : Nat), s117), ((118 : Nat), s68)] ((116 : Nat)) [AV.sl ((1 : Nat)) (bytesL bs) Own.no, AV.int IntKind.i64 a])
 (AV.tup [AV.str s, AV.int IntKind.i64 n, AV.int IntKind.i64 n_1]) [] ∧
 PEnd
 (AV.p2 (3 : Nat) (AV.str s) &&
 boxesOk (3 : Nat) [some b0, some [AV.sl ((1 : Nat)) (bytesL bs) Own.no, AV.int IntKind.i64 n, AV.int IntKind.i64 n_1], none])
 none (AV.str s)
 { boxes := [some b0, some [AV.sl ((1 : Nat)) (bytesL bs) Own.no, AV.int IntKind.i64 n, AV.int IntKind.i64 n_1], none], live := [] } os)) := by kernel_rfl
theorem w69b (m : Int) (a e : Int) (bs : List UInt8) (b0 b2 : List AV) (q : Nat × TypeId) (os : List POut) : (pnW PQ idMk (GQ m) XE (tbl tE) (itbl []) fsE J0 g69 69 [.ptr 1 0] (v3 b0 (some b2) (bytesL bs) a e [q]) os) =
(((e != (0 : Int)) = true →
    PEnd
      (AV.p2 (3 : Nat) (AV.str []) &&
        boxesOk (3 : Nat) [some b0, some [AV.sl ((1 : Nat)) (bytesL bs) Own.no, AV.int IntKind.i64 a, AV.int IntKind.i64 e], some b2])
      none (AV.str []) { boxes := [some b0, some [AV.sl ((1 : Nat)) (bytesL bs) Own.no, AV.int IntKind.i64 a, AV.int IntKind.i64 e], some b2], live := [q] }
      os) ∧
  ((e != (0 : Int)) = false →
    ∃ (s : List UInt8),
      ∃ (n : Int),
        ∃ (n_1 : Int),
 CallIs (tbl [((116 : Nat), s116), ((117 : Nat), s117), ((118 : Nat), s68)] ((116 : Nat)) [AV.sl ((1 : Nat)) (bytesL bs) Own.no, AV.int IntKind.i64 a])
 (AV.tup [AV.str s, AV.int IntKind.i64 n, AV.int IntKind.i64 n_1]) [] ∧
 PEnd
 (AV.p2 (3 : Nat) (AV.str s) &&
 boxesOk (3 : Nat) [some b0, some [AV.sl ((1 : Nat)) (bytesL bs) Own.no, AV.int IntKind.i64 n, AV.int IntKind.i64 n_1], some b2])
 none (AV.str s)
 { boxes := [some b0, some [AV.sl ((1 : Nat)) (bytesL bs) Own.no, AV.int IntKind.i64 n, AV.int IntKind.i64 n_1], some b2], live := [q] } os)) := by kernel_rfl
theorem w69c (m : Int) (a e : Int) (bs : List UInt8) (b0 b2 : List AV) (q q2 : Nat × TypeId) (os : List POut) : (pnW PQ idMk (GQ m) XE (tbl tE) (itbl []) fsE J0 g69 69 [.ptr 1 0] (v4 b0 b2 none (bytesL bs) a e [q, q2]) os) =
(((e != (0 : Int)) = true →
    PEnd
      (AV.p2 (4 : Nat) (AV.str []) &&
        boxesOk (4 : Nat) [some b0, some [AV.sl ((1 : Nat)) (bytesL bs) Own.no, AV.int IntKind.i64 a, AV.int IntKind.i64 e], some b2, none])
      none (AV.str [])
      { boxes := [some b0, some [AV.sl ((1 : Nat)) (bytesL bs) Own.no, AV.int IntKind.i64 a, AV.int IntKind.i64 e], some b2, none], live := [q, q2] } os) ∧
  ((e != (0 : Int)) = false →
    ∃ (s : List UInt8),
      ∃ (n : Int),
        ∃ (n_1 : Int),
 CallIs (tbl [((116 : Nat), s116), ((117 : Nat), s117), ((118 : Nat), s68)] ((116 : Nat)) [AV.sl ((1 : Nat)) (bytesL bs) Own.no, AV.int IntKind.i64 a])
 (AV.tup [AV.str s, AV.int IntKind.i64 n, AV.int IntKind.i64 n_1]) [] ∧
 PEnd
 (AV.p2 (4 : Nat) (AV.str s) &&
 boxesOk (4 : Nat) [some b0, some [AV.sl ((1 : Nat)) (bytesL bs) Own.no, AV.int IntKind.i64 n, AV.int IntKind.i64 n_1], some b2, none])
 none (AV.str s)
 { boxes := [some b0, some [AV.sl ((1 : Nat)) (bytesL bs) Own.no, AV.int IntKind.i64 n, AV.int IntKind.i64 n_1], some b2, none], live := [q, q2] }
 os)) := by kernel_rfl
abbrev w70ac1 (b0 : List AV) (bs : List UInt8) (n_1 : Int) (n_2 : Int) (b2 : List AV) : List (Option (List AV)) := [some b0, some [AV.sl ((1 : Nat)) (bytesL bs) Own.no, AV.int IntKind.i64 n_1, AV.int IntKind.i64 n_2], some b2]
theorem w70a (m : Int) (a e k : Int) (bs : List UInt8) (b0 b2 : List AV) (os : List POut) : (pnW PQ idMk (GQ m) XE (tbl tE) (itbl []) fsE J0 g69 70 [.ptr 1 0, .int .u64 k] (v3 b0 (some b2) (bytesL bs) a e []) os) =
(((e != (0 : Int)) = true → PEnd (AV.p2 (3 : Nat) (AV.int IntKind.i64 (0 : Int)) && boxesOk (3 : Nat) [some b0, some [AV.sl ((1 : Nat)) (bytesL bs) Own.no, AV.int IntKind.i64 a, AV.int IntKind.i64 e], some b2]) none (AV.int IntKind.i64 (0 : Int)) { boxes := [some b0, some [AV.sl ((1 : Nat)) (bytesL bs) Own.no, AV.int IntKind.i64 a, AV.int IntKind.i64 e], some b2], live := [] } os) ∧ ((e != (0 : Int)) = false → ∃ (n : Int), ∃ (n_1 : Int), ∃ (n_2 : Int), CallIs (tbl [((116 : Nat), s116), ((117 : Nat), s117), ((118 : Nat), s68)] ((117 : Nat)) [AV.sl ((1 : Nat)) (bytesL bs) Own.no, AV.int IntKind.i64 a]) (AV.tup [AV.int IntKind.u64 n, AV.int IntKind.i64 n_1, AV.int IntKind.i64 n_2]) [] ∧ ((n_2 == (0 : Int)) = true → (decide (n > k) = true → PEnd (AV.p2 (3 : Nat) (AV.int IntKind.i64 (0 : Int)) && boxesOk (3 : Nat) [some b0, some [AV.sl ((1 : Nat)) (bytesL bs) Own.no, AV.int IntKind.i64 n_1, AV.int IntKind.i64 (240 : Int)], some b2]) none (AV.int IntKind.i64 (0 : Int)) { boxes := [some b0, some [AV.sl ((1 : Nat)) (bytesL bs) Own.no, AV.int IntKind.i64 n_1, AV.int IntKind.i64 (240 : Int)], some b2], live := [] } os) ∧ (decide (n > k) = false → PEnd (AV.p2 (3 : Nat) (AV.int IntKind.i64 (IntKind.i64.wrap n)) && boxesOk (3 : Nat) (w70ac1 b0 bs n_1 n_2 b2)) none (AV.int IntKind.i64 (IntKind.i64.wrap n)) { boxes := (w70ac1 b0 bs n_1 n_2 b2), live := [] } os)) ∧ ((n_2 == (0 : Int)) = false → PEnd (AV.p2 (3 : Nat) (AV.int IntKind.i64 (IntKind.i64.wrap n)) && boxesOk (3 : Nat) (w70ac1 b0 bs n_1 n_2 b2)) none (AV.int IntKind.i64 (IntKind.i64.wrap n)) { boxes := (w70ac1 b0 bs n_1 n_2 b2), live := [] } os))) := by kernel_rfl
abbrev w70bc1 (b0 : List AV) (bs : List UInt8) (n_1 : Int) (n_2 : Int) (b2 : List AV) : List (Option (List AV)) := [some b0, some [AV.sl ((1 : Nat)) (bytesL bs) Own.no, AV.int IntKind.i64 n_1, AV.int IntKind.i64 n_2], some b2]
theorem w70b (m : Int) (a e k : Int) (bs : List UInt8) (b0 b2 : List AV) (q : Nat × TypeId) (os : List POut) : (pnW PQ idMk (GQ m) XE (tbl tE) (itbl []) fsE J0 g69 70 [.ptr 1 0, .int .u64 k] (v3 b0 (some b2) (bytesL bs) a e [q]) os) =
(((e != (0 : Int)) = true → PEnd (AV.p2 (3 : Nat) (AV.int IntKind.i64 (0 : Int)) && boxesOk (3 : Nat) [some b0, some [AV.sl ((1 : Nat)) (bytesL bs) Own.no, AV.int IntKind.i64 a, AV.int IntKind.i64 e], some b2]) none (AV.int IntKind.i64 (0 : Int)) { boxes := [some b0, some [AV.sl ((1 : Nat)) (bytesL bs) Own.no, AV.int IntKind.i64 a, AV.int IntKind.i64 e], some b2], live := [q] } os) ∧ ((e != (0 : Int)) = false → ∃ (n : Int), ∃ (n_1 : Int), ∃ (n_2 : Int), CallIs (tbl [((116 : Nat), s116), ((117 : Nat), s117), ((118 : Nat), s68)] ((117 : Nat)) [AV.sl ((1 : Nat)) (bytesL bs) Own.no, AV.int IntKind.i64 a]) (AV.tup [AV.int IntKind.u64 n, AV.int IntKind.i64 n_1, AV.int IntKind.i64 n_2]) [] ∧ ((n_2 == (0 : Int)) = true → (decide (n > k) = true → PEnd (AV.p2 (3 : Nat) (AV.int IntKind.i64 (0 : Int)) && boxesOk (3 : Nat) [some b0, some [AV.sl ((1 : Nat)) (bytesL bs) Own.no, AV.int IntKind.i64 n_1, AV.int IntKind.i64 (240 : Int)], some b2]) none (AV.int IntKind.i64 (0 : Int)) { boxes := [some b0, some [AV.sl ((1 : Nat)) (bytesL bs) Own.no, AV.int IntKind.i64 n_1, AV.int IntKind.i64 (240 : Int)], some b2], live := [q] } os) ∧ (decide (n > k) = false → PEnd (AV.p2 (3 : Nat) (AV.int IntKind.i64 (IntKind.i64.wrap n)) && boxesOk (3 : Nat) (w70bc1 b0 bs n_1 n_2 b2)) none (AV.int IntKind.i64 (IntKind.i64.wrap n)) { boxes := (w70bc1 b0 bs n_1 n_2 b2), live := [q] } os)) ∧ ((n_2 == (0 : Int)) = false → PEnd (AV.p2 (3 : Nat) (AV.int IntKind.i64 (IntKind.i64.wrap n)) && boxesOk (3 : Nat) (w70bc1 b0 bs n_1 n_2 b2)) none (AV.int IntKind.i64 (IntKind.i64.wrap n)) { boxes := (w70bc1 b0 bs n_1 n_2 b2), live := [q] } os))) := by kernel_rfl
theorem w71a (m : Int) (a e : Int) (bs : List UInt8) (b0 b2 : List AV) (q q2 : Nat × TypeId) (os : List POut) : (pnW PQ idMk (GQ m) XE (tbl tE) (itbl []) fsE J0 g69 71 [.ptr 1 0] (v3 b0 (some b2) (bytesL bs) a e [q, q2]) os) =
(((e != (0 : Int)) = true →
    PEnd
      (AV.p2 (3 : Nat) (AV.int IntKind.i64 (0 : Int)) &&
        boxesOk (3 : Nat) [some b0, some [AV.sl ((1 : Nat)) (bytesL bs) Own.no, AV.int IntKind.i64 a, AV.int IntKind.i64 e], some b2])
      none (AV.int IntKind.i64 (0 : Int))
      { boxes := [some b0, some [AV.sl ((1 : Nat)) (bytesL bs) Own.no, AV.int IntKind.i64 a, AV.int IntKind.i64 e], some b2], live := [q, q2] } os) ∧
  ((e != (0 : Int)) = false →
    ∃ (n : Int),
      ∃ (n_1 : Int),
        ∃ (n_2 : Int),
 CallIs (tbl [((116 : Nat), s116), ((117 : Nat), s117), ((118 : Nat), s68)] ((118 : Nat)) [AV.sl ((1 : Nat)) (bytesL bs) Own.no, AV.int IntKind.i64 a])
 (AV.tup [AV.int IntKind.i64 n, AV.int IntKind.i64 n_1, AV.int IntKind.i64 n_2]) [] ∧
 PEnd
 (AV.p2 (3 : Nat) (AV.int IntKind.i64 n) &&
 boxesOk (3 : Nat) [some b0, some [AV.sl ((1 : Nat)) (bytesL bs) Own.no, AV.int IntKind.i64 n_1, AV.int IntKind.i64 n_2], some b2])
 none (AV.int IntKind.i64 n)
 { boxes := [some b0, some [AV.sl ((1 : Nat)) (bytesL bs) Own.no, AV.int IntKind.i64 n_1, AV.int IntKind.i64 n_2], some b2], live := [q, q2] } os)) := by kernel_rfl
theorem w71b (m : Int) (a e : Int) (bs : List UInt8) (b0 b2 b3 : List AV) (q q2 : Nat × TypeId) (os : List POut) : (pnW PQ idMk (GQ m) XE (tbl tE) (itbl []) fsE J0 g69 71 [.ptr 1 0] (v4 b0 b2 (some b3) (bytesL bs) a e [q, q2]) os) =
(((e != (0 : Int)) = true →
    PEnd
      (AV.p2 (4 : Nat) (AV.int IntKind.i64 (0 : Int)) &&
        boxesOk (4 : Nat) [some b0, some [AV.sl ((1 : Nat)) (bytesL bs) Own.no, AV.int IntKind.i64 a, AV.int IntKind.i64 e], some b2, some b3])
      none (AV.int IntKind.i64 (0 : Int))
      { boxes := [some b0, some [AV.sl ((1 : Nat)) (bytesL bs) Own.no, AV.int IntKind.i64 a, AV.int IntKind.i64 e], some b2, some b3], live := [q, q2] } os) ∧
  ((e != (0 : Int)) = false →
    ∃ (n : Int),
      ∃ (n_1 : Int),
        ∃ (n_2 : Int),
 CallIs (tbl [((116 : Nat), s116), ((117 : Nat), s117), ((118 : Nat), s68)] ((118 : Nat)) [AV.sl ((1 : Nat)) (bytesL bs) Own.no, AV.int IntKind.i64 a])
 (AV.tup [AV.int IntKind.i64 n, AV.int IntKind.i64 n_1, AV.int IntKind.i64 n_2]) [] ∧
 PEnd
 (AV.p2 (4 : Nat) (AV.int IntKind.i64 n) &&
 boxesOk (4 : Nat) [some b0, some [AV.sl ((1 : Nat)) (bytesL bs) Own.no, AV.int IntKind.i64 n_1, AV.int IntKind.i64 n_2], some b2, some b3])
 none (AV.int IntKind.i64 n)
 { boxes := [some b0, some [AV.sl ((1 : Nat)) (bytesL bs) Own.no, AV.int IntKind.i64 n_1, AV.int IntKind.i64 n_2], some b2, some b3], live := [q, q2] }
 os)) := by kernel_rfl
theorem keptST_ok (bs : List UInt8) (a e : Int) : keptST (bytesL bs) a e = smT bs a e := by unfold keptST; rw [keptBy_ok]
theorem keptSI_ok (bs : List UInt8) (a e : Int) : keptSI (bytesL bs) a e = smI bs a e := by unfold keptSI; rw [keptBy_ok]
theorem keptSN_ok (k : Int) (bs : List UInt8) (a e : Int) : keptSN k (bytesL bs) a e = smN k bs a e := by unfold keptSN; rw [keptBy_ok]
theorem stk_T {bs : List UInt8} {a e : Int} {f : List UInt8 × Int → Except Int (Rq × Int)} : stk e (thn (rdT bs a) f) = stk (smT bs a e).2.2 (f ((smT bs a e).1, (smT bs a e).2.1)) := by
 unfold stk smT
 by_cases h : e = 0
 ·simp only [h, if_true]
  by_cases g : (textA bs a).2.2 = 0
  ·rw [thn_ok (rdT_ok g), if_pos g]
  ·rw [thn_no (rdT_no g), if_neg g]
 ·simp only [h, if_false]
theorem stk_I {bs : List UInt8} {a e : Int} {f : Int × Int → Except Int (Rq × Int)} : stk e (thn (rdI bs a) f) = stk (smI bs a e).2.2 (f ((smI bs a e).1, (smI bs a e).2.1)) := by
 unfold stk smI
 by_cases h : e = 0
 ·simp only [h, if_true]
  by_cases g : (sintA bs a).2.2 = 0
  ·rw [thn_ok (rdI_ok g), if_pos g]
  ·rw [thn_no (rdI_no g), if_neg g]
 ·simp only [h, if_false]
theorem smN1 {k : Int} {bs : List UInt8} {a e : Int} (h : ¬ e = 0) : smN k bs a e = (0, a, e) := if_neg h
theorem smNb {k : Int} {bs : List UInt8} {a e : Int} (h : e = 0) (g : (uintA bs a).2.2 = 0 ∧ k < (uintA bs a).1) : smN k bs a e = (0, (uintA bs a).2.1, 240) := by unfold smN; rw [if_pos h, if_pos g]
theorem smN0 {k : Int} {bs : List UInt8} {a e : Int} (h : e = 0) (g : ¬ ((uintA bs a).2.2 = 0 ∧ k < (uintA bs a).1)) : smN k bs a e = uintA bs a := by unfold smN; rw [if_pos h, if_neg g]
theorem stk_N {k : Int} {bs : List UInt8} {a e : Int} {f : Nat × Int → Except Int (Rq × Int)} : stk e (thn (rdN k bs a) f) = stk (smN k bs a e).2.2 (f ((smN k bs a e).1.toNat, (smN k bs a e).2.1)) := by
 by_cases h : e = 0
 ·by_cases g : (uintA bs a).2.2 = 0
  ·by_cases b : k < (uintA bs a).1
   ·rw [smNb h ⟨g, b⟩, thn_no (rdN_big ⟨g, b⟩)]; unfold stk; rw [if_pos h]; rfl
   ·rw [smN0 h (fun x => b x.2), thn_ok (rdN_ok ⟨g, by omega⟩)]; unfold stk; rw [if_pos h, if_pos g]
  ·rw [smN0 h (fun x => g x.1), thn_no (rdN_no g)]; unfold stk; rw [if_pos h, if_neg g]
 ·rw [smN1 h]; unfold stk; rw [if_neg h, if_neg h]
theorem uintA_err {bs : List UInt8} {a : Int} (h : ¬ (uintA bs a).2.2 = 0) : (uintA bs a).1 = 0 := by
 unfold uintA at h ⊢
 split
 ·rfl
 ·rename_i c
  rw [if_neg c] at h
  split
  ·rfl
  ·rename_i e
   rw [e] at h
   exact absurd rfl h
theorem smN_bound {k : Int} {bs : List UInt8} {a e : Int} (hk : 0 ≤ k) : 0 ≤ (smN k bs a e).1 ∧ (smN k bs a e).1 ≤ k := by
 obtain ⟨u0, u1⟩ := uintA_bound (bs := bs) (at_ := a)
 unfold smN
 split
 ·split
  ·exact ⟨Int.le_refl _, hk⟩
  ·rename_i c
   by_cases g : (uintA bs a).2.2 = 0
   ·exact ⟨u0, by have : ¬ k < (uintA bs a).1 := fun x => c ⟨g, x⟩; omega⟩
   ·rw [uintA_err g]; exact ⟨Int.le_refl _, hk⟩
 ·exact ⟨Int.le_refl _, hk⟩
theorem bOkE3 {b0 : List AV} {b2 : Option (List AV)} {es : List AV} {a e : Int} (h0 : pOk 3 b0) (h2 : boxesOk 3 [b2] = true) : boxesOk 3 [some b0, some [.sl 1 es .no, .int .i64 a, .int .i64 e], b2] = true := by
 unfold pOk at h0
 have : boxesOk 3 (some b0 :: some [.sl 1 es .no, .int .i64 a, .int .i64 e] :: [b2]) = boxesOk 3 [b2] := by
  simp only [boxesOk, h0, Bool.or_true, Bool.true_and]
  rfl
 rw [this, h2]
theorem bOkE4 {b0 b2 : List AV} {b3 : Option (List AV)} {es : List AV} {a e : Int} (h0 : pOk 4 b0) (h2 : pOk 4 b2) (h3 : boxesOk 4 [b3] = true) : boxesOk 4 [some b0, some [.sl 1 es .no, .int .i64 a, .int .i64 e], some b2, b3] = true := by
 unfold pOk at h0 h2
 have : boxesOk 4 (some b0 :: some [.sl 1 es .no, .int .i64 a, .int .i64 e] :: some b2 :: [b3]) = boxesOk 4 [b3] := by
  simp only [boxesOk, h0, h2, Bool.or_true, Bool.true_and]
  rfl
 rw [this, h3]
theorem bOk1 {n : Nat} {b : List AV} (h : pOk n b) : boxesOk n [some b] = true := by
 unfold pOk at h
 simp only [boxesOk, h, Bool.or_true, Bool.true_and]
theorem s116_at {bs : List UInt8} {at_ : Int} {o : Own} (h : strOk bs) : s116 [.sl 1 (bytesL bs) o, .int .i64 at_] = some (rText (textA bs at_), []) := sRd_at h
theorem s117_at {bs : List UInt8} {at_ : Int} {o : Own} (h : strOk bs) : s117 [.sl 1 (bytesL bs) o, .int .i64 at_] = some (rUint (uintA bs at_), []) := sRd_at h
theorem tE_ok (m : Int) : CalleeOk PQ (GQ m) (tbl tE) := tbl_cons (o116 m) (tbl_cons (o117 m) (tbl_cons (o118 m) tbl_nil))
theorem one_at {ok : Bool} {r r' : AV} {S S' : St} (hok : ok = true) (h : r' = r) (hs : S' = S) : PEnd ok none r S [⟨True, none, r', S'⟩] := by
 subst h hs
 exact ⟨hok, _, List.mem_cons_self, trivial, rfl, rfl, rfl⟩
theorem smT0 {bs : List UInt8} {a e : Int} (h : e = 0) : smT bs a e = textA bs a := if_pos h
theorem smT1 {bs : List UInt8} {a e : Int} (h : ¬ e = 0) : smT bs a e = ([], a, e) := if_neg h
theorem smI0 {bs : List UInt8} {a e : Int} (h : e = 0) : smI bs a e = sintA bs a := if_pos h
theorem smI1 {bs : List UInt8} {a e : Int} (h : ¬ e = 0) : smI bs a e = (0, a, e) := if_neg h
section
variable (m a e : Int) (bs : List UInt8) (b0 b2 b3 : List AV) (q q2 : Nat × TypeId) (hb : strOk bs)
include hb
theorem p69a (h0 : pOk 3 b0) : PnOk PQ (GQ m) XE (tbl tE) (itbl []) fsE J0 g69 69 [.ptr 1 0] (v3 b0 none (bytesL bs) a e []) (oneT (bytesL bs) a e fun a e => v3 b0 none (bytesL bs) a e []) := by
 constructor
 rw [w69a, tbl_hit, s116_at hb]; unfold oneT; rw [keptST_ok]
 refine ⟨fun c => ?_, fun c => ⟨_, _, _, callSome rfl, ?_⟩⟩
 ·rw [smT1 (by simpa using c)]; exact one_at (by rw [bOkE3 h0 rfl]; rfl) rfl rfl
 ·rw [smT0 (by simpa using c)]; exact one_at (by rw [bOkE3 h0 rfl]; rfl) rfl rfl
theorem p69b (h0 : pOk 3 b0) (h2 : pOk 3 b2) : PnOk PQ (GQ m) XE (tbl tE) (itbl []) fsE J0 g69 69 [.ptr 1 0] (v3 b0 (some b2) (bytesL bs) a e [q]) (oneT (bytesL bs) a e fun a e => v3 b0 (some b2) (bytesL bs) a e [q]) := by
 constructor
 rw [w69b, tbl_hit, s116_at hb]; unfold oneT; rw [keptST_ok]
 refine ⟨fun c => ?_, fun c => ⟨_, _, _, callSome rfl, ?_⟩⟩
 ·rw [smT1 (by simpa using c)]; exact one_at (by rw [bOkE3 h0 (bOk1 h2)]; rfl) rfl rfl
 ·rw [smT0 (by simpa using c)]; exact one_at (by rw [bOkE3 h0 (bOk1 h2)]; rfl) rfl rfl
theorem p69c (h0 : pOk 4 b0) (h2 : pOk 4 b2) : PnOk PQ (GQ m) XE (tbl tE) (itbl []) fsE J0 g69 69 [.ptr 1 0] (v4 b0 b2 none (bytesL bs) a e [q, q2]) (oneT (bytesL bs) a e fun a e => v4 b0 b2 none (bytesL bs) a e [q, q2]) := by
 constructor
 rw [w69c, tbl_hit, s116_at hb]; unfold oneT; rw [keptST_ok]
 refine ⟨fun c => ?_, fun c => ⟨_, _, _, callSome rfl, ?_⟩⟩
 ·rw [smT1 (by simpa using c)]; exact one_at (by rw [bOkE4 h0 h2 rfl]; rfl) rfl rfl
 ·rw [smT0 (by simpa using c)]; exact one_at (by rw [bOkE4 h0 h2 rfl]; rfl) rfl rfl
theorem p71a (h0 : pOk 3 b0) (h2 : pOk 3 b2) : PnOk PQ (GQ m) XE (tbl tE) (itbl []) fsE J0 g69 71 [.ptr 1 0] (v3 b0 (some b2) (bytesL bs) a e [q, q2]) (oneI (bytesL bs) a e fun a e => v3 b0 (some b2) (bytesL bs) a e [q, q2]) := by
 constructor
 rw [w71a, tblMiss (by decide), tblMiss (by decide), tbl_hit, s68_at hb]; unfold oneI; rw [keptSI_ok]
 refine ⟨fun c => ?_, fun c => ⟨_, _, _, callSome rfl, ?_⟩⟩
 ·rw [smI1 (by simpa using c)]; exact one_at (by rw [bOkE3 h0 (bOk1 h2)]; rfl) rfl rfl
 ·rw [smI0 (by simpa using c)]; exact one_at (by rw [bOkE3 h0 (bOk1 h2)]; rfl) rfl rfl
theorem p71b (h0 : pOk 4 b0) (h2 : pOk 4 b2) (h3 : pOk 4 b3) : PnOk PQ (GQ m) XE (tbl tE) (itbl []) fsE J0 g69 71 [.ptr 1 0] (v4 b0 b2 (some b3) (bytesL bs) a e [q, q2]) (oneI (bytesL bs) a e fun a e => v4 b0 b2 (some b3) (bytesL bs) a e [q, q2]) := by
 constructor
 rw [w71b, tblMiss (by decide), tblMiss (by decide), tbl_hit, s68_at hb]; unfold oneI; rw [keptSI_ok]
 refine ⟨fun c => ?_, fun c => ⟨_, _, _, callSome rfl, ?_⟩⟩
 ·rw [smI1 (by simpa using c)]; exact one_at (by rw [bOkE4 h0 h2 (bOk1 h3)]; rfl) rfl rfl
 ·rw [smI0 (by simpa using c)]; exact one_at (by rw [bOkE4 h0 h2 (bOk1 h3)]; rfl) rfl rfl
variable (k : Int) (hk : k ≤ 1000)
include hk
theorem p70a (h0 : pOk 3 b0) (h2 : pOk 3 b2) : PnOk PQ (GQ m) XE (tbl tE) (itbl []) fsE J0 g69 70 [.ptr 1 0, .int .u64 k] (v3 b0 (some b2) (bytesL bs) a e []) (oneN k (bytesL bs) a e fun a e => v3 b0 (some b2) (bytesL bs) a e []) := by
 constructor
 rw [w70a]; unfold w70ac1; rw [tblMiss (by decide), tbl_hit, s117_at hb]; unfold oneN; rw [keptSN_ok]
 refine ⟨fun c => ?_, fun c => ⟨_, _, _, callSome rfl, fun d => ⟨fun b => ?_, fun b => ?_⟩, fun d => ?_⟩⟩
 ·rw [smN1 (by simpa using c)]; exact one_at (by rw [bOkE3 h0 (bOk1 h2)]; rfl) rfl rfl
 ·rw [smNb (by simpa using c) ⟨by simpa using d, of_decide_eq_true b⟩]; exact one_at (by rw [bOkE3 h0 (bOk1 h2)]; rfl) rfl rfl
 ·have b' := of_decide_eq_false b
  rw [smN0 (by simpa using c) (fun x => b' x.2)]; exact one_at (by rw [bOkE3 h0 (bOk1 h2)]; rfl) (by rw [wrapUi a bs hb k hk b']) rfl
 ·have d' : ¬ (uintA bs a).2.2 = 0 := by simpa using d
  rw [smN0 (by simpa using c) (fun x => d' x.1)]; exact one_at (by rw [bOkE3 h0 (bOk1 h2)]; rfl) (by rw [uintA_err d']; rfl) rfl
theorem p70b (h0 : pOk 3 b0) (h2 : pOk 3 b2) : PnOk PQ (GQ m) XE (tbl tE) (itbl []) fsE J0 g69 70 [.ptr 1 0, .int .u64 k] (v3 b0 (some b2) (bytesL bs) a e [q]) (oneN k (bytesL bs) a e fun a e => v3 b0 (some b2) (bytesL bs) a e [q]) := by
 constructor
 rw [w70b]; unfold w70bc1; rw [tblMiss (by decide), tbl_hit, s117_at hb]; unfold oneN; rw [keptSN_ok]
 refine ⟨fun c => ?_, fun c => ⟨_, _, _, callSome rfl, fun d => ⟨fun b => ?_, fun b => ?_⟩, fun d => ?_⟩⟩
 ·rw [smN1 (by simpa using c)]; exact one_at (by rw [bOkE3 h0 (bOk1 h2)]; rfl) rfl rfl
 ·rw [smNb (by simpa using c) ⟨by simpa using d, of_decide_eq_true b⟩]; exact one_at (by rw [bOkE3 h0 (bOk1 h2)]; rfl) rfl rfl
 ·have b' := of_decide_eq_false b
  rw [smN0 (by simpa using c) (fun x => b' x.2)]; exact one_at (by rw [bOkE3 h0 (bOk1 h2)]; rfl) (by rw [wrapUi a bs hb k hk b']) rfl
 ·have d' : ¬ (uintA bs a).2.2 = 0 := by simpa using d
  rw [smN0 (by simpa using c) (fun x => d' x.1)]; exact one_at (by rw [bOkE3 h0 (bOk1 h2)]; rfl) (by rw [uintA_err d']; rfl) rfl
end
theorem o69 (m : Int) : PSpecOk PQ (GQ m) 69 s69 := pspec_of mixedQ fun args S p os h hp => by
 unfold s69 at h
 split at h
 case h_4 => cases h
 all_goals
  injection h with h
  injection h with e1 e2
  subst e1; subst e2
 ·obtain ⟨⟨bs, rfl, hb⟩, h0⟩ := hp
  exact ⟨_, _, _, _, _, _, tE_ok m, itbl_nil, J0_ok, p69a m _ _ bs _ hb h0⟩
 ·obtain ⟨⟨bs, rfl, hb⟩, h0, h2⟩ := hp
  exact ⟨_, _, _, _, _, _, tE_ok m, itbl_nil, J0_ok, p69b m _ _ bs _ _ _ hb h0 h2⟩
 ·obtain ⟨⟨bs, rfl, hb⟩, h0, h2⟩ := hp
  exact ⟨_, _, _, _, _, _, tE_ok m, itbl_nil, J0_ok, p69c m _ _ bs _ _ _ _ hb h0 h2⟩
theorem o70 (m : Int) : PSpecOk PQ (GQ m) 70 s70 := pspec_of mixedQ fun args S p os h hp => by
 unfold s70 at h
 split at h
 case h_3 => cases h
 all_goals
  injection h with h
  injection h with e1 e2
  subst e1; subst e2
  obtain ⟨⟨bs, rfl, hb⟩, hk, hk0, h0, h2⟩ := hp
 ·exact ⟨_, _, _, _, _, _, tE_ok m, itbl_nil, J0_ok, p70a m _ _ bs _ _ hb _ hk h0 h2⟩
 ·exact ⟨_, _, _, _, _, _, tE_ok m, itbl_nil, J0_ok, p70b m _ _ bs _ _ _ hb _ hk h0 h2⟩
theorem o71 (m : Int) : PSpecOk PQ (GQ m) 71 s71 := pspec_of mixedQ fun args S p os h hp => by
 unfold s71 at h
 split at h
 case h_3 => cases h
 all_goals
  injection h with h
  injection h with e1 e2
  subst e1; subst e2
 ·obtain ⟨⟨bs, rfl, hb⟩, h0, h2⟩ := hp
  exact ⟨_, _, _, _, _, _, tE_ok m, itbl_nil, J0_ok, p71a m _ _ bs _ _ _ _ hb h0 h2⟩
 ·obtain ⟨⟨bs, rfl, hb⟩, h0, h2, h3⟩ := hp
  exact ⟨_, _, _, _, _, _, tE_ok m, itbl_nil, J0_ok, p71b m _ _ bs _ _ _ _ _ hb h0 h2 h3⟩
abbrev w29c2 : List AV := [AV.str [], AV.sl ((0 : Nat)) [] Own.nil, AV.sl ((0 : Nat)) [] Own.nil, AV.int IntKind.i64 (0 : Int), AV.int IntKind.i64 (0 : Int)]
abbrev w29c12 (bs : List UInt8) (y : R29) : List AV := [AV.sl ((1 : Nat)) (bytesL bs) Own.no, AV.int IntKind.i64 y.a, AV.int IntKind.i64 y.e]
abbrev w29c5 (bs : List UInt8) (y : R29) : St := { boxes := [some w29c2, some (w29c12 bs y), some [AV.str y.r.entity, AV.sl ((1 : Nat)) (strsL y.r.feats) (Own.tok ((0 : Nat))), AV.sl ((0 : Nat)) [] Own.nil, AV.int IntKind.i64 (0 : Int), AV.int IntKind.i64 (0 : Int)]], live := [(y.r.feats.length, (9 : Nat))] }
abbrev w29c1 (x : R29) (bs : List UInt8) (a : Int) : Prop := (((1 : Nat) = (1 : Nat) ∨ strsL x.r.feats = []) ∧ ((strsL x.r.feats).length + (1 : Nat)) * (17 : Nat) ≤ (70368744177664 : Nat) ∧ x.r.feats.length = (strsL x.r.feats).length ∧ ((∃ (y : R29), ValsAre [AV.ptr ((0 : Nat)) ((0 : Nat)), AV.ptr ((1 : Nat)) ((0 : Nat)), AV.ptr ((2 : Nat)) ((0 : Nat)), AV.int IntKind.i64 (↑x.n : Int), AV.int IntKind.i64 (↑x.r.feats.length : Int)] [AV.ptr ((0 : Nat)) ((0 : Nat)), AV.ptr ((1 : Nat)) ((0 : Nat)), AV.ptr ((2 : Nat)) ((0 : Nat)), AV.int IntKind.i64 (↑y.n : Int), AV.int IntKind.i64 ((↑y.r.feats.length : Int) - (1 : Int))] ∧ StIs { boxes := [some w29c2, some [AV.sl ((1 : Nat)) (bytesL bs) Own.no, AV.int IntKind.i64 (keptST (bytesL bs) x.a x.e).snd.fst, AV.int IntKind.i64 (keptST (bytesL bs) x.a x.e).snd.snd], some [AV.str x.r.entity, AV.sl ((1 : Nat)) (strsL x.r.feats ++ [AV.str (keptST (bytesL bs) x.a x.e).fst]) (Own.tok ((0 : Nat))), AV.sl ((0 : Nat)) [] Own.nil, AV.int IntKind.i64 (0 : Int), AV.int IntKind.i64 (0 : Int)]], live := [((strsL x.r.feats).length + (1 : Nat), (9 : Nat))] } (w29c5 bs y) ∧ (readRq bs a = stk y.e (rFs bs (y.n - y.r.feats.length) y.r y.a) ∧ (1 : Nat) ≤ y.r.feats.length ∧ y.r.feats.length ≤ y.n ∧ y.n ≤ (8 : Nat) ∧ y.r.labels = [] ∧ y.r.seed = (0 : Int) ∧ y.r.permille = (0 : Int)) ∧ ValsAre [AV.int IntKind.i64 (↑x.n : Int), AV.int IntKind.i64 (↑x.r.feats.length : Int)] [AV.int IntKind.i64 (↑y.n : Int), AV.int IntKind.i64 ((↑y.r.feats.length : Int) - (1 : Int))]) ∧ True) ∧ True) ∧ True
abbrev w29c3 (x : R29) : List AV := [AV.str x.r.entity, AV.sl ((1 : Nat)) (strsL x.r.feats) (Own.tok ((0 : Nat))), AV.sl ((0 : Nat)) [] Own.nil, AV.int IntKind.i64 (0 : Int), AV.int IntKind.i64 (0 : Int)]
abbrev w29c4 (bs : List UInt8) (x : R29) := keptSI (bytesL bs) (keptSI (bytesL bs) x.a x.e).snd.fst (keptSI (bytesL bs) x.a x.e).snd.snd
abbrev w29c6 (x : R29) : List AV := [AV.str x.r.entity, AV.sl ((1 : Nat)) (strsL x.r.feats) (Own.tok ((0 : Nat))), AV.sl ((3 : Nat)) (lbsL x.r.labels) (Own.tok ((1 : Nat))), AV.int IntKind.i64 (0 : Int), AV.int IntKind.i64 (0 : Int)]
abbrev w29c7 (bs : List UInt8) (y : R29) : St := { boxes := [some w29c2, some (w29c12 bs y), some [AV.str y.r.entity, AV.sl ((1 : Nat)) (strsL y.r.feats) (Own.tok ((0 : Nat))), AV.sl ((3 : Nat)) (lbsL y.r.labels) (Own.tok ((1 : Nat))), AV.int IntKind.i64 (0 : Int), AV.int IntKind.i64 (0 : Int)]], live := [(y.r.feats.length, (9 : Nat)), (y.r.labels.length, (65 : Nat))] }
abbrev w29c8 (x : R29) (bs : List UInt8) := AV.tup [AV.agg [AV.str x.r.entity, AV.sl ((1 : Nat)) (strsL x.r.feats) (Own.tok ((0 : Nat))), AV.sl ((3 : Nat)) (lbsL x.r.labels) (Own.tok ((1 : Nat))), AV.int IntKind.i64 (keptSI (bytesL bs) x.a x.e).fst, AV.int IntKind.i64 (w29c4 bs x).fst], AV.int IntKind.i64 (w29c4 bs x).snd.fst, AV.int IntKind.i64 (0 : Int)]
abbrev w29c9 (bs : List UInt8) (x : R29) := keptSI (bytesL bs) (keptST (bytesL bs) x.a x.e).snd.fst (keptST (bytesL bs) x.a x.e).snd.snd
abbrev w29c10 (bs : List UInt8) (x : R29) : Prop := BytL (bytesL bs) ∧ true = true ∧ (w29c3 x).all (AV.p1 (3 : Nat)) = true
abbrev w29c11 : List AV := [AV.ptr ((0 : Nat)) ((0 : Nat)), AV.ptr ((1 : Nat)) ((0 : Nat)), AV.ptr ((2 : Nat)) ((0 : Nat))]
abbrev w29c13 (bs : List UInt8) (x : R29) : List AV := [AV.sl ((1 : Nat)) (bytesL bs) Own.no, AV.int IntKind.i64 x.a, AV.int IntKind.i64 x.e]
abbrev w29c14 (bs : List UInt8) (a : Int) := keptSN (8 : Int) (bytesL bs) (keptST (bytesL bs) a (0 : Int)).snd.fst (keptST (bytesL bs) a (0 : Int)).snd.snd
abbrev w29c15 (y : R29) : List AV := [AV.ptr ((0 : Nat)) ((0 : Nat)), AV.ptr ((1 : Nat)) ((0 : Nat)), AV.ptr ((2 : Nat)) ((0 : Nat)), AV.int IntKind.i64 (↑y.n : Int), AV.int IntKind.i64 (↑y.r.labels.length : Int)]
abbrev w29c16 (y : R29) : List AV := [AV.ptr ((0 : Nat)) ((0 : Nat)), AV.ptr ((1 : Nat)) ((0 : Nat)), AV.ptr ((2 : Nat)) ((0 : Nat)), AV.int IntKind.i64 (↑y.n : Int), AV.int IntKind.i64 (↑y.r.feats.length : Int)]
abbrev w29c17 (bs : List UInt8) (a : Int) (y : R29) : Prop := readRq bs a = stk y.e (rLs bs (y.n - y.r.labels.length) y.r y.a) ∧ y.r.labels.length ≤ y.n ∧ y.n ≤ (256 : Nat) ∧ y.r.feats.length ≤ (8 : Nat) ∧ keyS y.r ∧ y.r.seed = (0 : Int) ∧ y.r.permille = (0 : Int)
abbrev w29c18 (y : R29) : List AV := [AV.ptr ((0 : Nat)) ((0 : Nat)), AV.ptr ((1 : Nat)) ((0 : Nat)), AV.ptr ((2 : Nat)) ((0 : Nat)), AV.int IntKind.i64 (↑y.n : Int), AV.int IntKind.i64 (0 : Int)]
abbrev w29c19 (x : R29) : List AV := [AV.ptr ((0 : Nat)) ((0 : Nat)), AV.ptr ((1 : Nat)) ((0 : Nat)), AV.ptr ((2 : Nat)) ((0 : Nat)), AV.int IntKind.i64 (↑x.n : Int), AV.int IntKind.i64 (0 : Int)]
abbrev w29c20 (bs : List UInt8) (a : Int) (y : R29) : Prop := readRq bs a = stk y.e (rFs bs (y.n - y.r.feats.length) y.r y.a) ∧ y.r.feats.length ≤ y.n ∧ y.n ≤ (8 : Nat) ∧ y.r.labels = [] ∧ y.r.seed = (0 : Int) ∧ y.r.permille = (0 : Int)
theorem w29 (m : Int) (a : Int) (bs : List UInt8) (r : AV) : (tlaxW PQ idMk (GQ m) XE (tbl t29) (itbl []) fsE J29 (g29 bs a) 29 [bytesA bs, .int .i64 a] (r, [])) =
((BytL (bytesL bs) ∧ true = true) ∧ (True → (BytL (bytesL bs) ∧ (8 : Int) ≤ (1000 : Int) ∧ (0 : Int) ≤ (8 : Int) ∧ true = true ∧ [AV.str (keptST (bytesL bs) a (0 : Int)).fst, AV.sl ((0 : Nat)) [] Own.nil, AV.sl ((0 : Nat)) [] Own.nil, AV.int IntKind.i64 (0 : Int), AV.int IntKind.i64 (0 : Int)].all (AV.p1 (3 : Nat)) = true) ∧ (True → ((∃ (y : R29), ValsAre [AV.ptr ((0 : Nat)) ((0 : Nat)), AV.ptr ((1 : Nat)) ((0 : Nat)), AV.ptr ((2 : Nat)) ((0 : Nat)), AV.int IntKind.i64 (w29c14 bs a).fst, AV.int IntKind.i64 (0 : Int)] (w29c18 y) ∧ StIs { boxes := [some w29c2, some [AV.sl ((1 : Nat)) (bytesL bs) Own.no, AV.int IntKind.i64 (w29c14 bs a).snd.fst, AV.int IntKind.i64 (w29c14 bs a).snd.snd], some [AV.str (keptST (bytesL bs) a (0 : Int)).fst, AV.sl ((1 : Nat)) [] (Own.tok (0 : Nat)), AV.sl ((0 : Nat)) [] Own.nil, AV.int IntKind.i64 (0 : Int), AV.int IntKind.i64 (0 : Int)]], live := [((0 : Nat), (9 : Nat))] } { boxes := [some w29c2, some (w29c12 bs y), some [AV.str y.r.entity, AV.sl ((1 : Nat)) [] (Own.tok ((0 : Nat))), AV.sl ((0 : Nat)) [] Own.nil, AV.int IntKind.i64 (0 : Int), AV.int IntKind.i64 (0 : Int)]], live := [((0 : Nat), (9 : Nat))] } ∧ (readRq bs a = stk y.e (rFs bs y.n y.r y.a) ∧ y.n ≤ (8 : Nat) ∧ y.r.feats = [] ∧ y.r.labels = [] ∧ y.r.seed = (0 : Int) ∧ y.r.permille = (0 : Int)) ∧ True) ∧ ∀ (x : R29), readRq bs a = stk x.e (rFs bs x.n x.r x.a) ∧ x.n ≤ (8 : Nat) ∧ x.r.feats = [] ∧ x.r.labels = [] ∧ x.r.seed = (0 : Int) ∧ x.r.permille = (0 : Int) → True → (∃ (y : R29), ValsAre (w29c19 x) (w29c16 y) ∧ StIs { boxes := [some w29c2, some (w29c13 bs x), some [AV.str x.r.entity, AV.sl ((1 : Nat)) [] (Own.tok ((0 : Nat))), AV.sl ((0 : Nat)) [] Own.nil, AV.int IntKind.i64 (0 : Int), AV.int IntKind.i64 (0 : Int)]], live := [((0 : Nat), (9 : Nat))] } (w29c5 bs y) ∧ (w29c20 bs a y) ∧ True) ∧ ∀ (x : R29), readRq bs a = stk x.e (rFs bs (x.n - x.r.feats.length) x.r x.a) ∧ x.r.feats.length ≤ x.n ∧ x.n ≤ (8 : Nat) ∧ x.r.labels = [] ∧ x.r.seed = (0 : Int) ∧ x.r.permille = (0 : Int) → (decide ((↑x.r.feats.length : Int) < (↑x.n : Int)) = true → ((((((w29c10 bs x) ∧ (True → (w29c1 x bs a) ∧ True) ∧ True) ∧ True) ∧ True) ∧ ((((w29c10 bs x) ∧ (True → (w29c1 x bs a) ∧ True) ∧ True) ∧ True) ∧ ((w29c10 bs x) ∧ (True → ((w29c1 x bs a) ∧ True) ∧ ((w29c1 x bs a) ∧ True) ∧ True) ∧ True) ∧ True) ∧ True) ∧ (((((w29c10 bs x) ∧ (True → (w29c1 x bs a) ∧ True) ∧ True) ∧ True) ∧ ((w29c10 bs x) ∧ (True → ((w29c1 x bs a) ∧ True) ∧ ((w29c1 x bs a) ∧ True) ∧ True) ∧ True) ∧ True) ∧ ((w29c10 bs x) ∧ (True → (((w29c1 x bs a) ∧ True) ∧ ((w29c1 x bs a) ∧ True) ∧ True) ∧ (((w29c1 x bs a) ∧ True) ∧ True) ∧ True) ∧ True) ∧ True) ∧ True) ∧ ∀ (x_1 : R29), readRq bs a = stk x_1.e (rFs bs (x_1.n - x_1.r.feats.length) x_1.r x_1.a) ∧ (1 : Nat) ≤ x_1.r.feats.length ∧ x_1.r.feats.length ≤ x_1.n ∧ x_1.n ≤ (8 : Nat) ∧ x_1.r.labels = [] ∧ x_1.r.seed = (0 : Int) ∧ x_1.r.permille = (0 : Int) → ValsAre [AV.int IntKind.i64 (↑x.n : Int), AV.int IntKind.i64 (↑x.r.feats.length : Int)] [AV.int IntKind.i64 (↑x_1.n : Int), AV.int IntKind.i64 ((↑x_1.r.feats.length : Int) - (1 : Int))] → ∃ (y : R29), ValsAre [AV.ptr ((0 : Nat)) ((0 : Nat)), AV.ptr ((1 : Nat)) ((0 : Nat)), AV.ptr ((2 : Nat)) ((0 : Nat)), AV.int IntKind.i64 (↑x_1.n : Int), AV.int IntKind.i64 (IntKind.i64.wrap ((↑x_1.r.feats.length : Int) - (1 : Int) + (1 : Int)))] (w29c16 y) ∧ StIs { boxes := [some w29c2, some [AV.sl ((1 : Nat)) (bytesL bs) Own.no, AV.int IntKind.i64 x_1.a, AV.int IntKind.i64 x_1.e], some [AV.str x_1.r.entity, AV.sl ((1 : Nat)) (strsL x_1.r.feats) (Own.tok ((0 : Nat))), AV.sl ((0 : Nat)) [] Own.nil, AV.int IntKind.i64 (0 : Int), AV.int IntKind.i64 (0 : Int)]], live := [(x_1.r.feats.length, (9 : Nat))] } (w29c5 bs y) ∧ (w29c20 bs a y) ∧ y.n - y.r.feats.length < x.n - x.r.feats.length) ∧ (decide ((↑x.r.feats.length : Int) < (↑x.n : Int)) = false → ∃ (y : R29), ValsAre w29c11 w29c11 ∧ StIs { boxes := [some w29c2, some (w29c13 bs x), some (w29c3 x)], live := [(x.r.feats.length, (9 : Nat))] } (w29c5 bs y) ∧ (readRq bs a = stk y.e (r8 bs y.r y.a) ∧ y.r.feats.length ≤ (8 : Nat) ∧ y.r.labels = [] ∧ y.r.seed = (0 : Int) ∧ y.r.permille = (0 : Int)) ∧ True)) ∧ ∀ (x : R29), readRq bs a = stk x.e (r8 bs x.r x.a) ∧ x.r.feats.length ≤ (8 : Nat) ∧ x.r.labels = [] ∧ x.r.seed = (0 : Int) ∧ x.r.permille = (0 : Int) → True → (BytL (bytesL bs) ∧ (256 : Int) ≤ (1000 : Int) ∧ (0 : Int) ≤ (256 : Int) ∧ true = true ∧ (w29c3 x).all (AV.p1 (3 : Nat)) = true) ∧ (True → ((∃ (y : R29), ValsAre [AV.ptr ((0 : Nat)) ((0 : Nat)), AV.ptr ((1 : Nat)) ((0 : Nat)), AV.ptr ((2 : Nat)) ((0 : Nat)), AV.int IntKind.i64 (keptSN (256 : Int) (bytesL bs) x.a x.e).fst, AV.int IntKind.i64 (0 : Int)] (w29c18 y) ∧ StIs { boxes := [some w29c2, some [AV.sl ((1 : Nat)) (bytesL bs) Own.no, AV.int IntKind.i64 (keptSN (256 : Int) (bytesL bs) x.a x.e).snd.fst, AV.int IntKind.i64 (keptSN (256 : Int) (bytesL bs) x.a x.e).snd.snd], some [AV.str x.r.entity, AV.sl ((1 : Nat)) (strsL x.r.feats) (Own.tok ((0 : Nat))), AV.sl ((3 : Nat)) [] (Own.tok (1 : Nat)), AV.int IntKind.i64 (0 : Int), AV.int IntKind.i64 (0 : Int)]], live := [(x.r.feats.length, (9 : Nat)), ((0 : Nat), (65 : Nat))] } { boxes := [some w29c2, some (w29c12 bs y), some [AV.str y.r.entity, AV.sl ((1 : Nat)) (strsL y.r.feats) (Own.tok ((0 : Nat))), AV.sl ((3 : Nat)) [] (Own.tok ((1 : Nat))), AV.int IntKind.i64 (0 : Int), AV.int IntKind.i64 (0 : Int)]], live := [(y.r.feats.length, (9 : Nat)), ((0 : Nat), (65 : Nat))] } ∧ (readRq bs a = stk y.e (rLs bs y.n y.r y.a) ∧ y.n ≤ (256 : Nat) ∧ y.r.feats.length ≤ (8 : Nat) ∧ y.r.labels = [] ∧ y.r.seed = (0 : Int) ∧ y.r.permille = (0 : Int)) ∧ True) ∧ ∀ (x : R29), readRq bs a = stk x.e (rLs bs x.n x.r x.a) ∧ x.n ≤ (256 : Nat) ∧ x.r.feats.length ≤ (8 : Nat) ∧ x.r.labels = [] ∧ x.r.seed = (0 : Int) ∧ x.r.permille = (0 : Int) → True → (∃ (y : R29), ValsAre (w29c19 x) (w29c15 y) ∧ StIs { boxes := [some w29c2, some (w29c13 bs x), some [AV.str x.r.entity, AV.sl ((1 : Nat)) (strsL x.r.feats) (Own.tok ((0 : Nat))), AV.sl ((3 : Nat)) [] (Own.tok ((1 : Nat))), AV.int IntKind.i64 (0 : Int), AV.int IntKind.i64 (0 : Int)]], live := [(x.r.feats.length, (9 : Nat)), ((0 : Nat), (65 : Nat))] } (w29c7 bs y) ∧ (w29c17 bs a y) ∧ True) ∧ ∀ (x : R29), readRq bs a = stk x.e (rLs bs (x.n - x.r.labels.length) x.r x.a) ∧ x.r.labels.length ≤ x.n ∧ x.n ≤ (256 : Nat) ∧ x.r.feats.length ≤ (8 : Nat) ∧ keyS x.r ∧ x.r.seed = (0 : Int) ∧ x.r.permille = (0 : Int) → (decide ((↑x.r.labels.length : Int) < (↑x.n : Int)) = true → (BytL (bytesL bs) ∧ true = true ∧ (w29c6 x).all (AV.p1 (4 : Nat)) = true) ∧ (True → (BytL (bytesL bs) ∧ true = true ∧ (w29c6 x).all (AV.p1 (4 : Nat)) = true ∧ [AV.str (keptST (bytesL bs) x.a x.e).fst, AV.int IntKind.i64 (0 : Int), AV.int IntKind.i64 (0 : Int)].all (AV.p1 (4 : Nat)) = true) ∧ (True → (BytL (bytesL bs) ∧ true = true ∧ (w29c6 x).all (AV.p1 (4 : Nat)) = true ∧ [AV.str (keptST (bytesL bs) x.a x.e).fst, AV.int IntKind.i64 (w29c9 bs x).fst, AV.int IntKind.i64 (0 : Int)].all (AV.p1 (4 : Nat)) = true) ∧ (True → ((3 : Nat) = (3 : Nat) ∨ lbsL x.r.labels = []) ∧ ((lbsL x.r.labels).length + (1 : Nat)) * (33 : Nat) ≤ (70368744177664 : Nat) ∧ x.r.labels.length = (lbsL x.r.labels).length ∧ ∃ (y : R29), ValsAre [AV.ptr ((0 : Nat)) ((0 : Nat)), AV.ptr ((1 : Nat)) ((0 : Nat)), AV.ptr ((2 : Nat)) ((0 : Nat)), AV.int IntKind.i64 (↑x.n : Int), AV.int IntKind.i64 (IntKind.i64.wrap ((↑x.r.labels.length : Int) + (1 : Int)))] (w29c15 y) ∧ StIs { boxes := [some w29c2, some [AV.sl ((1 : Nat)) (bytesL bs) Own.no, AV.int IntKind.i64 (keptSI (bytesL bs) (w29c9 bs x).snd.fst (w29c9 bs x).snd.snd).snd.fst, AV.int IntKind.i64 (keptSI (bytesL bs) (w29c9 bs x).snd.fst (w29c9 bs x).snd.snd).snd.snd], some [AV.str x.r.entity, AV.sl ((1 : Nat)) (strsL x.r.feats) (Own.tok ((0 : Nat))), AV.sl ((3 : Nat)) (lbsL x.r.labels ++ [AV.agg [AV.str (keptST (bytesL bs) x.a x.e).fst, AV.int IntKind.i64 (w29c9 bs x).fst, AV.int IntKind.i64 (keptSI (bytesL bs) (w29c9 bs x).snd.fst (w29c9 bs x).snd.snd).fst]]) (Own.tok ((1 : Nat))), AV.int IntKind.i64 (0 : Int), AV.int IntKind.i64 (0 : Int)]], live := [(x.r.feats.length, (9 : Nat)), ((lbsL x.r.labels).length + (1 : Nat), (65 : Nat))] } (w29c7 bs y) ∧ (w29c17 bs a y) ∧ y.n - y.r.labels.length < x.n - x.r.labels.length) ∧ True) ∧ True) ∧ True) ∧ (decide ((↑x.r.labels.length : Int) < (↑x.n : Int)) = false → ∃ (y : R29), ValsAre w29c11 w29c11 ∧ StIs { boxes := [some w29c2, some (w29c13 bs x), some (w29c6 x)], live := [(x.r.feats.length, (9 : Nat)), (x.r.labels.length, (65 : Nat))] } (w29c7 bs y) ∧ (readRq bs a = stk y.e (r15 bs y.r y.a) ∧ keyS y.r ∧ y.r.seed = (0 : Int) ∧ y.r.permille = (0 : Int)) ∧ True)) ∧ ∀ (x : R29), readRq bs a = stk x.e (r15 bs x.r x.a) ∧ keyS x.r ∧ x.r.seed = (0 : Int) ∧ x.r.permille = (0 : Int) → True → (BytL (bytesL bs) ∧ true = true ∧ (w29c6 x).all (AV.p1 (3 : Nat)) = true) ∧ (True → (BytL (bytesL bs) ∧ true = true ∧ [AV.str x.r.entity, AV.sl ((1 : Nat)) (strsL x.r.feats) (Own.tok ((0 : Nat))), AV.sl ((3 : Nat)) (lbsL x.r.labels) (Own.tok ((1 : Nat))), AV.int IntKind.i64 (keptSI (bytesL bs) x.a x.e).fst, AV.int IntKind.i64 (0 : Int)].all (AV.p1 (3 : Nat)) = true) ∧ (True → (((w29c4 bs x).snd.snd == (0 : Int)) = true → ∃ (b : Bool), CallIs (tbl [((33 : Nat), s33)] ((33 : Nat)) [AV.agg [AV.str x.r.entity, AV.sl ((1 : Nat)) (strsL x.r.feats) Own.no, AV.sl ((3 : Nat)) (lbsL x.r.labels) Own.no, AV.int IntKind.i64 (keptSI (bytesL bs) x.a x.e).fst, AV.int IntKind.i64 (w29c4 bs x).fst]]) (AV.bool b) [] ∧ (b = true → (((w29c4 bs x).snd.snd != (0 : Int)) = true → RetLax (AV.tup [AV.agg w29c2, AV.int IntKind.i64 (0 : Int), AV.int IntKind.i64 (w29c4 bs x).snd.snd]) (r, [])) ∧ (((w29c4 bs x).snd.snd != (0 : Int)) = false → RetLax (w29c8 x bs) (r, []))) ∧ (b = false → (true = true → RetLax (AV.tup [AV.agg w29c2, AV.int IntKind.i64 (0 : Int), AV.int IntKind.i64 (240 : Int)]) (r, [])) ∧ (true = false → RetLax (w29c8 x bs) (r, [])))) ∧ (((w29c4 bs x).snd.snd == (0 : Int)) = false → (((w29c4 bs x).snd.snd != (0 : Int)) = true → RetLax (AV.tup [AV.agg w29c2, AV.int IntKind.i64 (0 : Int), AV.int IntKind.i64 (w29c4 bs x).snd.snd]) (r, [])) ∧ (((w29c4 bs x).snd.snd != (0 : Int)) = false → RetLax (w29c8 x bs) (r, [])))) ∧ True) ∧ True) ∧ True) ∧ True) ∧ True) := by kernel_rfl
theorem textA_len {bs : List UInt8} {a : Int} (hb : strOk bs) : (textA bs a).1.length ≤ 2000000 := by
 have hb' : bs.length ≤ 2000000 := hb
 unfold textA
 split
 ·exact Nat.zero_le _
 ·unfold Z05.textR
  split
  ·exact Nat.zero_le _
  ·rename_i l m h
   split at h
   ·cases h
   ·split at h
    ·cases h
    ·injection h with h
     injection h with h1 h2
     subst h1
     simp only [List.length_take, List.length_drop]
     omega
theorem smT_len {bs : List UInt8} {a e : Int} (hb : strOk bs) : (smT bs a e).1.length ≤ 2000000 := by
 unfold smT
 split
 ·exact textA_len hb
 ·exact Nat.zero_le _
theorem keyS_app {en : List UInt8} {fs : List (List UInt8)} {ls : List Lb} {l : Lb} {sd pm : Int} (h : keyS ⟨en, fs, ls, sd, pm⟩) (hl : l.key.length ≤ 2000000) : keyS ⟨en, fs, ls ++ [l], sd, pm⟩ := by
 intro x hx
 rcases List.mem_append.1 hx with hx | hx
 ·exact h x hx
 ·rw [List.mem_singleton.1 hx]; exact hl
theorem keyS_keys {r : Rq} (h : keyS r) : keysOk r.labels = true := by
 unfold keysOk
 rw [List.all_eq_true]
 intro x hx
 have := h x hx
 exact decide_eq_true (by unfold maxI; omega)
theorem stk0 {e : Int} {x : Except Int (Rq × Int)} (h : e = 0) : stk e x = x := if_pos h
theorem stk1 {e : Int} {x : Except Int (Rq × Int)} (h : ¬ e = 0) : stk e x = .error e := if_neg h
theorem toN {k : Int} {bs : List UInt8} {a e : Int} (hk : 0 ≤ k) : (((smN k bs a e).1.toNat : Nat) : Int) = (smN k bs a e).1 := Int.toNat_of_nonneg (smN_bound hk).1
theorem p29 (m : Int) (a : Int) (bs : List UInt8) (hb : strOk bs) : TLaxOk PQ (GQ m) XE (tbl t29) (itbl []) fsE J29 (g29 bs a) 29 [bytesA bs, .int .i64 a] (resR (readRq bs a), []) := by
 constructor
 rw [w29]; unfold w29c20 w29c19 w29c18 w29c17 w29c16 w29c15 w29c14 w29c13 w29c11 w29c10 w29c9 w29c8 w29c7 w29c6 w29c4 w29c3 w29c1 w29c5 w29c12 w29c2
 simp only [valsAre_iff, stIs_iff, true_and, and_true, forall_const, Bool.true_eq_false, false_implies, true_or, and_self, bytL_ok hb, keptST_ok, keptSN_ok, keptSI_ok]
 have bad : ∀ e, readRq bs a = .error e → RetLax (.tup [.agg [.str [], .sl 0 [] .nil, .sl 0 [] .nil, .int .i64 0, .int .i64 0], .int .i64 0, .int .i64 e]) (resR (readRq bs a), []) := fun e h => by
  rw [h]; exact lax_z _ _
 have hP0 : readRq bs a = stk (smT bs a 0).2.2 (r4 bs ⟨(smT bs a 0).1, [], [], 0, 0⟩ (smT bs a 0).2.1) := by
  have : readRq bs a = stk 0 (readRq bs a) := rfl
  rw [this]; exact stk_T
 refine ⟨⟨by decide, by decide, rfl⟩, ⟨⟨⟨⟨(smT bs a 0).1, [], [], 0, 0⟩, (smN 8 bs (smT bs a 0).2.1 (smT bs a 0).2.2).1.toNat, (smN 8 bs (smT bs a 0).2.1 (smT bs a 0).2.2).2.1, (smN 8 bs (smT bs a 0).2.1 (smT bs a 0).2.2).2.2⟩, by simp only [toN (show (0 : Int) ≤ 8 by decide)], rfl, hP0.trans stk_N, ?_, rfl, rfl, rfl, rfl⟩, ?_⟩, ?_⟩
 ·have := (smN_bound (k := 8) (bs := bs) (a := (smT bs a 0).2.1) (e := (smT bs a 0).2.2) (by decide)).2
  show (smN 8 bs (smT bs a 0).2.1 (smT bs a 0).2.2).1.toNat ≤ 8
  omega
 ·clear hP0
  rintro ⟨⟨en, fs, ls, sd, pm⟩, n, at_, e⟩ ⟨hP, hn, h1, h2, h3, h4⟩
  dsimp only at hP hn h1 h2 h3 h4 ⊢
  subst h1 h2 h3 h4
  refine ⟨⟨⟨⟨en, [], [], 0, 0⟩, n, at_, e⟩, rfl, rfl, hP, Nat.zero_le _, hn, rfl, rfl, rfl⟩, ?_⟩
  clear hP hn en n at_ e
  rintro ⟨⟨en, fs, ls, sd, pm⟩, n, at_, e⟩ ⟨hP, hl, hn, h2, h3, h4⟩
  dsimp only at hP hl hn h2 h3 h4 ⊢
  subst h2 h3 h4
  have hlen : (strsL fs).length = fs.length := List.length_map _
  refine ⟨fun hc => ?_, fun hc => ?_⟩
  ·have hlt : fs.length < n := by have := of_decide_eq_true hc; omega
   rw [sub_step hlt, rFs_step, stk_T] at hP
   refine ⟨⟨rfl, by rw [hlen]; omega, hlen.symm, ⟨⟨en, fs ++ [(smT bs at_ e).1], [], 0, 0⟩, n, (smT bs at_ e).2.1, (smT bs at_ e).2.2⟩, ?_, ?_, ⟨?_, ?_, ?_, hn, rfl, rfl, rfl⟩, ?_⟩, ?_⟩
   ·have : (((fs ++ [(smT bs at_ e).1]).length : Nat) : Int) - 1 = fs.length := by simp only [List.length_append, List.length_cons, List.length_nil]; omega
    simp only [this]
   ·simp only [List.length_append, List.length_cons, List.length_nil, hlen, strsL, List.map_append]; rfl
   ·rw [hP]; simp only [List.length_append, List.length_cons, List.length_nil]
   ·simp only [List.length_append, List.length_cons, List.length_nil]; omega
   ·simp only [List.length_append, List.length_cons, List.length_nil]; omega
   ·have : (((fs ++ [(smT bs at_ e).1]).length : Nat) : Int) - 1 = fs.length := by simp only [List.length_append, List.length_cons, List.length_nil]; omega
    simp only [this]
   ·clear hP
    rintro ⟨⟨en, fs2, ls, sd, pm⟩, n2, at_, e⟩ ⟨hP, hl1, hl2, hn2, h2, h3, h4⟩ hr
    dsimp only at hP hl1 hl2 hn2 h2 h3 h4 hr ⊢
    subst h2 h3 h4
    simp only [List.cons.injEq, AV.int.injEq, true_and, and_true] at hr
    obtain ⟨r1, r2⟩ := hr
    have hw : IntKind.i64.wrap ((fs2.length : Int) - 1 + 1) = fs2.length := by rw [wrapi64]; omega
    exact ⟨⟨⟨en, fs2, [], 0, 0⟩, n2, at_, e⟩, by simp only [hw], rfl, ⟨hP, hl2, hn2, rfl, rfl, rfl⟩, by show n2 - fs2.length < n - fs.length; omega⟩
  ·have hlt : n = fs.length := by have := of_decide_eq_false hc; omega
   subst hlt
   rw [Nat.sub_self] at hP
   exact ⟨⟨⟨en, fs, [], 0, 0⟩, fs.length, at_, e⟩, rfl, hP, hn, rfl, rfl, rfl⟩
 ·clear hP0
  rintro ⟨⟨en, fs, ls, sd, pm⟩, n, at_, e⟩ ⟨hP, hf, h2, h3, h4⟩
  dsimp only at hP hf h2 h3 h4 ⊢
  subst h2 h3 h4
  refine ⟨⟨by decide, by decide, rfl⟩, ⟨⟨⟨⟨en, fs, [], 0, 0⟩, (smN 256 bs at_ e).1.toNat, (smN 256 bs at_ e).2.1, (smN 256 bs at_ e).2.2⟩, by simp only [toN (show (0 : Int) ≤ 256 by decide)], rfl, hP.trans stk_N, ?_, hf, rfl, rfl, rfl⟩, ?_⟩, ?_⟩
  ·have := (smN_bound (k := 256) (bs := bs) (a := at_) (e := e) (by decide)).2
   show (smN 256 bs at_ e).1.toNat ≤ 256
   omega
  ·clear hP hf en fs n at_ e
   rintro ⟨⟨en, fs, ls, sd, pm⟩, n, at_, e⟩ ⟨hP, hn, hf, h2, h3, h4⟩
   dsimp only at hP hn hf h2 h3 h4 ⊢
   subst h2 h3 h4
   refine ⟨⟨⟨⟨en, fs, [], 0, 0⟩, n, at_, e⟩, rfl, rfl, hP, Nat.zero_le _, hn, hf, (fun x hx => nomatch hx), rfl, rfl⟩, ?_⟩
   clear hP hn hf en fs n at_ e
   rintro ⟨⟨en, fs, ls, sd, pm⟩, n, at_, e⟩ ⟨hP, hl, hn, hf, hk, h3, h4⟩
   dsimp only at hP hl hn hf h3 h4 ⊢
   subst h3 h4
   have hlen : (lbsL ls).length = ls.length := List.length_map _
   refine ⟨fun hc => ?_, fun hc => ?_⟩
   ·have hlt : ls.length < n := by have := of_decide_eq_true hc; omega
    rw [sub_step hlt, rLs_step] at hP
    unfold rdLb at hP
    rw [thn_thn, stk_T] at hP
    simp only [thn_thn] at hP
    rw [stk_I] at hP
    rw [stk_I] at hP
    generalize hT : smT bs at_ e = T at *
    have hTl : T.1.length ≤ 2000000 := by rw [← hT]; exact smT_len hb
    generalize hU : smI bs T.2.1 T.2.2 = U at *
    generalize hV : smI bs U.2.1 U.2.2 = V at *
    refine ⟨rfl, ⟨rfl, rfl⟩, ⟨rfl, rfl⟩, by rw [hlen]; omega, hlen.symm, ⟨⟨en, fs, ls ++ [⟨T.1, U.1, V.1⟩], 0, 0⟩, n, V.2.1, V.2.2⟩, ?_, ?_, ⟨?_, ?_, hn, hf, keyS_app hk hTl, rfl, rfl⟩, ?_⟩
    ·have hw : IntKind.i64.wrap ((ls.length : Int) + 1) = ls.length + 1 := by rw [wrapi64]; omega
     simp only [List.length_append, List.length_cons, List.length_nil, hw]; rfl
    ·simp only [List.length_append, List.length_cons, List.length_nil, hlen, lbsL, List.map_append]; rfl
    ·rw [hP]; simp only [List.length_append, List.length_cons, List.length_nil]; rfl
    ·simp only [List.length_append, List.length_cons, List.length_nil]; omega
    ·simp only [List.length_append, List.length_cons, List.length_nil]; omega
   ·have hlt : n = ls.length := by have := of_decide_eq_false hc; omega
    subst hlt
    rw [Nat.sub_self] at hP
    exact ⟨⟨⟨en, fs, ls, 0, 0⟩, ls.length, at_, e⟩, rfl, hP, hk, rfl, rfl⟩
  ·clear hP hf en fs n at_ e
   rintro ⟨⟨en, fs, ls, sd, pm⟩, n, at_, e⟩ ⟨hP, hk, h3, h4⟩
   dsimp only at hP h3 h4 ⊢
   subst h3 h4
   unfold r15 at hP
   rw [stk_I] at hP
   unfold r16 at hP
   rw [stk_I] at hP
   generalize hU : smI bs at_ e = U at *
   generalize hV : smI bs U.2.1 U.2.2 = V at *
   have noE : (V.2.2 != 0) = true → RetLax (.tup [.agg [.str [], .sl 0 [] .nil, .sl 0 [] .nil, .int .i64 0, .int .i64 0], .int .i64 0, .int .i64 V.2.2]) (resR (readRq bs a), []) := fun h => bad _ (by rw [hP, stk1 (by simpa using h)])
   refine ⟨rfl, rfl, fun g => ?_, fun g => ⟨noE, fun h => absurd h (by simp only [bne_eq_false_iff_eq]; simpa using g)⟩⟩
   have P : readRq bs a = .ok (⟨en, fs, ls, U.1, V.1⟩, V.2.1) := by rw [hP, stk0 (by simpa using g)]
   have hkk : keysOk ls = true := keyS_keys hk
   have hr : CallIs (tbl [(33, s33)] 33 [rqA ⟨en, fs, ls, U.1, V.1⟩]) (.bool (formB ⟨en, fs, ls, U.1, V.1⟩)) [] := by
    rw [tbl_hit, run33 hkk]; exact callSome rfl
   refine ⟨_, hr, fun hb => ⟨noE, fun _ => ?_⟩, fun hb => ?_⟩
   ·rw [P]
    unfold resR
    simp only [hb, if_true]
    exact lax_r' ⟨en, fs, ls, U.1, V.1⟩ _
   ·rw [P]
    unfold resR
    simp only [hb, if_false, Bool.false_eq_true]
    exact lax_z _ _
theorem o29 (m : Int) : SpecOk PQ (GQ m) 29 sRead := spec_wk [1] fun args r hr => tlax_of' mixedQ fun a' r' hr' => by
 split at hr'
 case isFalse => cases hr'
 rename_i e; subst e; injection hr' with hr'; subst hr'
 unfold sRead sRd onBytes at hr
 split at hr
 case h_2 => cases hr
 split at hr
 case isFalse => cases hr
 rename_i hz
 split at hr
 case h_2 => cases hr
 rename_i bs hb
 dsimp only at hr
 split at hr
 case isFalse => cases hr
 rename_i hs
 injection hr with hr; subst hr
 simp only [wkL, wk1 hz hb]
 exact ⟨_, _, _, _, _, _, tbl_cons (o33 m) tbl_nil, itbl_nil, ptbl_cons (o69 m) (ptbl_cons (o70 m) (ptbl_cons (o71 m) (ptbl_nil J0_ok))), p29 m _ bs hs⟩
end Go.Abs
namespace Go.Abs
open Go.RowKit
theorem SpecOk.own {P : Program} {G : Glob} {f : FuncId} {s s' : Spec} (hs : SpecOk P G f s) (h : ∀ args r', s' args = some r' → ∃ r, s args = some r ∧ RetLax r.1 r' ∧ ∀ L, RetLax (adopt L r.1) r') : SpecOk P G f s' := by
 intro g args r' lv hr
 by_cases e : g = f
 ·subst e
  simp only [if_true] at hr
  obtain ⟨r, h1, h2, h3⟩ := h args _ hr
  have hlv : lv = [] := h2.none
  subst hlv
  intro E w vs hI hG hn hv hcl
  refine (hs g args r.1 r.2 (by simp only [if_true]; exact h1) E w vs hI hG hn hv hcl).mono ?_
  rintro e w' ⟨v, he, I', k1, k2, k3, k4⟩
  refine ⟨v, he, I', k1, k2, k3, .inl ⟨rfl, fun B K => ?_⟩⟩
  rcases k4 with ⟨_, k4⟩ | ⟨n, e', hv', sz, xs, _, _, _, _, hrep⟩
  ·exact h2.lax.rep (k4 B K)
  ·exact rep_closed2 ((h3 0).lax.rep (hrep B (fun _ _ _ => True) 0 trivial)) h2.closed B K
 ·simp only [e, if_false] at hr
  cases hr
end Go.Abs
namespace Go.Abs
open Go.Proofs Go.Wire
def lbB (x : Lb) : List UInt8 := textL x.key ++ uintL (zig x.event) ++ uintL (zig x.know)
def encRq (r : Rq) : List UInt8 := textL r.entity ++ uintL r.feats.length ++ r.feats.flatMap textL ++ uintL r.labels.length ++ r.labels.flatMap lbB ++ uintL (zig r.seed) ++ uintL (zig r.permille)
def appRq (bs : List UInt8) (r : Rq) : List UInt8 := if formB r then bs ++ encRq r else bs
def lbFit (n : Nat) (x : Lb) : Prop := n + x.key.length ≤ 1900000 ∧ i64W x.event ∧ i64W x.know
instance (n : Nat) (x : Lb) : Decidable (lbFit n x) := inferInstanceAs (Decidable (_ ∧ _))
def s119n : Spec := fun args => match args with
 | [.sl sz es _, .sl sz' es' _] => if (sz = 1 ∨ es = []) ∧ (sz' = 1 ∨ es' = []) then onBytes es fun bs => onBytes es' fun cs => if strOk bs ∧ strOk cs ∧ cs ≠ [] then some (ownR (bs ++ cs)) else none else none
 | _ => none
def s73 : Spec := fun args => match args with
 | [.sl sz es _, .str s] => if sz = 1 ∨ es = [] then onBytes es fun bs => if strOk bs ∧ s.length ≤ 1900000 then some (ownR (bs ++ textL s)) else none else none
 | _ => none
def s74 : Spec := sBytesNum .u64 u64Ok fun bs n => ownR (bs ++ uintL n.toNat)
def s76 : Spec := sBytesNum .i64 i64W fun bs n => ownR (bs ++ uintL (zig n))
def s72 : Spec := fun args => match args with
 | [.sl sz es _, .agg [.str k, .int .i64 a, .int .i64 b]] => if sz = 1 ∨ es = [] then onBytes es fun bs => if lbFit bs.length ⟨k, a, b⟩ then some (laxR (bs ++ lbB ⟨k, a, b⟩)) else none else none
 | _ => none
def s75 : Spec := fun args => match args with
 | [.agg [.str k, .int .i64 a, .int .i64 b]] => if lbFit 0 ⟨k, a, b⟩ then some (laxR (lbB ⟨k, a, b⟩)) else none
 | _ => none
def sAppRq : Spec := fun args => match args with
 | [.sl sz es _, a] => if sz = 1 ∨ es = [] then onBytes es fun bs => match unRqN a with
  | some r => if bs.length ≤ 900000 ∧ keysOk r.labels = true then some (laxR (appRq bs r)) else none
  | none => none
  else none
 | _ => none
def laxS (s : Spec) : Spec := fun args => match s args with
 | some (.sl 1 es (.tok 0), _) => some (.sl 1 es .no, [])
 | _ => none
theorem laxS_at {s : Spec} {args : List AV} {l : List UInt8} (h : s args = some (ownR l)) : laxS s args = some (laxR l) := by
 unfold laxS; rw [h]; rfl
theorem laxS_ok {P : Program} {G : Glob} {f : FuncId} {s : Spec} (hs : SpecOk P G f s) : SpecOk P G f (laxS s) := SpecOk.own hs fun args r' hr => by
 unfold laxS at hr
 split at hr
 case h_2 => cases hr
 rename_i es lv h
 injection hr with hr; subst hr
 have hl : ∀ o, Lax2 (.sl 1 es o) (.sl 1 es .no) := fun o => ⟨rfl, rfl, .inl rfl⟩
 exact ⟨_, h, ⟨hl _, rfl, rfl⟩, fun L => ⟨hl _, rfl, rfl⟩⟩
def XA : Shapes := fun f => match f with
 | 74 | 119 | 120 | 121 | 122 => some shOwn
 | 25 | 26 | 62 | 73 | 76 | 72 | 75 => some shLax
 | 46 | 33 => some shB
 | _ => none
def bytesN (l : List UInt8) : AV := .sl 1 (bytesL l) .no
def hdB (bs : List UInt8) (r : Rq) : List UInt8 := bs ++ textL r.entity ++ uintL r.feats.length
def mdB (bs : List UInt8) (r : Rq) : List UInt8 := hdB bs r ++ r.feats.flatMap textL ++ uintL r.labels.length
def cutB1 (r : Rq) (sl : List Nat) (vs : List AV) : Option Ann := some { α := Unit, slots := sl, nb := 1, vals := fun _ => vs, sS := fun _ => stR r, I := fun _ => True, μ := fun _ => 0, keep := some 0 }
def a31 (bs : List UInt8) (r : Rq) : Anns := ⟨fun k => match k with
 | 1000004 => cutB1 r [3, 4] [.ptr 0 0, bytesN (hdB bs r)]
 | 5 => some { α := Nat, slots := [3, 4, 23, 24, 25], nb := 1, vals := fun i => [.ptr 0 0, bytesN (hdB bs r ++ (r.feats.take i).flatMap textL), .sl 1 (strsL r.feats) .no, .int .i64 r.feats.length, .int .i64 i], sS := fun _ => stR r, I := fun i => i ≤ r.feats.length, μ := fun i => r.feats.length - i, keep := some 0 }
 | 1000010 => cutB1 r [3, 4] [.ptr 0 0, bytesN (mdB bs r)]
 | 11 => some { α := Nat, slots := [3, 4, 40, 41, 42], nb := 1, vals := fun i => [.ptr 0 0, bytesN (mdB bs r ++ (r.labels.take i).flatMap lbB), .sl 3 (lbsL r.labels) .no, .int .i64 r.labels.length, .int .i64 i], sS := fun _ => stR r, I := fun i => i ≤ r.labels.length, μ := fun i => r.labels.length - i, keep := some 0 }
 | _ => none, nA⟩
def a32 (bs : List UInt8) (r : Rq) : Anns := ⟨fun k => match k with
 | 1000004 => cutB1 r [3, 5] [.ptr 0 0, bytesN (bs ++ textL r.entity)]
 | 1000005 => cutB1 r [3, 5] [.ptr 0 0, bytesN (hdB bs r)]
 | 6 => some { α := Nat, slots := [3, 5, 6], nb := 1, vals := fun i => [.ptr 0 0, bytesN (hdB bs r ++ (r.feats.take i).flatMap textL), .int .i64 i], sS := fun _ => stR r, I := fun i => i ≤ r.feats.length, μ := fun i => r.feats.length - i, keep := some 0 }
 | 11 => some { α := Nat, slots := [3, 5, 7], nb := 1, vals := fun i => [.ptr 0 0, .sl 1 (bytesL (mdB bs r ++ (r.labels.take i).flatMap lbB)) (.tok 0), .int .i64 i], sS := fun i => ⟨(stR r).boxes, [((mdB bs r ++ (r.labels.take i).flatMap lbB).length, 5)]⟩, I := fun i => i ≤ r.labels.length, μ := fun i => r.labels.length - i }
 | _ => none, nA⟩
theorem w119n (m : Int) (a b r : List UInt8) : (pureW PQ (GQ m) XA (tbl []) (itbl []) nAn [] 119 [bytesA a, bytesA b] (ownR r)) =
(((0 : Nat) = (1 : Nat) ∨ ([] : List AV) = []) ∧
  ((0 : Nat) + (bytesL a).length) * (2 : Nat) ≤ (70368744177664 : Nat) ∧
    (bytesL a = [] →
        ((0 : Nat) = (1 : Nat) ∨ ([] : List AV) = []) ∧
 ((0 : Nat) + (bytesL b).length) * (2 : Nat) ≤ (70368744177664 : Nat) ∧
 (bytesL b = [] → RetIs (AV.sl ((0 : Nat)) [] Own.nil) [] (AV.sl ((1 : Nat)) (bytesL r) (Own.tok ((0 : Nat))), [(r.length, (5 : Nat))])) ∧
 (bytesL b ≠ [] →
 ((0 : Nat) + (bytesL b).length, (5 : Nat)).fst = ([] ++ bytesL b).length ∧
 RetIs (AV.sl ((1 : Nat)) ([] ++ bytesL b) (Own.tok ((0 : Nat)))) [((0 : Nat) + (bytesL b).length, (5 : Nat))]
 (AV.sl ((1 : Nat)) (bytesL r) (Own.tok ((0 : Nat))), [(r.length, (5 : Nat))]))) ∧
      (bytesL a ≠ [] →
        ((1 : Nat) = (1 : Nat) ∨ [] ++ bytesL a = []) ∧
 (([] ++ bytesL a).length + (bytesL b).length) * (2 : Nat) ≤ (70368744177664 : Nat) ∧
 (0 : Nat) + (bytesL a).length = ([] ++ bytesL a).length ∧
 (([] ++ bytesL a).length + (bytesL b).length, (5 : Nat)).fst = ([] ++ bytesL a ++ bytesL b).length ∧
 RetIs (AV.sl ((1 : Nat)) ([] ++ bytesL a ++ bytesL b) (Own.tok ((0 : Nat)))) [(([] ++ bytesL a).length + (bytesL b).length, (5 : Nat))]
 (AV.sl ((1 : Nat)) (bytesL r) (Own.tok ((0 : Nat))), [(r.length, (5 : Nat))]))) := by kernel_rfl
theorem w73 (m : Int) (bs r s : List UInt8) : (pureW PQ (GQ m) XA (tbl [(120, s120), (119, s119n)]) (itbl []) nAn [] 73 [bytesA bs, .str s] (ownR r)) =
(∃ (es : List AV),
  CallIs (tbl [((120 : Nat), s120), ((119 : Nat), s119n)] ((120 : Nat)) [AV.str s]) (AV.sl ((1 : Nat)) es (Own.tok ((0 : Nat)))) [(es.length, (5 : Nat))] ∧
    ∃ (es_1 : List AV),
      CallIs (tbl [((120 : Nat), s120), ((119 : Nat), s119n)] ((119 : Nat)) [AV.sl ((1 : Nat)) (bytesL bs) Own.no, AV.sl ((1 : Nat)) es Own.no])
 (AV.sl ((1 : Nat)) es_1 (Own.tok ((0 : Nat)))) [(es_1.length, (5 : Nat))] ∧
        (es_1.length, (5 : Nat)).fst = es_1.length ∧
 RetIs (AV.sl ((1 : Nat)) es_1 (Own.tok ((0 : Nat)))) [(es_1.length, (5 : Nat))]
 (AV.sl ((1 : Nat)) (bytesL r) (Own.tok ((0 : Nat))), [(r.length, (5 : Nat))])) := by kernel_rfl
theorem w74 (m n : Int) (bs r : List UInt8) : (pureW PQ (GQ m) XA (tbl [(121, s121), (119, s119n)]) (itbl []) nAn [] 74 [bytesA bs, .int .u64 n] (ownR r)) =
(∃ (es : List AV),
  CallIs (tbl [((121 : Nat), s121), ((119 : Nat), s119n)] ((121 : Nat)) [AV.int IntKind.u64 n]) (AV.sl ((1 : Nat)) es (Own.tok ((0 : Nat))))
      [(es.length, (5 : Nat))] ∧
    ∃ (es_1 : List AV),
      CallIs (tbl [((121 : Nat), s121), ((119 : Nat), s119n)] ((119 : Nat)) [AV.sl ((1 : Nat)) (bytesL bs) Own.no, AV.sl ((1 : Nat)) es Own.no])
 (AV.sl ((1 : Nat)) es_1 (Own.tok ((0 : Nat)))) [(es_1.length, (5 : Nat))] ∧
        (es_1.length, (5 : Nat)).fst = es_1.length ∧
 RetIs (AV.sl ((1 : Nat)) es_1 (Own.tok ((0 : Nat)))) [(es_1.length, (5 : Nat))]
 (AV.sl ((1 : Nat)) (bytesL r) (Own.tok ((0 : Nat))), [(r.length, (5 : Nat))])) := by kernel_rfl
theorem w76 (m n : Int) (bs r : List UInt8) : (pureW PQ (GQ m) XA (tbl [(122, s122), (119, s119n)]) (itbl []) nAn [] 76 [bytesA bs, .int .i64 n] (ownR r)) =
(∃ (es : List AV),
  CallIs (tbl [((122 : Nat), s122), ((119 : Nat), s119n)] ((122 : Nat)) [AV.int IntKind.i64 n]) (AV.sl ((1 : Nat)) es (Own.tok ((0 : Nat))))
      [(es.length, (5 : Nat))] ∧
    ∃ (es_1 : List AV),
      CallIs (tbl [((122 : Nat), s122), ((119 : Nat), s119n)] ((119 : Nat)) [AV.sl ((1 : Nat)) (bytesL bs) Own.no, AV.sl ((1 : Nat)) es Own.no])
 (AV.sl ((1 : Nat)) es_1 (Own.tok ((0 : Nat)))) [(es_1.length, (5 : Nat))] ∧
        (es_1.length, (5 : Nat)).fst = es_1.length ∧
 RetIs (AV.sl ((1 : Nat)) es_1 (Own.tok ((0 : Nat)))) [(es_1.length, (5 : Nat))]
 (AV.sl ((1 : Nat)) (bytesL r) (Own.tok ((0 : Nat))), [(r.length, (5 : Nat))])) := by kernel_rfl
theorem w72 (m : Int) (bs r : List UInt8) (x : Lb) : (laxW PQ (GQ m) XA (tbl [(26, laxS s26), (25, laxS s25)]) (itbl []) nAn [] 72 [bytesA bs, .agg [.str x.key, .int .i64 x.event, .int .i64 x.know]] (laxR r)) =
(∃ (es : List AV),
  CallIs (tbl [((26 : Nat), laxS s26), ((25 : Nat), laxS s25)] ((26 : Nat)) [AV.sl ((1 : Nat)) (bytesL bs) Own.no, AV.str x.key]) (AV.sl ((1 : Nat)) es Own.no)
      [] ∧
    ∃ (es_1 : List AV),
      CallIs (tbl [((26 : Nat), laxS s26), ((25 : Nat), laxS s25)] ((25 : Nat)) [AV.sl ((1 : Nat)) es Own.no, AV.int IntKind.i64 x.event])
 (AV.sl ((1 : Nat)) es_1 Own.no) [] ∧
        ∃ (es : List AV),
 CallIs (tbl [((26 : Nat), laxS s26), ((25 : Nat), laxS s25)] ((25 : Nat)) [AV.sl ((1 : Nat)) es_1 Own.no, AV.int IntKind.i64 x.know])
 (AV.sl ((1 : Nat)) es Own.no) [] ∧
 RetLax (AV.sl ((1 : Nat)) es Own.no) (AV.sl ((1 : Nat)) (bytesL r) Own.no, [])) := by kernel_rfl
theorem w75 (m : Int) (r : List UInt8) (x : Lb) : (laxW PQ (GQ m) XA (tbl [(73, laxS s73), (76, laxS s76)]) (itbl []) nAn [] 75 [.agg [.str x.key, .int .i64 x.event, .int .i64 x.know]] (laxR r)) =
(∃ (es : List AV),
  CallIs (tbl [((73 : Nat), laxS s73), ((76 : Nat), laxS s76)] ((73 : Nat)) [AV.sl ((0 : Nat)) [] Own.nil, AV.str x.key]) (AV.sl ((1 : Nat)) es Own.no) [] ∧
    ∃ (es_1 : List AV),
      CallIs (tbl [((73 : Nat), laxS s73), ((76 : Nat), laxS s76)] ((76 : Nat)) [AV.sl ((1 : Nat)) es Own.no, AV.int IntKind.i64 x.event])
 (AV.sl ((1 : Nat)) es_1 Own.no) [] ∧
        ∃ (es : List AV),
 CallIs (tbl [((73 : Nat), laxS s73), ((76 : Nat), laxS s76)] ((76 : Nat)) [AV.sl ((1 : Nat)) es_1 Own.no, AV.int IntKind.i64 x.know])
 (AV.sl ((1 : Nat)) es Own.no) [] ∧
 RetLax (AV.sl ((1 : Nat)) es Own.no) (AV.sl ((1 : Nat)) (bytesL r) Own.no, [])) := by kernel_rfl
theorem w31 (m : Int) (bs r : List UInt8) (x : Rq) : (laxW PQ (GQ m) XA (tbl [(46, s46), (26, laxS s26), (62, laxS s62), (72, s72), (25, laxS s25)]) (itbl []) (a31 bs x) [] 31 [bytesA bs, rqA x] (laxR r)) =
(∃ (b : Bool),
  CallIs
      (tbl [((46 : Nat), s46), ((26 : Nat), laxS s26), ((62 : Nat), laxS s62), ((72 : Nat), s72), ((25 : Nat), laxS s25)] ((46 : Nat))
        [AV.agg
 [AV.str x.entity, AV.sl ((1 : Nat)) (strsL x.feats) Own.no, AV.sl ((3 : Nat)) (lbsL x.labels) Own.no, AV.int IntKind.i64 x.seed,
 AV.int IntKind.i64 x.permille]])
      (AV.bool b) [] ∧
    (b = true →
        (∃ (es : List AV),
 CallIs
 (tbl [((46 : Nat), s46), ((26 : Nat), laxS s26), ((62 : Nat), laxS s62), ((72 : Nat), s72), ((25 : Nat), laxS s25)] ((26 : Nat))
 [AV.sl ((1 : Nat)) (bytesL bs) Own.no, AV.str x.entity])
 (AV.sl ((1 : Nat)) es Own.no) [] ∧
 ∃ (es_1 : List AV),
 CallIs
 (tbl [((46 : Nat), s46), ((26 : Nat), laxS s26), ((62 : Nat), laxS s62), ((72 : Nat), s72), ((25 : Nat), laxS s25)] ((62 : Nat))
 [AV.sl ((1 : Nat)) es Own.no, AV.int IntKind.u64 (IntKind.u64.wrap (↑(strsL x.feats).length : Int))])
 (AV.sl ((1 : Nat)) es_1 Own.no) [] ∧
 ∃ (_y : Unit),
 ValsAre [AV.ptr ((0 : Nat)) ((0 : Nat)), AV.sl ((1 : Nat)) es_1 Own.no]
 [AV.ptr ((0 : Nat)) ((0 : Nat)), AV.sl ((1 : Nat)) (bytesL (hdB bs x)) Own.no] ∧
 StIs
 { boxes := [some [AV.str x.entity, AV.sl ((1 : Nat)) (strsL x.feats) Own.no, AV.sl ((3 : Nat)) (lbsL x.labels) Own.no, AV.int IntKind.i64 x.seed, AV.int IntKind.i64 x.permille]], live := [] }
 { boxes := [some [AV.str x.entity, AV.sl ((1 : Nat)) (strsL x.feats) Own.no, AV.sl ((3 : Nat)) (lbsL x.labels) Own.no, AV.int IntKind.i64 x.seed, AV.int IntKind.i64 x.permille]], live := [] } ∧
 True ∧ True) ∧
 ∀ (_x_1 : Unit),
 True →
 True →
 (∃ (y : Nat),
 ValsAre
 [AV.ptr ((0 : Nat)) ((0 : Nat)), AV.sl ((1 : Nat)) (bytesL (hdB bs x)) Own.no, AV.sl ((1 : Nat)) (strsL x.feats) Own.no,
 AV.int IntKind.i64 (↑(strsL x.feats).length : Int), AV.int IntKind.i64 (0 : Int)]
 [AV.ptr ((0 : Nat)) ((0 : Nat)), AV.sl ((1 : Nat)) (bytesL (hdB bs x ++ List.flatMap textL (List.take y x.feats))) Own.no,
 AV.sl ((1 : Nat)) (strsL x.feats) Own.no, AV.int IntKind.i64 (↑x.feats.length : Int), AV.int IntKind.i64 (↑y : Int)] ∧
 StIs
 { boxes := [some [AV.str x.entity, AV.sl ((1 : Nat)) (strsL x.feats) Own.no, AV.sl ((3 : Nat)) (lbsL x.labels) Own.no, AV.int IntKind.i64 x.seed, AV.int IntKind.i64 x.permille]], live := [] }
 { boxes := [some [AV.str x.entity, AV.sl ((1 : Nat)) (strsL x.feats) Own.no, AV.sl ((3 : Nat)) (lbsL x.labels) Own.no, AV.int IntKind.i64 x.seed, AV.int IntKind.i64 x.permille]], live := [] } ∧
 y ≤ x.feats.length ∧ True) ∧
 ∀ (x_2 : Nat),
 x_2 ≤ x.feats.length →
 (decide ((↑x_2 : Int) < (↑x.feats.length : Int)) = true →
 ((0 : Int) ≤ (↑x_2 : Int) ∧ (↑x_2 : Int) < (↑(strsL x.feats).length : Int)) ∧
 ∃ (s : List UInt8),
 takeAt PQ ((9 : Nat)) (strsL x.feats) (↑x_2 : Int).toNat ((0 : Nat)) = some (AV.str s) ∧
 ∃ (es : List AV),
 CallIs
 (tbl [((46 : Nat), s46), ((26 : Nat), laxS s26), ((62 : Nat), laxS s62), ((72 : Nat), s72), ((25 : Nat), laxS s25)]
 ((26 : Nat)) [AV.sl ((1 : Nat)) (bytesL (hdB bs x ++ List.flatMap textL (List.take x_2 x.feats))) Own.no, AV.str s])
 (AV.sl ((1 : Nat)) es Own.no) [] ∧
 ∃ (y : Nat),
 ValsAre
 [AV.ptr ((0 : Nat)) ((0 : Nat)), AV.sl ((1 : Nat)) es Own.no, AV.sl ((1 : Nat)) (strsL x.feats) Own.no,
 AV.int IntKind.i64 (↑x.feats.length : Int), AV.int IntKind.i64 (IntKind.i64.wrap ((↑x_2 : Int) + (1 : Int)))]
 [AV.ptr ((0 : Nat)) ((0 : Nat)),
 AV.sl ((1 : Nat)) (bytesL (hdB bs x ++ List.flatMap textL (List.take y x.feats))) Own.no,
 AV.sl ((1 : Nat)) (strsL x.feats) Own.no, AV.int IntKind.i64 (↑x.feats.length : Int),
 AV.int IntKind.i64 (↑y : Int)] ∧
 StIs
 { boxes := [some [AV.str x.entity, AV.sl ((1 : Nat)) (strsL x.feats) Own.no, AV.sl ((3 : Nat)) (lbsL x.labels) Own.no, AV.int IntKind.i64 x.seed, AV.int IntKind.i64 x.permille]], live := [] }
 { boxes := [some [AV.str x.entity, AV.sl ((1 : Nat)) (strsL x.feats) Own.no, AV.sl ((3 : Nat)) (lbsL x.labels) Own.no, AV.int IntKind.i64 x.seed, AV.int IntKind.i64 x.permille]], live := [] } ∧
 y ≤ x.feats.length ∧ x.feats.length - y < x.feats.length - x_2) ∧
 (decide ((↑x_2 : Int) < (↑x.feats.length : Int)) = false →
 (∃ (es : List AV),
 CallIs
 (tbl [((46 : Nat), s46), ((26 : Nat), laxS s26), ((62 : Nat), laxS s62), ((72 : Nat), s72), ((25 : Nat), laxS s25)]
 ((62 : Nat))
 [AV.sl ((1 : Nat)) (bytesL (hdB bs x ++ List.flatMap textL (List.take x_2 x.feats))) Own.no,
 AV.int IntKind.u64 (IntKind.u64.wrap (↑(lbsL x.labels).length : Int))])
 (AV.sl ((1 : Nat)) es Own.no) [] ∧
 ∃ (_y : Unit),
 ValsAre [AV.ptr ((0 : Nat)) ((0 : Nat)), AV.sl ((1 : Nat)) es Own.no]
 [AV.ptr ((0 : Nat)) ((0 : Nat)), AV.sl ((1 : Nat)) (bytesL (mdB bs x)) Own.no] ∧
 StIs
 { boxes := [some [AV.str x.entity, AV.sl ((1 : Nat)) (strsL x.feats) Own.no, AV.sl ((3 : Nat)) (lbsL x.labels) Own.no, AV.int IntKind.i64 x.seed, AV.int IntKind.i64 x.permille]], live := [] }
 { boxes := [some [AV.str x.entity, AV.sl ((1 : Nat)) (strsL x.feats) Own.no, AV.sl ((3 : Nat)) (lbsL x.labels) Own.no, AV.int IntKind.i64 x.seed, AV.int IntKind.i64 x.permille]], live := [] } ∧
 True ∧ True) ∧
 ∀ (_x_3 : Unit),
 True →
 True →
 (∃ (y : Nat),
 ValsAre
 [AV.ptr ((0 : Nat)) ((0 : Nat)), AV.sl ((1 : Nat)) (bytesL (mdB bs x)) Own.no,
 AV.sl ((3 : Nat)) (lbsL x.labels) Own.no, AV.int IntKind.i64 (↑(lbsL x.labels).length : Int),
 AV.int IntKind.i64 (0 : Int)]
 [AV.ptr ((0 : Nat)) ((0 : Nat)),
 AV.sl ((1 : Nat)) (bytesL (mdB bs x ++ List.flatMap lbB (List.take y x.labels))) Own.no,
 AV.sl ((3 : Nat)) (lbsL x.labels) Own.no, AV.int IntKind.i64 (↑x.labels.length : Int),
 AV.int IntKind.i64 (↑y : Int)] ∧
 StIs
 { boxes := [some [AV.str x.entity, AV.sl ((1 : Nat)) (strsL x.feats) Own.no, AV.sl ((3 : Nat)) (lbsL x.labels) Own.no, AV.int IntKind.i64 x.seed, AV.int IntKind.i64 x.permille]], live := [] }
 { boxes := [some [AV.str x.entity, AV.sl ((1 : Nat)) (strsL x.feats) Own.no, AV.sl ((3 : Nat)) (lbsL x.labels) Own.no, AV.int IntKind.i64 x.seed, AV.int IntKind.i64 x.permille]], live := [] } ∧
 y ≤ x.labels.length ∧ True) ∧
 ∀ (x_4 : Nat),
 x_4 ≤ x.labels.length →
 (decide ((↑x_4 : Int) < (↑x.labels.length : Int)) = true →
 ((0 : Int) ≤ (↑x_4 : Int) ∧ (↑x_4 : Int) < (↑(lbsL x.labels).length : Int)) ∧
 ∃ (s : List UInt8),
 ∃ (n : Int),
 ∃ (n_1 : Int),
 takeAt PQ ((65 : Nat)) (lbsL x.labels) (↑x_4 : Int).toNat ((0 : Nat)) =
 some (AV.agg [AV.str s, AV.int IntKind.i64 n, AV.int IntKind.i64 n_1]) ∧
 ∃ (es : List AV),
 CallIs
 (tbl
 [((46 : Nat), s46), ((26 : Nat), laxS s26), ((62 : Nat), laxS s62), ((72 : Nat), s72),
 ((25 : Nat), laxS s25)]
 ((72 : Nat))
 [AV.sl ((1 : Nat)) (bytesL (mdB bs x ++ List.flatMap lbB (List.take x_4 x.labels))) Own.no,
 AV.agg [AV.str s, AV.int IntKind.i64 n, AV.int IntKind.i64 n_1]])
 (AV.sl ((1 : Nat)) es Own.no) [] ∧
 ∃ (y : Nat),
 ValsAre
 [AV.ptr ((0 : Nat)) ((0 : Nat)), AV.sl ((1 : Nat)) es Own.no,
 AV.sl ((3 : Nat)) (lbsL x.labels) Own.no, AV.int IntKind.i64 (↑x.labels.length : Int),
 AV.int IntKind.i64 (IntKind.i64.wrap ((↑x_4 : Int) + (1 : Int)))]
 [AV.ptr ((0 : Nat)) ((0 : Nat)),
 AV.sl ((1 : Nat)) (bytesL (mdB bs x ++ List.flatMap lbB (List.take y x.labels))) Own.no,
 AV.sl ((3 : Nat)) (lbsL x.labels) Own.no, AV.int IntKind.i64 (↑x.labels.length : Int),
 AV.int IntKind.i64 (↑y : Int)] ∧
 StIs
 { boxes := [some [AV.str x.entity, AV.sl ((1 : Nat)) (strsL x.feats) Own.no, AV.sl ((3 : Nat)) (lbsL x.labels) Own.no, AV.int IntKind.i64 x.seed, AV.int IntKind.i64 x.permille]], live := [] }
 { boxes := [some [AV.str x.entity, AV.sl ((1 : Nat)) (strsL x.feats) Own.no, AV.sl ((3 : Nat)) (lbsL x.labels) Own.no, AV.int IntKind.i64 x.seed, AV.int IntKind.i64 x.permille]], live := [] } ∧
 y ≤ x.labels.length ∧ x.labels.length - y < x.labels.length - x_4) ∧
 (decide ((↑x_4 : Int) < (↑x.labels.length : Int)) = false →
 ∃ (es : List AV),
 CallIs
 (tbl
 [((46 : Nat), s46), ((26 : Nat), laxS s26), ((62 : Nat), laxS s62), ((72 : Nat), s72),
 ((25 : Nat), laxS s25)]
 ((25 : Nat))
 [AV.sl ((1 : Nat)) (bytesL (mdB bs x ++ List.flatMap lbB (List.take x_4 x.labels))) Own.no,
 AV.int IntKind.i64 x.seed])
 (AV.sl ((1 : Nat)) es Own.no) [] ∧
 ∃ (es_1 : List AV),
 CallIs
 (tbl
 [((46 : Nat), s46), ((26 : Nat), laxS s26), ((62 : Nat), laxS s62), ((72 : Nat), s72),
 ((25 : Nat), laxS s25)]
 ((25 : Nat)) [AV.sl ((1 : Nat)) es Own.no, AV.int IntKind.i64 x.permille])
 (AV.sl ((1 : Nat)) es_1 Own.no) [] ∧
 RetLax (AV.sl ((1 : Nat)) es_1 Own.no) (AV.sl ((1 : Nat)) (bytesL r) Own.no, [])))) ∧
      (b = false → RetLax (AV.sl ((1 : Nat)) (bytesL bs) Own.no) (AV.sl ((1 : Nat)) (bytesL r) Own.no, []))) := by kernel_rfl
theorem w32 (m : Int) (bs r : List UInt8) (x : Rq) : (laxW PQ (GQ m) XA (tbl [(33, s33), (73, laxS s73), (74, s74), (75, s75), (76, laxS s76)]) (itbl []) (a32 bs x) [] 32 [bytesA bs, rqA x] (laxR r)) =
(∃ (b : Bool),
  CallIs
      (tbl [((33 : Nat), s33), ((73 : Nat), laxS s73), ((74 : Nat), s74), ((75 : Nat), s75), ((76 : Nat), laxS s76)] ((33 : Nat))
        [AV.agg
 [AV.str x.entity, AV.sl ((1 : Nat)) (strsL x.feats) Own.no, AV.sl ((3 : Nat)) (lbsL x.labels) Own.no, AV.int IntKind.i64 x.seed,
 AV.int IntKind.i64 x.permille]])
      (AV.bool b) [] ∧
    (b = true →
        (∃ (es : List AV),
 CallIs
 (tbl [((33 : Nat), s33), ((73 : Nat), laxS s73), ((74 : Nat), s74), ((75 : Nat), s75), ((76 : Nat), laxS s76)] ((73 : Nat))
 [AV.sl ((1 : Nat)) (bytesL bs) Own.no, AV.str x.entity])
 (AV.sl ((1 : Nat)) es Own.no) [] ∧
 ∃ (_y : Unit),
 ValsAre [AV.ptr ((0 : Nat)) ((0 : Nat)), AV.sl ((1 : Nat)) es Own.no]
 [AV.ptr ((0 : Nat)) ((0 : Nat)), AV.sl ((1 : Nat)) (bytesL (bs ++ textL x.entity)) Own.no] ∧
 StIs
 { boxes := [some [AV.str x.entity, AV.sl ((1 : Nat)) (strsL x.feats) Own.no, AV.sl ((3 : Nat)) (lbsL x.labels) Own.no, AV.int IntKind.i64 x.seed, AV.int IntKind.i64 x.permille]], live := [] }
 { boxes := [some [AV.str x.entity, AV.sl ((1 : Nat)) (strsL x.feats) Own.no, AV.sl ((3 : Nat)) (lbsL x.labels) Own.no, AV.int IntKind.i64 x.seed, AV.int IntKind.i64 x.permille]], live := [] } ∧
 True ∧ True) ∧
 ∀ (_x_1 : Unit),
 True →
 True →
 (∃ (es : List AV),
 CallIs
 (tbl [((33 : Nat), s33), ((73 : Nat), laxS s73), ((74 : Nat), s74), ((75 : Nat), s75), ((76 : Nat), laxS s76)] ((74 : Nat))
 [AV.sl ((1 : Nat)) (bytesL (bs ++ textL x.entity)) Own.no, AV.int IntKind.u64 (IntKind.u64.wrap (↑(strsL x.feats).length : Int))])
 (AV.sl ((1 : Nat)) es (Own.tok ((0 : Nat)))) [(es.length, (5 : Nat))] ∧
 ∃ (_y : Unit),
 ValsAre [AV.ptr ((0 : Nat)) ((0 : Nat)), AV.sl ((1 : Nat)) es Own.no]
 [AV.ptr ((0 : Nat)) ((0 : Nat)), AV.sl ((1 : Nat)) (bytesL (hdB bs x)) Own.no] ∧
 StIs
 { boxes := [some [AV.str x.entity, AV.sl ((1 : Nat)) (strsL x.feats) Own.no, AV.sl ((3 : Nat)) (lbsL x.labels) Own.no, AV.int IntKind.i64 x.seed, AV.int IntKind.i64 x.permille]], live := [] }
 { boxes := [some [AV.str x.entity, AV.sl ((1 : Nat)) (strsL x.feats) Own.no, AV.sl ((3 : Nat)) (lbsL x.labels) Own.no, AV.int IntKind.i64 x.seed, AV.int IntKind.i64 x.permille]], live := [] } ∧
 True ∧ True) ∧
 ∀ (_x_2 : Unit),
 True →
 True →
 (∃ (y : Nat),
 ValsAre [AV.ptr ((0 : Nat)) ((0 : Nat)), AV.sl ((1 : Nat)) (bytesL (hdB bs x)) Own.no, AV.int IntKind.i64 (0 : Int)]
 [AV.ptr ((0 : Nat)) ((0 : Nat)), AV.sl ((1 : Nat)) (bytesL (hdB bs x ++ List.flatMap textL (List.take y x.feats))) Own.no,
 AV.int IntKind.i64 (↑y : Int)] ∧
 StIs
 { boxes := [some [AV.str x.entity, AV.sl ((1 : Nat)) (strsL x.feats) Own.no, AV.sl ((3 : Nat)) (lbsL x.labels) Own.no, AV.int IntKind.i64 x.seed, AV.int IntKind.i64 x.permille]], live := [] }
 { boxes := [some [AV.str x.entity, AV.sl ((1 : Nat)) (strsL x.feats) Own.no, AV.sl ((3 : Nat)) (lbsL x.labels) Own.no, AV.int IntKind.i64 x.seed, AV.int IntKind.i64 x.permille]], live := [] } ∧
 y ≤ x.feats.length ∧ True) ∧
 ∀ (x_3 : Nat),
 x_3 ≤ x.feats.length →
 (decide ((↑x_3 : Int) < (↑(strsL x.feats).length : Int)) = true →
 ((0 : Int) ≤ (↑x_3 : Int) ∧ (↑x_3 : Int) < (↑(strsL x.feats).length : Int)) ∧
 ∃ (s : List UInt8),
 takeAt PQ ((9 : Nat)) (strsL x.feats) (↑x_3 : Int).toNat ((0 : Nat)) = some (AV.str s) ∧
 ∃ (es : List AV),
 CallIs
 (tbl [((33 : Nat), s33), ((73 : Nat), laxS s73), ((74 : Nat), s74), ((75 : Nat), s75), ((76 : Nat), laxS s76)]
 ((73 : Nat))
 [AV.sl ((1 : Nat)) (bytesL (hdB bs x ++ List.flatMap textL (List.take x_3 x.feats))) Own.no, AV.str s])
 (AV.sl ((1 : Nat)) es Own.no) [] ∧
 ∃ (y : Nat),
 ValsAre
 [AV.ptr ((0 : Nat)) ((0 : Nat)), AV.sl ((1 : Nat)) es Own.no,
 AV.int IntKind.i64 (IntKind.i64.wrap ((↑x_3 : Int) + (1 : Int)))]
 [AV.ptr ((0 : Nat)) ((0 : Nat)),
 AV.sl ((1 : Nat)) (bytesL (hdB bs x ++ List.flatMap textL (List.take y x.feats))) Own.no,
 AV.int IntKind.i64 (↑y : Int)] ∧
 StIs
 { boxes := [some [AV.str x.entity, AV.sl ((1 : Nat)) (strsL x.feats) Own.no, AV.sl ((3 : Nat)) (lbsL x.labels) Own.no, AV.int IntKind.i64 x.seed, AV.int IntKind.i64 x.permille]], live := [] }
 { boxes := [some [AV.str x.entity, AV.sl ((1 : Nat)) (strsL x.feats) Own.no, AV.sl ((3 : Nat)) (lbsL x.labels) Own.no, AV.int IntKind.i64 x.seed, AV.int IntKind.i64 x.permille]], live := [] } ∧
 y ≤ x.feats.length ∧ x.feats.length - y < x.feats.length - x_3) ∧
 (decide ((↑x_3 : Int) < (↑(strsL x.feats).length : Int)) = false →
 ∃ (es : List AV),
 CallIs
 (tbl [((33 : Nat), s33), ((73 : Nat), laxS s73), ((74 : Nat), s74), ((75 : Nat), s75), ((76 : Nat), laxS s76)]
 ((74 : Nat))
 [AV.sl ((1 : Nat)) (bytesL (hdB bs x ++ List.flatMap textL (List.take x_3 x.feats))) Own.no,
 AV.int IntKind.u64 (IntKind.u64.wrap (↑(lbsL x.labels).length : Int))])
 (AV.sl ((1 : Nat)) es (Own.tok ((0 : Nat)))) [(es.length, (5 : Nat))] ∧
 (∃ (y : Nat),
 ValsAre [AV.ptr ((0 : Nat)) ((0 : Nat)), AV.sl ((1 : Nat)) es (Own.tok ((0 : Nat))), AV.int IntKind.i64 (0 : Int)]
 [AV.ptr ((0 : Nat)) ((0 : Nat)),
 AV.sl ((1 : Nat)) (bytesL (mdB bs x ++ List.flatMap lbB (List.take y x.labels))) (Own.tok ((0 : Nat))),
 AV.int IntKind.i64 (↑y : Int)] ∧
 StIs
 { boxes := [some [AV.str x.entity, AV.sl ((1 : Nat)) (strsL x.feats) Own.no, AV.sl ((3 : Nat)) (lbsL x.labels) Own.no, AV.int IntKind.i64 x.seed, AV.int IntKind.i64 x.permille]], live := [(es.length, (5 : Nat))] }
 { boxes := [some [AV.str x.entity, AV.sl ((1 : Nat)) (strsL x.feats) Own.no, AV.sl ((3 : Nat)) (lbsL x.labels) Own.no, AV.int IntKind.i64 x.seed, AV.int IntKind.i64 x.permille]], live := [((mdB bs x ++ List.flatMap lbB (List.take y x.labels)).length, (5 : Nat))] } ∧
 y ≤ x.labels.length ∧ True) ∧
 ∀ (x_4 : Nat),
 x_4 ≤ x.labels.length →
 (decide ((↑x_4 : Int) < (↑(lbsL x.labels).length : Int)) = true →
 ((0 : Int) ≤ (↑x_4 : Int) ∧ (↑x_4 : Int) < (↑(lbsL x.labels).length : Int)) ∧
 ∃ (s : List UInt8),
 ∃ (n : Int),
 ∃ (n_1 : Int),
 takeAt PQ ((65 : Nat)) (lbsL x.labels) (↑x_4 : Int).toNat ((0 : Nat)) =
 some (AV.agg [AV.str s, AV.int IntKind.i64 n, AV.int IntKind.i64 n_1]) ∧
 ∃ (es : List AV),
 CallIs
 (tbl
 [((33 : Nat), s33), ((73 : Nat), laxS s73), ((74 : Nat), s74), ((75 : Nat), s75),
 ((76 : Nat), laxS s76)]
 ((75 : Nat)) [AV.agg [AV.str s, AV.int IntKind.i64 n, AV.int IntKind.i64 n_1]])
 (AV.sl ((1 : Nat)) es Own.no) [] ∧
 ((1 : Nat) = (1 : Nat) ∨ bytesL (mdB bs x ++ List.flatMap lbB (List.take x_4 x.labels)) = []) ∧
 ((bytesL (mdB bs x ++ List.flatMap lbB (List.take x_4 x.labels))).length + es.length) *
 (2 : Nat) ≤
 (70368744177664 : Nat) ∧
 (mdB bs x ++ List.flatMap lbB (List.take x_4 x.labels)).length =
 (bytesL (mdB bs x ++ List.flatMap lbB (List.take x_4 x.labels))).length ∧
 ∃ (y : Nat),
 ValsAre
 [AV.ptr ((0 : Nat)) ((0 : Nat)),
 AV.sl ((1 : Nat))
 (bytesL (mdB bs x ++ List.flatMap lbB (List.take x_4 x.labels)) ++ es)
 (Own.tok ((0 : Nat))),
 AV.int IntKind.i64 (IntKind.i64.wrap ((↑x_4 : Int) + (1 : Int)))]
 [AV.ptr ((0 : Nat)) ((0 : Nat)),
 AV.sl ((1 : Nat)) (bytesL (mdB bs x ++ List.flatMap lbB (List.take y x.labels)))
 (Own.tok ((0 : Nat))),
 AV.int IntKind.i64 (↑y : Int)] ∧
 StIs
 { boxes := [some [AV.str x.entity, AV.sl ((1 : Nat)) (strsL x.feats) Own.no, AV.sl ((3 : Nat)) (lbsL x.labels) Own.no, AV.int IntKind.i64 x.seed, AV.int IntKind.i64 x.permille]], live := [((bytesL (mdB bs x ++ List.flatMap lbB (List.take x_4 x.labels))).length + es.length, (5 : Nat))] }
 { boxes := [some [AV.str x.entity, AV.sl ((1 : Nat)) (strsL x.feats) Own.no, AV.sl ((3 : Nat)) (lbsL x.labels) Own.no, AV.int IntKind.i64 x.seed, AV.int IntKind.i64 x.permille]], live := [((mdB bs x ++ List.flatMap lbB (List.take y x.labels)).length, (5 : Nat))] } ∧
 y ≤ x.labels.length ∧ x.labels.length - y < x.labels.length - x_4) ∧
 (decide ((↑x_4 : Int) < (↑(lbsL x.labels).length : Int)) = false →
 ∃ (es : List AV),
 CallIs
 (tbl
 [((33 : Nat), s33), ((73 : Nat), laxS s73), ((74 : Nat), s74), ((75 : Nat), s75),
 ((76 : Nat), laxS s76)]
 ((76 : Nat))
 [AV.sl ((1 : Nat)) (bytesL (mdB bs x ++ List.flatMap lbB (List.take x_4 x.labels))) Own.no,
 AV.int IntKind.i64 x.seed])
 (AV.sl ((1 : Nat)) es Own.no) [] ∧
 ∃ (es_1 : List AV),
 CallIs
 (tbl
 [((33 : Nat), s33), ((73 : Nat), laxS s73), ((74 : Nat), s74), ((75 : Nat), s75),
 ((76 : Nat), laxS s76)]
 ((76 : Nat)) [AV.sl ((1 : Nat)) es Own.no, AV.int IntKind.i64 x.permille])
 (AV.sl ((1 : Nat)) es_1 Own.no) [] ∧
 RetLax (AV.sl ((1 : Nat)) es_1 Own.no) (AV.sl ((1 : Nat)) (bytesL r) Own.no, [])))) ∧
      (b = false → RetLax (AV.sl ((1 : Nat)) (bytesL bs) Own.no) (AV.sl ((1 : Nat)) (bytesL r) Own.no, []))) := by kernel_rfl
theorem run26 {bs s : List UInt8} {o : Own} (h : bs.length ≤ 2000000) (hs : s.length ≤ 2000000) : laxS s26 [.sl 1 (bytesL bs) o, .str s] = some (laxR (bs ++ textL s)) := laxS_at (s26_at h hs)
theorem run25 {bs : List UInt8} {n : Int} {o : Own} (h : bs.length ≤ 2000000) (hn : i64W n) : laxS s25 [.sl 1 (bytesL bs) o, .int .i64 n] = some (laxR (bs ++ uintL (zig n))) := laxS_at (s25_at h hn)
theorem run62 {bs : List UInt8} {n : Nat} {o : Own} (h : bs.length ≤ 2000000) (hn : n ≤ 2000000) : laxS s62 [.sl 1 (bytesL bs) o, .int .u64 (IntKind.u64.wrap (n : Int))] = some (laxR (bs ++ uintL n)) := by
 have e : IntKind.u64.wrap (n : Int) = n := by rw [wrapu64]; omega
 rw [e]
 have := s62_at (o := o) h (u64Ok_nat (n := n) (by omega))
 rw [Int.toNat_natCast] at this
 exact laxS_at this
theorem run119n {a b : List UInt8} {o o' : Own} (h1 : a.length ≤ 2000000) (h2 : b.length ≤ 2000000) (h3 : b ≠ []) : s119n [.sl 1 (bytesL a) o, .sl 1 (bytesL b) o'] = some (ownR (a ++ b)) := by
 simp only [s119n, onBytes, unBytes_mk, true_or, true_and, if_true]
 rw [if_pos ⟨h1, h2, h3⟩]
theorem p119n (m : Int) (a b : List UInt8) (ha : strOk a) (hb : strOk b) (hn : b ≠ []) : PureOk PQ (GQ m) XA (tbl []) (itbl []) nAn [] 119 [bytesA a, bytesA b] (ownR (a ++ b)) := by
 have h1 : a.length ≤ 2000000 := ha
 have h2 : b.length ≤ 2000000 := hb
 constructor
 rw [w119n]
 have hl : ∀ l : List UInt8, (bytesL l).length = l.length := fun l => bytesL_length
 have nb : bytesL b ≠ [] := fun h => hn (bytesL_eq_nil.1 h)
 simp only [hl, List.nil_append]
 refine ⟨by simp, by omega, fun h => ⟨by simp, by omega, fun h' => absurd h' nb, fun _ => ⟨by omega, ⟨?_⟩⟩⟩, fun h => ⟨by simp, by omega, by omega, by simp only [List.length_append, hl], ⟨?_⟩⟩⟩
 ·obtain rfl := bytesL_eq_nil.1 h
  simp only [List.nil_append, Nat.zero_add]
 ·rw [← bytesL_append, List.length_append]
theorem o119n (m : Int) : SpecOk PQ (GQ m) 119 s119n := spec_ofW (X := XA) (m := []) [1, 1] mixedQ tbl_nil itbl_nil fun args r h' => by
 unfold s119n onBytes at h'
 split at h'
 ·split at h'
  ·rename_i hz
   split at h'
   ·rename_i bs hb
    dsimp only at h'
    split at h'
    ·rename_i cs hc
     split at h'
     ·rename_i hp
      injection h' with h'; subst h'
      simp only [wkL, wk1 hz.1 hb, wk1 hz.2 hc]
      exact ⟨nAn, p119n m _ _ hp.1 hp.2.1 hp.2.2⟩
     ·cases h'
    ·cases h'
   ·cases h'
  ·cases h'
 ·cases h'
theorem text_ne (s : List UInt8) : textL s ≠ [] := by
 have := uintL_length_pos s.length
 intro h
 have h2 := congrArg List.length h
 simp only [textL, List.length_append, List.length_nil] at h2
 omega
theorem own_some (l : List UInt8) : some (ownR l) = some (AV.sl 1 (bytesL l) (.tok 0), [((bytesL l).length, 5)]) := by
 rw [bytesL_length]; rfl
theorem text_len {s : List UInt8} (h : s.length ≤ 1900000) : (textL s).length ≤ s.length + 10 := by
 have := uintL_len10 (n := s.length) (by omega)
 simp only [textL, List.length_append]; omega
theorem p73 (m : Int) (bs s : List UInt8) (hs : strOk bs) (hn : s.length ≤ 1900000) : PureOk PQ (GQ m) XA (tbl [(120, s120), (119, s119n)]) (itbl []) nAn [] 73 [bytesA bs, .str s] (ownR (bs ++ textL s)) := by
 have h3 := text_len hn
 constructor
 rw [w73]
 exact ⟨_, ⟨(s120_at (show s.length ≤ 2000000 by omega)).trans (own_some _)⟩, _, ⟨(run119n (o := .no) (o' := .no) hs (show (textL s).length ≤ 2000000 by omega) (text_ne s)).trans (own_some _)⟩, rfl, ⟨by rw [bytesL_length]⟩⟩
theorem p74 (m n : Int) (bs : List UInt8) (hs : strOk bs) (hn : u64Ok n) : PureOk PQ (GQ m) XA (tbl [(121, s121), (119, s119n)]) (itbl []) nAn [] 74 [bytesA bs, .int .u64 n] (ownR (bs ++ uintL n.toNat)) := by
 have h3 := uintL_len10 (n := n.toNat) (by have := hn.2; omega)
 constructor
 rw [w74]
 exact ⟨_, ⟨(s121_at hn).trans (own_some _)⟩, _, ⟨(run119n (o := .no) (o' := .no) hs (show (uintL n.toNat).length ≤ 2000000 by omega) (uintL_ne _)).trans (own_some _)⟩, rfl, ⟨by rw [bytesL_length]⟩⟩
theorem p76 (m n : Int) (bs : List UInt8) (hs : strOk bs) (hn : i64W n) : PureOk PQ (GQ m) XA (tbl [(122, s122), (119, s119n)]) (itbl []) nAn [] 76 [bytesA bs, .int .i64 n] (ownR (bs ++ uintL (zig n))) := by
 have h3 := zig_len hn
 constructor
 rw [w76]
 exact ⟨_, ⟨(s122_at hn).trans (own_some _)⟩, _, ⟨(run119n (o := .no) (o' := .no) hs (show (uintL (zig n)).length ≤ 2000000 by omega) (uintL_ne _)).trans (own_some _)⟩, rfl, ⟨by rw [bytesL_length]⟩⟩
theorem o73 (m : Int) : SpecOk PQ (GQ m) 73 s73 := spec_ofW (X := XA) (m := []) [1] mixedQ (tbl_cons (o120 m) (tbl_cons (o119n m) tbl_nil)) itbl_nil fun args r h' => by
 unfold s73 onBytes at h'
 split at h'
 ·split at h'
  ·rename_i hz
   split at h'
   ·rename_i bs hb
    dsimp only at h'
    split at h'
    ·rename_i hp
     injection h' with h'; subst h'
     simp only [wkL, wk1 hz hb]
     exact ⟨nAn, p73 m _ _ hp.1 hp.2⟩
    ·cases h'
   ·cases h'
  ·cases h'
 ·cases h'
theorem o74 (m : Int) : SpecOk PQ (GQ m) 74 s74 := sBN_of (X := XA) (tbl_cons (o121 m) (tbl_cons (o119n m) tbl_nil)) itbl_nil fun bs n hs hn => ⟨nAn, p74 m n bs hs hn⟩
theorem o76 (m : Int) : SpecOk PQ (GQ m) 76 s76 := sBN_of (X := XA) (tbl_cons (o122 m) (tbl_cons (o119n m) tbl_nil)) itbl_nil fun bs n hs hn => ⟨nAn, p76 m n bs hs hn⟩
theorem run73 {bs s : List UInt8} {o : Own} (h : bs.length ≤ 2000000) (hs : s.length ≤ 1900000) : laxS s73 [.sl 1 (bytesL bs) o, .str s] = some (laxR (bs ++ textL s)) := laxS_at (by
 simp only [s73, onBytes, unBytes_mk, true_or, if_true]
 rw [if_pos ⟨h, hs⟩])
theorem run73n {s : List UInt8} (hs : s.length ≤ 1900000) : laxS s73 [.sl 0 [] .nil, .str s] = some (laxR (textL s)) := laxS_at (by
 have : unBytes [] = some [] := rfl
 simp only [s73, onBytes, this, or_true, if_true]
 rw [if_pos ⟨by unfold strOk; simp, hs⟩, List.nil_append])
theorem run76 {bs : List UInt8} {n : Int} {o : Own} (h : bs.length ≤ 2000000) (hn : i64W n) : laxS s76 [.sl 1 (bytesL bs) o, .int .i64 n] = some (laxR (bs ++ uintL (zig n))) := laxS_at (by
 simp only [s76, sBytesNum, onBytes, unBytes_mk, true_or, true_and, if_true]
 rw [if_pos ⟨h, hn⟩])
theorem run74 {bs : List UInt8} {n : Nat} {o : Own} (h : bs.length ≤ 2000000) (hn : n ≤ 2000000) : s74 [.sl 1 (bytesL bs) o, .int .u64 (IntKind.u64.wrap (n : Int))] = some (ownR (bs ++ uintL n)) := by
 have e : IntKind.u64.wrap (n : Int) = n := by rw [wrapu64]; omega
 rw [e]
 simp only [s74, sBytesNum, onBytes, unBytes_mk, true_or, true_and, if_true]
 rw [if_pos ⟨h, u64Ok_nat (by omega)⟩, Int.toNat_natCast]
theorem lbB_len {x : Lb} {n : Nat} (h : lbFit n x) : (lbB x).length ≤ x.key.length + 30 := by
 have h1 := text_len (s := x.key) (by have := h.1; omega)
 have h2 := zig_len h.2.1
 have h3 := zig_len h.2.2
 simp only [lbB, List.length_append]; omega
theorem lax_own {l l' : List UInt8} {o : Own} (h : l = l') : RetLax (.sl 1 (bytesL l) o) (laxR l') := by
 subst h; exact lax_bytes
theorem p72 (m : Int) (bs : List UInt8) (x : Lb) (h : lbFit bs.length x) : LaxOk PQ (GQ m) XA (tbl [(26, laxS s26), (25, laxS s25)]) (itbl []) nAn [] 72 [bytesA bs, .agg [.str x.key, .int .i64 x.event, .int .i64 x.know]] (laxR (bs ++ lbB x)) := by
 have h0 := h.1
 have h1 := text_len (s := x.key) (by omega)
 have h2 := zig_len h.2.1
 constructor
 rw [w72]
 refine ⟨_, ⟨run26 (o := .no) (by omega) (by omega)⟩, _, ⟨run25 (o := .no) (by simp only [List.length_append]; omega) h.2.1⟩, _, ⟨run25 (o := .no) (by simp only [List.length_append]; omega) h.2.2⟩, lax_own ?_⟩
 simp only [lbB, List.append_assoc]
theorem p75 (m : Int) (x : Lb) (h : lbFit 0 x) : LaxOk PQ (GQ m) XA (tbl [(73, laxS s73), (76, laxS s76)]) (itbl []) nAn [] 75 [.agg [.str x.key, .int .i64 x.event, .int .i64 x.know]] (laxR (lbB x)) := by
 have h0 := h.1
 have h1 := text_len (s := x.key) (by omega)
 have h2 := zig_len h.2.1
 constructor
 rw [w75]
 exact ⟨_, ⟨run73n (by omega)⟩, _, ⟨run76 (o := .no) (by omega) h.2.1⟩, _, ⟨run76 (o := .no) (by simp only [List.length_append]; omega) h.2.2⟩, lax_own rfl⟩
theorem o72 (m : Int) : SpecOk PQ (GQ m) 72 s72 := lax_ofW (X := XA) (m := []) [1] mixedQ (tbl_cons (laxS_ok (o26 m)) (tbl_cons (laxS_ok (o25 m)) tbl_nil)) itbl_nil fun args r h' => by
 unfold s72 onBytes at h'
 split at h'
 ·split at h'
  ·rename_i hz
   split at h'
   ·rename_i bs hb
    dsimp only at h'
    split at h'
    ·rename_i hp
     injection h' with h'; subst h'
     simp only [wkL, wk1 hz hb]
     exact ⟨nAn, p72 m _ ⟨_, _, _⟩ hp⟩
    ·cases h'
   ·cases h'
  ·cases h'
 ·cases h'
theorem o75 (m : Int) : SpecOk PQ (GQ m) 75 s75 := lax_of (X := XA) (m := []) mixedQ (tbl_cons (laxS_ok (o73 m)) (tbl_cons (laxS_ok (o76 m)) tbl_nil)) itbl_nil fun args r h' => by
 unfold s75 at h'
 split at h'
 ·split at h'
  ·rename_i hp
   injection h' with h'; subst h'
   exact ⟨nAn, p75 m ⟨_, _, _⟩ hp⟩
  ·cases h'
 ·cases h'
theorem run72 {bs : List UInt8} {x : Lb} {o : Own} (h : lbFit bs.length x) : s72 [.sl 1 (bytesL bs) o, .agg [.str x.key, .int .i64 x.event, .int .i64 x.know]] = some (laxR (bs ++ lbB x)) := by
 simp only [s72, onBytes, unBytes_mk, true_or, if_true]
 rw [if_pos h]
theorem run75 {x : Lb} (h : lbFit 0 x) : s75 [.agg [.str x.key, .int .i64 x.event, .int .i64 x.know]] = some (laxR (lbB x)) := by
 unfold s75
 simp only
 rw [if_pos h]
theorem flat_len {α : Type} (f : α → List UInt8) (k : Nat) : ∀ l : List α, (∀ x ∈ l, (f x).length ≤ k) → (l.flatMap f).length ≤ l.length * k
 | [], _ => by simp
 | x :: l, h => by
  have h1 := h x List.mem_cons_self
  have h2 := flat_len f k l fun y hy => h y (List.mem_cons_of_mem _ hy)
  simp only [List.flatMap_cons, List.length_append, List.length_cons, Nat.add_mul]
  omega
theorem flat_step {α : Type} (f : α → List UInt8) {l : List α} {i : Nat} (h : i < l.length) : (l.take (i + 1)).flatMap f = (l.take i).flatMap f ++ f l[i] := by
 rw [List.take_succ_eq_append_getElem h, List.flatMap_append]
 simp
structure EncIn (bs : List UInt8) (r : Rq) : Prop where
 en : r.entity.length ≤ 24
 nf : r.feats.length ≤ 8
 nl : r.labels.length ≤ 256
 lf : ∀ f ∈ r.feats, f.length ≤ 24
 ll : ∀ x ∈ r.labels, ∀ n, n ≤ 1800000 → lbFit n x
 h1 : (bs ++ textL r.entity).length ≤ bs.length + 40
 h2 : (hdB bs r).length ≤ bs.length + 50
 h3 : ∀ i, (hdB bs r ++ (r.feats.take i).flatMap textL).length ≤ bs.length + 400
 h4 : (mdB bs r).length ≤ bs.length + 410
 h5 : ∀ i, (mdB bs r ++ (r.labels.take i).flatMap lbB).length ≤ bs.length + 20000
 sd : i64W r.seed
 pm : i64W r.permille
theorem enc_in (bs : List UInt8) {r : Rq} (h : formB r = true) : EncIn bs r := by
 have F := fmt_in h
 have e1 := text_len (s := r.entity) (by have := F.en; omega)
 have e2 := uintL_len10 (n := r.feats.length) (by have := F.nf; omega)
 have e3 := uintL_len10 (n := r.labels.length) (by have := F.nl; omega)
 have k1 : ∀ f ∈ r.feats, (textL f).length ≤ 34 := fun f hf => by
  have := F.lf f hf
  have := text_len (s := f) (by omega)
  omega
 have ll : ∀ x ∈ r.labels, ∀ n, n ≤ 1800000 → lbFit n x := fun x hx n hn => by
  obtain ⟨a, b, c⟩ := F.ll x hx
  exact ⟨by omega, ⟨b.1, by have := b.2; omega⟩, ⟨c.1, by have := c.2; omega⟩⟩
 have k2 : ∀ x ∈ r.labels, (lbB x).length ≤ 62 := fun x hx => by
  have := lbB_len (ll x hx 0 (by omega))
  have := (F.ll x hx).1
  omega
 have c1 : (bs ++ textL r.entity).length ≤ bs.length + 40 := by have := F.en; simp only [List.length_append]; omega
 have c2 : (hdB bs r).length ≤ bs.length + 50 := by unfold hdB; rw [List.length_append]; omega
 have c3 : ∀ i, (hdB bs r ++ (r.feats.take i).flatMap textL).length ≤ bs.length + 400 := fun i => by
  have := flat_len textL 34 (r.feats.take i) fun x hx => k1 x (List.mem_of_mem_take hx)
  have h8 : (r.feats.take i).length ≤ 8 := by have := F.nf; rw [List.length_take]; omega
  rw [List.length_append]; omega
 have c4 : (mdB bs r).length ≤ bs.length + 410 := by
  have := c3 r.feats.length
  rw [List.take_length] at this
  unfold mdB; rw [List.length_append]; omega
 exact ⟨F.en, F.nf, F.nl, F.lf, ll, c1, c2, c3, c4, fun i => by
  have := flat_len lbB 62 (r.labels.take i) fun x hx => k2 x (List.mem_of_mem_take hx)
  have h8 : (r.labels.take i).length ≤ 256 := by have := F.nl; rw [List.length_take]; omega
  rw [List.length_append]; omega, ⟨F.sd.1, by have := F.sd.2; omega⟩, ⟨F.pm.1, by have := F.pm.2; omega⟩⟩
theorem enc_eq (bs : List UInt8) (r : Rq) : mdB bs r ++ r.labels.flatMap lbB ++ uintL (zig r.seed) ++ uintL (zig r.permille) = bs ++ encRq r := by
 simp only [mdB, hdB, encRq, List.append_assoc]
theorem p31 (m : Int) (bs : List UInt8) (x : Rq) (hb : bs.length ≤ 900000) : LaxOk PQ (GQ m) XA (tbl [(46, s46), (26, laxS s26), (62, laxS s62), (72, s72), (25, laxS s25)]) (itbl []) (a31 bs x) [] 31 [bytesA bs, rqA x] (laxR (appRq bs x)) := by
 constructor
 rw [w31]
 have hn : ∀ l : List (List UInt8), (strsL l).length = l.length := fun l => List.length_map _
 have hm : ∀ l : List Lb, (lbsL l).length = l.length := fun l => List.length_map _
 simp only [hn, hm]
 refine ⟨_, ⟨run46 x⟩, fun b => ?_, fun b => lax_own (by unfold appRq; rw [if_neg (by rw [b]; simp)])⟩
 have F := enc_in bs b
 have f1 := F.h1
 have f2 := F.h2
 have f4 := F.h4
 refine ⟨⟨_, ⟨run26 (o := .no) (by omega) (by have := F.en; omega)⟩, _, ⟨run62 (o := .no) (by omega) (by have := F.nf; omega)⟩, (), ⟨rfl⟩, ⟨rfl⟩, trivial, trivial⟩, fun _ _ _ => ⟨⟨0, ⟨by simp only [List.take_zero, List.flatMap_nil, List.append_nil]; rfl⟩, ⟨rfl⟩, Nat.zero_le _, trivial⟩, fun i hi => ⟨fun lt => ?_, fun ge => ?_⟩⟩⟩
 ·have lt := of_decide_eq_true lt
  have hil : i < x.feats.length := by omega
  have f3 := F.h3 i
  refine ⟨⟨by omega, by omega⟩, _, by rw [Int.toNat_natCast]; exact take_str hil, _, ⟨run26 (o := .no) (by omega) (by have := F.lf _ (List.getElem_mem hil); omega)⟩, i + 1, ⟨?_⟩, ⟨rfl⟩, hil, by omega⟩
  rw [wrapI (by have := F.nf; omega), flat_step textL hil, ← List.append_assoc]
 ·have ge := of_decide_eq_false ge
  have hie : i = x.feats.length := by omega
  subst hie
  rw [List.take_length]
  have f3 := F.h3 x.feats.length
  rw [List.take_length] at f3
  refine ⟨⟨_, ⟨run62 (o := .no) (by omega) (by have := F.nl; omega)⟩, (), ⟨rfl⟩, ⟨rfl⟩, trivial, trivial⟩, fun _ _ _ => ⟨⟨0, ⟨by simp only [List.take_zero, List.flatMap_nil, List.append_nil]; rfl⟩, ⟨rfl⟩, Nat.zero_le _, trivial⟩, fun j hj => ⟨fun lt => ?_, fun ge => ?_⟩⟩⟩
  ·have lt := of_decide_eq_true lt
   have hjl : j < x.labels.length := by omega
   have f5 := F.h5 j
   refine ⟨⟨by omega, by omega⟩, _, _, _, by rw [Int.toNat_natCast]; exact take_lb hjl, _, ⟨run72 (o := .no) (F.ll _ (List.getElem_mem hjl) _ (by omega))⟩, j + 1, ⟨?_⟩, ⟨rfl⟩, hjl, by omega⟩
   rw [wrapI (by have := F.nl; omega), flat_step lbB hjl, ← List.append_assoc]
  ·have ge := of_decide_eq_false ge
   have hje : j = x.labels.length := by omega
   subst hje
   rw [List.take_length]
   have f5 := F.h5 x.labels.length
   rw [List.take_length] at f5
   refine ⟨_, ⟨run25 (o := .no) (by omega) F.sd⟩, _, ⟨run25 (o := .no) (by rw [List.length_append]; have := zig_len F.sd; omega) F.pm⟩, lax_own ?_⟩
   unfold appRq
   rw [if_pos b, ← enc_eq]
theorem run33k {x : Rq} (hk : keysOk x.labels = true) : s33 [rqA x] = some (.bool (formB x), []) := run33 hk
theorem p32 (m : Int) (bs : List UInt8) (x : Rq) (hb : bs.length ≤ 900000) (hk : keysOk x.labels = true) : LaxOk PQ (GQ m) XA (tbl [(33, s33), (73, laxS s73), (74, s74), (75, s75), (76, laxS s76)]) (itbl []) (a32 bs x) [] 32 [bytesA bs, rqA x] (laxR (appRq bs x)) := by
 constructor
 rw [w32]
 have hn : ∀ l : List (List UInt8), (strsL l).length = l.length := fun l => List.length_map _
 have hm : ∀ l : List Lb, (lbsL l).length = l.length := fun l => List.length_map _
 have hl : ∀ l : List UInt8, (bytesL l).length = l.length := fun l => bytesL_length
 simp only [hn, hm, hl]
 refine ⟨_, ⟨run33k hk⟩, fun b => ?_, fun b => lax_own (by unfold appRq; rw [if_neg (by rw [b]; simp)])⟩
 have F := enc_in bs b
 have f1 := F.h1
 have f2 := F.h2
 have f4 := F.h4
 refine ⟨⟨_, ⟨run73 (o := .no) (by omega) (by have := F.en; omega)⟩, (), ⟨rfl⟩, ⟨rfl⟩, trivial, trivial⟩, fun _ _ _ => ⟨⟨_, ⟨(run74 (o := .no) (by omega) (by have := F.nf; omega)).trans (own_some _)⟩, (), ⟨rfl⟩, ⟨rfl⟩, trivial, trivial⟩, fun _ _ _ => ⟨⟨0, ⟨by simp only [List.take_zero, List.flatMap_nil, List.append_nil]; rfl⟩, ⟨rfl⟩, Nat.zero_le _, trivial⟩, fun i hi => ⟨fun lt => ?_, fun ge => ?_⟩⟩⟩⟩
 ·have lt := of_decide_eq_true lt
  have hil : i < x.feats.length := by omega
  have f3 := F.h3 i
  refine ⟨⟨by omega, by omega⟩, _, by rw [Int.toNat_natCast]; exact take_str hil, _, ⟨run73 (o := .no) (by omega) (by have := F.lf _ (List.getElem_mem hil); omega)⟩, i + 1, ⟨?_⟩, ⟨rfl⟩, hil, by omega⟩
  rw [wrapI (by have := F.nf; omega), flat_step textL hil, ← List.append_assoc]
 ·have ge := of_decide_eq_false ge
  have hie : i = x.feats.length := by omega
  subst hie
  rw [List.take_length]
  have f3 := F.h3 x.feats.length
  rw [List.take_length] at f3
  refine ⟨_, ⟨(run74 (o := .no) (by omega) (by have := F.nl; omega)).trans (own_some _)⟩, ⟨0, ⟨by simp only [List.take_zero, List.flatMap_nil, List.append_nil]; rfl⟩, ⟨by simp only [List.take_zero, List.flatMap_nil, List.append_nil, hl]; rfl⟩, Nat.zero_le _, trivial⟩, fun j hj => ⟨fun lt => ?_, fun ge => ?_⟩⟩
  ·have lt := of_decide_eq_true lt
   have hjl : j < x.labels.length := by omega
   have f5 := F.h5 j
   have f6 := lbB_len (F.ll _ (List.getElem_mem hjl) 0 (by omega))
   have f7 := (F.ll _ (List.getElem_mem hjl) 1800000 (by omega)).1
   have g5 := F.h5 (j + 1)
   refine ⟨⟨by omega, by omega⟩, _, _, _, by rw [Int.toNat_natCast]; exact take_lb hjl, _, ⟨run75 (F.ll _ (List.getElem_mem hjl) _ (by omega))⟩, .inl trivial, by rw [hl]; omega, trivial, j + 1, ⟨?_⟩, ⟨?_⟩, hjl, by omega⟩
   ·rw [wrapI (by have := F.nl; omega), flat_step lbB hjl, ← List.append_assoc, bytesL_append (mdB bs x ++ _)]
   ·have e : (mdB bs x ++ List.flatMap lbB (List.take (j + 1) x.labels)).length = (mdB bs x ++ List.flatMap lbB (List.take j x.labels)).length + (lbB x.labels[j]).length := by
     rw [flat_step lbB hjl, ← List.append_assoc]; exact List.length_append
    rw [e, hl]
  ·have ge := of_decide_eq_false ge
   have hje : j = x.labels.length := by omega
   subst hje
   rw [List.take_length]
   have f5 := F.h5 x.labels.length
   rw [List.take_length] at f5
   refine ⟨_, ⟨run76 (o := .no) (by omega) F.sd⟩, _, ⟨run76 (o := .no) (by rw [List.length_append]; have := zig_len F.sd; omega) F.pm⟩, lax_own ?_⟩
   unfold appRq
   rw [if_pos b, ← enc_eq]
theorem o31 (m : Int) : SpecOk PQ (GQ m) 31 sAppRq := lax_ofW (X := XA) (m := []) [1] mixedQ (tbl_cons (o46 m) (tbl_cons (laxS_ok (o26 m)) (tbl_cons (laxS_ok (o62 m)) (tbl_cons (o72 m) (tbl_cons (laxS_ok (o25 m)) tbl_nil))))) itbl_nil fun args r h' => by
 unfold sAppRq onBytes at h'
 split at h'
 ·split at h'
  ·rename_i hz
   split at h'
   ·rename_i bs hb
    dsimp only at h'
    split at h'
    ·rename_i x hx
     split at h'
     ·rename_i hp
      injection h' with h'; subst h'
      simp only [wkL, wk1 hz hb]
      rw [unRqN_inv _ _ hx]
      exact ⟨_, p31 m _ _ hp.1⟩
     ·cases h'
    ·cases h'
   ·cases h'
  ·cases h'
 ·cases h'
theorem o32 (m : Int) : SpecOk PQ (GQ m) 32 sAppRq := lax_ofW (X := XA) (m := []) [1] mixedQ (tbl_cons (o33 m) (tbl_cons (laxS_ok (o73 m)) (tbl_cons (o74 m) (tbl_cons (o75 m) (tbl_cons (laxS_ok (o76 m)) tbl_nil))))) itbl_nil fun args r h' => by
 unfold sAppRq onBytes at h'
 split at h'
 ·split at h'
  ·rename_i hz
   split at h'
   ·rename_i bs hb
    dsimp only at h'
    split at h'
    ·rename_i x hx
     split at h'
     ·rename_i hp
      injection h' with h'; subst h'
      simp only [wkL, wk1 hz hb]
      rw [unRqN_inv _ _ hx]
      exact ⟨_, p32 m _ _ hp.1 hp.2⟩
     ·cases h'
    ·cases h'
   ·cases h'
  ·cases h'
 ·cases h'
theorem runApp {bs : List UInt8} {x : Rq} (hb : bs.length ≤ 900000) (hk : keysOk x.labels = true) : sAppRq [.sl 1 (bytesL bs) .no, rqA x] = some (laxR (appRq bs x)) := by
 simp only [sAppRq, onBytes, unBytes_mk, true_or, if_true, unRqN_ok]
 rw [if_pos ⟨hb, hk⟩]
def a7 (r : Rq) (at_ : Int) : Anns := ⟨fun k => match k with
 | 1000006 => some { α := List UInt8, slots := [2, 4, 7], nb := 1, vals := fun x => [.int .i64 at_, .ptr 0 0, .sl 1 (bytesL x) .no], sS := fun _ => stR r, I := fun x => x.length ≤ 2000, μ := fun _ => 0 }
 | _ => none, nA⟩
def t7 : List (FuncId × Spec) := [(10, s10), (28, sRead), (29, sRead), (31, sAppRq), (32, sAppRq), (30, s30), (13, s13), (16, sTrue)]
end Go.Abs
namespace Go.Abs
open Go.Proofs
abbrev w7c1 (x : Rq) : List AV := [AV.str x.entity, AV.sl ((1 : Nat)) (strsL x.feats) Own.no, AV.sl ((3 : Nat)) (lbsL x.labels) Own.no, AV.int IntKind.i64 x.seed, AV.int IntKind.i64 x.permille]
theorem w7 (m : Int) (bs : List UInt8) (x : Rq) (at_ : Int) (r : AV) : (pureW PQ (GQ m) XT (tbl t7) (itbl []) (a7 x at_) [] 7 [.sl 1 (bytesL bs) .no, rqA x, .int .i64 at_] (r, [])) =
(∃ (b : Bool), CallIs (tbl [((10 : Nat), s10), ((28 : Nat), sRead), ((29 : Nat), sRead), ((31 : Nat), sAppRq), ((32 : Nat), sAppRq), ((30 : Nat), s30), ((13 : Nat), s13), ((16 : Nat), sTrue)] ((10 : Nat)) [AV.agg (w7c1 x)]) (AV.bool b) [] ∧ (b = true → ((decide ((↑(bytesL bs).length : Int) > (2000 : Int)) = true → (0 : Int) ≤ (2000 : Int) ∧ ((0 : Nat) ≤ (2000 : Nat) ∧ (2000 : Nat) ≤ (bytesL bs).length) ∧ ((1 : Nat) = (1 : Nat) ∨ bytesL bs = []) ∧ ∃ (y : List UInt8), ValsAre [AV.int IntKind.i64 at_, AV.ptr ((0 : Nat)) ((0 : Nat)), AV.sl ((1 : Nat)) (List.drop ((0 : Nat)) (List.take ((2000 : Nat)) (bytesL bs))) Own.no] [AV.int IntKind.i64 at_, AV.ptr ((0 : Nat)) ((0 : Nat)), AV.sl ((1 : Nat)) (bytesL y) Own.no] ∧ StIs { boxes := [some (w7c1 x)], live := [] } { boxes := [some (w7c1 x)], live := [] } ∧ y.length ≤ (2000 : Nat) ∧ True) ∧ (decide ((↑(bytesL bs).length : Int) > (2000 : Int)) = false → ∃ (y : List UInt8), ValsAre [AV.int IntKind.i64 at_, AV.ptr ((0 : Nat)) ((0 : Nat)), AV.sl ((1 : Nat)) (bytesL bs) Own.no] [AV.int IntKind.i64 at_, AV.ptr ((0 : Nat)) ((0 : Nat)), AV.sl ((1 : Nat)) (bytesL y) Own.no] ∧ StIs { boxes := [some (w7c1 x)], live := [] } { boxes := [some (w7c1 x)], live := [] } ∧ y.length ≤ (2000 : Nat) ∧ True)) ∧ ∀ (x_1 : List UInt8), x_1.length ≤ (2000 : Nat) → True → ∃ (s : List UInt8), ∃ (es : List AV), ∃ (es_1 : List AV), ∃ (n : Int), ∃ (n_1 : Int), ∃ (n_2 : Int), ∃ (n_3 : Int), CallIs (tbl [((10 : Nat), s10), ((28 : Nat), sRead), ((29 : Nat), sRead), ((31 : Nat), sAppRq), ((32 : Nat), sAppRq), ((30 : Nat), s30), ((13 : Nat), s13), ((16 : Nat), sTrue)] ((28 : Nat)) [AV.sl ((1 : Nat)) (bytesL x_1) Own.no, AV.int IntKind.i64 at_]) (AV.tup [AV.agg [AV.str s, AV.sl ((1 : Nat)) es Own.no, AV.sl ((3 : Nat)) es_1 Own.no, AV.int IntKind.i64 n, AV.int IntKind.i64 n_1], AV.int IntKind.i64 n_2, AV.int IntKind.i64 n_3]) [] ∧ ∃ (s_1 : List UInt8), ∃ (es_2 : List AV), ∃ (es_3 : List AV), ∃ (n_4 : Int), ∃ (n_5 : Int), ∃ (n_6 : Int), ∃ (n_7 : Int), CallIs (tbl [((10 : Nat), s10), ((28 : Nat), sRead), ((29 : Nat), sRead), ((31 : Nat), sAppRq), ((32 : Nat), sAppRq), ((30 : Nat), s30), ((13 : Nat), s13), ((16 : Nat), sTrue)] ((29 : Nat)) [AV.sl ((1 : Nat)) (bytesL x_1) Own.no, AV.int IntKind.i64 at_]) (AV.tup [AV.agg [AV.str s_1, AV.sl ((1 : Nat)) es_2 Own.no, AV.sl ((3 : Nat)) es_3 Own.no, AV.int IntKind.i64 n_4, AV.int IntKind.i64 n_5], AV.int IntKind.i64 n_6, AV.int IntKind.i64 n_7]) [] ∧ ∃ (es_4 : List AV), CallIs (tbl [((10 : Nat), s10), ((28 : Nat), sRead), ((29 : Nat), sRead), ((31 : Nat), sAppRq), ((32 : Nat), sAppRq), ((30 : Nat), s30), ((13 : Nat), s13), ((16 : Nat), sTrue)] ((31 : Nat)) [AV.sl ((1 : Nat)) (bytesL x_1) Own.no, AV.agg (w7c1 x)]) (AV.sl ((1 : Nat)) es_4 Own.no) [] ∧ ∃ (es_5 : List AV), CallIs (tbl [((10 : Nat), s10), ((28 : Nat), sRead), ((29 : Nat), sRead), ((31 : Nat), sAppRq), ((32 : Nat), sAppRq), ((30 : Nat), s30), ((13 : Nat), s13), ((16 : Nat), sTrue)] ((32 : Nat)) [AV.sl ((1 : Nat)) (bytesL x_1) Own.no, AV.agg (w7c1 x)]) (AV.sl ((1 : Nat)) es_5 Own.no) [] ∧ ∃ (b : Bool), CallIs (tbl [((10 : Nat), s10), ((28 : Nat), sRead), ((29 : Nat), sRead), ((31 : Nat), sAppRq), ((32 : Nat), sAppRq), ((30 : Nat), s30), ((13 : Nat), s13), ((16 : Nat), sTrue)] ((30 : Nat)) [AV.sl ((1 : Nat)) es_4 Own.no, AV.sl ((1 : Nat)) es_5 Own.no]) (AV.bool b) [] ∧ (b = true → ∃ (b : Bool), CallIs (tbl [((10 : Nat), s10), ((28 : Nat), sRead), ((29 : Nat), sRead), ((31 : Nat), sAppRq), ((32 : Nat), sAppRq), ((30 : Nat), s30), ((13 : Nat), s13), ((16 : Nat), sTrue)] ((13 : Nat)) [AV.agg [AV.str s, AV.sl ((1 : Nat)) es Own.no, AV.sl ((3 : Nat)) es_1 Own.no, AV.int IntKind.i64 n, AV.int IntKind.i64 n_1], AV.agg [AV.str s_1, AV.sl ((1 : Nat)) es_2 Own.no, AV.sl ((3 : Nat)) es_3 Own.no, AV.int IntKind.i64 n_4, AV.int IntKind.i64 n_5]]) (AV.bool b) [] ∧ (b = true → ((n_2 == n_6) = true → ((n_3 == n_7) = true → ∃ (b : Bool), CallIs (some (AV.bool true, [])) (AV.bool b) [] ∧ (b = true → RetIs (AV.bool true) [] (r, [])) ∧ (b = false → RetIs (AV.bool false) [] (r, []))) ∧ ((n_3 == n_7) = false → RetIs (AV.bool false) [] (r, []))) ∧ ((n_2 == n_6) = false → RetIs (AV.bool false) [] (r, []))) ∧ (b = false → RetIs (AV.bool false) [] (r, []))) ∧ (b = false → RetIs (AV.bool false) [] (r, []))) ∧ (b = false → RetIs (AV.bool true) [] (r, []))) := by kernel_rfl
end Go.Abs
namespace Go.Abs
open Go.Proofs Go.RowKit
section
variable {P : Program} {G : Glob}
theorem ISpecOk.mono {f : FuncId} {s s' : ISpec} (hs : ISpecOk P G f s) (h : ∀ args S p r, s' args S = some (p, r) → p → ∃ p', s args S = some (p', r) ∧ p') : ISpecOk P G f s' := by
 intro g args S r S' hr
 simp only [lowC] at hr
 by_cases e : g = f
 ·subst e
  simp only [if_true] at hr
  split at hr
  case h_2 => cases hr
  rename_i x hx
  split at hr
  case isFalse => cases hr
  rename_i hp
  injection hr with hr
  obtain ⟨p', h1, h2⟩ := h args S x.1 x.2 hx hp
  refine hs g args S r S' ?_
  simp only [lowC, if_true, h1]
  rw [if_pos h2, hr]
 ·simp only [if_neg e] at hr
  cases hr
def sClone (sz bytes : Nat) : ISpec := fun args S => match args with
 | [.sl sz' es _] => if es.isEmpty then some (True, .sl sz [] .full, S) else if sz' = sz then some (es.length * bytes ≤ 140737488355328, .ms S.boxes.length sz es.length, { S with boxes := S.boxes ++ [some (ownC sz es)] }) else none
 | _ => none
theorem oClone {f : FuncId} {e : TypeId} {sz bytes : Nat} (hgd : goodFn P f) (hsz : 0 < sz)
  (hc : ∀ (b off n c : Nat) (news : List Value) (w : World), news.length = n * sz → n ≤ maxLen → n * bytes ≤ 140737488355328 → (∀ j u, news[j]? = some u → w.cell? ⟨b, off + j, none⟩ = some u) → (∀ u ∈ news, u.oneCell' = true) →
   Calls P f #[.slice (some ⟨b, off, none⟩) n c] w fun x w' => ∃ v', x = .returned v' ∧ w'.ownsRow w.heap.size e sz v' n news ∧ v' ≠ .slice none 0 0 ∧ Below w.heap.size w w')
  (hnil : ∀ (n c : Nat) (w : World), Calls P f #[.slice none n c] w fun x w' => x = .returned (.slice none 0 0) ∧ w' = w)
  (h0 : ∀ (a : Addr) (c : Nat) (w : World), Calls P f #[.slice (some a) 0 c] w fun x w' => ∃ A, x = .returned (.slice A 0 0) ∧ Below w.heap.size w w') : ISpecOk P G f (sClone sz bytes) := by
 intro f' args S r S' h
 simp only [lowC] at h
 split at h
 case h_2 => cases h
 rename_i x hx
 split at h
 case isFalse => cases h
 rename_i hp
 injection h with h
 split at hx
 case isFalse => cases hx
 rename_i ef
 subst ef
 unfold sClone at hx
 split at hx
 case h_2 => cases hx
 rename_i sz' es o
 split at hx
 ·rename_i hes
  injection hx with hx
  subst hx
  simp only [Prod.mk.injEq] at h
  obtain ⟨rfl, rfl⟩ := h
  have hes' : es = [] := by simpa using hes
  subst hes'
  refine ⟨hgd, fun N0 w0 I0 E w vs hS hvs hv => ?_⟩
  obtain ⟨a, rfl⟩ := vs_one hvs
  have hr := hv 0 _ _ rfl rfl
  have hout : ∀ (E' : Env) (w' : World) (A : Option Addr), Rep E' w' (.sl sz [] .full) (.slice A 0 0) := fun E' w' A =>
   .sl sz [] .full A 0 (fun _ _ => .bool true) (Nat.le_refl _) (Nat.zero_le _) (.inl rfl) (by simp) (by simp) rfl (by simp) (fun _ _ => rfl)
  cases hr with | sl _ _ _ A cap u hcap hmax hA _ _ _ _ _ =>
  cases A with
  | none =>
   refine (hnil 0 cap w).mono ?_
   rintro x w' ⟨rfl, rfl⟩
   exact ⟨_, E, rfl, hS, Env.Le.refl _ _, hout _ _ _⟩
  | some A =>
   refine (h0 A cap w).mono ?_
   rintro x w' ⟨A', rfl, hb⟩
   obtain ⟨hS1, hL1⟩ := hS.ext hb (I' := E.I) (fun _ _ h => h) (fun _ _ h => .inl h)
   exact ⟨_, _, rfl, hS1, hL1, hout _ _ _⟩
 ·rename_i hes
  split at hx
  case isFalse => cases hx
  rename_i hz
  subst hz
  injection hx with hx
  subst hx
  simp only [Prod.mk.injEq] at h
  obtain ⟨rfl, rfl⟩ := h
  have hes' : es ≠ [] := by simpa using hes
  refine ⟨hgd, fun N0 w0 I0 E w vs hS hvs hv => ?_⟩
  obtain ⟨a, rfl⟩ := vs_one hvs
  have hr := hv 0 _ _ rfl rfl
  obtain ⟨A, cap, rfl⟩ : ∃ A cap, a = .slice A es.length cap := by cases hr with | sl _ _ _ A cap => exact ⟨A, cap, rfl⟩
  obtain ⟨vals, hvals, _, hat⟩ := rep_vals (P := P) hr hsz
  have hAm : (∃ b off, A = some ⟨b, off, none⟩) ∧ es.length ≤ maxLen := by
   cases hr with | sl _ _ _ _ _ u hcap hmax hA _ _ _ _ _ =>
   rcases hA with hA | ⟨b, off, hA, _⟩
   ·exact absurd hA hes'
   ·exact ⟨⟨b, off, hA⟩, Nat.le_trans hcap hmax⟩
  obtain ⟨⟨b, off, rfl⟩, hmax⟩ := hAm
  refine (hc b off es.length cap vals w hvals.1 hmax hp (fun j u hj => (hat b off rfl j u hj).2) hvals.2.2.2.1).mono ?_
  rintro x w' ⟨v', rfl, hown, hnn, hb⟩
  obtain ⟨_, hL1⟩ := hS.ext hb (I' := E.I) (fun _ _ h => h) (fun _ _ h => .inl h)
  obtain ⟨E', h1, h2, h3⟩ := hS.take_new hb hown hnn rfl (hvals.le hL1)
  exact ⟨v', E', rfl, h1, h2, h3⟩
end
end Go.Abs
namespace Go.Proofs.Q24
open Go.RowKit Go.Abs Go.Lib
theorem info65 : (PQ.info? 65).map (fun i => (i.zero, i.size, i.bytes)) = some (some (.agg #[.string ⟨#[]⟩, .int .i64 0, .int .i64 0]), 3, 32) := by kernel_rfl
set_option maxHeartbeats 2000000 in
set_option maxRecDepth 100000 in
theorem clone57 (b off n c : Nat) (news : List Value) (w : World) (hl : news.length = n * 3) (hn : n ≤ maxLen) (hbig : n * 32 ≤ 140737488355328)
  (hc : ∀ j u, news[j]? = some u → w.cell? ⟨b, off + j, none⟩ = some u) (h1 : ∀ u ∈ news, u.oneCell' = true) :
  Calls PQ 57 #[.slice (some ⟨b, off, none⟩) n c] w fun e w' => ∃ v', e = .returned v' ∧ w'.ownsRow w.heap.size 65 3 v' n news ∧ v' ≠ .slice none 0 0 ∧ Below w.heap.size w w' := by
 obtain ⟨i0, hi0, hz0, hz1, hz2⟩ := info_parts info65
 have t22 := Tryz.underlying24
 have q22 : ∀ (w : World) (a : Option Addr) (n c n' c' : Nat), (binOp .eql 24 (.slice a n c) (.slice none n' c')).run PQ w = .ok (.bool a.isNone) w := fun w a n c n' c' => Lib.run_eql_slice_nil w _ _ a n c n' c' Tryz.underlying24
 have u22 : ∀ w, Sem.run PQ (underlying 24) w = .ok (TypeDesc.slice 65) w := run_underlying t22
 have A : Aside (∀ j u, news[j]? = some u → w.cell? ⟨b, off + j, none⟩ = some u) := hc
 clear hc
 go_enter Tryz.func57, Tryz.ntmps57
 go_wp2_with (at_builtin; refine wpList_append_own _ rfl _ _ 24 rfl w.heap.size 65 i0 _ 3 32 t22 hi0 hz0 hz1 hz2 rfl (by decide) _ _ _ rfl (World.ownsRow_made w #[] 0 (Nat.le_refl _) (Nat.zero_le _) (by simp)) ⟨b, off, none⟩ n c news rfl ?qc1 ?qc2 ?qc3 ?qc4 ?qc5 ?qc6 ?_)
 case qc1 => exact hl
 case qc2 =>
  intro j u hj
  rw [Addr.add_lit]
  exact Lib.cell?_alloc_some _ (A.out j u hj)
 case qc3 => exact h1
 case qc4 => rw [Nat.zero_add]; exact hn
 case qc5 => rw [Nat.zero_add]; exact hbig
 case qc6 => simp
 intro v' w1 hown hgrow hnil
 go_wp2
 go_ret
 refine ⟨v', rfl, by simpa using hown, hnil, ?_⟩
 exact ((Below.refl _ w).alloc (Nat.le_refl _) _).grown hgrow (by simp) (by intro k hk; simp [Value.ownBlock] at hk; omega)
theorem cloneNil57 (n c : Nat) (w : World) : Calls PQ 57 #[.slice none n c] w fun e w' => e = .returned (.slice none 0 0) ∧ w' = w := by
 have q22 : ∀ (w : World) (a : Option Addr) (n c n' c' : Nat), (binOp .eql 24 (.slice a n c) (.slice none n' c')).run PQ w = .ok (.bool a.isNone) w := fun w a n c n' c' => Lib.run_eql_slice_nil w _ _ a n c n' c' Tryz.underlying24
 go_enter Tryz.func57, Tryz.ntmps57
 go_wp2
 go_ret
 exact ⟨rfl, rfl⟩
theorem cloneEmpty57 (a : Addr) (c : Nat) (w : World) : Calls PQ 57 #[.slice (some a) 0 c] w fun e w' => ∃ A, e = .returned (.slice A 0 0) ∧ Below w.heap.size w w' := by
 have q22 : ∀ (w : World) (a : Option Addr) (n c n' c' : Nat), (binOp .eql 24 (.slice a n c) (.slice none n' c')).run PQ w = .ok (.bool a.isNone) w := fun w a n c n' c' => Lib.run_eql_slice_nil w _ _ a n c n' c' Tryz.underlying24
 have u22 : ∀ w, Sem.run PQ (underlying 24) w = .ok (TypeDesc.slice 65) w := run_underlying Tryz.underlying24
 go_enter Tryz.func57, Tryz.ntmps57
 go_wp2
 go_ret
 exact ⟨_, rfl, (Below.refl _ w).alloc (Nat.le_refl _) _⟩
end Go.Proofs.Q24
namespace Go.Abs
open Go.Proofs
theorem o57 (m : Int) : ISpecOk PQ (GQ m) 57 (sClone 3 32) := oClone (goodQ (by kernel_rfl)) (by decide) Q24.clone57 Q24.cloneNil57 Q24.cloneEmpty57
end Go.Abs
namespace Go.Abs
open Go.Proofs
def libT : List (FuncId × Spec) := [(161, sIndexByte), (163, sIndexByteString), (133, sContains)]
theorem libT_ok (m : Int) : CalleeOk PQ (GQ m) (tbl libT) := by
 refine tbl_cons (o_indexByte (fn := Tryz.f161) (by kernel_rfl) (by kernel_rfl) (by kernel_rfl) (by kernel_rfl) (by kernel_rfl)) (tbl_cons (o_indexByteString (fn := Tryz.f163) (by kernel_rfl) (by kernel_rfl) (by kernel_rfl) (by kernel_rfl) (by kernel_rfl)) (tbl_cons ?_ tbl_nil))
 exact o_contains (goodQ (by kernel_rfl)) (g0 := 0) (m := m) rfl fun s sub m w hs hm => Tryz.strings_Contains s sub m w hs hm
def src0 : List UInt8 := [111, 102, 32, 117, 115, 101, 114, 32, 116, 97, 107, 101, 32, 97, 44, 32, 98, 32, 115, 101, 101, 100, 32, 55, 32, 107, 101, 101, 112, 32, 53, 48, 48, 32, 97, 116, 32, 34, 117, 34, 32, 49, 48, 32, 50, 48, 44, 32, 34, 118, 34, 32, 53, 32, 57]
def tok0 : List Tk := [⟨1, [111, 102], 0⟩, ⟨1, [117, 115, 101, 114], 3⟩, ⟨1, [116, 97, 107, 101], 8⟩, ⟨1, [97], 13⟩, ⟨5, [44], 14⟩, ⟨1, [98], 16⟩, ⟨1, [115, 101, 101, 100], 18⟩, ⟨2, [55], 23⟩, ⟨1, [107, 101, 101, 112], 25⟩, ⟨2, [53, 48, 48], 30⟩, ⟨1, [97, 116], 34⟩, ⟨4, [117], 37⟩, ⟨2, [49, 48], 41⟩, ⟨2, [50, 48], 44⟩, ⟨5, [44], 46⟩, ⟨4, [118], 48⟩, ⟨2, [53], 52⟩, ⟨2, [57], 54⟩, ⟨6, [], 55⟩]
set_option maxRecDepth 100000 in
theorem run36_0 (m : Int) : (evs PQ (GQ m) (tbl libT) (fun _ => []) 200).1 36 [bytesA src0] = some (.tup [.sl 3 (toksL tok0) (.tok 0), .sl 0 [] .nil, .int .i64 0], [(19, 99)]) := by kernel_rfl
def src1 : List UInt8 := [111, 102, 32, 117, 115, 101, 114, 32, 116, 97, 107, 101, 32, 97, 44, 32, 97, 32, 115, 101, 101, 100, 32, 48, 32, 107, 101, 101, 112, 32, 49, 48, 48, 48]
def tok1 : List Tk := [⟨1, [111, 102], 0⟩, ⟨1, [117, 115, 101, 114], 3⟩, ⟨1, [116, 97, 107, 101], 8⟩, ⟨1, [97], 13⟩, ⟨5, [44], 14⟩, ⟨1, [97], 16⟩, ⟨1, [115, 101, 101, 100], 18⟩, ⟨2, [48], 23⟩, ⟨1, [107, 101, 101, 112], 25⟩, ⟨2, [49, 48, 48, 48], 30⟩, ⟨6, [], 34⟩]
set_option maxRecDepth 100000 in
theorem run36_1 (m : Int) : (evs PQ (GQ m) (tbl libT) (fun _ => []) 200).1 36 [bytesA src1] = some (.tup [.sl 3 (toksL tok1) (.tok 0), .sl 0 [] .nil, .int .i64 0], [(11, 99)]) := by kernel_rfl
def src2 : List UInt8 := [111, 102, 32, 117, 115, 101, 114, 32, 116, 97, 107, 101, 32, 97, 32, 115, 101, 101, 100, 32, 48, 32, 107, 101, 101, 112, 32, 49, 48, 48, 48, 32, 97, 116, 32, 34, 117, 34, 32, 49, 48]
def tok2 : List Tk := [⟨1, [111, 102], 0⟩, ⟨1, [117, 115, 101, 114], 3⟩, ⟨1, [116, 97, 107, 101], 8⟩, ⟨1, [97], 13⟩, ⟨1, [115, 101, 101, 100], 15⟩, ⟨2, [48], 20⟩, ⟨1, [107, 101, 101, 112], 22⟩, ⟨2, [49, 48, 48, 48], 27⟩, ⟨1, [97, 116], 32⟩, ⟨4, [117], 35⟩, ⟨2, [49, 48], 39⟩, ⟨6, [], 41⟩]
set_option maxRecDepth 100000 in
theorem run36_2 (m : Int) : (evs PQ (GQ m) (tbl libT) (fun _ => []) 200).1 36 [bytesA src2] = some (.tup [.sl 3 (toksL tok2) (.tok 0), .sl 0 [] .nil, .int .i64 0], [(12, 99)]) := by kernel_rfl
def src3 : List UInt8 := [111, 102, 32, 105, 102, 32, 116, 97, 107, 101, 32, 97]
def tok3 : List Tk := [⟨1, [111, 102], 0⟩, ⟨1, [105, 102], 3⟩, ⟨1, [116, 97, 107, 101], 6⟩, ⟨1, [97], 11⟩, ⟨6, [], 12⟩]
set_option maxRecDepth 100000 in
theorem run36_3 (m : Int) : (evs PQ (GQ m) (tbl libT) (fun _ => []) 200).1 36 [bytesA src3] = some (.tup [.sl 3 (toksL tok3) (.tok 0), .sl 0 [] .nil, .int .i64 0], [(5, 99)]) := by kernel_rfl
theorem evs_spec {P : Program} {G : Glob} {R0 : Callee} {hint : FuncId → List Bool} (hm : P.follows .mixedOrders = true) (h0 : CalleeOk P G R0) (n : Nat) (f : FuncId) : SpecOk P G f ((evs P G R0 hint n).1 f) := by
 intro g args r lv h
 by_cases e : g = f
 ·subst e
  simp only [if_true] at h
  exact (evs_ok hm h0 hint n).1 g args r lv h
 ·simp only [e, if_false] at h
  cases h
def exT (bs : List UInt8) : Option (List Tk) := if bs = src0 then some tok0 else if bs = src1 then some tok1 else if bs = src2 then some tok2 else if bs = src3 then some tok3 else none
def s36x : Spec := fun args => match args with
 | [.sl 1 es .no] => (unBytes es).bind fun bs => (exT bs).map fun ts => s36v ts [] 0
 | _ => none
def s11x : Spec := fun args => match args with
 | [.sl 1 es .no] => (unBytes es).bind fun bs => (exT bs).map fun ts => (resT ts [] 0, [])
 | _ => none
theorem exT_inv {bs : List UInt8} {ts : List Tk} (h : exT bs = some ts) : (bs = src0 ∧ ts = tok0) ∨ (bs = src1 ∧ ts = tok1) ∨ (bs = src2 ∧ ts = tok2) ∨ (bs = src3 ∧ ts = tok3) := by
 unfold exT at h
 split at h
 ·rename_i e; injection h with h; exact .inl ⟨e, h.symm⟩
 split at h
 ·rename_i e; injection h with h; exact .inr (.inl ⟨e, h.symm⟩)
 split at h
 ·rename_i e; injection h with h; exact .inr (.inr (.inl ⟨e, h.symm⟩))
 split at h
 ·rename_i e; injection h with h; exact .inr (.inr (.inr ⟨e, h.symm⟩))
 ·cases h
theorem good_ex {bs : List UInt8} {ts : List Tk} (h : exT bs = some ts) : GoodT ts := by
 rcases exT_inv h with ⟨_, rfl⟩ | ⟨_, rfl⟩ | ⟨_, rfl⟩ | ⟨_, rfl⟩
 ·exact ⟨⟨tok0.dropLast, tok0.getLast (by decide), rfl, rfl⟩, by decide, by decide⟩
 ·exact ⟨⟨tok1.dropLast, tok1.getLast (by decide), rfl, rfl⟩, by decide, by decide⟩
 ·exact ⟨⟨tok2.dropLast, tok2.getLast (by decide), rfl, rfl⟩, by decide, by decide⟩
 ·exact ⟨⟨tok3.dropLast, tok3.getLast (by decide), rfl, rfl⟩, by decide, by decide⟩
theorem ex_inv {args : List AV} {r : AV × List (Nat × TypeId)} {k : List Tk → AV × List (Nat × TypeId)} (h : (match args with
 | [.sl 1 es .no] => (unBytes es).bind fun bs => (exT bs).map k
 | _ => none) = some r) : ∃ bs ts, args = [bytesA bs] ∧ exT bs = some ts ∧ r = k ts := by
 split at h
 case h_2 => cases h
 rename_i es
 cases hb : unBytes es with
 | none => rw [hb] at h; cases h
 | some bs =>
  rw [hb] at h
  simp only [Option.bind_some] at h
  cases ht : exT bs with
  | none => rw [ht] at h; cases h
  | some ts =>
   rw [ht] at h
   simp only [Option.map_some, Option.some.injEq] at h
   exact ⟨bs, ts, by rw [unBytes_some hb], ht, h.symm⟩
theorem s36x_at {bs : List UInt8} {ts : List Tk} (h : exT bs = some ts) : s36x [bytesA bs] = some (s36v ts [] 0) := by
 simp only [s36x, unBytes_mk, Option.bind_some, h, Option.map_some]
theorem toks_lax (ts : List Tk) (L : Nat) : RetLax (.tup [.sl 3 (toksL ts) (.tok L), .sl 0 [] .nil, .int .i64 0]) (s36v ts [] 0) := by
 refine ⟨?_, ?_, rfl⟩
 ·exact ⟨⟨rfl, rfl, .inl rfl⟩, ⟨rfl, rfl, .inr rfl⟩, rfl, trivial⟩
 ·rfl
theorem o36 (m : Int) : SpecOk PQ (GQ m) 36 s36x := SpecOk.own (evs_spec mixedQ (libT_ok m) 200 36) fun args r h => by
 obtain ⟨bs, ts, rfl, ht, rfl⟩ := ex_inv h
 rcases exT_inv ht with ⟨rfl, rfl⟩ | ⟨rfl, rfl⟩ | ⟨rfl, rfl⟩ | ⟨rfl, rfl⟩
 ·exact ⟨_, run36_0 m, toks_lax _ _, fun L => toks_lax _ L⟩
 ·exact ⟨_, run36_1 m, toks_lax _ _, fun L => toks_lax _ L⟩
 ·exact ⟨_, run36_2 m, toks_lax _ _, fun L => toks_lax _ L⟩
 ·exact ⟨_, run36_3 m, toks_lax _ _, fun L => toks_lax _ L⟩
theorem o11x (m : Int) : SpecOk PQ (GQ m) 11 s11x := tlax_of' mixedQ fun args r h => by
 obtain ⟨bs, ts, rfl, ht, rfl⟩ := ex_inv h
 have hR := tbl_cons (o36 m) (tbl_cons (o46 m) tbl_nil)
 exact ⟨_, _, _, _, _, _, hR, itbl_nil, inlW_ok mixedQ hR itbl_nil (J1_ok m), p11 m s36x bs ts [] 0 (s36x_at ht) fun _ _ _ => good_ex ht⟩
noncomputable def evI (m : Int) (f : FuncId) : ISpec := fun args S => ((evs PQ (GQ m) (tbl libT) (fun _ => []) 100).2 f args S).map fun r => (True, r.1, r.2)
theorem evI_ok (m : Int) (f : FuncId) : ISpecOk PQ (GQ m) f (evI m f) := by
 intro g args S r S' h
 simp only [lowC] at h
 by_cases e : g = f
 ·subst e
  simp only [if_true] at h
  split at h
  case h_2 => cases h
  rename_i y hy
  split at h
  case isFalse => cases h
  injection h with h
  unfold evI at hy
  cases hx : (evs PQ (GQ m) (tbl libT) (fun _ => []) 100).2 g args S with
  | none => rw [hx] at hy; cases hy
  | some x =>
   rw [hx] at hy
   injection hy with hy
   subst hy
   exact (evs_ok mixedQ (libT_ok m) (fun _ => []) 100).2 g args S r S' (by rw [hx, ← h])
 ·simp only [if_neg e] at h
  cases h
def lv0 : List Lb := [⟨[118], 5, 9⟩, ⟨[117], 10, 20⟩, ⟨[117], 9, 30⟩, ⟨[118], 5, 9⟩]
def lvS : List Lb := [⟨[117], 9, 30⟩, ⟨[117], 10, 20⟩, ⟨[118], 5, 9⟩]
def s21x : Spec := fun args => match args with
 | [.sl sz es _] => if sz = 3 ∧ unL unLb es = some lv0 then some (.sl 3 (lbsL lvS) .no, []) else none
 | _ => none
theorem w21x (m : Int) (r : AV) : (laxW PQ (GQ m) X24 (tbl []) (itbl [(57, sClone 3 32), (58, evI m 58), (60, evI m 60)]) nAn [] 21 [.sl 3 (lbsL lv0) .no] (r, [])) =
(Nat.le 128 140737488355328 ∧ True ∧ True ∧ (3 : Nat) = (3 : Nat) ∧ RetLax (AV.sl 3 [AV.agg [AV.str [117], I6 9, I6 30], AV.agg [AV.str [117], I6 10, I6 20], AV.agg [AV.str [118], I6 5, I6 9]] Own.no) (r, [])) := by kernel_rfl
end Go.Abs
namespace Go.Abs
open Go.Proofs Go.RowKit
def q14a : Oper := { dst := some 53, op := .call { callee := .value (.func 53), args := #[.tmp 3], argTypes := #[107] }, type := 9, pos := "request.go:156", after := #[], guard := none }
def q14b : Oper := { dst := some 2, op := .assign (.tmp 53), type := 9, pos := "request.go:156", after := #[{ on := 0, ground := .data }, { on := 0, ground := .chain }, { on := 0, ground := .phase }], guard := none }
def b14 : Code := .seq (.region 13 #[q14a, q14b] false) .ret
theorem f14_at : PQ.funcs[14]? = some Tryz.f14 := by kernel_rfl
noncomputable def c14 : Code := (Tryz.f14.body).getD .skip
theorem f14_body : Tryz.f14.body = some c14 := by kernel_rfl
theorem f14_tail : codeAt 13 c14 = some b14 := by kernel_rfl
theorem f14_good : goodFn PQ 14 := goodQ (by kernel_rfl)
theorem f53_good : goodFn PQ 53 := goodQ (by kernel_rfl)
theorem f14_res : Tryz.f14.results = #[.tmp 2] := by kernel_rfl
theorem tS_ok (m : Int) : CalleeOk PQ (GQ m) (tbl tS) := tbl_cons (o46 m) (tbl_cons (o51 m) (tbl_cons (o52 m) tbl_nil))
theorem o14 (m : Int) : SpecOk PQ (GQ m) 14 s14 := by
 refine tailQ_of (X := XS) (R := tbl tS) (C := itbl [(50, s50)]) mixedQ (tS_ok m) (itbl_cons (o50 m) itbl_nil) f14_at f14_body f14_good fun args r h => ?_
 unfold s14 at h
 split at h
 case h_2 => cases h
 split at h
 case h_2 => cases h
 rename_i a0 x hx
 injection h with h
 subst h
 obtain rfl := unRqN_inv _ _ hx
 refine ⟨[4, 5, 10], a14 x, [], 13, _, rfl, p14 m x, fun wb Eb b T S E w a hb hH hS hL hT hd => ?_⟩
 rw [f14_tail] at hb
 injection hb with hb
 subst hb
 obtain ⟨hp, ⟨b0, t, hS0, ht, hne⟩, hn54⟩ := hH
 have hr3 := hT.get 3
 rw [hp] at hr3
 obtain ⟨blk, hv3, hB⟩ := rep_ptr hr3
 have hb1 : S.boxes[1]? = some (some (typB 107 [.opq, .sl 1 (bytesL t) (.tok 0)])) := by rw [hS0]; rfl
 have hl1 : S.live = [(t.length, 5)] := by rw [hS0]
 have hcall := str_walk hS hb1 hB hl1 hne
 have hsz : a.tmps.size = 54 := by rw [← hT.1, hn54]
 refine wp_seq (wp_region_list ?_)
 have hrun : (execOp a.eval q14a).run PQ w = .ok (.enter 53 #[a.tmps.getD 3 undef]) w := by
  simp [execOp, q14a, resolve, Act.eval, Deferred.ofValue, invoke, run_callFunc f53_good]
 refine .inl ?_
 unfold Oper.wp
 rw [hrun, Oper.upon_enter, hv3]
 refine hcall.mono fun e w' ⟨he, hbel, hsize⟩ => ?_
 subst he
 refine .inl ?_
 unfold Oper.wp
 have hrun2 : (execOp (a.put (some 53) (.string ⟨t.toArray⟩)).eval q14b).run PQ w' = .ok (.value ((a.put (some 53) (.string ⟨t.toArray⟩)).eval (.tmp 53))) w' := rfl
 rw [show q14a.dst = some 53 from rfl, hrun2, Oper.upon_value]
 refine wp_ret ?_
 refine ⟨by simpa [Act.put, q14b] using hd, _, results_tmp f14_res _ _ _, _, rfl, ?_⟩
 subst ht
 have hval : ((a.put (some 53) (.string ⟨(fmtL x).toArray⟩)).put (some 2) ((a.put (some 53) (.string ⟨(fmtL x).toArray⟩)).eval (.tmp 53))).tmps.getD 2 undef = .string ⟨(fmtL x).toArray⟩ := by
  simp [Act.put, Act.eval, hsz]
 rw [show q14b.dst = some 2 from rfl, hval]
 exact res_below hbel.below fun B K => .str _ _ rfl
end Go.Abs
namespace Go.Abs
open Go.Proofs
theorem p21x (m : Int) : LaxOk PQ (GQ m) X24 (tbl []) (itbl [(57, sClone 3 32), (58, evI m 58), (60, evI m 60)]) nAn [] 21 [.sl 3 (lbsL lv0) .no] (.sl 3 (lbsL lvS) .no, []) := by
 constructor
 rw [w21x]; unfold I6
 exact ⟨Nat.le_of_ble_eq_true rfl, trivial, trivial, rfl, ⟨rfl, rfl, .inl rfl⟩, rfl, rfl⟩
theorem o21x (m : Int) : SpecOk PQ (GQ m) 21 s21x := lax_ofW (X := X24) (m := []) [3] mixedQ tbl_nil (itbl_cons (o57 m) (itbl_cons (evI_ok m 58) (itbl_cons (evI_ok m 60) itbl_nil))) fun args r h => by
 unfold s21x at h
 split at h
 case h_2 => cases h
 split at h
 case isFalse => cases h
 rename_i hc
 obtain ⟨rfl, hu⟩ := hc
 injection h with h
 subst h
 obtain rfl := unL_inv unLb_inv hu
 exact ⟨nAn, p21x m⟩
theorem SpecOk.sub {P : Program} {G : Glob} {f : FuncId} {s s' : Spec} (hs : SpecOk P G f s) (h : ∀ args r, s' args = some r → s args = some r) : SpecOk P G f s' := by
 intro g args r lv hr
 by_cases e : g = f
 ·subst e
  simp only [if_true] at hr
  exact hs g args r lv (by simp only [if_true]; exact h _ _ hr)
 ·simp only [e, if_false] at hr
  cases hr
def s11y : Spec := fun args => match args with
 | [.sl 1 (e :: es) _] => s11x [.sl 1 (e :: es) .no]
 | _ => none
theorem o11y (m : Int) : SpecOk PQ (GQ m) 11 s11y := spec_wk [1] fun args r h => (o11x m).sub fun a r' h' => by
 split at h'
 ·rename_i e
  subst e
  injection h' with h'
  subst h'
  unfold s11y at h
  split at h
  case h_2 => cases h
  exact h
 ·cases h'
def s14y : Spec := fun args => match args with
 | [.agg [.str e, .sl 1 (f :: fs) _, .sl 3 (l :: ls) _, s, p]] => s14 [.agg [.str e, .sl 1 (f :: fs) .no, .sl 3 (l :: ls) .no, s, p]]
 | _ => none
def asI (R : Callee) (f : FuncId) : ISpec := fun args S => (callA R S f args).map fun x => (True, x.1, x.2)
theorem asI_ok {P : Program} {G : Glob} {R : Callee} (hR : CalleeOk P G R) {f : FuncId} (hg : goodFn P f) : ISpecOk P G f (asI R f) := by
 intro g args S r S' h
 simp only [lowC] at h
 by_cases e : g = f
 ·subst e
  simp only [if_true] at h
  split at h
  case h_2 => cases h
  rename_i y hy
  split at h
  case isFalse => cases h
  injection h with h
  unfold asI at hy
  cases hx : callA R S g args with
  | none => rw [hx] at hy; cases hy
  | some x =>
   rw [hx] at hy
   injection hy with hy
   subst hy
   obtain ⟨x1, x2⟩ := x
   injection h with e1 e2
   simp only at e1 e2
   subst e1; subst e2
   refine ⟨hg, fun N0 w0 I0 E w vs hS hn hv => ?_⟩
   rcases callA_wp hR hS hn hv hx with ⟨_, hc⟩ | ⟨v, w', hrun, _⟩
   ·exact hc
   ·rw [run_callFunc hg] at hrun; cases hrun
 ·simp only [if_neg e] at h
  cases h
def tX : List (FuncId × Spec) := [(11, s11y), (14, s14y), (21, s21x)]
noncomputable def RX (m : Int) : Callee := (evs PQ (GQ m) (tbl tX) (fun _ => []) 60).1
noncomputable def CX (m : Int) : CCallee := itbl [(11, asI (RX m) 11), (13, asI (RX m) 13), (14, asI (RX m) 14), (21, asI (RX m) 21), (22, asI (RX m) 22)]
theorem w16 (m : Int) (r : AV) : (tqW PQ idMk (GQ m) X24 (tbl []) (CX m) [4, 5, 6] nAn [] 99 (fun _ _ => False) 16 [] (fun r0 _ => RetLax r0 (r, []))) =
((55 : Nat) ≤ (70368744177664 : Nat) ∧ True ∧ True ∧ True ∧ True ∧ True ∧ (false = true → RetLax (AV.bool false) (r, [])) ∧ (false = false → (false = true → RetLax (AV.bool false) (r, [])) ∧ (false = false → True ∧ (true = true → True ∧ (false = true → RetLax (AV.bool false) (r, [])) ∧ (false = false → (false = true → RetLax (AV.bool false) (r, [])) ∧ (false = false → (false = true → RetLax (AV.bool false) (r, [])) ∧ (false = false → (false = true → RetLax (AV.bool false) (r, [])) ∧ (false = false → (false = true → RetLax (AV.bool false) (r, [])) ∧ (false = false → (false = true → RetLax (AV.bool false) (r, [])) ∧ (false = false → (false = true → RetLax (AV.bool false) (r, [])) ∧ (false = false → True ∧ (true = true → RetLax (AV.bool true) (r, [])) ∧ (true = false → RetLax (AV.bool false) (r, [])))))))))) ∧ (true = false → RetLax (AV.bool false) (r, []))))) := by kernel_rfl
theorem rep_agg_wk {E : Env} {w : World} {e f l s p : AV} {fs ls : List AV} {o1 o2 : Own} {v : Value} (h : Rep E w (.agg [e, .sl 1 (f :: fs) o1, .sl 3 (l :: ls) o2, s, p]) v) : Rep E w (.agg [e, .sl 1 (f :: fs) .no, .sl 3 (l :: ls) .no, s, p]) v := by
 cases h with | agg _ vs hn h1 h =>
 refine .agg _ vs hn h1 fun i c v hc hv => ?_
 match i, hc with
 | 0, hc => exact h 0 c v hc hv
 | 1, hc => simp at hc; subst hc; exact rep_wk (z := 1) (h 1 _ v rfl hv)
 | 2, hc => simp at hc; subst hc; exact rep_wk (z := 3) (h 2 _ v rfl hv)
 | 3, hc => exact h 3 c v hc hv
 | 4, hc => exact h 4 c v hc hv
 | i + 5, hc => simp at hc
theorem o14y (m : Int) : SpecOk PQ (GQ m) 14 s14y := by
 intro g args r lv hr
 by_cases e : g = 14
 ·subst e
  simp only [if_true] at hr
  unfold s14y at hr
  split at hr
  case h_2 => cases hr
  rename_i e f fs o1 l ls o2 s p
  intro E w vs hI hG hn hv hcl
  refine o14 m 14 [.agg [.str e, .sl 1 (f :: fs) .no, .sl 3 (l :: ls) .no, s, p]] r lv (by simp only [if_true]; exact hr) E w vs hI hG hn (fun i c v hi hv' => ?_) fun c hc => ?_
  ·match i, hi with
   | 0, hi => simp at hi; subst hi; exact rep_agg_wk (hv 0 _ v rfl hv')
   | i + 1, hi => simp at hi
  ·simp at hc
   subst hc
   have := hcl _ List.mem_cons_self
   simp [AV.closed1, AV.closed] at this ⊢
   exact ⟨this.2.2.1, this.2.2.2⟩
 ·simp only [e, if_false] at hr
  cases hr
theorem tX_ok (m : Int) : CalleeOk PQ (GQ m) (tbl tX) := tbl_cons (o11y m) (tbl_cons (o14y m) (tbl_cons (o21x m) tbl_nil))
theorem RX_ok (m : Int) : CalleeOk PQ (GQ m) (RX m) := (evs_ok mixedQ (tX_ok m) (fun _ => []) 60).1
theorem CX_ok (m : Int) : ICalleeOk PQ (GQ m) (lowC (CX m)) :=
 itbl_cons (asI_ok (RX_ok m) (goodQ (by kernel_rfl))) (itbl_cons (asI_ok (RX_ok m) (goodQ (by kernel_rfl))) (itbl_cons (asI_ok (RX_ok m) (goodQ (by kernel_rfl))) (itbl_cons (asI_ok (RX_ok m) (goodQ (by kernel_rfl))) (itbl_cons (asI_ok (RX_ok m) (goodQ (by kernel_rfl))) itbl_nil))))
theorem p16 (m : Int) : TqOk PQ (GQ m) X24 (tbl []) (CX m) [4, 5, 6] nAn [] 99 (fun _ _ => False) 16 [] (.bool true) := by
 constructor
 rw [w16]
 have ht : RetLax (AV.bool true) (.bool true, []) := ⟨rfl, rfl, rfl⟩
 simp only [Bool.false_eq_true, false_implies, true_implies, Bool.true_eq_false, and_true, ht]
 decide
theorem f16_at : PQ.funcs[16]? = some Tryz.f16 := by kernel_rfl
noncomputable def c16 : Code := (Tryz.f16.body).getD .skip
theorem f16_body : Tryz.f16.body = some c16 := by kernel_rfl
theorem f16_tail : codeAt 99 c16 = none := by kernel_rfl
theorem o16 (m : Int) : SpecOk PQ (GQ m) 16 sTrue := by
 refine tailQ_of (X := X24) (R := tbl []) (C := CX m) mixedQ tbl_nil (CX_ok m) f16_at f16_body (goodQ (by kernel_rfl)) fun args r h => ?_
 unfold sTrue at h
 split at h
 case h_2 => cases h
 injection h with h
 subst h
 refine ⟨_, _, _, 99, _, rfl, p16 m, fun wb Eb b T S E w a hb hH hS hL hT hd => ?_⟩
 rw [f16_tail] at hb
 cases hb
end Go.Abs
namespace Go.Abs
open Go.Proofs Go.Wire
def rdP (x : Except Int (Rq × Int)) : PRq :=
 match x with
 | .error e => ⟨zRq, 0, e⟩
 | .ok (r, a) => if formB r then ⟨r, a, 0⟩ else ⟨zRq, 0, 240⟩
theorem resR_prA (x : Except Int (Rq × Int)) : resR x = prA (rdP x) := by
 unfold resR rdP
 cases x with
 | error e => rfl
 | ok p => obtain ⟨r, a⟩ := p; simp only; split <;> rfl
theorem rdP_few (x : Except Int (Rq × Int)) : (rdP x).r.feats.length ≤ 8 ∧ (rdP x).r.labels.length ≤ 256 := by
 unfold rdP
 split
 ·exact ⟨Nat.zero_le _, Nat.zero_le _⟩
 ·split
  ·rename_i h
   have F := fmt_in h
   exact ⟨F.nf, F.nl⟩
  ·exact ⟨Nat.zero_le _, Nat.zero_le _⟩
theorem runRd {bs : List UInt8} {a : Int} (h : bs.length ≤ 2000) : sRead [.sl 1 (bytesL bs) .no, .int .i64 a] = some (prA (rdP (readRq bs a)), []) := by
 have hs : strOk bs := by show bs.length ≤ 2000000; omega
 unfold sRead
 rw [sRd_at hs, resR_prA]
theorem app_len {bs : List UInt8} {x : Rq} (h : bs.length ≤ 2000) : (appRq bs x).length ≤ 2000000 := by
 unfold appRq
 split
 ·rename_i b
  have F := enc_in bs b
  have f5 := F.h5 x.labels.length
  rw [List.take_length] at f5
  have z1 := zig_len F.sd
  have z2 := zig_len F.pm
  rw [← enc_eq]
  simp only [List.length_append] at f5 ⊢
  omega
 ·omega
theorem p7 (m : Int) (bs : List UInt8) (x : Rq) (at_ : Int) (hk : keysOk x.labels = true) : PureOk PQ (GQ m) XT (tbl t7) (itbl []) (a7 x at_) [] 7 [.sl 1 (bytesL bs) .no, rqA x, .int .i64 at_] (.bool true, []) := by
 constructor
 rw [w7]; unfold w7c1
 refine ⟨_, ⟨run10 x⟩, fun b1 => ⟨⟨fun h => ⟨by omega, ⟨by omega, ?_⟩, .inl rfl, bs.take 2000, ⟨?_⟩, ⟨rfl⟩, ?_, trivial⟩, fun h => ⟨bs, ⟨rfl⟩, ⟨rfl⟩, ?_, trivial⟩⟩, fun y hy _ => ?_⟩, fun _ => ⟨rfl⟩⟩
 ·have := of_decide_eq_true h
  omega
 ·rw [List.drop_zero, show bytesL (bs.take 2000) = (bytesL bs).take 2000 from List.map_take ..]
 ·rw [List.length_take]; omega
 ·have := of_decide_eq_false h
  have e : (bytesL bs).length = bs.length := List.length_map _
  omega
 ·obtain ⟨f1, f2⟩ := rdP_few (readRq y at_)
  have hA := runApp (bs := y) (x := x) (by omega) hk
  refine ⟨_, _, _, _, _, _, _, ⟨runRd hy⟩, _, _, _, _, _, _, _, ⟨runRd hy⟩, _, ⟨hA⟩, _, ⟨hA⟩, _, ⟨run30 (app_len hy)⟩, fun _ => ⟨_, ⟨run13 (x := (rdP (readRq y at_)).r) (y := (rdP (readRq y at_)).r) (by omega) (by omega)⟩, fun _ => ⟨fun _ => ⟨fun _ => ⟨_, ⟨rfl⟩, fun _ => ⟨rfl⟩, nofun⟩, fun h => ?_⟩, fun h => ?_⟩, fun h => ?_⟩, fun h => ?_⟩
  ·simp at h
  ·simp at h
  ·simp at h
  ·simp at h
def sLaw7 : Spec := fun args => match args with
 | [.sl 1 es .no, b, .int .i64 _] => match unBytes es, unRqN b with
  | some _, some r => if keysOk r.labels = true then some (.bool true, []) else none
  | _, _ => none
 | _ => none
theorem oLaw7 (m : Int) : SpecOk PQ (GQ m) 7 sLaw7 := spec_of (X := XT) (m := []) mixedQ (tbl_cons (o10 m) (tbl_cons (o28 m) (tbl_cons (o29 m) (tbl_cons (o31 m) (tbl_cons (o32 m) (tbl_cons (o30 m) (tbl_cons (o13 m) (tbl_cons (o16 m) tbl_nil)))))))) itbl_nil fun args r h => by
 unfold sLaw7 at h
 split at h
 case h_2 => cases h
 split at h
 case h_2 => cases h
 rename_i h1 h2
 split at h
 case isFalse => cases h
 rename_i hk
 injection h with h; subst h
 rw [unBytes_some h1, unRqN_inv _ _ h2]
 exact ⟨_, p7 m _ _ _ hk⟩
theorem sLaw7_true (bs : List UInt8) (r : Rq) (n : Int) (hk : keysOk r.labels = true) : sLaw7 [.sl 1 (bytesL bs) .no, rqA r, .int .i64 n] = some (.bool true, []) := by
 simp only [sLaw7, unBytes_mk, unRqN_ok, hk, if_true]
end Go.Abs
namespace Go.Abs
open Go.ChangeShapes Go.WideShapes Go.ChangeAt Go.RowKit Go.Deep Go.ChangeMaps
open Go.Proofs Go.Proofs.YtfcdefnkhkijaaaGreatDoor
section
variable {H : Type} {enc : TypeId × Value → H} {P : Program} {W : World}
def ElemR (P : Program) (W : World) (enc : TypeId × Value → H) (e : TypeId) {α : Type} (g : α → AV) (Q : α → DataW H → Prop) : Prop :=
 ∀ n cs x, DataW.trod enc P W 0 (fun _ => true) true n e cs = some x → ∃ a : α, Q a x.1 ∧ ∀ (j : Nat) (c : AV) (u : Value), (g a).cells[j]? = some c → cs[j]? = some u → Rep (oldE W) W c u ∧ u.oneCell' = true
theorem open_slR {t e : TypeId} {sz : Nat} {α : Type} [Inhabited α] {g : α → AV} {Q : α → DataW H → Prop} (ht : P.underlying t = some (.slice e)) (hc : P.cellsOf e = sz) (hsz : 0 < sz) (hg : ∀ a, (g a).cells.length = sz ∧ (g a).closed1 = true) (hel : ElemR P W enc e g Q)
  {v : Value} {d : DataW H} {ps : List MemPlace} (hv : ∃ A len cap, v = .slice A len cap) (h : DataW.Trod enc P W 0 (fun _ => true) true t v d ps) :
  ∃ l : List α, Rep (oldE W) W (.sl sz (l.map g) .no) v ∧ (l = [] ∨ ∃ elems spare, d = .slice elems spare ∧ elems.length = l.length ∧ ∀ (i : Nat) a x, l[i]? = some a → elems[i]? = some x → Q a x) := by
 obtain ⟨a, len, cap, rfl⟩ := hv
 obtain ⟨fuel, h⟩ := h
 rcases open_slice ht h with ⟨hcs, _⟩ | ⟨a', len', cap', m, n, D, Pl, hcs, hb, hl, hmx, hm, hx, hels⟩
 ·simp [Value.cells] at hcs
  obtain ⟨rfl, rfl, rfl⟩ := hcs
  exact ⟨[], .sl sz [] .no none 0 (fun _ _ => .bool false) (by simp) (by simp [maxLen]) (.inl rfl) (by simp) (by simp) trivial (by simp) (fun _ _ => rfl), .inl rfl⟩
 ·simp [Value.cells] at hcs
  obtain ⟨rfl, rfl, rfl⟩ := hcs
  have hm' : m = cap := by simpa using hm
  have hch : ∀ i, i < len → ∃ x : α × List Value, x.2.length = sz ∧ (∀ j, j < sz → W.cell? (a'.add (i * sz + j)) = x.2[j]?) ∧ Q x.1 (D i) ∧ ∀ (j : Nat) (c : AV) (u : Value), (g x.1).cells[j]? = some c → x.2[j]? = some u → Rep (oldE W) W c u ∧ u.oneCell' = true := fun i hi => by
   obtain ⟨cs, hcs, ht'⟩ := hels i (by omega)
   rw [hc] at hcs
   obtain ⟨_, hlen, hat⟩ := World.cells?_some hcs
   obtain ⟨x, hq, hx⟩ := hel n cs _ ht'
   refine ⟨(x, cs), hlen, fun j hj => ?_, hq, hx⟩
   have := hat j hj
   rw [Go.Deep.add_add] at this
   exact this
  obtain ⟨f, hf⟩ := choose_lt hch
  refine ⟨(List.range len).map fun i => (f i).1, ?_, .inr ?_⟩
  ·have hlen : ((List.range len).map fun i => (f i).1).length = len := by simp
   have hln : (((List.range len).map fun i => (f i).1).map g).length = len := by simp
   have hget : ∀ (i : Nat) (e' : AV), (((List.range len).map fun i => (f i).1).map g)[i]? = some e' → i < len ∧ e' = g (f i).1 := fun i e' h => by
    have hi : i < len := by
     have := (List.getElem?_eq_some_iff.1 h).1
     simpa using this
    refine ⟨hi, ?_⟩
    simp [List.getElem?_range hi] at h
    exact h.symm
   let u : Nat → Nat → Value := fun i j => if i < len ∧ j < sz then ((f i).2[j]?).getD (.bool false) else .bool false
   have hu : ∀ i j, i < len → j < sz → (f i).2[j]? = some (u i j) := fun i j hi hj => by
    have h2 : j < (f i).2.length := by rw [(hf i hi).1]; exact hj
    simp only [u, hi, hj, and_self, if_true, List.getElem?_eq_getElem h2, Option.getD_some]
   have key := Rep.sl (E := oldE W) (w := W) sz (((List.range len).map fun i => (f i).1).map g) .no (some a') cap u (by rw [hln]; exact hl) hmx ?_ ?_ ?_ trivial ?_ ?_
   ·rw [hln] at key; exact key
   ·rcases Nat.eq_zero_or_pos len with h0 | h0
    ·left; subst h0; rfl
    ·right
     have h1 := (hf 0 h0).2.1 0 hsz
     rw [hu 0 0 h0 hsz] at h1
     have hadd : a'.add (0 * sz + 0) = a' := by unfold Addr.add; simp
     rw [hadd] at h1
     have hp := addr_plain h1
     refine ⟨a'.block, a'.off, by rw [← hp], fun i e' j c hi hj => ?_⟩
     obtain ⟨hlt, rfl⟩ := hget i e' hi
     have hjs : j < sz := by
      have := (List.getElem?_eq_some_iff.1 hj).1
      rw [(hg _).1] at this; exact this
     have h2 := (hf i hlt).2.1 j hjs
     rw [hu i j hlt hjs, hp, addp] at h2
     have e : a'.off + i * sz + j = a'.off + (i * sz + j) := by omega
     refine ⟨cell_lt h1, by rw [e]; exact h2⟩
   ·intro e' he
    obtain ⟨x, hx, rfl⟩ := List.mem_map.1 he
    exact (hg x).1
   ·intro e' he
    obtain ⟨x, hx, rfl⟩ := List.mem_map.1 he
    exact (hg x).2
   ·intro i e' j c hi hj
    obtain ⟨hlt, rfl⟩ := hget i e' hi
    have hjs : j < sz := by
     have := (List.getElem?_eq_some_iff.1 hj).1
     rw [(hg _).1] at this; exact this
    exact ((hf i hlt).2.2.2 j c (u i j) hj (hu i j hlt hjs)).1
   ·intro i j
    by_cases hij : i < len ∧ j < sz
    ·have hjs : j < (g (f i).1).cells.length := by rw [(hg _).1]; exact hij.2
     exact ((hf i hij.1).2.2.2 j _ (u i j) (List.getElem?_eq_getElem hjs) (hu i j hij.1 hij.2)).2
    ·simp only [u, if_neg hij]; rfl
  ·have hx1 := congrArg Prod.fst hx
   simp only at hx1
   refine ⟨_, _, hx1, by simp, fun i a x hi hxi => ?_⟩
   have hlt : i < len := by
    have := (List.getElem?_eq_some_iff.1 hi).1
    simpa using this
   simp [List.getElem?_range hlt] at hi hxi
   subst hi; subst hxi
   exact (hf i hlt).2.2.1
/-! cells that read so -/
def CellsAre (W : World) (l : List AV) (cs : List Value) : Prop :=
 l.length = cs.length ∧ ∀ (j : Nat) (c : AV) (u : Value), l[j]? = some c → cs[j]? = some u → Rep (oldE W) W c u ∧ u.oneCell' = true
theorem CellsAre.one {c : AV} {u : Value} (h : Rep (oldE W) W c u) (h1 : u.oneCell' = true) : CellsAre W [c] [u] := ⟨rfl, fun j c' u' hc hu => by
 match j, hc, hu with
 | 0, hc, hu => simp at hc hu; subst hc; subst hu; exact ⟨h, h1⟩⟩
theorem CellsAre.append {l r : List AV} {cs ds : List Value} (h : CellsAre W l cs) (k : CellsAre W r ds) : CellsAre W (l ++ r) (cs ++ ds) := by
 refine ⟨by simp [h.1, k.1], fun j c u hc hu => ?_⟩
 rcases Nat.lt_or_ge j l.length with hj | hj
 ·rw [List.getElem?_append_left hj] at hc
  rw [List.getElem?_append_left (by rw [← h.1]; exact hj)] at hu
  exact h.2 j c u hc hu
 ·rw [List.getElem?_append_right hj] at hc
  rw [List.getElem?_append_right (by rw [← h.1]; exact hj), ← h.1] at hu
  exact k.2 _ c u hc hu
theorem CellsAre.next {l r : List AV} {cs : List Value} {o s p : Nat} (h : CellsAre W l ((cs.drop o).take s)) (hp : p = o + s) (k : CellsAre W r (cs.drop p)) : CellsAre W (l ++ r) (cs.drop o) := by
 subst hp
 have := h.append k
 rwa [← List.drop_drop, List.take_append_drop] at this
theorem CellsAre.last {l : List AV} {cs : List Value} {o s : Nat} (h : CellsAre W l ((cs.drop o).take s)) (hs : cs.length = o + s) : CellsAre W l (cs.drop o) := by
 rwa [List.take_of_length_le (by rw [List.length_drop]; omega)] at h
def ReadsAs (P : Program) (W : World) (enc : TypeId × Value → H) (t : TypeId) {α : Type} (g : α → List AV) (Q : α → Nat → Prop) : Prop :=
 ∀ n cs x, DataW.trod enc P W 0 (fun _ => true) true n t cs = some x → ∃ a : α, Q a (Rows.uptoBulk x.1) ∧ CellsAre W (g a) cs
theorem reads_int {t : TypeId} (ht : P.underlying t = some (.int .i64)) : ReadsAs P W enc t (fun n : Int => [.int .i64 n]) (fun n _ => -9223372036854775808 ≤ n ∧ n ≤ 9223372036854775807) := by
 intro n cs x h
 obtain ⟨k, rfl, _, hw⟩ := DataW.trod_int ht h
 have := int_rng hw
 exact ⟨k, ⟨this.1, by omega⟩, .one (.int _ _) rfl⟩
namespace Bulks
theorem one_le (d : DataW H) : 1 ≤ Rows.uptoBulk d := by
 cases d with
 | lit l => cases l <;> simp [Rows.uptoBulk]
 | nil => simp [Rows.uptoBulk]
 | ptr d => simp [Rows.uptoBulk]
 | slice elems spare => simp [Rows.uptoBulk]
 | agg parts => simp [Rows.uptoBulk]
 | iface t d => simp [Rows.uptoBulk]
 | map entries => simp [Rows.uptoBulk]
 | held h => simp [Rows.uptoBulk]
theorem part_le {d : DataW H} {l : List (DataW H)} (h : d ∈ l) : Rows.uptoBulk d ≤ Rows.uptoBulkAll l := by
 induction l with
 | nil => cases h
 | cons x r ih =>
  simp only [Rows.uptoBulkAll]
  cases List.mem_cons.1 h with
  | inl e => subst e; omega
  | inr e => have := ih e; omega
theorem length_le (l : List (DataW H)) : l.length ≤ Rows.uptoBulkAll l := by
 induction l with
 | nil => simp [Rows.uptoBulkAll]
 | cons x r ih => have := one_le x; simp only [Rows.uptoBulkAll, List.length_cons]; omega
theorem bound {l : List (DataW H)} (hk : Rows.uptoSmall H l = true) : Rows.uptoBulkAll l ≤ 1048576 := by
 simpa [Rows.uptoSmall] using hk
theorem field_le {xs : List (DataW H × List MemPlace)} {i : Nat} {y : DataW H × List MemPlace} (h : xs[i]? = some y) : Rows.uptoBulk y.1 ≤ Rows.uptoBulk (DataW.agg (xs.map (·.1))) := by
 have := part_le (List.mem_map_of_mem (f := fun y : DataW H × List MemPlace => y.1) (List.mem_of_getElem? h))
 simp only [Rows.uptoBulk]
 omega
end Bulks
theorem reads_slice {t e : TypeId} {sz : Nat} {α : Type} [Inhabited α] {g : α → AV} {Q : α → Nat → Prop} (ht : P.underlying t = some (.slice e)) (hc : P.cellsOf e = sz) (hsz : 0 < sz) (hg : ∀ a, (g a).cells.length = sz ∧ (g a).closed1 = true) (hel : ReadsAs P W enc e (fun a => (g a).cells) Q)
  (hQ : ∀ a n m, Q a n → n ≤ m → Q a m) : ReadsAs P W enc t (fun l : List α => [.sl sz (l.map g) .no]) (fun l n => l.length ≤ n ∧ ∀ a ∈ l, Q a n) := by
 intro n cs x h
 have hs : ∃ A len cap, cs = [.slice A len cap] := by
  rcases open_slice ht h with ⟨hcs, _⟩ | ⟨a', len', cap', m, n, D, Pl, hcs, _⟩
  ·exact ⟨_, _, _, hcs⟩
  ·exact ⟨_, _, _, hcs⟩
 obtain ⟨A, len, cap, rfl⟩ := hs
 have hel' : ElemR P W enc e g (fun a d => Q a (Rows.uptoBulk d)) := fun n cs x h => by
  obtain ⟨a, h1, h2⟩ := hel n cs x h
  exact ⟨a, h1, h2.2⟩
 obtain ⟨l, hl, hb⟩ := open_slR ht hc hsz hg hel' ⟨A, len, cap, rfl⟩ (d := x.1) (ps := x.2) ⟨n, by simpa [Value.cells] using h⟩
 refine ⟨l, ?_, .one hl rfl⟩
 rcases hb with rfl | ⟨elems, spare, he, hlen, hq⟩
 ·exact ⟨Nat.zero_le _, fun a ha => by cases ha⟩
 ·rw [he]
  have hE : Rows.uptoBulk (DataW.slice elems spare) = Rows.uptoBulkAll elems + Rows.uptoBulkAll spare + 1 := by simp only [Rows.uptoBulk]
  rw [hE]
  refine ⟨by have := Bulks.length_le elems; omega, fun a ha => ?_⟩
  obtain ⟨i, hi⟩ := List.mem_iff_getElem?.1 ha
  have hlt : i < elems.length := by rw [hlen]; exact (List.getElem?_eq_some_iff.1 hi).1
  have hx := List.getElem?_eq_getElem hlt
  refine hQ a _ _ (hq i a _ hi hx) ?_
  have := Bulks.part_le (List.mem_of_getElem? hx)
  omega
/-! cells of any type -/
end
open Go.Proofs Go.Proofs.YtfcdefnkhkijaaaGreatDoor
section
variable {H : Type} {enc : TypeId × Value → H} {P : Program} {W : World}
theorem fieldR {t : TypeId} {α : Type} {g : α → List AV} {Q : α → Nat → Prop} (hr : ReadsAs P W enc t g Q) (hQ : ∀ a n m, Q a n → n ≤ m → Q a m) {fs : Array Field} {xs : List (DataW H × List MemPlace)} {n : Nat} {cs : List Value} {x : DataW H × List MemPlace}
  (hx : x = (.agg (xs.map (·.1)), xs.flatMap (·.2))) (hxl : xs.length = fs.size)
  (hf : ∀ (i : Nat) (f : Field), fs[i]? = some f → DataW.trod enc P W 0 (fun _ => true) true n f.type ((cs.drop f.offset).take (P.cellsOf f.type)) = xs[i]?)
  (i : Nat) {f : Field} (hi : fs[i]? = some f) (ht : f.type = t) {o s : Nat} (ho : f.offset = o) (hs : P.cellsOf t = s) : ∃ a, Q a (Rows.uptoBulk x.1) ∧ CellsAre W (g a) ((cs.drop o).take s) := by
 have h := hf i f hi
 rw [ht, ho, hs] at h
 have hil : i < xs.length := by rw [hxl]; exact (Array.getElem?_eq_some_iff.1 hi).1
 have hg := List.getElem?_eq_getElem hil
 rw [hg] at h
 obtain ⟨a, h1, h2⟩ := hr n _ _ h
 refine ⟨a, hQ a _ _ h1 ?_, h2⟩
 rw [hx]
 exact Bulks.field_le hg
theorem ReadsAs.map {t : TypeId} {α β : Type} {g : α → List AV} {g' : β → List AV} {Q : α → Nat → Prop} {Q' : β → Nat → Prop} (h : ReadsAs P W enc t g Q) (f : α → β) (hg : ∀ a, g a = g' (f a)) (hQ : ∀ a n, Q a n → Q' (f a) n) : ReadsAs P W enc t g' Q' := fun n cs x hx => by
 obtain ⟨a, h1, h2⟩ := h n cs x hx
 exact ⟨f a, hQ a _ h1, by rw [← hg]; exact h2⟩
end
section
variable {H : Type} {enc : TypeId × Value → H} {W : World}
theorem cz3 : PQ.cellsOf 3 = 1 := by kernel_rfl
theorem cz9 : PQ.cellsOf 9 = 1 := by kernel_rfl
theorem cz23 : PQ.cellsOf 23 = 1 := by kernel_rfl
theorem cz24 : PQ.cellsOf 24 = 1 := by kernel_rfl
theorem cz65 : PQ.cellsOf 65 = 3 := by kernel_rfl
theorem cz26 : PQ.cellsOf 26 = 5 := by kernel_rfl
theorem st65 : ∃ f0 f1 f2 : Field, PQ.underlying 65 = some (.struct #[f0, f1, f2]) ∧ (f0.type = 9 ∧ f0.offset = 0) ∧ (f1.type = 3 ∧ f1.offset = 1) ∧ (f2.type = 3 ∧ f2.offset = 2) := ⟨_, _, _, Tryz.underlying65, ⟨rfl, rfl⟩, ⟨rfl, rfl⟩, ⟨rfl, rfl⟩⟩
theorem st26 : ∃ f0 f1 f2 f3 f4 : Field, PQ.underlying 26 = some (.struct #[f0, f1, f2, f3, f4]) ∧ (f0.type = 9 ∧ f0.offset = 0) ∧ (f1.type = 23 ∧ f1.offset = 1) ∧ (f2.type = 24 ∧ f2.offset = 2) ∧ (f3.type = 3 ∧ f3.offset = 3) ∧ (f4.type = 3 ∧ f4.offset = 4) := ⟨_, _, _, _, _, Tryz.underlying26, ⟨rfl, rfl⟩, ⟨rfl, rfl⟩, ⟨rfl, rfl⟩, ⟨rfl, rfl⟩, ⟨rfl, rfl⟩⟩
theorem rStr : ReadsAs PQ W enc 9 (fun s : List UInt8 => [.str s]) (fun s _ => s.length ≤ maxI) := by
 intro n cs x h
 obtain ⟨s, rfl, _, hw⟩ := DataW.trod_string Tryz.underlying9 h
 exact ⟨s.data.toList, by simpa [Lit.wf, maxI, maxLen] using hw, .one (mk_str s) rfl⟩
theorem rInt : ReadsAs PQ W enc 3 (fun n : Int => [.int .i64 n]) (fun _ _ => True) := by
 intro n cs x h
 obtain ⟨s, _, h2⟩ := reads_int Tryz.underlying3 n cs x h
 exact ⟨s, trivial, h2⟩
theorem rLb : ReadsAs PQ W enc 65 (fun v : Lb => (lbA v).cells) (fun v _ => v.key.length ≤ maxI) := by
 intro n cs x h
 obtain ⟨f0, f1, f2, hu, ⟨t0, o0⟩, ⟨t1, o1⟩, ⟨t2, o2⟩⟩ := st65
 obtain ⟨xs, m, _, hx, hlen, hxl, hf⟩ := DataW.trod_struct hu h
 obtain ⟨a0, q0, c0⟩ := fieldR rStr (fun _ _ _ h _ => h) hx hxl hf 0 rfl t0 o0 cz9
 obtain ⟨a1, q1, c1⟩ := fieldR rInt (fun _ _ _ h _ => h) hx hxl hf 1 rfl t1 o1 cz3
 obtain ⟨a2, q2, c2⟩ := fieldR rInt (fun _ _ _ h _ => h) hx hxl hf 2 rfl t2 o2 cz3
 exact ⟨⟨a0, a1, a2⟩, q0, c0.next rfl (c1.next rfl (c2.last (by rw [hlen]; exact cz65)))⟩
theorem rLbs : ReadsAs PQ W enc 24 (fun l : List Lb => [.sl 3 (lbsL l) .no]) (fun l _ => keysOk l = true) := fun n cs x h => by
 obtain ⟨l, h1, h2⟩ := reads_slice (g := lbA) Tryz.underlying24 cz65 (by omega) (fun _ => ⟨rfl, rfl⟩) rLb (fun _ _ _ h _ => h) n cs x h
 exact ⟨l, by simpa [keysOk] using h1.2, h2⟩
theorem rStrs : ReadsAs PQ W enc 23 (fun l : List (List UInt8) => [.sl 1 (strsL l) .no]) (fun _ _ => True) := fun n cs x h => by
 obtain ⟨l, h1, h2⟩ := reads_slice (g := AV.str) Tryz.underlying23 cz9 (by omega) (fun _ => ⟨rfl, rfl⟩) rStr (fun _ _ _ h _ => h) n cs x h
 exact ⟨l, trivial, h2⟩
theorem rRq : ReadsAs PQ W enc 26 (fun r : Rq => (rqA r).cells) (fun r _ => keysOk r.labels = true) := by
 intro n cs x h
 obtain ⟨f0, f1, f2, f3, f4, hu, ⟨t0, o0⟩, ⟨t1, o1⟩, ⟨t2, o2⟩, ⟨t3, o3⟩, ⟨t4, o4⟩⟩ := st26
 obtain ⟨xs, m, _, hx, hlen, hxl, hf⟩ := DataW.trod_struct hu h
 obtain ⟨a0, q0, c0⟩ := fieldR rStr (fun _ _ _ h _ => h) hx hxl hf 0 rfl t0 o0 cz9
 obtain ⟨a1, q1, c1⟩ := fieldR rStrs (fun _ _ _ h _ => h) hx hxl hf 1 rfl t1 o1 cz23
 obtain ⟨a2, q2, c2⟩ := fieldR rLbs (fun _ _ _ h _ => h) hx hxl hf 2 rfl t2 o2 cz24
 obtain ⟨a3, q3, c3⟩ := fieldR rInt (fun _ _ _ h _ => h) hx hxl hf 3 rfl t3 o3 cz3
 obtain ⟨a4, q4, c4⟩ := fieldR rInt (fun _ _ _ h _ => h) hx hxl hf 4 rfl t4 o4 cz3
 exact ⟨⟨a0, a1, a2, a3, a4⟩, q2, c0.next rfl (c1.next rfl (c2.next rfl (c3.next rfl (c4.last (by rw [hlen]; exact cz26)))))⟩
instance : Inhabited Ft := ⟨⟨[], []⟩⟩
end
section
variable {H : Type} {enc : TypeId × Value → H} {W : World}
theorem open_one {t : TypeId} {α : Type} {g : α → AV} {Q : α → Nat → Prop} (hr : ReadsAs PQ W enc t (fun a => [g a]) Q) {v : Value} {d : DataW H} {ps : List MemPlace} (h1 : ∃ u, v.cells = #[u] ∧ v = u) (h : DataW.Trod enc PQ W 0 (fun _ => true) true t v d ps) : ∃ a, Rep (oldE W) W (g a) v ∧ Q a (Rows.uptoBulk d) := by
 obtain ⟨u, hu, rfl⟩ := h1
 obtain ⟨fuel, h⟩ := h
 rw [hu] at h
 obtain ⟨a, q, c⟩ := hr fuel _ _ h
 exact ⟨a, (c.2 0 _ _ rfl rfl).1, q⟩
theorem open_agg {t : TypeId} {α : Type} {g : α → List AV} {Q : α → Nat → Prop} (hr : ReadsAs PQ W enc t g Q) {v : Value} {d : DataW H} {ps : List MemPlace} (h1 : ∃ cs, v = .agg cs) (h : DataW.Trod enc PQ W 0 (fun _ => true) true t v d ps) : ∃ a, Rep (oldE W) W (.agg (g a)) v ∧ Q a (Rows.uptoBulk d) := by
 obtain ⟨cs, rfl⟩ := h1
 obtain ⟨fuel, h⟩ := h
 obtain ⟨a, q, c⟩ := hr fuel _ _ h
 refine ⟨a, .agg _ cs ?_ (fun i v hv => ?_) fun i c' v hc hv => ?_, q⟩
 ·have : (g a).length = cs.toList.length := c.1
  rw [this, Array.length_toList]
 ·have hv' : cs.toList[i]? = some v := by rw [Array.getElem?_toList]; exact hv
  have hil : i < (g a).length := by rw [c.1]; exact (List.getElem?_eq_some_iff.1 hv').1
  exact (c.2 i _ v (List.getElem?_eq_getElem hil) hv').2
 ·exact (c.2 i c' v hc (by show cs.toList[i]? = some v; rw [Array.getElem?_toList]; exact hv)).1
end
theorem one_slice {P : Program} {W : World} {t e : TypeId} {v : Value} {b : Nat} (ht : P.underlying t = some (.slice e)) (h : Value.okWide P W .any b t v) : ∃ u, v.cells = #[u] ∧ v = u := by
 obtain ⟨A, n, c, rfl⟩ := okWide_slice ht h
 exact ⟨_, rfl, rfl⟩
theorem one_int {P : Program} {W : World} {t : TypeId} {k : IntKind} {v : Value} {b : Nat} (ht : P.underlying t = some (.int k)) (h : Value.okWide P W .any b t v) : ∃ u, v.cells = #[u] ∧ v = u := by
 obtain ⟨n, rfl⟩ := okWide_int ht h
 exact ⟨_, rfl, rfl⟩
theorem is_agg {P : Program} {W : World} {t : TypeId} {fs : Array Field} {v : Value} {b : Nat} (ht : P.underlying t = some (.struct fs)) (h : Value.okWide P W .any b t v) : ∃ cs, v = .agg cs := by
 obtain ⟨cs, h, _⟩ := okWide_struct ht h
 exact ⟨cs, h⟩
theorem witness_row_shaped {H : Type} {enc : TypeId × Value → H} {C : Checked} {os : Os} {f : FuncId} {fn : Func} {s : OpenSpec} {conds : List PathCond} {apart : Bool} {laid : List (String × DataW Unit)} (w0 : World) (args : Array Value) (hos : w0.os = os)
  (hsh : (w0.forCall (fun _ _ => 0) ⟨#[], args, []⟩).Shaped C.prog)
  (hok : Input.okWideB C.prog (w0.forCall (fun _ _ => 0) ⟨#[], args, []⟩) f ⟨#[], args, []⟩ = true)
  (hrow : s.preRow enc C.prog fn conds apart laid (w0.forCall (fun _ _ => 0) ⟨#[], args, []⟩).memory args) :
  ∃ (w : World) (tape : Tape) (i : Input), w.os = os ∧ (w.forCall tape i).Shaped C.prog ∧ i.vars = [] ∧ Input.okWide C.prog (w.forCall tape i) .any w.heap.size f i ∧
   s.preRow enc C.prog fn conds apart laid (w.forCall tape i).memory i.args ∧ ({} : Assume).holds C.prog (lone (Frame.enter C.prog f i.args .normal) [] (w.forCall tape i)) :=
 ⟨w0, fun _ _ => 0, ⟨#[], args, []⟩, hos, hsh, (Input.okWide_of_okWideB (base := 0) hok).1, (Input.okWide_of_okWideB hok).2, hrow, by
  simp only [Assume.holds]
  exact ⟨by simp, by simp, fun _ => Modest.zero, by simp, by simp⟩⟩
open Go.Proofs Go.Proofs.YtfcdefnkhkijaaaGreatDoor
section
variable {H : Type} {enc : TypeId × Value → H} {W : World}
theorem cz5 : PQ.cellsOf 5 = 1 := by kernel_rfl
theorem rU8 : ReadsAs PQ W enc 5 (fun c : UInt8 => [.int .u8 c.toNat]) (fun _ _ => True) := by
 intro n cs x h
 obtain ⟨k, rfl, _, hw⟩ := DataW.trod_int Tryz.underlying5 h
 have hk : 0 ≤ k ∧ k < 256 := by
  simp [Lit.wf, IntKind.min, IntKind.max, IntKind.signed, IntKind.bits] at hw
  omega
 refine ⟨UInt8.ofNat k.toNat, trivial, ?_⟩
 have : ((UInt8.ofNat k.toNat).toNat : Int) = k := by rw [UInt8.toNat_ofNat']; omega
 show CellsAre W [AV.int .u8 ((UInt8.ofNat k.toNat).toNat : Int)] [.int .u8 k]
 rw [this]
 exact .one (.int _ _) rfl
theorem rBytes : ReadsAs PQ W enc 22 (fun l : List UInt8 => [.sl 1 (bytesL l) .no]) (fun l n => l.length ≤ n) := fun n cs x h => by
 obtain ⟨l, h1, h2⟩ := reads_slice (g := fun c : UInt8 => AV.int .u8 c.toNat) Tryz.underlying22 cz5 (by omega) (fun _ => ⟨rfl, rfl⟩) rU8 (fun _ _ _ h _ => h) n cs x h
 exact ⟨l, h1.1, h2⟩
def i64P (n : Int) : Prop := -9223372036854775808 ≤ n ∧ n ≤ 9223372036854775807
theorem rIntN : ReadsAs PQ W enc 3 (fun n : Int => [.int .i64 n]) (fun n _ => i64P n) := reads_int Tryz.underlying3
end
end Go.Abs
