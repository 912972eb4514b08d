/- Own texts, part 8. -/
import Derived.Test.YtfcdefnkhkijaaaGreatDoorPart6
import Derived.Test.YtfcdefnkhkijaaaGreatDoorPart7
import Derived.Test.YtfcdefnkhkijaaaGreatDoorPart5
import Derived.Test.YtfcdefnkhkijaaaGreatDoorPart4
import Derived.Lib.ItoaLen
import Derived.Test.YtfcdefnkhkijaaaGreatDoorRows
import Derived.LaidLaws
import Derived.Lay
import Derived.Shelf.Lay
import Derived.Lib.LaidTab
import Derived.Lib.LaidU8

namespace Go.Abs
open Go.Proofs
theorem gt_cons {ts : List Tk} (h : GoodT ts) : ∃ t l, ts = t :: l := by
 obtain ⟨l, t, rfl, _⟩ := h.ends
 cases l with
 | nil => exact ⟨t, [], rfl⟩
 | cons a l => exact ⟨a, l ++ [t], rfl⟩
theorem gt_tail {t : Tk} {l : List Tk} (h : GoodT (t :: l)) (hk : t.k ≠ 6) : GoodT l := by
 refine ⟨?_, fun u hu => h.ints u (List.mem_cons_of_mem _ hu), by have := h.few; simp only [List.length_cons] at this; omega⟩
 obtain ⟨l0, u, e, hu⟩ := h.ends
 cases l0 with
 | nil => simp only [List.nil_append, List.cons.injEq] at e; obtain ⟨rfl, _⟩ := e; exact absurd hu hk
 | cons a l0 =>
  simp only [List.cons_append, List.cons.injEq] at e
  exact ⟨l0, u, e.2, hu⟩
theorem gt_tokIn {ts : List Tk} (h : GoodT ts) : TokIn (toksL ts) := by
 obtain ⟨t, l, rfl⟩ := gt_cons h
 exact ⟨t, l, rfl⟩
theorem gt_intIn {ts : List Tk} (h : GoodT ts) : IntIn (toksL ts) := by
 obtain ⟨t, l, rfl⟩ := gt_cons h
 exact ⟨fun hk => h.ints t List.mem_cons_self hk⟩
theorem nx_ok {k : Int} {acc : List UInt8 → Bool} {t : Tk} {l : List Tk} (h : t.k = k ∧ acc t.s = true) (hk : k ≠ 6) : nx k acc (t :: l) = .ok (t.s, l) := by
 rw [nx, if_pos h, if_neg hk]
theorem nx_no {k : Int} {acc : List UInt8 → Bool} {t : Tk} {l : List Tk} (h : ¬ (t.k = k ∧ acc t.s = true)) : nx k acc (t :: l) = .error t.a := by
 rw [nx, if_neg h]
theorem thn_ok {α β : Type} {x : Except Int α} {f : α → Except Int β} {a : α} (h : x = .ok a) : thn x f = f a := by rw [h]; rfl
theorem thn_no {α β : Type} {x : Except Int α} {f : α → Except Int β} {a : Int} (h : x = .error a) : thn x f = .error a := by rw [h]; rfl
theorem num_okT {t : Tk} {l : List Tk} (h : t.k = 2) : num (t :: l) = .ok (numV t.s, l) := by
 unfold num; rw [thn_ok (nx_ok ⟨h, rfl⟩ (by decide))]
theorem num_no {t : Tk} {l : List Tk} (h : t.k ≠ 2) : num (t :: l) = .error t.a := by
 unfold num; rw [thn_no (nx_no fun e => h e.1)]
theorem take_k {t : Tk} {l : List Tk} : takeAt PQ 3 (toksL (t :: l)) 0 0 = some (.int .i64 t.k) := by kernel_rfl
theorem take_s {t : Tk} {l : List Tk} : takeAt PQ 9 (toksL (t :: l)) 0 1 = some (.str t.s) := by kernel_rfl
theorem take_pa {p : Pb} {l : List Pb} : takeAt PQ 3 (pbsL (p :: l)) 0 0 = some (.int .i64 p.a) := by kernel_rfl
theorem take_pc {p : Pb} {l : List Pb} : takeAt PQ 28 (pbsL (p :: l)) 0 1 = some (.int .i64 p.c) := by kernel_rfl
theorem lax_z (a c : Int) : RetLax (.tup [.agg [.str [], .sl 0 [] .nil, .sl 0 [] .nil, .int .i64 0, .int .i64 0], .int .i64 a, .int .i64 c]) (zR a c, []) := by
 refine ⟨⟨?_, rfl, rfl, trivial⟩, by rfl, rfl⟩
 exact ⟨rfl, ⟨rfl, rfl, .inr rfl⟩, ⟨rfl, rfl, .inr rfl⟩, rfl, rfl, trivial⟩
theorem lax_r (r : Rq) : RetLax (.tup [.agg [.str r.entity, .sl 1 (strsL r.feats) (.tok 0), .sl 3 (lbsL r.labels) (.tok 1), .int .i64 r.seed, .int .i64 r.permille], .int .i64 0, .int .i64 0]) (.tup [rqA r, .int .i64 0, .int .i64 0], []) := by
 refine ⟨⟨?_, rfl, rfl, trivial⟩, by rfl, rfl⟩
 exact ⟨rfl, ⟨rfl, rfl, .inl rfl⟩, ⟨rfl, rfl, .inl rfl⟩, rfl, rfl, trivial⟩
theorem moreF_end {t : Tk} {l : List Tk} {fs : List (List UInt8)} (h : isCm (t :: l) = false) : moreF (t :: l) fs = .ok (fs, t :: l) := by
 cases l with
 | nil => rfl
 | cons u l =>
  have h' : isCm [t] = false := h
  rw [moreF, h']; rfl
theorem moreL_end {t : Tk} {l : List Tk} {ls : List Lb} (h : isCm (t :: l) = false) : moreL (t :: l) ls = .ok (ls, t :: l) := by
 have h' : isCm [t] = false := h
 match l with
 | [] => rfl
 | [a] => rw [moreL, h']; rfl
 | [a, b] => rw [moreL, h']; rfl
 | a :: b :: c :: l => rw [moreL, h']; rfl
theorem cm_yes {t : Tk} {l : List Tk} (h1 : (t.k == 5) = true) (h2 : (t.s == [44]) = true) : isCm (t :: l) = true := by
 have := eq_of_beq h1
 simp only [isCm, this, decide_true, h2, Bool.and_self]
theorem cm_no1 {t : Tk} {l : List Tk} (h1 : (t.k == 5) = false) : isCm (t :: l) = false := by
 have : t.k ≠ 5 := by simpa using h1
 simp only [isCm, decide_eq_false this, Bool.false_and]
theorem cm_no2 {t : Tk} {l : List Tk} (h1 : (t.s == [44]) = false) : isCm (t :: l) = false := by
 simp only [isCm, h1, Bool.and_false]
theorem at_yes {t : Tk} {l : List Tk} (h1 : (t.k == 1) = true) (h2 : (t.s == [97, 116]) = true) : isAtB (t :: l) = true := by
 have := eq_of_beq h1
 simp only [isAtB, this, decide_true, h2, Bool.and_self]
theorem at_no1 {t : Tk} {l : List Tk} (h1 : (t.k == 1) = false) : isAtB (t :: l) = false := by
 have : t.k ≠ 1 := by simpa using h1
 simp only [isAtB, decide_eq_false this, Bool.false_and]
theorem at_no2 {t : Tk} {l : List Tk} (h1 : (t.s == [97, 116]) = false) : isAtB (t :: l) = false := by
 simp only [isAtB, h1, Bool.and_false]
theorem lab_no0 {a : Tk} {l : List Tk} (h : a.k ≠ 4) : lab (a :: l) = .error a.a := by
 unfold lab; rw [thn_no (nx_no fun e => h e.1)]
theorem lab_no1 {a b : Tk} {l : List Tk} (h : a.k = 4) (h1 : b.k ≠ 2) : lab (a :: b :: l) = .error b.a := by
 unfold lab; rw [thn_ok (nx_ok ⟨h, rfl⟩ (by decide)), thn_no (num_no h1)]
theorem lab_no2 {a b c : Tk} {l : List Tk} (h : a.k = 4) (h1 : b.k = 2) (h2 : c.k ≠ 2) : lab (a :: b :: c :: l) = .error c.a := by
 unfold lab; rw [thn_ok (nx_ok ⟨h, rfl⟩ (by decide)), thn_ok (num_okT h1), thn_no (num_no h2)]
theorem lab_ok {a b c : Tk} {l : List Tk} (h : a.k = 4) (h1 : b.k = 2) (h2 : c.k = 2) : lab (a :: b :: c :: l) = .ok (⟨a.s, numV b.s, numV c.s⟩, l) := by
 unfold lab; rw [thn_ok (nx_ok ⟨h, rfl⟩ (by decide)), thn_ok (num_okT h1), thn_ok (num_okT h2)]
theorem moreL_no0 {t a : Tk} {l : List Tk} {ls : List Lb} (hc : isCm [t] = true) (h : a.k ≠ 4) : moreL (t :: a :: l) ls = .error a.a := by
 match l with
 | [] => rw [moreL, hc]; rfl
 | [b] => rw [moreL, hc, if_pos rfl, if_neg h]
 | b :: c :: l => rw [moreL, hc, if_pos rfl, if_neg h]
theorem moreL_no1 {t a b : Tk} {l : List Tk} {ls : List Lb} (hc : isCm [t] = true) (h : a.k = 4) (h1 : b.k ≠ 2) : moreL (t :: a :: b :: l) ls = .error b.a := by
 match l with
 | [] => rw [moreL, hc, if_pos rfl, if_pos h]
 | c :: l => rw [moreL, hc, if_pos rfl, if_pos h, if_neg h1]
theorem moreL_no2 {t a b c : Tk} {l : List Tk} {ls : List Lb} (hc : isCm [t] = true) (h : a.k = 4) (h1 : b.k = 2) (h2 : c.k ≠ 2) : moreL (t :: a :: b :: c :: l) ls = .error c.a := by
 rw [moreL, hc, if_pos rfl, if_pos h, if_pos h1, if_neg h2]
theorem moreL_ok {t a b c : Tk} {l : List Tk} {ls : List Lb} (hc : isCm [t] = true) (h : a.k = 4) (h1 : b.k = 2) (h2 : c.k = 2) : moreL (t :: a :: b :: c :: l) ls = moreL l (ls ++ [⟨a.s, numV b.s, numV c.s⟩]) := by
 rw [moreL, hc, if_pos rfl, if_pos h, if_pos h1, if_pos h2]
theorem moreF_ok {t u : Tk} {l : List Tk} {fs : List (List UInt8)} (hc : isCm [t] = true) (h : u.k = 1 ∧ nameR u.s = true) : moreF (t :: u :: l) fs = moreF l (fs ++ [u.s]) := by
 rw [moreF, hc, if_pos rfl, if_pos h]
theorem moreF_no {t u : Tk} {l : List Tk} {fs : List (List UInt8)} (hc : isCm [t] = true) (h : ¬ (u.k = 1 ∧ nameR u.s = true)) : moreF (t :: u :: l) fs = .error u.a := by
 rw [moreF, hc, if_pos rfl, if_neg h]
theorem kMf_ok {en : List UInt8} {f1 f2 fs : List (List UInt8)} {ls : List Lb} {sd pm : Int} {t u : Tk} {l : List Tk} (hc : isCm [t] = true) (h : u.k = 1 ∧ nameR u.s = true) : kMf ⟨en, f1, ls, sd, pm⟩ (t :: u :: l) fs = kMf ⟨en, f2, ls, sd, pm⟩ l (fs ++ [u.s]) := by
 unfold kMf; rw [moreF_ok hc h]
theorem kMl_ok {en : List UInt8} {fs : List (List UInt8)} {l1 l2 ls : List Lb} {sd pm : Int} {t a b c : Tk} {l : List Tk} (hc : isCm [t] = true) (h : a.k = 4) (h1 : b.k = 2) (h2 : c.k = 2) : kMl ⟨en, fs, l1, sd, pm⟩ (t :: a :: b :: c :: l) ls = kMl ⟨en, fs, l2, sd, pm⟩ l (ls ++ [⟨a.s, numV b.s, numV c.s⟩]) := by
 unfold kMl; rw [moreL_ok hc h h1 h2]
theorem lab_asked {l : List Tk} (G : GoodT l) : TokIn (toksL l) ∧ ((hdT (toksL l)).k = 4 → TokIn (List.drop 1 (toksL l)) ∧ IntIn (List.drop 1 (toksL l))) ∧ ((hdT (toksL l)).k = 4 → (hdT (List.drop 1 (toksL l))).k = 2 → TokIn (List.drop 2 (toksL l)) ∧ IntIn (List.drop 2 (toksL l))) := by
 obtain ⟨a, l, rfl⟩ := gt_cons G
 refine ⟨gt_tokIn G, fun h => ?_, fun h h1 => ?_⟩
 ·have G1 := gt_tail G (by have h : a.k = 4 := h; rw [h]; decide)
  exact ⟨gt_tokIn G1, gt_intIn G1⟩
 ·have G1 := gt_tail G (by have h : a.k = 4 := h; rw [h]; decide)
  obtain ⟨b, l, rfl⟩ := gt_cons G1
  have G2 := gt_tail G1 (by have h1 : b.k = 2 := h1; rw [h1]; decide)
  exact ⟨gt_tokIn G2, gt_intIn G2⟩
theorem lab_good {l : List Tk} (G : GoodT l) (h : (hdT (toksL l)).k = 4 ∧ (hdT (List.drop 1 (toksL l))).k = 2 ∧ (hdT (List.drop 2 (toksL l))).k = 2) : ∃ a b c l', l = a :: b :: c :: l' ∧ a.k = 4 ∧ b.k = 2 ∧ c.k = 2 ∧ GoodT l' := by
 obtain ⟨h, h1, h2⟩ := h
 obtain ⟨a, l, rfl⟩ := gt_cons G
 have G1 := gt_tail G (by have h : a.k = 4 := h; rw [h]; decide)
 obtain ⟨b, l, rfl⟩ := gt_cons G1
 have G2 := gt_tail G1 (by have h1 : b.k = 2 := h1; rw [h1]; decide)
 obtain ⟨c, l, rfl⟩ := gt_cons G2
 exact ⟨a, b, c, l, rfl, h, h1, h2, gt_tail G2 (by have h2 : c.k = 2 := h2; rw [h2]; decide)⟩
theorem lab_bad0 {l : List Tk} (G : GoodT l) (h : ¬ (hdT (toksL l)).k = 4) : lab l = .error (hdT (toksL l)).a ∧ ∀ t ls, isCm [t] = true → moreL (t :: l) ls = .error (hdT (toksL l)).a := by
 obtain ⟨a, l, rfl⟩ := gt_cons G
 exact ⟨lab_no0 h, fun t ls hc => moreL_no0 hc h⟩
theorem lab_bad1 {l : List Tk} (G : GoodT l) (h : (hdT (toksL l)).k = 4 ∧ (hdT (List.drop 1 (toksL l))).k ≠ 2) : lab l = .error (hdT (List.drop 1 (toksL l))).a ∧ ∀ t ls, isCm [t] = true → moreL (t :: l) ls = .error (hdT (List.drop 1 (toksL l))).a := by
 obtain ⟨h, h1⟩ := h
 obtain ⟨a, l, rfl⟩ := gt_cons G
 have G1 := gt_tail G (by have h : a.k = 4 := h; rw [h]; decide)
 obtain ⟨b, l, rfl⟩ := gt_cons G1
 exact ⟨lab_no1 h h1, fun t ls hc => moreL_no1 hc h h1⟩
theorem lab_bad2 {l : List Tk} (G : GoodT l) (h : (hdT (toksL l)).k = 4 ∧ (hdT (List.drop 1 (toksL l))).k = 2 ∧ (hdT (List.drop 2 (toksL l))).k ≠ 2) : lab l = .error (hdT (List.drop 2 (toksL l))).a ∧ ∀ t ls, isCm [t] = true → moreL (t :: l) ls = .error (hdT (List.drop 2 (toksL l))).a := by
 obtain ⟨h, h1, h2⟩ := h
 obtain ⟨a, l, rfl⟩ := gt_cons G
 have G1 := gt_tail G (by have h : a.k = 4 := h; rw [h]; decide)
 obtain ⟨b, l, rfl⟩ := gt_cons G1
 have G2 := gt_tail G1 (by have h1 : b.k = 2 := h1; rw [h1]; decide)
 obtain ⟨c, l, rfl⟩ := gt_cons G2
 exact ⟨lab_no2 h h1 h2, fun t ls hc => moreL_no2 hc h h1 h2⟩
theorem p11 (m : Int) (s : Spec) (bs : List UInt8) (ts : List Tk) (pb : List Pb) (e : Int) (hs : s [bytesA bs] = some (s36v ts pb e)) (hg : e = 0 → pb = [] → ts ≠ [] → GoodT ts) : TLaxOk PQ (GQ m) (XP ts pb e) (tbl [(36, s), (46, s46)]) (itbl []) fsN (JP m idMk s ts pb e) (gP ts e) 11 [bytesA bs] (resT ts pb e, []) := by
 constructor
 rw [w11]
 simp only [valsAre_iff, stIs_iff, callIs_iff, true_and, and_true, forall_const, Bool.true_eq_false, Bool.false_eq_true, false_implies, List.take_length, Int.le_refl, Int.reduceEq, if_false, List.drop_drop, Nat.reduceAdd, true_or]
 refine ⟨hs, fun h => ?_, fun he => ⟨fun hp => ?_, fun hp => ⟨fun hz => ?_, fun hz => ?_⟩⟩⟩
 ·have : e ≠ 0 := by simpa using h
  unfold resT; rw [if_pos this]
  exact lax_z _ _
 ·have e0 : e = 0 := by simpa using he
  cases pb with
  | nil => exact absurd (of_decide_eq_true hp) (by simp)
  | cons p l =>
   refine ⟨by simp, _, take_pa, by simp, _, take_pc, ?_⟩
   unfold resT; rw [if_neg (by omega)]
   exact lax_z _ _
 ·have e0 : e = 0 := by simpa using he
  have p0 : pb = [] := by
   cases pb with
   | nil => rfl
   | cons p l => exact absurd (of_decide_eq_false hp) (by simp)
  have t0 : ts = [] := by
   have := eq_of_beq hz
   rw [List.length_map] at this
   exact List.length_eq_zero_iff.1 (by omega)
  unfold resT; rw [if_neg (by omega), p0]
  simp only [t0, if_true]
  exact lax_z _ _
 have e0 : e = 0 := by simpa using he
 have p0 : pb = [] := by
  cases pb with
  | nil => rfl
  | cons p l => exact absurd (of_decide_eq_false hp) (by simp)
 have t0 : ts ≠ [] := by
  intro h0
  subst h0
  simp at hz
 have G := hg e0 p0 t0
 have hres : resT ts pb e = resP (parseTk ts) := by
  unfold resT; rw [if_neg (by omega), p0]
  simp only [t0, if_false]
 rw [hres]
 have hfew := G.few
 have bad : ∀ a, parseTk ts = .error a → RetLax (.tup [.agg [.str [], .sl 0 [] .nil, .sl 0 [] .nil, .int .i64 0, .int .i64 0], .int .i64 a, .int .i64 90]) (resP (parseTk ts), []) := fun a h => by
  rw [h]; exact lax_z _ _
 clear hp he hz hg hres
 obtain ⟨t, l, hts⟩ := gt_cons G
 refine ⟨⟨⟨t, l, by rw [hts]⟩, rfl, rfl⟩, fun h1 => ?_, fun h1 => ⟨rfl, bad _ ?_⟩⟩
 rotate_left
 ·rw [hts] at h1 ⊢
  exact thn_no (nx_no fun x => h1 x)
 have P11 : parseTk ts = k11 l := by rw [hts] at h1 ⊢; exact thn_ok (nx_ok h1 (by decide))
 have G1 : GoodT l := by
  rw [hts] at h1 G
  have : t.k = 1 := h1.1
  exact gt_tail G (by rw [this]; decide)
 have L1 : l.length ≤ ts.length := by rw [hts]; simp
 have hd1 : ∀ n, List.drop (n + 1) (toksL ts) = List.drop n (toksL l) := fun n => by rw [hts]; rfl
 rw [hd1 0, hd1 1]
 obtain ⟨t1, l1, rfl⟩ := gt_cons G1
 refine ⟨⟨⟨⟨t1, l1, rfl⟩, rfl⟩, fun h2 => ⟨⟨⟨t1.s, [], [], 0, 0⟩, l1⟩, rfl, gt_tail G1 ?_, P11.trans (thn_ok (nx_ok h2 (by decide))), by simp only [List.length_cons] at L1; exact Nat.le_trans (Nat.le_succ _) L1⟩, fun h2 => ⟨rfl, bad _ (P11.trans (thn_no (nx_no fun x => h2 x)))⟩⟩, ?_⟩
 ·have : t1.k = 1 := h2.1
  rw [this]; decide
 rintro ⟨⟨en, fs0, ls0, sd0, pm0⟩, u⟩ ⟨G2, P12, L2⟩
 dsimp only at G2 P12 L2 ⊢
 obtain ⟨t2, l2, rfl⟩ := gt_cons G2
 refine ⟨⟨⟨⟨t2, l2, rfl⟩, ⟨rfl, rfl⟩, rfl, rfl⟩, fun h => ⟨⟨⟨en, [], [], 0, 0⟩, l2⟩, rfl, gt_tail G2 ?_, P12.trans (thn_ok (nx_ok h (by decide))), rfl, rfl, Nat.le_trans (Nat.le_succ _) L2⟩, fun h => ⟨rfl, bad _ (P12.trans (thn_no (nx_no fun x => h x)))⟩⟩, ?_⟩
 ·have : t2.k = 1 := h.1
  rw [this]; decide
 clear G2 P12 L2 t2 l2
 rintro ⟨⟨en, fs, ls, sd, pm⟩, u⟩ ⟨G3, P13, hf, hlb, L3⟩
 dsimp only at G3 P13 hf hlb L3 ⊢
 subst hf; subst hlb
 obtain ⟨t3, l3, rfl⟩ := gt_cons G3
 refine ⟨⟨⟨⟨t3, l3, rfl⟩, ⟨[], rfl⟩, rfl, Nat.zero_le _, rfl⟩, fun h => ⟨⟨⟨⟨en, [t3.s], [], sd, pm⟩, l3⟩, rfl, gt_tail G3 ?_, P13.trans (thn_ok (nx_ok h (by decide))), rfl, by simp only [List.length_cons, List.length_nil] at L3 ⊢; omega⟩, ?_⟩, fun h => ⟨rfl, bad _ (P13.trans (thn_no (nx_no fun x => h x)))⟩⟩, ?_⟩
 ·have : t3.k = 1 := h.1
  rw [this]; decide
 ·
  clear P13 G3 h L3
  rintro ⟨⟨en, fs, ls, sd, pm⟩, u⟩ ⟨G4, P4, hlb, L4⟩
  dsimp only at G4 P4 hlb L4 ⊢
  subst hlb
  obtain ⟨t4, l4, rfl⟩ := gt_cons G4
  have hn : (strsL fs).length = fs.length := List.length_map _
  have stop : isCm (t4 :: l4) = false → parseTk ts = k14 ⟨en, fs, [], sd, pm⟩ (t4 :: l4) := fun hc => P4.trans (thn_ok (moreF_end hc))
  refine ⟨len_tok _ _, _, take_k, fun c5 => ⟨len_tok _ _, _, take_s, fun cs => ?_, fun cs => ⟨⟨⟨en, fs, [], sd, pm⟩, t4 :: l4⟩, rfl, G4, stop (cm_no2 cs), rfl, Nat.le_trans (Nat.le_add_left _ _) L4⟩⟩, fun c5 => ⟨⟨⟨en, fs, [], sd, pm⟩, t4 :: l4⟩, rfl, G4, stop (cm_no1 c5), rfl, Nat.le_trans (Nat.le_add_left _ _) L4⟩⟩
  have hc : isCm [t4] = true := cm_yes c5 cs
  have G5 : GoodT l4 := gt_tail G4 (by have := eq_of_beq c5; rw [this]; decide)
  obtain ⟨t5, l5, rfl⟩ := gt_cons G5
  refine ⟨by omega, ⟨len_tok1 _ _, Nat.le_refl _⟩, ⟨⟨t5, l5, rfl⟩, ⟨fs, rfl⟩, hn.symm, by simp only [List.length_cons] at L4; omega, rfl⟩, fun h => ⟨⟨⟨en, fs ++ [t5.s], [], sd, pm⟩, l5⟩, ?_, ⟨gt_tail G5 ?_, P4.trans (kMf_ok hc h), rfl, by simp only [List.length_cons, List.length_append, List.length_nil] at L4 ⊢; omega⟩, by simp only [List.length_cons]; omega⟩, fun h => ⟨rfl, bad _ (P4.trans (thn_no (moreF_no hc fun x => h x)))⟩⟩
  ·simp only [List.map_append, List.length_append, hn]; rfl
  ·have : t5.k = 1 := h.1
   rw [this]; decide
 clear P13 G3 L3 t3 l3
 rintro ⟨⟨en, fs, ls, sd, pm⟩, u⟩ ⟨G4, P14, hlb, L4⟩
 dsimp only at G4 P14 hlb L4 ⊢
 subst hlb
 obtain ⟨t4, l4, rfl⟩ := gt_cons G4
 refine ⟨⟨⟨t4, l4, rfl⟩, ⟨rfl, rfl⟩, rfl, rfl⟩, fun h => ?_, fun h => ⟨rfl, bad _ (P14.trans (thn_no (nx_no fun x => h x)))⟩⟩
 have P15 : parseTk ts = k15 ⟨en, fs, [], sd, pm⟩ l4 := P14.trans (thn_ok (nx_ok h (by decide)))
 have G5 : GoodT l4 := gt_tail G4 (by have : t4.k = 1 := h.1; rw [this]; decide)
 obtain ⟨t5, l5, rfl⟩ := gt_cons G5
 refine ⟨⟨⟨⟨t5, l5, rfl⟩, gt_intIn G5, rfl, rfl⟩, fun h => ⟨⟨⟨en, fs, [], numV t5.s, pm⟩, l5⟩, rfl, gt_tail G5 ?_, P15.trans (thn_ok (num_okT h)), rfl, by simp only [List.length_cons] at L4 ⊢; omega⟩, fun h => ⟨rfl, bad _ (P15.trans (thn_no (num_no h)))⟩⟩, ?_⟩
 ·have h : t5.k = 2 := h
  rw [h]; decide
 clear P14 P15 G4 G5 L4 h t4 t5 l5
 rintro ⟨⟨en, fs, ls, sd, pm⟩, u⟩ ⟨G4, P16, hlb, L4⟩
 dsimp only at G4 P16 hlb L4 ⊢
 subst hlb
 obtain ⟨t4, l4, rfl⟩ := gt_cons G4
 refine ⟨⟨⟨t4, l4, rfl⟩, ⟨rfl, rfl⟩, rfl, rfl⟩, fun h => ?_, fun h => ⟨rfl, bad _ (P16.trans (thn_no (nx_no fun x => h x)))⟩⟩
 have P17 : parseTk ts = k17 ⟨en, fs, [], sd, pm⟩ l4 := P16.trans (thn_ok (nx_ok h (by decide)))
 have G5 : GoodT l4 := gt_tail G4 (by have : t4.k = 1 := h.1; rw [this]; decide)
 obtain ⟨t5, l5, rfl⟩ := gt_cons G5
 refine ⟨⟨⟨⟨t5, l5, rfl⟩, gt_intIn G5, rfl, rfl⟩, fun h => ⟨⟨⟨en, fs, [], sd, numV t5.s⟩, l5⟩, rfl, gt_tail G5 ?_, P17.trans (thn_ok (num_okT h)), rfl, by simp only [List.length_cons] at L4 ⊢; omega⟩, fun h => ⟨rfl, bad _ (P17.trans (thn_no (num_no h)))⟩⟩, ?_⟩
 ·have h : t5.k = 2 := h
  rw [h]; decide
 clear P16 P17 G4 G5 L4 h t4 t5 l5
 rintro ⟨⟨en, fs, ls, sd, pm⟩, u⟩ ⟨G4, P18, hlb, L4⟩
 dsimp only at G4 P18 hlb L4 ⊢
 subst hlb
 obtain ⟨t4, l4, rfl⟩ := gt_cons G4
 have stop : isAtB (t4 :: l4) = false → parseTk ts = k21 ⟨en, fs, [], sd, pm⟩ (t4 :: l4) := fun hc => by rw [P18]; unfold k18; rw [hc]; rfl
 refine ⟨⟨len_tok _ _, _, take_k, fun c1 => ⟨len_tok _ _, _, take_s, fun cs => ?_, fun cs => ⟨⟨⟨en, fs, [], sd, pm⟩, t4 :: l4⟩, rfl, G4, stop (at_no2 cs)⟩⟩, fun c1 => ⟨⟨⟨en, fs, [], sd, pm⟩, t4 :: l4⟩, rfl, G4, stop (at_no1 c1)⟩⟩, ?_⟩
 ·have P20 : parseTk ts = k20 ⟨en, fs, [], sd, pm⟩ l4 := by rw [P18]; unfold k18; rw [at_yes c1 cs]; rfl
  have G5 : GoodT l4 := gt_tail G4 (by have := eq_of_beq c1; rw [this]; decide)
  clear stop
  obtain ⟨q1, q2, q3⟩ := lab_asked G5
  refine ⟨by omega, ⟨len_tok1 _ _, Nat.le_refl _⟩, ⟨q1, q2, q3, ⟨[], rfl⟩, rfl, Nat.zero_le _, rfl, rfl⟩, fun h => ?_, fun h => ⟨rfl, bad _ (P20.trans (thn_no (lab_bad0 G5 h).1))⟩, fun h => ⟨rfl, bad _ (P20.trans (thn_no (lab_bad1 G5 h).1))⟩, fun h => ⟨rfl, bad _ (P20.trans (thn_no (lab_bad2 G5 h).1))⟩⟩
  obtain ⟨a, b, c, l5, rfl, ha, hb, hc, G6⟩ := lab_good G5 h
  refine ⟨⟨⟨⟨en, fs, [⟨a.s, numV b.s, numV c.s⟩], sd, pm⟩, l5⟩, rfl, G6, P20.trans (thn_ok (lab_ok ha hb hc)), by simp only [List.length_cons, List.length_nil] at L4 ⊢; omega⟩, ?_⟩
  clear P20 P18 q1 q2 q3 G5 G4 G6 h L4 ha hb hc a b c l5
  rintro ⟨⟨en, fs, ls, sd, pm⟩, u⟩ ⟨G4, P4, L4⟩
  dsimp only at G4 P4 L4 ⊢
  obtain ⟨t4, l4, rfl⟩ := gt_cons G4
  have hn : (lbsL ls).length = ls.length := List.length_map _
  have stop : isCm (t4 :: l4) = false → parseTk ts = k21 ⟨en, fs, ls, sd, pm⟩ (t4 :: l4) := fun hc => P4.trans (thn_ok (moreL_end hc))
  refine ⟨len_tok _ _, _, take_k, fun c5 => ⟨len_tok _ _, _, take_s, fun cs => ?_, fun cs => ⟨⟨⟨en, fs, ls, sd, pm⟩, t4 :: l4⟩, rfl, G4, stop (cm_no2 cs)⟩⟩, fun c5 => ⟨⟨⟨en, fs, ls, sd, pm⟩, t4 :: l4⟩, rfl, G4, stop (cm_no1 c5)⟩⟩
  have hcm : isCm [t4] = true := cm_yes c5 cs
  have G5 : GoodT l4 := gt_tail G4 (by have := eq_of_beq c5; rw [this]; decide)
  obtain ⟨q1, q2, q3⟩ := lab_asked G5
  refine ⟨by omega, ⟨len_tok1 _ _, Nat.le_refl _⟩, ⟨q1, q2, q3, ⟨ls, rfl⟩, hn.symm, by simp only [List.length_cons] at L4; omega, rfl, rfl⟩, fun h => ?_, fun h => ⟨rfl, bad _ (P4.trans (thn_no ((lab_bad0 G5 h).2 _ _ hcm)))⟩, fun h => ⟨rfl, bad _ (P4.trans (thn_no ((lab_bad1 G5 h).2 _ _ hcm)))⟩, fun h => ⟨rfl, bad _ (P4.trans (thn_no ((lab_bad2 G5 h).2 _ _ hcm)))⟩⟩
  obtain ⟨a, b, c, l5, rfl, ha, hb, hc, G6⟩ := lab_good G5 h
  refine ⟨⟨⟨en, fs, ls ++ [⟨a.s, numV b.s, numV c.s⟩], sd, pm⟩, l5⟩, ?_, ⟨G6, P4.trans (kMl_ok hcm ha hb hc), by simp only [List.length_cons, List.length_append, List.length_nil] at L4 ⊢; omega⟩, by simp only [List.length_cons]; omega⟩
  simp only [List.map_append, List.length_append, hn]; rfl
 clear P18 G4 L4 stop t4 l4
 rintro ⟨⟨en, fs, ls, sd, pm⟩, u⟩ ⟨G4, P21⟩
 dsimp only at G4 P21 ⊢
 obtain ⟨t4, l4, rfl⟩ := gt_cons G4
 refine ⟨⟨⟨t4, l4, rfl⟩, rfl, rfl⟩, fun h => ?_, fun h => ⟨rfl, bad _ (P21.trans (thn_no (nx_no fun x => h x)))⟩⟩
 have P : parseTk ts = .ok ⟨en, fs, ls, sd, pm⟩ := P21.trans (by
  have h' : t4.k = 6 ∧ everyB t4.s = true := h
  unfold k21; exact thn_ok (by rw [nx, if_pos h']))
 refine ⟨_, run46 ⟨en, fs, ls, sd, pm⟩, fun hb => ?_, fun hb => ?_⟩
 ·rw [P]
  unfold resP
  simp only [hb, if_true]
  exact lax_r ⟨en, fs, ls, sd, pm⟩
 ·rw [P]
  unfold resP
  simp only [hb, if_false, Bool.false_eq_true]
  exact lax_z _ _
def libT : List (FuncId × Spec) := [(161, sIndexByte), (163, sIndexByteString), (133, sContains)]
theorem libT_ok (m : Int) : CalleeOk PQ (GQ m) (tbl libT) := by
 refine tbl_cons (o_indexByte (fn := Tryz.f161) (by kernel_rfl) (by kernel_rfl) (by kernel_rfl) (by kernel_rfl) (by kernel_rfl)) (tbl_cons (o_indexByteString (fn := Tryz.f163) (by kernel_rfl) (by kernel_rfl) (by kernel_rfl) (by kernel_rfl) (by kernel_rfl)) (tbl_cons ?_ tbl_nil))
 exact o_contains (goodQ (by kernel_rfl)) (g0 := 0) (m := m) rfl fun s sub m w hs hm => Tryz.strings_Contains s sub m w hs hm
def src0 : List UInt8 := [111, 102, 32, 117, 115, 101, 114, 32, 116, 97, 107, 101, 32, 97, 44, 32, 98, 32, 115, 101, 101, 100, 32, 55, 32, 107, 101, 101, 112, 32, 53, 48, 48, 32, 97, 116, 32, 34, 117, 34, 32, 49, 48, 32, 50, 48, 44, 32, 34, 118, 34, 32, 53, 32, 57]
def tok0 : List Tk := [⟨1, [111, 102], 0⟩, ⟨1, [117, 115, 101, 114], 3⟩, ⟨1, [116, 97, 107, 101], 8⟩, ⟨1, [97], 13⟩, ⟨5, [44], 14⟩, ⟨1, [98], 16⟩, ⟨1, [115, 101, 101, 100], 18⟩, ⟨2, [55], 23⟩, ⟨1, [107, 101, 101, 112], 25⟩, ⟨2, [53, 48, 48], 30⟩, ⟨1, [97, 116], 34⟩, ⟨4, [117], 37⟩, ⟨2, [49, 48], 41⟩, ⟨2, [50, 48], 44⟩, ⟨5, [44], 46⟩, ⟨4, [118], 48⟩, ⟨2, [53], 52⟩, ⟨2, [57], 54⟩, ⟨6, [], 55⟩]
set_option maxRecDepth 100000 in
theorem run36_0 (m : Int) : (evs PQ (GQ m) (tbl libT) (fun _ => []) 200).1 36 [bytesA src0] = some (.tup [.sl 3 (toksL tok0) (.tok 0), .sl 0 [] .nil, .int .i64 0], [(19, 99)]) := by kernel_rfl
def src1 : List UInt8 := [111, 102, 32, 117, 115, 101, 114, 32, 116, 97, 107, 101, 32, 97, 44, 32, 97, 32, 115, 101, 101, 100, 32, 48, 32, 107, 101, 101, 112, 32, 49, 48, 48, 48]
def tok1 : List Tk := [⟨1, [111, 102], 0⟩, ⟨1, [117, 115, 101, 114], 3⟩, ⟨1, [116, 97, 107, 101], 8⟩, ⟨1, [97], 13⟩, ⟨5, [44], 14⟩, ⟨1, [97], 16⟩, ⟨1, [115, 101, 101, 100], 18⟩, ⟨2, [48], 23⟩, ⟨1, [107, 101, 101, 112], 25⟩, ⟨2, [49, 48, 48, 48], 30⟩, ⟨6, [], 34⟩]
set_option maxRecDepth 100000 in
theorem run36_1 (m : Int) : (evs PQ (GQ m) (tbl libT) (fun _ => []) 200).1 36 [bytesA src1] = some (.tup [.sl 3 (toksL tok1) (.tok 0), .sl 0 [] .nil, .int .i64 0], [(11, 99)]) := by kernel_rfl
def src2 : List UInt8 := [111, 102, 32, 117, 115, 101, 114, 32, 116, 97, 107, 101, 32, 97, 32, 115, 101, 101, 100, 32, 48, 32, 107, 101, 101, 112, 32, 49, 48, 48, 48, 32, 97, 116, 32, 34, 117, 34, 32, 49, 48]
def tok2 : List Tk := [⟨1, [111, 102], 0⟩, ⟨1, [117, 115, 101, 114], 3⟩, ⟨1, [116, 97, 107, 101], 8⟩, ⟨1, [97], 13⟩, ⟨1, [115, 101, 101, 100], 15⟩, ⟨2, [48], 20⟩, ⟨1, [107, 101, 101, 112], 22⟩, ⟨2, [49, 48, 48, 48], 27⟩, ⟨1, [97, 116], 32⟩, ⟨4, [117], 35⟩, ⟨2, [49, 48], 39⟩, ⟨6, [], 41⟩]
set_option maxRecDepth 100000 in
theorem run36_2 (m : Int) : (evs PQ (GQ m) (tbl libT) (fun _ => []) 200).1 36 [bytesA src2] = some (.tup [.sl 3 (toksL tok2) (.tok 0), .sl 0 [] .nil, .int .i64 0], [(12, 99)]) := by kernel_rfl
def src3 : List UInt8 := [111, 102, 32, 105, 102, 32, 116, 97, 107, 101, 32, 97]
def tok3 : List Tk := [⟨1, [111, 102], 0⟩, ⟨1, [105, 102], 3⟩, ⟨1, [116, 97, 107, 101], 6⟩, ⟨1, [97], 11⟩, ⟨6, [], 12⟩]
set_option maxRecDepth 100000 in
theorem run36_3 (m : Int) : (evs PQ (GQ m) (tbl libT) (fun _ => []) 200).1 36 [bytesA src3] = some (.tup [.sl 3 (toksL tok3) (.tok 0), .sl 0 [] .nil, .int .i64 0], [(5, 99)]) := by kernel_rfl
theorem SpecOk.own {P : Program} {G : Glob} {f : FuncId} {s s' : Spec} (hs : SpecOk P G f s) (h : ∀ args r', s' args = some r' → ∃ r, s args = some r ∧ RetLax r.1 r' ∧ ∀ L, RetLax (adopt L r.1) r') : SpecOk P G f s' := by
 intro g args r' lv hr
 by_cases e : g = f
 ·subst e
  simp only [if_true] at hr
  obtain ⟨r, h1, h2, h3⟩ := h args _ hr
  have hlv : lv = [] := h2.none
  subst hlv
  intro E w vs hI hG hn hv hcl
  refine (hs g args r.1 r.2 (by simp only [if_true]; exact h1) E w vs hI hG hn hv hcl).mono ?_
  rintro e w' ⟨v, he, I', k1, k2, k3, k4⟩
  refine ⟨v, he, I', k1, k2, k3, .inl ⟨rfl, fun B K => ?_⟩⟩
  rcases k4 with ⟨_, k4⟩ | ⟨n, e', hv', sz, xs, _, _, _, _, hrep⟩
  ·exact h2.lax.rep (k4 B K)
  ·exact rep_closed2 ((h3 0).lax.rep (hrep B (fun _ _ _ => True) 0 trivial)) h2.closed B K
 ·simp only [e, if_false] at hr
  cases hr
theorem evs_spec {P : Program} {G : Glob} {R0 : Callee} {hint : FuncId → List Bool} (hm : P.follows .mixedOrders = true) (h0 : CalleeOk P G R0) (n : Nat) (f : FuncId) : SpecOk P G f ((evs P G R0 hint n).1 f) := by
 intro g args r lv h
 by_cases e : g = f
 ·subst e
  simp only [if_true] at h
  exact (evs_ok hm h0 hint n).1 g args r lv h
 ·simp only [e, if_false] at h
  cases h
def exT (bs : List UInt8) : Option (List Tk) := if bs = src0 then some tok0 else if bs = src1 then some tok1 else if bs = src2 then some tok2 else if bs = src3 then some tok3 else none
def s36x : Spec := fun args => match args with
 | [.sl 1 es .no] => (unBytes es).bind fun bs => (exT bs).map fun ts => s36v ts [] 0
 | _ => none
def s11x : Spec := fun args => match args with
 | [.sl 1 es .no] => (unBytes es).bind fun bs => (exT bs).map fun ts => (resT ts [] 0, [])
 | _ => none
theorem exT_inv {bs : List UInt8} {ts : List Tk} (h : exT bs = some ts) : (bs = src0 ∧ ts = tok0) ∨ (bs = src1 ∧ ts = tok1) ∨ (bs = src2 ∧ ts = tok2) ∨ (bs = src3 ∧ ts = tok3) := by
 unfold exT at h
 split at h
 ·rename_i e; injection h with h; exact .inl ⟨e, h.symm⟩
 split at h
 ·rename_i e; injection h with h; exact .inr (.inl ⟨e, h.symm⟩)
 split at h
 ·rename_i e; injection h with h; exact .inr (.inr (.inl ⟨e, h.symm⟩))
 split at h
 ·rename_i e; injection h with h; exact .inr (.inr (.inr ⟨e, h.symm⟩))
 ·cases h
theorem good_ex {bs : List UInt8} {ts : List Tk} (h : exT bs = some ts) : GoodT ts := by
 rcases exT_inv h with ⟨_, rfl⟩ | ⟨_, rfl⟩ | ⟨_, rfl⟩ | ⟨_, rfl⟩
 ·exact ⟨⟨tok0.dropLast, tok0.getLast (by decide), rfl, rfl⟩, by decide, by decide⟩
 ·exact ⟨⟨tok1.dropLast, tok1.getLast (by decide), rfl, rfl⟩, by decide, by decide⟩
 ·exact ⟨⟨tok2.dropLast, tok2.getLast (by decide), rfl, rfl⟩, by decide, by decide⟩
 ·exact ⟨⟨tok3.dropLast, tok3.getLast (by decide), rfl, rfl⟩, by decide, by decide⟩
theorem ex_inv {args : List AV} {r : AV × List (Nat × TypeId)} {k : List Tk → AV × List (Nat × TypeId)} (h : (match args with
 | [.sl 1 es .no] => (unBytes es).bind fun bs => (exT bs).map k
 | _ => none) = some r) : ∃ bs ts, args = [bytesA bs] ∧ exT bs = some ts ∧ r = k ts := by
 split at h
 case h_2 => cases h
 rename_i es
 cases hb : unBytes es with
 | none => rw [hb] at h; cases h
 | some bs =>
  rw [hb] at h
  simp only [Option.bind_some] at h
  cases ht : exT bs with
  | none => rw [ht] at h; cases h
  | some ts =>
   rw [ht] at h
   simp only [Option.map_some, Option.some.injEq] at h
   exact ⟨bs, ts, by rw [unBytes_some hb], ht, h.symm⟩
theorem s36x_at {bs : List UInt8} {ts : List Tk} (h : exT bs = some ts) : s36x [bytesA bs] = some (s36v ts [] 0) := by
 simp only [s36x, unBytes_mk, Option.bind_some, h, Option.map_some]
theorem toks_lax (ts : List Tk) (L : Nat) : RetLax (.tup [.sl 3 (toksL ts) (.tok L), .sl 0 [] .nil, .int .i64 0]) (s36v ts [] 0) := by
 refine ⟨?_, ?_, rfl⟩
 ·exact ⟨⟨rfl, rfl, .inl rfl⟩, ⟨rfl, rfl, .inr rfl⟩, rfl, trivial⟩
 ·rfl
theorem o36 (m : Int) : SpecOk PQ (GQ m) 36 s36x := SpecOk.own (evs_spec mixedQ (libT_ok m) 200 36) fun args r h => by
 obtain ⟨bs, ts, rfl, ht, rfl⟩ := ex_inv h
 rcases exT_inv ht with ⟨rfl, rfl⟩ | ⟨rfl, rfl⟩ | ⟨rfl, rfl⟩ | ⟨rfl, rfl⟩
 ·exact ⟨_, run36_0 m, toks_lax _ _, fun L => toks_lax _ L⟩
 ·exact ⟨_, run36_1 m, toks_lax _ _, fun L => toks_lax _ L⟩
 ·exact ⟨_, run36_2 m, toks_lax _ _, fun L => toks_lax _ L⟩
 ·exact ⟨_, run36_3 m, toks_lax _ _, fun L => toks_lax _ L⟩
theorem o11x (m : Int) : SpecOk PQ (GQ m) 11 s11x := tlax_of' mixedQ fun args r h => by
 obtain ⟨bs, ts, rfl, ht, rfl⟩ := ex_inv h
 have hR := tbl_cons (o36 m) (tbl_cons (o46 m) tbl_nil)
 exact ⟨_, _, _, _, _, _, hR, itbl_nil, inlW_ok mixedQ hR itbl_nil (J1_ok m), p11 m s36x bs ts [] 0 (s36x_at ht) fun _ _ _ => good_ex ht⟩
noncomputable def evI (m : Int) (f : FuncId) : ISpec := fun args S => ((evs PQ (GQ m) (tbl libT) (fun _ => []) 100).2 f args S).map fun r => (True, r.1, r.2)
theorem evI_ok (m : Int) (f : FuncId) : ISpecOk PQ (GQ m) f (evI m f) := by
 intro g args S r S' h
 simp only [lowC] at h
 by_cases e : g = f
 ·subst e
  simp only [if_true] at h
  split at h
  case h_2 => cases h
  rename_i y hy
  split at h
  case isFalse => cases h
  injection h with h
  unfold evI at hy
  cases hx : (evs PQ (GQ m) (tbl libT) (fun _ => []) 100).2 g args S with
  | none => rw [hx] at hy; cases hy
  | some x =>
   rw [hx] at hy
   injection hy with hy
   subst hy
   exact (evs_ok mixedQ (libT_ok m) (fun _ => []) 100).2 g args S r S' (by rw [hx, ← h])
 ·simp only [if_neg e] at h
  cases h
def lv0 : List Lb := [⟨[118], 5, 9⟩, ⟨[117], 10, 20⟩, ⟨[117], 9, 30⟩, ⟨[118], 5, 9⟩]
def lvS : List Lb := [⟨[117], 9, 30⟩, ⟨[117], 10, 20⟩, ⟨[118], 5, 9⟩]
def s21x : Spec := fun args => match args with
 | [.sl sz es _] => if sz = 3 ∧ unL unLb es = some lv0 then some (.sl 3 (lbsL lvS) .no, []) else none
 | _ => none
theorem w21x (m : Int) (r : AV) : (laxW PQ (GQ m) X24 (tbl []) (itbl [(57, sClone 3 32), (58, evI m 58), (60, evI m 60)]) nAn [] 21 [.sl 3 (lbsL lv0) .no] (r, [])) =
(Nat.le ((128 : Nat)) ((140737488355328 : Nat)) ∧
  True ∧
    True ∧
      (3 : Nat) = (3 : Nat) ∧
        RetLax
 (AV.sl ((3 : Nat))
 [AV.agg [AV.str [(117 : UInt8)], AV.int IntKind.i64 (9 : Int), AV.int IntKind.i64 (30 : Int)],
 AV.agg [AV.str [(117 : UInt8)], AV.int IntKind.i64 (10 : Int), AV.int IntKind.i64 (20 : Int)],
 AV.agg [AV.str [(118 : UInt8)], AV.int IntKind.i64 (5 : Int), AV.int IntKind.i64 (9 : Int)]]
 Own.no)
 (r, [])) := by kernel_rfl
theorem w14 (m : Int) (x : Rq) (r : AV) : (tqW PQ idMk (GQ m) XS (tbl tS) (itbl [(50, s50)]) [4, 5, 10] (a14 x) [] 13 (fun T S => FmtEnd x (T.getD 3 (.tup [])) S T.length) 14 [rqA x] (fun r0 _ => RetLax r0 (r, []))) =
(∃ (b : Bool),
  CallIs
      (tbl [((46 : Nat), s46), ((51 : Nat), s51), ((52 : Nat), s52)] ((46 : Nat))
        [AV.agg
 [AV.str x.entity, AV.sl ((1 : Nat)) (strsL x.feats) Own.no, AV.sl ((3 : Nat)) (lbsL x.labels) Own.no, AV.int IntKind.i64 x.seed,
 AV.int IntKind.i64 x.permille]])
      (AV.bool b) [] ∧
    (b = true →
        (3 : Nat) + x.entity.length ≤ (9223372036854775807 : Nat) ∧
 ([(111 : UInt8), (102 : UInt8), (32 : UInt8)] ++ x.entity).length + (6 : Nat) ≤ (9223372036854775807 : Nat) ∧
 ∃ (s : List UInt8),
 CallIs
 (tbl [((46 : Nat), s46), ((51 : Nat), s51), ((52 : Nat), s52)] ((51 : Nat))
 [AV.sl ((1 : Nat)) (strsL x.feats) Own.no, AV.str [(44 : UInt8), (32 : UInt8)]])
 (AV.str s) [] ∧
 ([(111 : UInt8), (102 : UInt8), (32 : UInt8)] ++ x.entity ++
 [(32 : UInt8), (116 : UInt8), (97 : UInt8), (107 : UInt8), (101 : UInt8), (32 : UInt8)]).length +
 s.length ≤
 (9223372036854775807 : Nat) ∧
 (((107 : Int) = (107 : Int) ∧ (1 : Nat) = (1 : Nat) ∧ (5 : Nat) = (5 : Nat) ∧ (0 : Nat) = (0 : Nat)) ∧
 [(111 : UInt8), (102 : UInt8), (32 : UInt8)] ++ x.entity ++
 [(32 : UInt8), (116 : UInt8), (97 : UInt8), (107 : UInt8), (101 : UInt8), (32 : UInt8)] ++
 s ≠
 [] ∧
 ((0 : Nat) +
 ([(111 : UInt8), (102 : UInt8), (32 : UInt8)] ++ x.entity ++
 [(32 : UInt8), (116 : UInt8), (97 : UInt8), (107 : UInt8), (101 : UInt8), (32 : UInt8)] ++
 s).length) *
 (2 : Nat) ≤
 (70368744177664 : Nat)) ∧
 ∃ (s_1 : List UInt8),
 CallIs (tbl [((46 : Nat), s46), ((51 : Nat), s51), ((52 : Nat), s52)] ((52 : Nat)) [AV.int IntKind.i64 x.seed]) (AV.str s_1) [] ∧
 (6 : Nat) + s_1.length ≤ (9223372036854775807 : Nat) ∧
 ((32 : UInt8) :: (115 : UInt8) :: (101 : UInt8) :: (101 : UInt8) :: (100 : UInt8) :: (32 : UInt8) :: s_1).length + (6 : Nat) ≤
 (9223372036854775807 : Nat) ∧
 ∃ (s_2 : List UInt8),
 CallIs (tbl [((46 : Nat), s46), ((51 : Nat), s51), ((52 : Nat), s52)] ((52 : Nat)) [AV.int IntKind.i64 x.permille]) (AV.str s_2)
 [] ∧
 ((32 : UInt8) :: (115 : UInt8) :: (101 : UInt8) :: (101 : UInt8) :: (100 : UInt8) :: (32 : UInt8) :: s_1 ++
 [(32 : UInt8), (107 : UInt8), (101 : UInt8), (101 : UInt8), (112 : UInt8), (32 : UInt8)]).length +
 s_2.length ≤
 (9223372036854775807 : Nat) ∧
 (((107 : Int) = (107 : Int) ∧
 (1 : Nat) = (1 : Nat) ∧
 (5 : Nat) = (5 : Nat) ∧
 (0 : Nat) +
 ([(111 : UInt8), (102 : UInt8), (32 : UInt8)] ++ x.entity ++
 [(32 : UInt8), (116 : UInt8), (97 : UInt8), (107 : UInt8), (101 : UInt8), (32 : UInt8)] ++
 s).length =
 ([] ++
 bytesL
 ([(111 : UInt8), (102 : UInt8), (32 : UInt8)] ++ x.entity ++
 [(32 : UInt8), (116 : UInt8), (97 : UInt8), (107 : UInt8), (101 : UInt8), (32 : UInt8)] ++
 s)).length) ∧
 (32 : UInt8) :: (115 : UInt8) :: (101 : UInt8) :: (101 : UInt8) :: (100 : UInt8) :: (32 : UInt8) :: s_1 ++
 [(32 : UInt8), (107 : UInt8), (101 : UInt8), (101 : UInt8), (112 : UInt8), (32 : UInt8)] ++
 s_2 ≠
 [] ∧
 (([] ++
 bytesL
 ([(111 : UInt8), (102 : UInt8), (32 : UInt8)] ++ x.entity ++
 [(32 : UInt8), (116 : UInt8), (97 : UInt8), (107 : UInt8), (101 : UInt8), (32 : UInt8)] ++
 s)).length +
 ((32 : UInt8) :: (115 : UInt8) :: (101 : UInt8) :: (101 : UInt8) :: (100 : UInt8) :: (32 : UInt8) :: s_1 ++
 [(32 : UInt8), (107 : UInt8), (101 : UInt8), (101 : UInt8), (112 : UInt8), (32 : UInt8)] ++
 s_2).length) *
 (2 : Nat) ≤
 (70368744177664 : Nat)) ∧
 (∃ (y : FX),
 ValsAre
 [AV.ptr ((0 : Nat)) ((0 : Nat)), AV.ptr ((1 : Nat)) ((0 : Nat)),
 AV.str [(32 : UInt8), (97 : UInt8), (116 : UInt8), (32 : UInt8)], AV.sl ((3 : Nat)) (lbsL x.labels) Own.no,
 AV.int IntKind.i64 (↑(lbsL x.labels).length : Int), AV.int IntKind.i64 (0 : Int)]
 [AV.ptr ((0 : Nat)) ((0 : Nat)), AV.ptr ((1 : Nat)) ((0 : Nat)), AV.str y.bf,
 AV.sl ((3 : Nat)) (lbsL x.labels) Own.no, AV.int IntKind.i64 (↑x.labels.length : Int),
 AV.int IntKind.i64 (↑y.i : Int)] ∧
 StIs
 { boxes := [some [AV.str x.entity, AV.sl ((1 : Nat)) (strsL x.feats) Own.no, AV.sl ((3 : Nat)) (lbsL x.labels) Own.no, AV.int IntKind.i64 x.seed, AV.int IntKind.i64 x.permille], some [AV.tup [AV.int IntKind.i64 (107 : Int), AV.agg [AV.opq, AV.sl ((1 : Nat)) ([] ++ bytesL ([(111 : UInt8), (102 : UInt8), (32 : UInt8)] ++ x.entity ++ [(32 : UInt8), (116 : UInt8), (97 : UInt8), (107 : UInt8), (101 : UInt8), (32 : UInt8)] ++ s) ++ bytesL ((32 : UInt8) :: (115 : UInt8) :: (101 : UInt8) :: (101 : UInt8) :: (100 : UInt8) :: (32 : UInt8) :: s_1 ++ [(32 : UInt8), (107 : UInt8), (101 : UInt8), (101 : UInt8), (112 : UInt8), (32 : UInt8)] ++ s_2)) (Own.tok ((0 : Nat)))]]]], live := [(([] ++ bytesL ([(111 : UInt8), (102 : UInt8), (32 : UInt8)] ++ x.entity ++ [(32 : UInt8), (116 : UInt8), (97 : UInt8), (107 : UInt8), (101 : UInt8), (32 : UInt8)] ++ s)).length + ((32 : UInt8) :: (115 : UInt8) :: (101 : UInt8) :: (101 : UInt8) :: (100 : UInt8) :: (32 : UInt8) :: s_1 ++ [(32 : UInt8), (107 : UInt8), (101 : UInt8), (101 : UInt8), (112 : UInt8), (32 : UInt8)] ++ s_2).length, (5 : Nat))] }
 { boxes := [some [AV.str x.entity, AV.sl ((1 : Nat)) (strsL x.feats) Own.no, AV.sl ((3 : Nat)) (lbsL x.labels) Own.no, AV.int IntKind.i64 x.seed, AV.int IntKind.i64 x.permille], some [AV.tup [AV.int IntKind.i64 (107 : Int), AV.agg [AV.opq, AV.sl ((1 : Nat)) (bytesL y.t) (Own.tok ((0 : Nat)))]]]], live := [(y.t.length, (5 : Nat))] } ∧
 (y.i ≤ x.labels.length ∧
 y.t =
 fmtHead x ++ fmtMid x ++
 fmtTail [(32 : UInt8), (97 : UInt8), (116 : UInt8), (32 : UInt8)] (List.take y.i x.labels) ∧
 y.bf =
 if y.i = (0 : Nat) then [(32 : UInt8), (97 : UInt8), (116 : UInt8), (32 : UInt8)]
 else [(44 : UInt8), (32 : UInt8)]) ∧
 True) ∧
 ∀ (x_1 : FX),
 (x_1.i ≤ x.labels.length ∧
 x_1.t =
 fmtHead x ++ fmtMid x ++
 fmtTail [(32 : UInt8), (97 : UInt8), (116 : UInt8), (32 : UInt8)] (List.take x_1.i x.labels) ∧
 x_1.bf =
 if x_1.i = (0 : Nat) then [(32 : UInt8), (97 : UInt8), (116 : UInt8), (32 : UInt8)]
 else [(44 : UInt8), (32 : UInt8)]) →
 (decide ((↑x_1.i : Int) < (↑x.labels.length : Int)) = true →
 ((0 : Int) ≤ (↑x_1.i : Int) ∧ (↑x_1.i : Int) < (↑(lbsL x.labels).length : Int)) ∧
 ∃ (s : List UInt8),
 ∃ (n : Int),
 ∃ (n_1 : Int),
 takeAt PQ ((65 : Nat)) (lbsL x.labels) (↑x_1.i : Int).toNat ((0 : Nat)) =
 some (AV.agg [AV.str s, AV.int IntKind.i64 n, AV.int IntKind.i64 n_1]) ∧
 x_1.bf.length + (1 : Nat) ≤ (9223372036854775807 : Nat) ∧
 (x_1.bf ++ [(34 : UInt8)]).length + s.length ≤ (9223372036854775807 : Nat) ∧
 (x_1.bf ++ [(34 : UInt8)] ++ s).length + (2 : Nat) ≤ (9223372036854775807 : Nat) ∧
 ∃ (s_3 : List UInt8),
 CallIs
 (tbl [((46 : Nat), s46), ((51 : Nat), s51), ((52 : Nat), s52)] ((52 : Nat))
 [AV.int IntKind.i64 n])
 (AV.str s_3) [] ∧
 (x_1.bf ++ [(34 : UInt8)] ++ s ++ [(34 : UInt8), (32 : UInt8)]).length + s_3.length ≤
 (9223372036854775807 : Nat) ∧
 (x_1.bf ++ [(34 : UInt8)] ++ s ++ [(34 : UInt8), (32 : UInt8)] ++ s_3).length + (1 : Nat) ≤
 (9223372036854775807 : Nat) ∧
 ∃ (s_4 : List UInt8),
 CallIs
 (tbl [((46 : Nat), s46), ((51 : Nat), s51), ((52 : Nat), s52)] ((52 : Nat))
 [AV.int IntKind.i64 n_1])
 (AV.str s_4) [] ∧
 (x_1.bf ++ [(34 : UInt8)] ++ s ++ [(34 : UInt8), (32 : UInt8)] ++ s_3 ++
 [(32 : UInt8)]).length +
 s_4.length ≤
 (9223372036854775807 : Nat) ∧
 (((107 : Int) = (107 : Int) ∧
 (1 : Nat) = (1 : Nat) ∧
 (5 : Nat) = (5 : Nat) ∧ x_1.t.length = (bytesL x_1.t).length) ∧
 x_1.bf ++ [(34 : UInt8)] ++ s ++ [(34 : UInt8), (32 : UInt8)] ++ s_3 ++
 [(32 : UInt8)] ++
 s_4 ≠
 [] ∧
 ((bytesL x_1.t).length +
 (x_1.bf ++ [(34 : UInt8)] ++ s ++ [(34 : UInt8), (32 : UInt8)] ++ s_3 ++
 [(32 : UInt8)] ++
 s_4).length) *
 (2 : Nat) ≤
 (70368744177664 : Nat)) ∧
 ∃ (y : FX),
 ValsAre
 [AV.ptr ((0 : Nat)) ((0 : Nat)), AV.ptr ((1 : Nat)) ((0 : Nat)),
 AV.str [(44 : UInt8), (32 : UInt8)],
 AV.sl ((3 : Nat)) (lbsL x.labels) Own.no,
 AV.int IntKind.i64 (↑x.labels.length : Int),
 AV.int IntKind.i64 (IntKind.i64.wrap ((↑x_1.i : Int) + (1 : Int)))]
 [AV.ptr ((0 : Nat)) ((0 : Nat)), AV.ptr ((1 : Nat)) ((0 : Nat)),
 AV.str y.bf, AV.sl ((3 : Nat)) (lbsL x.labels) Own.no,
 AV.int IntKind.i64 (↑x.labels.length : Int),
 AV.int IntKind.i64 (↑y.i : Int)] ∧
 StIs
 { boxes := [some [AV.str x.entity, AV.sl ((1 : Nat)) (strsL x.feats) Own.no, AV.sl ((3 : Nat)) (lbsL x.labels) Own.no, AV.int IntKind.i64 x.seed, AV.int IntKind.i64 x.permille], some [AV.tup [AV.int IntKind.i64 (107 : Int), AV.agg [AV.opq, AV.sl ((1 : Nat)) (bytesL x_1.t ++ bytesL (x_1.bf ++ [(34 : UInt8)] ++ s ++ [(34 : UInt8), (32 : UInt8)] ++ s_3 ++ [(32 : UInt8)] ++ s_4)) (Own.tok ((0 : Nat)))]]]], live := [((bytesL x_1.t).length + (x_1.bf ++ [(34 : UInt8)] ++ s ++ [(34 : UInt8), (32 : UInt8)] ++ s_3 ++ [(32 : UInt8)] ++ s_4).length, (5 : Nat))] }
 { boxes := [some [AV.str x.entity, AV.sl ((1 : Nat)) (strsL x.feats) Own.no, AV.sl ((3 : Nat)) (lbsL x.labels) Own.no, AV.int IntKind.i64 x.seed, AV.int IntKind.i64 x.permille], some [AV.tup [AV.int IntKind.i64 (107 : Int), AV.agg [AV.opq, AV.sl ((1 : Nat)) (bytesL y.t) (Own.tok ((0 : Nat)))]]]], live := [(y.t.length, (5 : Nat))] } ∧
 (y.i ≤ x.labels.length ∧
 y.t =
 fmtHead x ++ fmtMid x ++
 fmtTail [(32 : UInt8), (97 : UInt8), (116 : UInt8), (32 : UInt8)]
 (List.take y.i x.labels) ∧
 y.bf =
 if y.i = (0 : Nat) then
 [(32 : UInt8), (97 : UInt8), (116 : UInt8), (32 : UInt8)]
 else [(44 : UInt8), (32 : UInt8)]) ∧
 x.labels.length - y.i < x.labels.length - x_1.i) ∧
 (decide ((↑x_1.i : Int) < (↑x.labels.length : Int)) = false →
 FmtEnd x (AV.ptr ((1 : Nat)) ((0 : Nat)))
 { boxes := [some [AV.str x.entity, AV.sl ((1 : Nat)) (strsL x.feats) Own.no, AV.sl ((3 : Nat)) (lbsL x.labels) Own.no, AV.int IntKind.i64 x.seed, AV.int IntKind.i64 x.permille], some [AV.tup [AV.int IntKind.i64 (107 : Int), AV.agg [AV.opq, AV.sl ((1 : Nat)) (bytesL x_1.t) (Own.tok ((0 : Nat)))]]]], live := [(x_1.t.length, (5 : Nat))] }
 (54 : Nat))) ∧
      (b = false → RetLax (AV.str []) (r, []))) := by kernel_rfl
end Go.Abs
namespace Go.Abs
open Go.Proofs Go.RowKit
theorem rs46 (x : Rq) : tbl tS 46 [rqA x] = some (.bool (formB x), []) := by
 show s46 [rqA x] = _
 simp only [s46, unRqN_ok]
theorem rs52 {n : Int} (h0 : -9223372036854775808 ≤ n) (h1 : n ≤ 9223372036854775807) : tbl tS 52 [.int .i64 n] = some (.str (Lib.itoa n), []) := by
 show s52 [.int .i64 n] = _
 simp only [s52]
 rw [if_pos ⟨h0, h1⟩]
theorem rs51 {l : List (List UInt8)} {sep : List UInt8} (h0 : l.length ≤ 140737488355328) (h1 : (Lib.join l sep).length ≤ 140737488355328) : tbl tS 51 [.sl 1 (strsL l) .no, .str sep] = some (.str (Lib.join l sep), []) := by
 show s51 [.sl 1 (strsL l) .no, .str sep] = _
 simp only [s51, strsL, unL_map unS_ok]
 rw [if_pos ⟨trivial, h0, h1⟩]
theorem takeLb0 (x : Lb) : takeA (aggA PQ 65) (sizeA PQ 65) (lbA x).cells 0 = some (lbA x) := by kernel_rfl
theorem takeLb (l : List Lb) (i : Nat) (h : i < l.length) : takeAt PQ 65 (lbsL l) i 0 = some (lbA l[i]) := by
 have e1 : (lbsL l)[i]? = some (lbA l[i]) := by rw [List.getElem?_map, List.getElem?_eq_getElem h]; rfl
 unfold takeAt
 rw [e1]
 exact takeLb0 _
theorem tick_bd {n : Int} (h : tickB n = true) : -9223372036854775808 ≤ n ∧ n ≤ 9223372036854775807 := by
 unfold tickB at h
 simp at h
 omega
structure FmtIn (r : Rq) : Prop where
 en : r.entity.length ≤ 24
 nf : r.feats.length ≤ 8
 lf : ∀ f ∈ r.feats, f.length ≤ 24
 nl : r.labels.length ≤ 256
 ll : ∀ x ∈ r.labels, x.key.length ≤ 32 ∧ (-9223372036854775808 ≤ x.event ∧ x.event ≤ 9223372036854775807) ∧ -9223372036854775808 ≤ x.know ∧ x.know ≤ 9223372036854775807
 sd : -9223372036854775808 ≤ r.seed ∧ r.seed ≤ 9223372036854775807
 pm : -9223372036854775808 ≤ r.permille ∧ r.permille ≤ 9223372036854775807
theorem nameR_len {s : List UInt8} (h : nameR s = true) : s.length ≤ 24 := by
 simp [nameR] at h; omega
theorem featsOk_len : ∀ {l seen : List (List UInt8)}, featsOk seen l = true → ∀ f ∈ l, f.length ≤ 24
 | [], _, _, f, hf => by cases hf
 | a :: l, seen, h, f, hf => by
  simp only [featsOk, Bool.and_eq_true] at h
  rcases List.mem_cons.1 hf with rfl | hf
  ·exact nameR_len h.1.1
  ·exact featsOk_len h.2 f hf
theorem fmt_in {r : Rq} (h : formB r = true) : FmtIn r := by
 simp only [formB, headOk, Bool.and_eq_true, decide_eq_true_eq, List.all_eq_true] at h
 obtain ⟨⟨⟨⟨⟨⟨⟨⟨h1, h2⟩, h3⟩, h4⟩, h5⟩, h6⟩, h7⟩, h8⟩, h9⟩ := h
 refine ⟨nameR_len h1, h3, featsOk_len h8, h4, fun x hx => ?_, tick_bd h5, by omega, by omega⟩
 have := h9 x hx
 simp only [lbOk, keyB, Bool.and_eq_true, decide_eq_true_eq] at this
 exact ⟨this.1.1.1.2, tick_bd this.1.2, tick_bd this.2⟩
theorem join_cons2 (a b : List UInt8) (l : List (List UInt8)) (sep : List UInt8) : Lib.join (a :: b :: l) sep = a ++ (sep ++ Lib.join (b :: l) sep) := by
 rw [Lib.join_cons, Lib.join_cons]
 simp [Lib.joinTail]
theorem join_len (sep : List UInt8) : ∀ (l : List (List UInt8)), (∀ f ∈ l, f.length ≤ 24) → (Lib.join l sep).length ≤ l.length * (24 + sep.length)
 | [], _ => by simp [Lib.join]
 | [a], h => by have := h a (by simp); simp [Lib.join]; omega
 | a :: b :: l, h => by
  have h1 := h a (by simp)
  have h2 := join_len sep (b :: l) fun f hf => h f (List.mem_cons_of_mem _ hf)
  rw [join_cons2, List.length_append, List.length_append]
  have h3 : (a :: b :: l).length * (24 + sep.length) = (b :: l).length * (24 + sep.length) + (24 + sep.length) := by rw [List.length_cons, Nat.add_mul]; omega
  rw [h3]
  omega
theorem lbT_len {x : Lb} (h : x.key.length ≤ 32 ∧ (-9223372036854775808 ≤ x.event ∧ x.event ≤ 9223372036854775807) ∧ -9223372036854775808 ≤ x.know ∧ x.know ≤ 9223372036854775807) : (lbT x).length ≤ 100 := by
 have h1 := Lib.itoa_length_le x.event h.2.1.1 h.2.1.2
 have h2 := Lib.itoa_length_le x.know h.2.2.1 h.2.2.2
 simp only [lbT, List.length_append, List.length_cons, List.length_nil]
 omega
theorem fmtTail_len : ∀ (l : List Lb) (b : List UInt8), b.length ≤ 4 → (∀ x ∈ l, (lbT x).length ≤ 100) → (fmtTail b l).length ≤ l.length * 104
 | [], b, _, _ => by simp [fmtTail]
 | x :: l, b, hb, h => by
  have h1 := h x (by simp)
  have h2 := fmtTail_len l [44, 32] (by decide) fun y hy => h y (List.mem_cons_of_mem _ hy)
  simp only [fmtTail, List.length_append, List.length_cons]
  rw [Nat.add_mul]
  omega
theorem fmtTail_snoc : ∀ (l : List Lb) (b : List UInt8) (x : Lb), fmtTail b (l ++ [x]) = fmtTail b l ++ ((if l = [] then b else [44, 32]) ++ lbT x)
 | [], b, x => by simp [fmtTail]
 | y :: l, b, x => by
  rw [List.cons_append, fmtTail, fmtTail_snoc l, fmtTail]
  by_cases h : l = []
  ·simp [h]
  ·simp [h]
theorem fmtHead_len {r : Rq} (h : FmtIn r) : (fmtHead r).length ≤ 300 := by
 have h1 := join_len [44, 32] r.feats h.lf
 have h2 := h.en
 have h3 := h.nf
 simp only [fmtHead, List.length_append, List.length_cons, List.length_nil] at h1 ⊢
 omega
theorem fmtMid_len {r : Rq} (h : FmtIn r) : (fmtMid r).length ≤ 100 := by
 have h1 := Lib.itoa_length_le r.seed h.sd.1 h.sd.2
 have h2 := Lib.itoa_length_le r.permille h.pm.1 h.pm.2
 simp only [fmtMid, List.length_append, List.length_cons, List.length_nil]
 omega
def tO (x : Rq) (i : Nat) : List UInt8 := fmtHead x ++ fmtMid x ++ fmtTail [32, 97, 116, 32] (x.labels.take i)
theorem tO_len {x : Rq} (h : FmtIn x) (i : Nat) : (tO x i).length ≤ 30000 := by
 have h1 := fmtHead_len h
 have h2 := fmtMid_len h
 have h3 := fmtTail_len (x.labels.take i) [32, 97, 116, 32] (by decide) fun y hy => lbT_len (h.ll y (List.mem_of_mem_take hy))
 have h4 := h.nl
 have h5 : (x.labels.take i).length ≤ 256 := by simp; omega
 simp only [tO, List.length_append]
 omega
theorem tO_ne (x : Rq) (i : Nat) : tO x i ≠ [] := by
 simp [tO, fmtHead]
theorem tO_succ {x : Rq} {i : Nat} (h : i < x.labels.length) : tO x (i + 1) = tO x i ++ ((if i = 0 then [32, 97, 116, 32] else [44, 32]) ++ lbT x.labels[i]) := by
 unfold tO
 rw [List.take_succ_eq_append_getElem h, fmtTail_snoc, ← List.append_assoc]
 by_cases h0 : i = 0
 ·subst h0; simp
 ·have : x.labels.take i ≠ [] := by
   intro e
   have := congrArg List.length e
   rw [List.length_take, List.length_nil] at this
   omega
  rw [if_neg this, if_neg h0]
theorem bytes_app (a b : List UInt8) : bytesL a ++ bytesL b = bytesL (a ++ b) := by simp [bytesL]
theorem bytes_len (a : List UInt8) : (bytesL a).length = a.length := List.length_map _
theorem nonempty_of_len {l : List UInt8} (h : 0 < l.length) : l ≠ [] := fun e => by rw [e] at h; cases h
theorem i64_small {n : Nat} (h : n ≤ 100000) : IntKind.i64.wrap ((n : Int) + 1) = ((n + 1 : Nat) : Int) := by
 exact wrapI (by omega)
theorem p14 (m : Int) (x : Rq) : TqOk PQ (GQ m) XS (tbl tS) (itbl [(50, s50)]) [4, 5, 10] (a14 x) [] 13 (fun T S => FmtEnd x (T.getD 3 (.tup [])) S T.length) 14 [rqA x] (.str (fmtL x)) := by
 constructor
 rw [w14]
 simp only [valsAre_iff, stIs_iff, callIs_iff, true_and, and_true]
 refine ⟨formB x, rs46 x, fun hb => ?_, fun hb => ?_⟩
 ·have h := fmt_in hb
  have e1 := h.en
  have e2 := join_len [44, 32] x.feats h.lf
  have e3 := h.nf
  have e4 := Lib.itoa_length_le x.seed h.sd.1 h.sd.2
  have e5 := Lib.itoa_length_le x.permille h.pm.1 h.pm.2
  have e6 : (Lib.join x.feats [44, 32]).length ≤ 208 := by simp only [List.length_cons, List.length_nil] at e2; omega
  have nl := h.nl
  have l0 : (lbsL x.labels).length = x.labels.length := List.length_map _
  refine ⟨by omega, by simp; omega, Lib.join x.feats [44, 32], rs51 (by omega) (by omega), by simp; omega, ⟨nonempty_of_len (by simp), by simp; omega⟩, Lib.itoa x.seed, rs52 h.sd.1 h.sd.2, by omega, by simp; omega, Lib.itoa x.permille, rs52 h.pm.1 h.pm.2, by simp; omega, ⟨by simp, by simp; omega⟩, ⟨⟨0, tO x 0, [32, 97, 116, 32]⟩, by rw [l0]; rfl, ?_, ⟨Nat.zero_le _, rfl, rfl⟩⟩, fun y hy => ?_⟩
  ·have : tO x 0 = fmtHead x ++ fmtMid x := by simp [tO, fmtTail]
   simp only [this, fmtHead, fmtMid]
   simp [bytesL]
   omega
  ·obtain ⟨i, t, bf⟩ := y
   obtain ⟨hi, ht, hbf⟩ := hy
   simp only at hi ht hbf
   have ht' : t = tO x i := ht
   subst ht'
   have tl := tO_len h i
   dsimp only
   refine ⟨fun hlt => ?_, fun hge => ?_⟩
   ·have hlt : i < x.labels.length := by have := of_decide_eq_true hlt; omega
    have hbl : bf.length ≤ 4 := by rw [hbf]; split <;> simp
    obtain ⟨k1, k2, k3⟩ := h.ll x.labels[i] (List.getElem_mem hlt)
    have k4 := Lib.itoa_length_le _ k2.1 k2.2
    have k5 := Lib.itoa_length_le _ k3.1 k3.2
    have tx : bf ++ [34] ++ x.labels[i].key ++ [34, 32] ++ Lib.itoa x.labels[i].event ++ [32] ++ Lib.itoa x.labels[i].know = bf ++ lbT x.labels[i] := by simp [lbT]
    have tn : tO x i ++ (bf ++ lbT x.labels[i]) = tO x (i + 1) := by rw [tO_succ hlt, hbf]
    have tl2 : (tO x i).length + (bf ++ lbT x.labels[i]).length = (tO x (i + 1)).length := by rw [← tn]; simp only [List.length_append]
    refine ⟨⟨by omega, by rw [l0]; omega⟩, x.labels[i].key, x.labels[i].event, x.labels[i].know, takeLb x.labels i hlt, by omega, by simp; omega, by simp; omega, Lib.itoa x.labels[i].event, rs52 k2.1 k2.2, by simp; omega, by simp; omega, Lib.itoa x.labels[i].know, rs52 k3.1 k3.2, by simp; omega, ⟨(bytes_len _).symm, nonempty_of_len (by simp; omega), by simp; omega⟩, ⟨i + 1, tO x (i + 1), [44, 32]⟩, ?_, ?_, ⟨hlt, rfl, by simp⟩, by show x.labels.length - (i + 1) < _; omega⟩
    ·rw [i64_small (by omega)]
    ·rw [tx, bytes_len, bytes_app, tn, tl2]
   ·have hge : i = x.labels.length := by have := of_decide_eq_false hge; omega
    subst hge
    refine ⟨rfl, ⟨_, _, rfl, ?_, tO_ne x _⟩, rfl⟩
    show tO x _ = _
    unfold tO fmtL
    rw [hb, if_pos rfl, List.take_length]
 ·unfold fmtL
  rw [hb]
  exact ⟨rfl, rfl, rfl⟩
def q14a : Oper := { dst := some 53, op := .call { callee := .value (.func 53), args := #[.tmp 3], argTypes := #[107] }, type := 9, pos := "request.go:156", after := #[], guard := none }
def q14b : Oper := { dst := some 2, op := .assign (.tmp 53), type := 9, pos := "request.go:156", after := #[{ on := 0, ground := .data }, { on := 0, ground := .chain }, { on := 0, ground := .phase }], guard := none }
def b14 : Code := .seq (.region 13 #[q14a, q14b] false) .ret
theorem f14_at : PQ.funcs[14]? = some Tryz.f14 := by kernel_rfl
noncomputable def c14 : Code := (Tryz.f14.body).getD .skip
theorem f14_body : Tryz.f14.body = some c14 := by kernel_rfl
theorem f14_tail : codeAt 13 c14 = some b14 := by kernel_rfl
theorem f14_good : goodFn PQ 14 := goodQ (by kernel_rfl)
theorem f53_good : goodFn PQ 53 := goodQ (by kernel_rfl)
theorem f14_res : Tryz.f14.results = #[.tmp 2] := by kernel_rfl
theorem tS_ok (m : Int) : CalleeOk PQ (GQ m) (tbl tS) := tbl_cons (o46 m) (tbl_cons (o51 m) (tbl_cons (o52 m) tbl_nil))
theorem o14 (m : Int) : SpecOk PQ (GQ m) 14 s14 := by
 refine tailQ_of (X := XS) (R := tbl tS) (C := itbl [(50, s50)]) mixedQ (tS_ok m) (itbl_cons (o50 m) itbl_nil) f14_at f14_body f14_good fun args r h => ?_
 unfold s14 at h
 split at h
 case h_2 => cases h
 split at h
 case h_2 => cases h
 rename_i a0 x hx
 injection h with h
 subst h
 obtain rfl := unRqN_inv _ _ hx
 refine ⟨[4, 5, 10], a14 x, [], 13, _, rfl, p14 m x, fun wb Eb b T S E w a hb hH hS hL hT hd => ?_⟩
 rw [f14_tail] at hb
 injection hb with hb
 subst hb
 obtain ⟨hp, ⟨b0, t, hS0, ht, hne⟩, hn54⟩ := hH
 have hr3 := hT.get 3
 rw [hp] at hr3
 obtain ⟨blk, hv3, hB⟩ := rep_ptr hr3
 have hb1 : S.boxes[1]? = some (some (typB 107 [.opq, .sl 1 (bytesL t) (.tok 0)])) := by rw [hS0]; rfl
 have hl1 : S.live = [(t.length, 5)] := by rw [hS0]
 have hcall := str_walk hS hb1 hB hl1 hne
 have hsz : a.tmps.size = 54 := by rw [← hT.1, hn54]
 refine wp_seq (wp_region_list ?_)
 have hrun : (execOp a.eval q14a).run PQ w = .ok (.enter 53 #[a.tmps.getD 3 undef]) w := by
  simp [execOp, q14a, resolve, Act.eval, Deferred.ofValue, invoke, run_callFunc f53_good]
 refine .inl ?_
 unfold Oper.wp
 rw [hrun, Oper.upon_enter, hv3]
 refine hcall.mono fun e w' ⟨he, hbel, hsize⟩ => ?_
 subst he
 refine .inl ?_
 unfold Oper.wp
 have hrun2 : (execOp (a.put (some 53) (.string ⟨t.toArray⟩)).eval q14b).run PQ w' = .ok (.value ((a.put (some 53) (.string ⟨t.toArray⟩)).eval (.tmp 53))) w' := rfl
 rw [show q14a.dst = some 53 from rfl, hrun2, Oper.upon_value]
 refine wp_ret ?_
 refine ⟨by simpa [Act.put, q14b] using hd, _, results_tmp f14_res _ _ _, _, rfl, ?_⟩
 subst ht
 have hval : ((a.put (some 53) (.string ⟨(fmtL x).toArray⟩)).put (some 2) ((a.put (some 53) (.string ⟨(fmtL x).toArray⟩)).eval (.tmp 53))).tmps.getD 2 undef = .string ⟨(fmtL x).toArray⟩ := by
  simp [Act.put, Act.eval, hsz]
 rw [show q14b.dst = some 2 from rfl, hval]
 exact res_below hbel.below fun B K => .str _ _ rfl
end Go.Abs
namespace Go.Abs
open Go.Proofs
theorem p21x (m : Int) : LaxOk PQ (GQ m) X24 (tbl []) (itbl [(57, sClone 3 32), (58, evI m 58), (60, evI m 60)]) nAn [] 21 [.sl 3 (lbsL lv0) .no] (.sl 3 (lbsL lvS) .no, []) := by
 constructor
 rw [w21x]
 exact ⟨Nat.le_of_ble_eq_true rfl, trivial, trivial, rfl, ⟨rfl, rfl, .inl rfl⟩, rfl, rfl⟩
theorem o21x (m : Int) : SpecOk PQ (GQ m) 21 s21x := lax_ofW (X := X24) (m := []) [3] mixedQ tbl_nil (itbl_cons (o57 m) (itbl_cons (evI_ok m 58) (itbl_cons (evI_ok m 60) itbl_nil))) fun args r h => by
 unfold s21x at h
 split at h
 case h_2 => cases h
 split at h
 case isFalse => cases h
 rename_i hc
 obtain ⟨rfl, hu⟩ := hc
 injection h with h
 subst h
 obtain rfl := unL_inv unLb_inv hu
 exact ⟨nAn, p21x m⟩
theorem SpecOk.sub {P : Program} {G : Glob} {f : FuncId} {s s' : Spec} (hs : SpecOk P G f s) (h : ∀ args r, s' args = some r → s args = some r) : SpecOk P G f s' := by
 intro g args r lv hr
 by_cases e : g = f
 ·subst e
  simp only [if_true] at hr
  exact hs g args r lv (by simp only [if_true]; exact h _ _ hr)
 ·simp only [e, if_false] at hr
  cases hr
def s11y : Spec := fun args => match args with
 | [.sl 1 (e :: es) _] => s11x [.sl 1 (e :: es) .no]
 | _ => none
theorem o11y (m : Int) : SpecOk PQ (GQ m) 11 s11y := spec_wk [1] fun args r h => (o11x m).sub fun a r' h' => by
 split at h'
 ·rename_i e
  subst e
  injection h' with h'
  subst h'
  unfold s11y at h
  split at h
  case h_2 => cases h
  exact h
 ·cases h'
def s14y : Spec := fun args => match args with
 | [.agg [.str e, .sl 1 (f :: fs) _, .sl 3 (l :: ls) _, s, p]] => s14 [.agg [.str e, .sl 1 (f :: fs) .no, .sl 3 (l :: ls) .no, s, p]]
 | _ => none
def asI (R : Callee) (f : FuncId) : ISpec := fun args S => (callA R S f args).map fun x => (True, x.1, x.2)
theorem asI_ok {P : Program} {G : Glob} {R : Callee} (hR : CalleeOk P G R) {f : FuncId} (hg : goodFn P f) : ISpecOk P G f (asI R f) := by
 intro g args S r S' h
 simp only [lowC] at h
 by_cases e : g = f
 ·subst e
  simp only [if_true] at h
  split at h
  case h_2 => cases h
  rename_i y hy
  split at h
  case isFalse => cases h
  injection h with h
  unfold asI at hy
  cases hx : callA R S g args with
  | none => rw [hx] at hy; cases hy
  | some x =>
   rw [hx] at hy
   injection hy with hy
   subst hy
   obtain ⟨x1, x2⟩ := x
   injection h with e1 e2
   simp only at e1 e2
   subst e1; subst e2
   refine ⟨hg, fun N0 w0 I0 E w vs hS hn hv => ?_⟩
   rcases callA_wp hR hS hn hv hx with ⟨_, hc⟩ | ⟨v, w', hrun, _⟩
   ·exact hc
   ·rw [run_callFunc hg] at hrun; cases hrun
 ·simp only [if_neg e] at h
  cases h
def tX : List (FuncId × Spec) := [(11, s11y), (14, s14y), (21, s21x)]
noncomputable def RX (m : Int) : Callee := (evs PQ (GQ m) (tbl tX) (fun _ => []) 60).1
noncomputable def CX (m : Int) : CCallee := itbl [(11, asI (RX m) 11), (13, asI (RX m) 13), (14, asI (RX m) 14), (21, asI (RX m) 21), (22, asI (RX m) 22)]
theorem w16 (m : Int) (r : AV) : (tqW PQ idMk (GQ m) X24 (tbl []) (CX m) [4, 5, 6] nAn [] 99 (fun _ _ => False) 16 [] (fun r0 _ => RetLax r0 (r, []))) =
((55 : Nat) ≤ (70368744177664 : Nat) ∧
  True ∧
    True ∧
      True ∧
        True ∧
 True ∧
 (false = true → RetLax (AV.bool false) (r, [])) ∧
 (false = false →
 (false = true → RetLax (AV.bool false) (r, [])) ∧
 (false = false →
 True ∧
 (true = true →
 True ∧
 (false = true → RetLax (AV.bool false) (r, [])) ∧
 (false = false →
 (false = true → RetLax (AV.bool false) (r, [])) ∧
 (false = false →
 (false = true → RetLax (AV.bool false) (r, [])) ∧
 (false = false →
 (false = true → RetLax (AV.bool false) (r, [])) ∧
 (false = false →
 (false = true → RetLax (AV.bool false) (r, [])) ∧
 (false = false →
 (false = true → RetLax (AV.bool false) (r, [])) ∧
 (false = false →
 (false = true → RetLax (AV.bool false) (r, [])) ∧
 (false = false →
 True ∧
 (true = true → RetLax (AV.bool true) (r, [])) ∧
 (true = false → RetLax (AV.bool false) (r, [])))))))))) ∧
 (true = false → RetLax (AV.bool false) (r, []))))) := by kernel_rfl
theorem rep_agg_wk {E : Env} {w : World} {e f l s p : AV} {fs ls : List AV} {o1 o2 : Own} {v : Value} (h : Rep E w (.agg [e, .sl 1 (f :: fs) o1, .sl 3 (l :: ls) o2, s, p]) v) : Rep E w (.agg [e, .sl 1 (f :: fs) .no, .sl 3 (l :: ls) .no, s, p]) v := by
 cases h with | agg _ vs hn h1 h =>
 refine .agg _ vs hn h1 fun i c v hc hv => ?_
 match i, hc with
 | 0, hc => exact h 0 c v hc hv
 | 1, hc => simp at hc; subst hc; exact rep_wk (z := 1) (h 1 _ v rfl hv)
 | 2, hc => simp at hc; subst hc; exact rep_wk (z := 3) (h 2 _ v rfl hv)
 | 3, hc => exact h 3 c v hc hv
 | 4, hc => exact h 4 c v hc hv
 | i + 5, hc => simp at hc
theorem o14y (m : Int) : SpecOk PQ (GQ m) 14 s14y := by
 intro g args r lv hr
 by_cases e : g = 14
 ·subst e
  simp only [if_true] at hr
  unfold s14y at hr
  split at hr
  case h_2 => cases hr
  rename_i e f fs o1 l ls o2 s p
  intro E w vs hI hG hn hv hcl
  refine o14 m 14 [.agg [.str e, .sl 1 (f :: fs) .no, .sl 3 (l :: ls) .no, s, p]] r lv (by simp only [if_true]; exact hr) E w vs hI hG hn (fun i c v hi hv' => ?_) fun c hc => ?_
  ·match i, hi with
   | 0, hi => simp at hi; subst hi; exact rep_agg_wk (hv 0 _ v rfl hv')
   | i + 1, hi => simp at hi
  ·simp at hc
   subst hc
   have := hcl _ List.mem_cons_self
   simp [AV.closed1, AV.closed] at this ⊢
   exact ⟨this.2.2.1, this.2.2.2⟩
 ·simp only [e, if_false] at hr
  cases hr
theorem tX_ok (m : Int) : CalleeOk PQ (GQ m) (tbl tX) := tbl_cons (o11y m) (tbl_cons (o14y m) (tbl_cons (o21x m) tbl_nil))
theorem RX_ok (m : Int) : CalleeOk PQ (GQ m) (RX m) := (evs_ok mixedQ (tX_ok m) (fun _ => []) 60).1
theorem CX_ok (m : Int) : ICalleeOk PQ (GQ m) (lowC (CX m)) :=
 itbl_cons (asI_ok (RX_ok m) (goodQ (by kernel_rfl))) (itbl_cons (asI_ok (RX_ok m) (goodQ (by kernel_rfl))) (itbl_cons (asI_ok (RX_ok m) (goodQ (by kernel_rfl))) (itbl_cons (asI_ok (RX_ok m) (goodQ (by kernel_rfl))) (itbl_cons (asI_ok (RX_ok m) (goodQ (by kernel_rfl))) itbl_nil))))
theorem p16 (m : Int) : TqOk PQ (GQ m) X24 (tbl []) (CX m) [4, 5, 6] nAn [] 99 (fun _ _ => False) 16 [] (.bool true) := by
 constructor
 rw [w16]
 have ht : RetLax (AV.bool true) (.bool true, []) := ⟨rfl, rfl, rfl⟩
 simp only [Bool.false_eq_true, false_implies, true_implies, Bool.true_eq_false, and_true, ht]
 decide
theorem f16_at : PQ.funcs[16]? = some Tryz.f16 := by kernel_rfl
noncomputable def c16 : Code := (Tryz.f16.body).getD .skip
theorem f16_body : Tryz.f16.body = some c16 := by kernel_rfl
theorem f16_tail : codeAt 99 c16 = none := by kernel_rfl
theorem o16 (m : Int) : SpecOk PQ (GQ m) 16 sTrue := by
 refine tailQ_of (X := X24) (R := tbl []) (C := CX m) mixedQ tbl_nil (CX_ok m) f16_at f16_body (goodQ (by kernel_rfl)) fun args r h => ?_
 unfold sTrue at h
 split at h
 case h_2 => cases h
 injection h with h
 subst h
 refine ⟨_, _, _, 99, _, rfl, p16 m, fun wb Eb b T S E w a hb hH hS hL hT hd => ?_⟩
 rw [f16_tail] at hb
 cases hb
end Go.Abs
namespace Go.Abs
open Go.ChangeShapes Go.WideShapes Go.ChangeAt Go.RowKit Go.Deep Go.ChangeMaps
open Go.Proofs Go.Proofs.YtfcdefnkhkijaaaGreatDoor
section
variable {H : Type} {enc : TypeId × Value → H} {P : Program} {W : World}
def ElemR (P : Program) (W : World) (enc : TypeId × Value → H) (e : TypeId) {α : Type} (g : α → AV) (Q : α → DataW H → Prop) : Prop :=
 ∀ n cs x, DataW.trod enc P W 0 (fun _ => true) true n e cs = some x → ∃ a : α, Q a x.1 ∧ ∀ (j : Nat) (c : AV) (u : Value), (g a).cells[j]? = some c → cs[j]? = some u → Rep (oldE W) W c u ∧ u.oneCell' = true
theorem open_slR {t e : TypeId} {sz : Nat} {α : Type} [Inhabited α] {g : α → AV} {Q : α → DataW H → Prop} (ht : P.underlying t = some (.slice e)) (hc : P.cellsOf e = sz) (hsz : 0 < sz) (hg : ∀ a, (g a).cells.length = sz ∧ (g a).closed1 = true) (hel : ElemR P W enc e g Q)
  {v : Value} {d : DataW H} {ps : List MemPlace} (hv : ∃ A len cap, v = .slice A len cap) (h : DataW.Trod enc P W 0 (fun _ => true) true t v d ps) :
  ∃ l : List α, Rep (oldE W) W (.sl sz (l.map g) .no) v ∧ (l = [] ∨ ∃ elems spare, d = .slice elems spare ∧ elems.length = l.length ∧ ∀ (i : Nat) a x, l[i]? = some a → elems[i]? = some x → Q a x) := by
 obtain ⟨a, len, cap, rfl⟩ := hv
 obtain ⟨fuel, h⟩ := h
 rcases open_slice ht h with ⟨hcs, _⟩ | ⟨a', len', cap', m, n, D, Pl, hcs, hb, hl, hmx, hm, hx, hels⟩
 ·simp [Value.cells] at hcs
  obtain ⟨rfl, rfl, rfl⟩ := hcs
  exact ⟨[], .sl sz [] .no none 0 (fun _ _ => .bool false) (by simp) (by simp [maxLen]) (.inl rfl) (by simp) (by simp) trivial (by simp) (fun _ _ => rfl), .inl rfl⟩
 ·simp [Value.cells] at hcs
  obtain ⟨rfl, rfl, rfl⟩ := hcs
  have hm' : m = cap := by simpa using hm
  have hch : ∀ i, i < len → ∃ x : α × List Value, x.2.length = sz ∧ (∀ j, j < sz → W.cell? (a'.add (i * sz + j)) = x.2[j]?) ∧ Q x.1 (D i) ∧ ∀ (j : Nat) (c : AV) (u : Value), (g x.1).cells[j]? = some c → x.2[j]? = some u → Rep (oldE W) W c u ∧ u.oneCell' = true := fun i hi => by
   obtain ⟨cs, hcs, ht'⟩ := hels i (by omega)
   rw [hc] at hcs
   obtain ⟨_, hlen, hat⟩ := World.cells?_some hcs
   obtain ⟨x, hq, hx⟩ := hel n cs _ ht'
   refine ⟨(x, cs), hlen, fun j hj => ?_, hq, hx⟩
   have := hat j hj
   rw [Go.Deep.add_add] at this
   exact this
  obtain ⟨f, hf⟩ := choose_lt hch
  refine ⟨(List.range len).map fun i => (f i).1, ?_, .inr ?_⟩
  ·have hlen : ((List.range len).map fun i => (f i).1).length = len := by simp
   have hln : (((List.range len).map fun i => (f i).1).map g).length = len := by simp
   have hget : ∀ (i : Nat) (e' : AV), (((List.range len).map fun i => (f i).1).map g)[i]? = some e' → i < len ∧ e' = g (f i).1 := fun i e' h => by
    have hi : i < len := by
     have := (List.getElem?_eq_some_iff.1 h).1
     simpa using this
    refine ⟨hi, ?_⟩
    simp [List.getElem?_range hi] at h
    exact h.symm
   let u : Nat → Nat → Value := fun i j => if i < len ∧ j < sz then ((f i).2[j]?).getD (.bool false) else .bool false
   have hu : ∀ i j, i < len → j < sz → (f i).2[j]? = some (u i j) := fun i j hi hj => by
    have h2 : j < (f i).2.length := by rw [(hf i hi).1]; exact hj
    simp only [u, hi, hj, and_self, if_true, List.getElem?_eq_getElem h2, Option.getD_some]
   have key := Rep.sl (E := oldE W) (w := W) sz (((List.range len).map fun i => (f i).1).map g) .no (some a') cap u (by rw [hln]; exact hl) hmx ?_ ?_ ?_ trivial ?_ ?_
   ·rw [hln] at key; exact key
   ·rcases Nat.eq_zero_or_pos len with h0 | h0
    ·left; subst h0; rfl
    ·right
     have h1 := (hf 0 h0).2.1 0 hsz
     rw [hu 0 0 h0 hsz] at h1
     have hadd : a'.add (0 * sz + 0) = a' := by unfold Addr.add; simp
     rw [hadd] at h1
     have hp := addr_plain h1
     refine ⟨a'.block, a'.off, by rw [← hp], fun i e' j c hi hj => ?_⟩
     obtain ⟨hlt, rfl⟩ := hget i e' hi
     have hjs : j < sz := by
      have := (List.getElem?_eq_some_iff.1 hj).1
      rw [(hg _).1] at this; exact this
     have h2 := (hf i hlt).2.1 j hjs
     rw [hu i j hlt hjs, hp, addp] at h2
     have e : a'.off + i * sz + j = a'.off + (i * sz + j) := by omega
     refine ⟨cell_lt h1, by rw [e]; exact h2⟩
   ·intro e' he
    obtain ⟨x, hx, rfl⟩ := List.mem_map.1 he
    exact (hg x).1
   ·intro e' he
    obtain ⟨x, hx, rfl⟩ := List.mem_map.1 he
    exact (hg x).2
   ·intro i e' j c hi hj
    obtain ⟨hlt, rfl⟩ := hget i e' hi
    have hjs : j < sz := by
     have := (List.getElem?_eq_some_iff.1 hj).1
     rw [(hg _).1] at this; exact this
    exact ((hf i hlt).2.2.2 j c (u i j) hj (hu i j hlt hjs)).1
   ·intro i j
    by_cases hij : i < len ∧ j < sz
    ·have hjs : j < (g (f i).1).cells.length := by rw [(hg _).1]; exact hij.2
     exact ((hf i hij.1).2.2.2 j _ (u i j) (List.getElem?_eq_getElem hjs) (hu i j hij.1 hij.2)).2
    ·simp only [u, if_neg hij]; rfl
  ·have hx1 := congrArg Prod.fst hx
   simp only at hx1
   refine ⟨_, _, hx1, by simp, fun i a x hi hxi => ?_⟩
   have hlt : i < len := by
    have := (List.getElem?_eq_some_iff.1 hi).1
    simpa using this
   simp [List.getElem?_range hlt] at hi hxi
   subst hi; subst hxi
   exact (hf i hlt).2.2.1
/-! cells that read so -/
def CellsAre (W : World) (l : List AV) (cs : List Value) : Prop :=
 l.length = cs.length ∧ ∀ (j : Nat) (c : AV) (u : Value), l[j]? = some c → cs[j]? = some u → Rep (oldE W) W c u ∧ u.oneCell' = true
theorem CellsAre.one {c : AV} {u : Value} (h : Rep (oldE W) W c u) (h1 : u.oneCell' = true) : CellsAre W [c] [u] := ⟨rfl, fun j c' u' hc hu => by
 match j, hc, hu with
 | 0, hc, hu => simp at hc hu; subst hc; subst hu; exact ⟨h, h1⟩⟩
theorem CellsAre.append {l r : List AV} {cs ds : List Value} (h : CellsAre W l cs) (k : CellsAre W r ds) : CellsAre W (l ++ r) (cs ++ ds) := by
 refine ⟨by simp [h.1, k.1], fun j c u hc hu => ?_⟩
 rcases Nat.lt_or_ge j l.length with hj | hj
 ·rw [List.getElem?_append_left hj] at hc
  rw [List.getElem?_append_left (by rw [← h.1]; exact hj)] at hu
  exact h.2 j c u hc hu
 ·rw [List.getElem?_append_right hj] at hc
  rw [List.getElem?_append_right (by rw [← h.1]; exact hj), ← h.1] at hu
  exact k.2 _ c u hc hu
theorem CellsAre.next {l r : List AV} {cs : List Value} {o s p : Nat} (h : CellsAre W l ((cs.drop o).take s)) (hp : p = o + s) (k : CellsAre W r (cs.drop p)) : CellsAre W (l ++ r) (cs.drop o) := by
 subst hp
 have := h.append k
 rwa [← List.drop_drop, List.take_append_drop] at this
theorem CellsAre.last {l : List AV} {cs : List Value} {o s : Nat} (h : CellsAre W l ((cs.drop o).take s)) (hs : cs.length = o + s) : CellsAre W l (cs.drop o) := by
 rwa [List.take_of_length_le (by rw [List.length_drop]; omega)] at h
def ReadsAs (P : Program) (W : World) (enc : TypeId × Value → H) (t : TypeId) {α : Type} (g : α → List AV) (Q : α → Nat → Prop) : Prop :=
 ∀ n cs x, DataW.trod enc P W 0 (fun _ => true) true n t cs = some x → ∃ a : α, Q a (Rows.uptoBulk x.1) ∧ CellsAre W (g a) cs
theorem reads_int {t : TypeId} (ht : P.underlying t = some (.int .i64)) : ReadsAs P W enc t (fun n : Int => [.int .i64 n]) (fun n _ => -9223372036854775808 ≤ n ∧ n ≤ 9223372036854775807) := by
 intro n cs x h
 obtain ⟨k, rfl, _, hw⟩ := DataW.trod_int ht h
 have := int_rng hw
 exact ⟨k, ⟨this.1, by omega⟩, .one (.int _ _) rfl⟩
namespace Bulks
theorem one_le (d : DataW H) : 1 ≤ Rows.uptoBulk d := by
 cases d with
 | lit l => cases l <;> simp [Rows.uptoBulk]
 | nil => simp [Rows.uptoBulk]
 | ptr d => simp [Rows.uptoBulk]
 | slice elems spare => simp [Rows.uptoBulk]
 | agg parts => simp [Rows.uptoBulk]
 | iface t d => simp [Rows.uptoBulk]
 | map entries => simp [Rows.uptoBulk]
 | held h => simp [Rows.uptoBulk]
theorem part_le {d : DataW H} {l : List (DataW H)} (h : d ∈ l) : Rows.uptoBulk d ≤ Rows.uptoBulkAll l := by
 induction l with
 | nil => cases h
 | cons x r ih =>
  simp only [Rows.uptoBulkAll]
  cases List.mem_cons.1 h with
  | inl e => subst e; omega
  | inr e => have := ih e; omega
theorem length_le (l : List (DataW H)) : l.length ≤ Rows.uptoBulkAll l := by
 induction l with
 | nil => simp [Rows.uptoBulkAll]
 | cons x r ih => have := one_le x; simp only [Rows.uptoBulkAll, List.length_cons]; omega
theorem bound {l : List (DataW H)} (hk : Rows.uptoSmall H l = true) : Rows.uptoBulkAll l ≤ 1048576 := by
 simpa [Rows.uptoSmall] using hk
theorem field_le {xs : List (DataW H × List MemPlace)} {i : Nat} {y : DataW H × List MemPlace} (h : xs[i]? = some y) : Rows.uptoBulk y.1 ≤ Rows.uptoBulk (DataW.agg (xs.map (·.1))) := by
 have := part_le (List.mem_map_of_mem (f := fun y : DataW H × List MemPlace => y.1) (List.mem_of_getElem? h))
 simp only [Rows.uptoBulk]
 omega
end Bulks
theorem reads_slice {t e : TypeId} {sz : Nat} {α : Type} [Inhabited α] {g : α → AV} {Q : α → Nat → Prop} (ht : P.underlying t = some (.slice e)) (hc : P.cellsOf e = sz) (hsz : 0 < sz) (hg : ∀ a, (g a).cells.length = sz ∧ (g a).closed1 = true) (hel : ReadsAs P W enc e (fun a => (g a).cells) Q)
  (hQ : ∀ a n m, Q a n → n ≤ m → Q a m) : ReadsAs P W enc t (fun l : List α => [.sl sz (l.map g) .no]) (fun l n => l.length ≤ n ∧ ∀ a ∈ l, Q a n) := by
 intro n cs x h
 have hs : ∃ A len cap, cs = [.slice A len cap] := by
  rcases open_slice ht h with ⟨hcs, _⟩ | ⟨a', len', cap', m, n, D, Pl, hcs, _⟩
  ·exact ⟨_, _, _, hcs⟩
  ·exact ⟨_, _, _, hcs⟩
 obtain ⟨A, len, cap, rfl⟩ := hs
 have hel' : ElemR P W enc e g (fun a d => Q a (Rows.uptoBulk d)) := fun n cs x h => by
  obtain ⟨a, h1, h2⟩ := hel n cs x h
  exact ⟨a, h1, h2.2⟩
 obtain ⟨l, hl, hb⟩ := open_slR ht hc hsz hg hel' ⟨A, len, cap, rfl⟩ (d := x.1) (ps := x.2) ⟨n, by simpa [Value.cells] using h⟩
 refine ⟨l, ?_, .one hl rfl⟩
 rcases hb with rfl | ⟨elems, spare, he, hlen, hq⟩
 ·exact ⟨Nat.zero_le _, fun a ha => by cases ha⟩
 ·rw [he]
  have hE : Rows.uptoBulk (DataW.slice elems spare) = Rows.uptoBulkAll elems + Rows.uptoBulkAll spare + 1 := by simp only [Rows.uptoBulk]
  rw [hE]
  refine ⟨by have := Bulks.length_le elems; omega, fun a ha => ?_⟩
  obtain ⟨i, hi⟩ := List.mem_iff_getElem?.1 ha
  have hlt : i < elems.length := by rw [hlen]; exact (List.getElem?_eq_some_iff.1 hi).1
  have hx := List.getElem?_eq_getElem hlt
  refine hQ a _ _ (hq i a _ hi hx) ?_
  have := Bulks.part_le (List.mem_of_getElem? hx)
  omega
/-! cells of any type -/
theorem sum_at : ∀ (L : List Nat) (k : Nat), k < L.sum → ∃ j s, L[j]? = some s ∧ (L.take j).sum ≤ k ∧ k < (L.take j).sum + s
 | [], k, h => by simp at h
 | a :: L, k, h => by
  by_cases hk : k < a
  ·exact ⟨0, a, rfl, by simp, by simpa using hk⟩
  ·obtain ⟨j, s, h1, h2, h3⟩ := sum_at L (k - a) (by simp at h; omega)
   exact ⟨j + 1, s, h1, by simp; omega, by simp; omega⟩
theorem trod_one (hl : laidOutB P = true) : ∀ (n : Nat) (t : TypeId) (cs : List Value) (x : DataW H × List MemPlace), isVar P t = true → DataW.trod enc P W 0 (fun _ => true) true n t cs = some x → ∀ u ∈ cs, u.oneCell' = true
 | 0, t, cs, x, _, h => by simp [DataW.trod] at h
 | n + 1, t, cs, x, hv, h => by
  have hlt : t < P.types.size := by
   simp only [isVar, Bool.and_eq_true, decide_eq_true_eq] at hv
   exact hv.1
  have hr := rowFine_of_laidOut hl hlt
  unfold rowFine at hr
  rw [hv] at hr
  simp only [Bool.not_true, Bool.false_or] at hr
  cases hu : P.underlying t with
  | none => unfold DataW.trod at h; rw [hu] at h; simp at h
  | some d =>
   cases d with
   | struct fs =>
    simp only [hu, Bool.and_eq_true, beq_iff_eq, List.all_eq_true, List.mem_range] at hr
    obtain ⟨xs, m, hm, _, hlen, hxl, hf⟩ := DataW.trod_struct hu h
    obtain rfl : n = m := by omega
    intro u hm
    obtain ⟨k, hk⟩ := List.mem_iff_getElem?.1 hm
    have hkl : k < cs.length := (List.getElem?_eq_some_iff.1 hk).1
    rw [hlen, hr.1.2] at hkl
    obtain ⟨j, s, h1, h2, h3⟩ := sum_at _ _ hkl
    rw [List.getElem?_map] at h1
    cases hfj : fs.toList[j]? with
    | none => rw [hfj] at h1; cases h1
    | some f =>
     rw [hfj] at h1
     injection h1 with h1
     have h1 : P.cellsOf f.type = s := h1
     subst h1
     have hjl : j < fs.toList.length := (List.getElem?_eq_some_iff.1 hfj).1
     have ho := hr.2 j hjl
     rw [hfj] at ho
     simp only [beq_iff_eq] at ho
     rw [← List.map_take] at h2 h3
     rw [← ho] at h2 h3
     have hfa : fs[j]? = some f := by rw [← Array.getElem?_toList]; exact hfj
     have hxj : j < xs.length := by rw [hxl]; simpa using hjl
     have ht := hf j f hfa
     rw [List.getElem?_eq_getElem hxj] at ht
     refine trod_one hl n f.type _ _ (hr.1.1 f (List.mem_of_getElem? hfj)) ht u ?_
     refine List.mem_iff_getElem?.2 ⟨k - f.offset, ?_⟩
     rw [List.getElem?_take, if_pos (by omega), List.getElem?_drop, show f.offset + (k - f.offset) = k by omega]
     exact hk
   | array m e =>
    simp only [hu, Bool.and_eq_true, beq_iff_eq] at hr
    unfold DataW.trod at h
    rw [hu] at h
    simp only at h
    split at h
    ·rename_i hlen
     simp only [Option.map_eq_some_iff] at h
     obtain ⟨xs, hx, _⟩ := h
     intro u hm
     obtain ⟨k, hk⟩ := List.mem_iff_getElem?.1 hm
     have hkl : k < cs.length := (List.getElem?_eq_some_iff.1 hk).1
     rw [hlen, hr.2] at hkl
     have hc0 : 0 < P.cellsOf e := Nat.pos_of_ne_zero fun h0 => by rw [h0] at hkl; simp at hkl
     have hj : k / P.cellsOf e < m := (Nat.div_lt_iff_lt_mul hc0).2 hkl
     have hmod := Nat.div_add_mod k (P.cellsOf e)
     have hml := Nat.mod_lt k hc0
     rw [Nat.mul_comm] at hmod
     have hg := mapM_some_get hx (k / P.cellsOf e) (k / P.cellsOf e) (by rw [List.getElem?_range hj])
     have hxl := mapM_some_length hx
     rw [List.length_range] at hxl
     rw [List.getElem?_eq_getElem (by omega)] at hg
     refine trod_one hl n e _ _ hr.1 hg u ?_
     refine List.mem_iff_getElem?.2 ⟨k % P.cellsOf e, ?_⟩
     rw [List.getElem?_take, if_pos hml, List.getElem?_drop, hmod]
     exact hk
    ·cases h
   | _ =>
    unfold DataW.trod at h
    rw [hu] at h
    intro u hm
    split at h <;> first
     | (simp only [List.mem_cons, List.not_mem_nil, or_false] at hm; subst hm; rfl)
     | (cases h; done)
     | (rename_i he _; cases he; done)
     | (rename_i he; cases he; done)
theorem reads_any (hl : laidOutB P = true) {t : TypeId} (hv : isVar P t = true) (hn : ∃ d, P.underlying t = some (.struct d)) : ReadsAs P W enc t (fun _ : Unit => List.replicate (P.cellsOf t) .opq) (fun _ _ => True) := by
 intro n cs x h
 obtain ⟨d, hd⟩ := hn
 obtain ⟨_, _, _, _, hlen, _⟩ := DataW.trod_struct hd h
 have h1 := trod_one hl n t cs x hv h
 refine ⟨(), trivial, by simp [hlen], fun j c u hc hu => ?_⟩
 have hc' : c = .opq := (List.eq_replicate_iff.1 (rfl : List.replicate (P.cellsOf t) AV.opq = _)).2 c (List.mem_of_getElem? hc)
 subst hc'
 exact ⟨.opq _ (h1 u (List.mem_of_getElem? hu)), h1 u (List.mem_of_getElem? hu)⟩
end
open Go.Proofs Go.Proofs.YtfcdefnkhkijaaaGreatDoor
section
variable {H : Type} {enc : TypeId × Value → H} {P : Program} {W : World}
theorem fieldR {t : TypeId} {α : Type} {g : α → List AV} {Q : α → Nat → Prop} (hr : ReadsAs P W enc t g Q) (hQ : ∀ a n m, Q a n → n ≤ m → Q a m) {fs : Array Field} {xs : List (DataW H × List MemPlace)} {n : Nat} {cs : List Value} {x : DataW H × List MemPlace}
  (hx : x = (.agg (xs.map (·.1)), xs.flatMap (·.2))) (hxl : xs.length = fs.size)
  (hf : ∀ (i : Nat) (f : Field), fs[i]? = some f → DataW.trod enc P W 0 (fun _ => true) true n f.type ((cs.drop f.offset).take (P.cellsOf f.type)) = xs[i]?)
  (i : Nat) {f : Field} (hi : fs[i]? = some f) (ht : f.type = t) {o s : Nat} (ho : f.offset = o) (hs : P.cellsOf t = s) : ∃ a, Q a (Rows.uptoBulk x.1) ∧ CellsAre W (g a) ((cs.drop o).take s) := by
 have h := hf i f hi
 rw [ht, ho, hs] at h
 have hil : i < xs.length := by rw [hxl]; exact (Array.getElem?_eq_some_iff.1 hi).1
 have hg := List.getElem?_eq_getElem hil
 rw [hg] at h
 obtain ⟨a, h1, h2⟩ := hr n _ _ h
 refine ⟨a, hQ a _ _ h1 ?_, h2⟩
 rw [hx]
 exact Bulks.field_le hg
theorem ReadsAs.map {t : TypeId} {α β : Type} {g : α → List AV} {g' : β → List AV} {Q : α → Nat → Prop} {Q' : β → Nat → Prop} (h : ReadsAs P W enc t g Q) (f : α → β) (hg : ∀ a, g a = g' (f a)) (hQ : ∀ a n, Q a n → Q' (f a) n) : ReadsAs P W enc t g' Q' := fun n cs x hx => by
 obtain ⟨a, h1, h2⟩ := h n cs x hx
 exact ⟨f a, hQ a _ h1, by rw [← hg]; exact h2⟩
end
section
variable {H : Type} {enc : TypeId × Value → H} {W : World}
theorem cz3 : PQ.cellsOf 3 = 1 := by kernel_rfl
theorem cz9 : PQ.cellsOf 9 = 1 := by kernel_rfl
theorem cz23 : PQ.cellsOf 23 = 1 := by kernel_rfl
theorem cz24 : PQ.cellsOf 24 = 1 := by kernel_rfl
theorem cz35 : PQ.cellsOf 35 = 1 := by kernel_rfl
theorem cz36 : PQ.cellsOf 36 = 1 := by kernel_rfl
theorem cz65 : PQ.cellsOf 65 = 3 := by kernel_rfl
theorem cz26 : PQ.cellsOf 26 = 5 := by kernel_rfl
theorem cz38 : PQ.cellsOf 38 = 4 := by kernel_rfl
theorem cz52 : PQ.cellsOf 52 = 18 := by kernel_rfl
theorem cz55 : PQ.cellsOf 55 = 4 := by kernel_rfl
theorem laidQ : laidOutB PQ = true := by kernel_rfl
theorem st65 : ∃ f0 f1 f2 : Field, PQ.underlying 65 = some (.struct #[f0, f1, f2]) ∧ (f0.type = 9 ∧ f0.offset = 0) ∧ (f1.type = 3 ∧ f1.offset = 1) ∧ (f2.type = 3 ∧ f2.offset = 2) := ⟨_, _, _, Tryz.underlying65, ⟨rfl, rfl⟩, ⟨rfl, rfl⟩, ⟨rfl, rfl⟩⟩
theorem st26 : ∃ f0 f1 f2 f3 f4 : Field, PQ.underlying 26 = some (.struct #[f0, f1, f2, f3, f4]) ∧ (f0.type = 9 ∧ f0.offset = 0) ∧ (f1.type = 23 ∧ f1.offset = 1) ∧ (f2.type = 24 ∧ f2.offset = 2) ∧ (f3.type = 3 ∧ f3.offset = 3) ∧ (f4.type = 3 ∧ f4.offset = 4) := ⟨_, _, _, _, _, Tryz.underlying26, ⟨rfl, rfl⟩, ⟨rfl, rfl⟩, ⟨rfl, rfl⟩, ⟨rfl, rfl⟩, ⟨rfl, rfl⟩⟩
theorem st38 : ∃ f0 f1 f2 f3 : Field, PQ.underlying 38 = some (.struct #[f0, f1, f2, f3]) ∧ (f0.type = 35 ∧ f0.offset = 0) ∧ (f1.type = 36 ∧ f1.offset = 1) ∧ (f2.type = 36 ∧ f2.offset = 2) ∧ (f3.type = 36 ∧ f3.offset = 3) := ⟨_, _, _, _, Tryz.underlying38, ⟨rfl, rfl⟩, ⟨rfl, rfl⟩, ⟨rfl, rfl⟩, ⟨rfl, rfl⟩⟩
theorem st52 : ∃ f0 f1 f2 f3 f4 : Field, PQ.underlying 52 = some (.struct #[f0, f1, f2, f3, f4]) ∧ (f0.type = 9 ∧ f0.offset = 0) ∧ (f1.type = 9 ∧ f1.offset = 1) := ⟨_, _, _, _, _, Tryz.underlying52, ⟨rfl, rfl⟩, ⟨rfl, rfl⟩⟩
theorem rStr : ReadsAs PQ W enc 9 (fun s : List UInt8 => [.str s]) (fun s _ => s.length ≤ maxI) := by
 intro n cs x h
 obtain ⟨s, rfl, _, hw⟩ := DataW.trod_string Tryz.underlying9 h
 exact ⟨s.data.toList, by simpa [Lit.wf, maxI, maxLen] using hw, .one (mk_str s) rfl⟩
theorem rInt : ReadsAs PQ W enc 3 (fun n : Int => [.int .i64 n]) (fun _ _ => True) := by
 intro n cs x h
 obtain ⟨s, _, h2⟩ := reads_int Tryz.underlying3 n cs x h
 exact ⟨s, trivial, h2⟩
theorem rLb : ReadsAs PQ W enc 65 (fun v : Lb => (lbA v).cells) (fun v _ => v.key.length ≤ maxI) := by
 intro n cs x h
 obtain ⟨f0, f1, f2, hu, ⟨t0, o0⟩, ⟨t1, o1⟩, ⟨t2, o2⟩⟩ := st65
 obtain ⟨xs, m, _, hx, hlen, hxl, hf⟩ := DataW.trod_struct hu h
 obtain ⟨a0, q0, c0⟩ := fieldR rStr (fun _ _ _ h _ => h) hx hxl hf 0 rfl t0 o0 cz9
 obtain ⟨a1, q1, c1⟩ := fieldR rInt (fun _ _ _ h _ => h) hx hxl hf 1 rfl t1 o1 cz3
 obtain ⟨a2, q2, c2⟩ := fieldR rInt (fun _ _ _ h _ => h) hx hxl hf 2 rfl t2 o2 cz3
 exact ⟨⟨a0, a1, a2⟩, q0, c0.next rfl (c1.next rfl (c2.last (by rw [hlen]; exact cz65)))⟩
theorem rLbs : ReadsAs PQ W enc 24 (fun l : List Lb => [.sl 3 (lbsL l) .no]) (fun l _ => keysOk l = true) := fun n cs x h => by
 obtain ⟨l, h1, h2⟩ := reads_slice (g := lbA) Tryz.underlying24 cz65 (by omega) (fun _ => ⟨rfl, rfl⟩) rLb (fun _ _ _ h _ => h) n cs x h
 exact ⟨l, by simpa [keysOk] using h1.2, h2⟩
theorem rStrs : ReadsAs PQ W enc 23 (fun l : List (List UInt8) => [.sl 1 (strsL l) .no]) (fun _ _ => True) := fun n cs x h => by
 obtain ⟨l, h1, h2⟩ := reads_slice (g := AV.str) Tryz.underlying23 cz9 (by omega) (fun _ => ⟨rfl, rfl⟩) rStr (fun _ _ _ h _ => h) n cs x h
 exact ⟨l, trivial, h2⟩
theorem rRq : ReadsAs PQ W enc 26 (fun r : Rq => (rqA r).cells) (fun r _ => keysOk r.labels = true) := by
 intro n cs x h
 obtain ⟨f0, f1, f2, f3, f4, hu, ⟨t0, o0⟩, ⟨t1, o1⟩, ⟨t2, o2⟩, ⟨t3, o3⟩, ⟨t4, o4⟩⟩ := st26
 obtain ⟨xs, m, _, hx, hlen, hxl, hf⟩ := DataW.trod_struct hu h
 obtain ⟨a0, q0, c0⟩ := fieldR rStr (fun _ _ _ h _ => h) hx hxl hf 0 rfl t0 o0 cz9
 obtain ⟨a1, q1, c1⟩ := fieldR rStrs (fun _ _ _ h _ => h) hx hxl hf 1 rfl t1 o1 cz23
 obtain ⟨a2, q2, c2⟩ := fieldR rLbs (fun _ _ _ h _ => h) hx hxl hf 2 rfl t2 o2 cz24
 obtain ⟨a3, q3, c3⟩ := fieldR rInt (fun _ _ _ h _ => h) hx hxl hf 3 rfl t3 o3 cz3
 obtain ⟨a4, q4, c4⟩ := fieldR rInt (fun _ _ _ h _ => h) hx hxl hf 4 rfl t4 o4 cz3
 exact ⟨⟨a0, a1, a2, a3, a4⟩, q2, c0.next rfl (c1.next rfl (c2.next rfl (c3.next rfl (c4.last (by rw [hlen]; exact cz26)))))⟩
theorem rFt : ReadsAs PQ W enc 52 (fun f : Ft => (ftA f).cells) (fun _ _ => True) := by
 intro n cs x h
 have h1 := trod_one laidQ n 52 cs x (by kernel_rfl) h
 obtain ⟨f0, f1, f2, f3, f4, hu, ⟨t0, o0⟩, ⟨t1, o1⟩⟩ := st52
 obtain ⟨xs, m, _, hx, hlen, hxl, hf⟩ := DataW.trod_struct hu h
 obtain ⟨a0, q0, c0⟩ := fieldR rStr (fun _ _ _ h _ => h) hx hxl hf 0 rfl t0 o0 cz9
 obtain ⟨a1, q1, c1⟩ := fieldR rStr (fun _ _ _ h _ => h) hx hxl hf 1 rfl t1 o1 cz9
 rw [cz52] at hlen
 have hr : CellsAre W (List.replicate 16 .opq) (cs.drop 2) := ⟨by rw [List.length_replicate, List.length_drop, hlen], fun j c u hc hu => by
  obtain rfl := (List.eq_replicate_iff.1 (rfl : List.replicate 16 AV.opq = _)).2 c (List.mem_of_getElem? hc)
  have := h1 u (List.mem_of_mem_drop (List.mem_of_getElem? hu))
  exact ⟨.opq _ this, this⟩⟩
 exact ⟨⟨a0, a1⟩, trivial, c0.next rfl (c1.next rfl hr)⟩
instance : Inhabited Ft := ⟨⟨[], []⟩⟩
def tbA : Unit → AV := fun _ => .agg (List.replicate 4 .opq)
theorem rTb : ReadsAs PQ W enc 55 (fun u : Unit => (tbA u).cells) (fun _ _ => True) := fun n cs x h => by
 obtain ⟨l, h1, h2⟩ := reads_any laidQ (t := 55) (by kernel_rfl) ⟨_, Tryz.underlying55⟩ n cs x h
 rw [cz55] at h2
 exact ⟨l, trivial, h2⟩
structure CtI where
 t : List Unit
 f : List Ft
 d : List Ft
 p : List Ft
def ctI (c : CtI) : List AV := ctC 4 (c.t.map tbA) c.f 18 (ftsL c.d) 18 (ftsL c.p)
end
section
variable {H : Type} {enc : TypeId × Value → H} {W : World}
theorem open_agg {t : TypeId} {α : Type} {g : α → List AV} {Q : α → Nat → Prop} (hr : ReadsAs PQ W enc t g Q) {v : Value} {d : DataW H} {ps : List MemPlace} (h1 : ∃ cs, v = .agg cs) (h : DataW.Trod enc PQ W 0 (fun _ => true) true t v d ps) : ∃ a, Rep (oldE W) W (.agg (g a)) v ∧ Q a (Rows.uptoBulk d) := by
 obtain ⟨cs, rfl⟩ := h1
 obtain ⟨fuel, h⟩ := h
 obtain ⟨a, q, c⟩ := hr fuel _ _ h
 refine ⟨a, .agg _ cs ?_ (fun i v hv => ?_) fun i c' v hc hv => ?_, q⟩
 ·have : (g a).length = cs.toList.length := c.1
  rw [this, Array.length_toList]
 ·have hv' : cs.toList[i]? = some v := by rw [Array.getElem?_toList]; exact hv
  have hil : i < (g a).length := by rw [c.1]; exact (List.getElem?_eq_some_iff.1 hv').1
  exact (c.2 i _ v (List.getElem?_eq_getElem hil) hv').2
 ·exact (c.2 i c' v hc (by show cs.toList[i]? = some v; rw [Array.getElem?_toList]; exact hv)).1
end
theorem is_agg {P : Program} {W : World} {t : TypeId} {fs : Array Field} {v : Value} {b : Nat} (ht : P.underlying t = some (.struct fs)) (h : Value.okWide P W .any b t v) : ∃ cs, v = .agg cs := by
 obtain ⟨cs, h, _⟩ := okWide_struct ht h
 exact ⟨cs, h⟩
theorem witness_row_shaped {H : Type} {enc : TypeId × Value → H} {C : Checked} {os : Os} {f : FuncId} {fn : Func} {s : OpenSpec} {conds : List PathCond} {apart : Bool} {laid : List (String × DataW Unit)} (w0 : World) (args : Array Value) (hos : w0.os = os)
  (hsh : (w0.forCall (fun _ _ => 0) ⟨#[], args, []⟩).Shaped C.prog)
  (hok : Input.okWideB C.prog (w0.forCall (fun _ _ => 0) ⟨#[], args, []⟩) f ⟨#[], args, []⟩ = true)
  (hrow : s.preRow enc C.prog fn conds apart laid (w0.forCall (fun _ _ => 0) ⟨#[], args, []⟩).memory args) :
  ∃ (w : World) (tape : Tape) (i : Input), w.os = os ∧ (w.forCall tape i).Shaped C.prog ∧ i.vars = [] ∧ Input.okWide C.prog (w.forCall tape i) .any w.heap.size f i ∧
   s.preRow enc C.prog fn conds apart laid (w.forCall tape i).memory i.args ∧ ({} : Assume).holds C.prog (lone (Frame.enter C.prog f i.args .normal) [] (w.forCall tape i)) :=
 ⟨w0, fun _ _ => 0, ⟨#[], args, []⟩, hos, hsh, (Input.okWide_of_okWideB (base := 0) hok).1, (Input.okWide_of_okWideB hok).2, hrow, by
  simp only [Assume.holds]
  exact ⟨by simp, by simp, fun _ => Modest.zero, by simp, by simp⟩⟩
end Go.Abs
namespace Go.Abs
open Go.Proofs Go.Proofs.YtfcdefnkhkijaaaGreatDoor Go.ChangeShapes Go.WideShapes Go.ChangeAt Go.RowKit Go.Deep Go.ChangeMaps
abbrev laidQl : List (String × DataW Unit) := Rows.requestChecksRow.laid
theorem gTens : PQ.globalNamed "asof/decimal.tens" = some 1 := by kernel_rfl
theorem gSyn : PQ.globalNamed "strconv.ErrSyntax" = some 2 := by kernel_rfl
theorem gRange : PQ.globalNamed "strconv.ErrRange" = some 3 := by kernel_rfl
theorem gPows : PQ.globalNamed "internal/strconv.uint64pow10" = some 4 := by kernel_rfl
theorem gFirst : PQ.globalNamed "unicode/utf8.first" = some 5 := by kernel_rfl
theorem gAcc : PQ.globalNamed "unicode/utf8.acceptRanges" = some 6 := by kernel_rfl
theorem nGlob : PQ.globals.size = 9 := by kernel_rfl
def tensL : List Int := [1, 10, 100, 1000, 10000, 100000, 1000000]
section
variable {W : World}
theorem tens_cells (h : laidMet PQ laidQl W) : ∀ i, i < 7 → W.cell? ⟨1, i, none⟩ = some (.int .i64 (10 ^ i)) := by
 obtain ⟨g, t, cs, fuel, p, h1, h2, h3, h4⟩ := Lib.laidMet.reads h (n := "asof/decimal.tens") (d := Rows.laid_asof_decimal_tens) (by simp [laidQl, Rows.requestChecksRow])
 obtain rfl := Option.some.inj (gTens.symm.trans h1)
 have ty : ∃ t0 e, (PQ.globals[1]?).map (·.type) = some t0 ∧ PQ.underlying t0 = some (.array 7 e) ∧ PQ.underlying e = some (.int .i64) ∧ PQ.cellsOf e = 1 ∧ PQ.cellsOf t0 = 7 := ⟨225, 3, by kernel_rfl, by kernel_rfl, by kernel_rfl, by kernel_rfl, by kernel_rfl⟩
 obtain ⟨t0, e, g1, g2, g3, g4, g5⟩ := ty
 obtain rfl := Option.some.inj (g1.symm.trans h2)
 have hcs := Lib.cells_of_tab (zs := tensL) g2 g3 g4 g5 h4
 intro i hi
 rw [World.var?_cell h1 h3 i, ← Array.getElem?_toList, hcs]
 match i, hi with
 | 0, _ | 1, _ | 2, _ | 3, _ | 4, _ | 5, _ | 6, _ => rfl
theorem pow_cells (h : laidMet PQ laidQl W) : ∀ i, i < 20 → W.cell? ⟨4, i, none⟩ = some (.int .u64 ((10 ^ i : Nat) : Int)) := by
 obtain ⟨g, t, cs, fuel, p, h1, h2, h3, h4⟩ := Lib.laidMet.reads h (n := "internal/strconv.uint64pow10") (d := Rows.laid_internal_strconv_uint64pow10) (by simp [laidQl, Rows.requestChecksRow])
 obtain rfl := Option.some.inj (gPows.symm.trans h1)
 have ty : ∃ t0 e, (PQ.globals[4]?).map (·.type) = some t0 ∧ PQ.underlying t0 = some (.array 20 e) ∧ PQ.underlying e = some (.int .u64) ∧ PQ.cellsOf e = 1 ∧ PQ.cellsOf t0 = 20 := ⟨238, 76, by kernel_rfl, by kernel_rfl, by kernel_rfl, by kernel_rfl, by kernel_rfl⟩
 obtain ⟨t0, e, g1, g2, g3, g4, g5⟩ := ty
 obtain rfl := Option.some.inj (g1.symm.trans h2)
 have hd : (Rows.laid_internal_strconv_uint64pow10 : DataW Unit) = Lib.tabData .u64 Lib.pow10Tab := by kernel_rfl
 rw [hd] at h4
 have hcs := Lib.cells_of_tab g2 g3 g4 g5 h4
 intro i hi
 rw [World.var?_cell h1 h3 i, ← Array.getElem?_toList, hcs]
 simp [Lib.pow10Tab, hi]
theorem range_cell (h : laidMet PQ laidQl W) : ∃ t v, W.cell? ⟨3, 0, none⟩ = some (.iface t v) := by
 obtain ⟨g, t, cs, fuel, p, h1, h2, h3, h4⟩ := Lib.laidMet.reads h (n := "strconv.ErrRange") (d := Rows.laid_strconv_ErrRange) (by simp [laidQl, Rows.requestChecksRow])
 obtain rfl := Option.some.inj (gRange.symm.trans h1)
 have ty : ∃ t0 ms, (PQ.globals[3]?).map (·.type) = some t0 ∧ PQ.underlying t0 = some (.interface ms) := ⟨109, _, by kernel_rfl, Tryz.underlying109⟩
 obtain ⟨t0, ms, g1, g2⟩ := ty
 obtain rfl := Option.some.inj (g1.symm.trans h2)
 obtain ⟨_, u, v, hcs, _⟩ := iface_of_trod g2 h4
 refine ⟨u, v, ?_⟩
 rw [World.var?_cell h1 h3 0, ← Array.getElem?_toList, hcs]
 rfl
theorem syn_cell (h : laidMet PQ laidQl W) : ∃ t v, W.cell? ⟨2, 0, none⟩ = some (.iface t v) := by
 obtain ⟨g, t, cs, fuel, p, h1, h2, h3, h4⟩ := Lib.laidMet.reads h (n := "strconv.ErrSyntax") (d := Rows.laid_strconv_ErrSyntax) (by simp [laidQl, Rows.requestChecksRow])
 obtain rfl := Option.some.inj (gSyn.symm.trans h1)
 have ty : ∃ t0 ms, (PQ.globals[2]?).map (·.type) = some t0 ∧ PQ.underlying t0 = some (.interface ms) := ⟨109, _, by kernel_rfl, Tryz.underlying109⟩
 obtain ⟨t0, ms, g1, g2⟩ := ty
 obtain rfl := Option.some.inj (g1.symm.trans h2)
 obtain ⟨_, u, v, hcs, _⟩ := iface_of_trod g2 h4
 refine ⟨u, v, ?_⟩
 rw [World.var?_cell h1 h3 0, ← Array.getElem?_toList, hcs]
 rfl
theorem first_cells (h : laidMet PQ laidQl W) : ∀ i, i < 256 → W.cell? ⟨5, i, none⟩ = some (.int .u8 (Lib.firstT i)) := by
 obtain ⟨g, t, cs, fuel, p, h1, h2, h3, h4⟩ := Lib.laidMet.reads h (n := "unicode/utf8.first") (d := Rows.laid_unicode_utf8_first) (by simp [laidQl, Rows.requestChecksRow])
 obtain rfl := Option.some.inj (gFirst.symm.trans h1)
 have ty : ∃ t0 e, (PQ.globals[5]?).map (·.type) = some t0 ∧ PQ.underlying t0 = some (.array 256 e) ∧ PQ.underlying e = some (.int .u8) ∧ PQ.cellsOf e = 1 ∧ PQ.cellsOf t0 = 256 := ⟨147, 5, by kernel_rfl, by kernel_rfl, by kernel_rfl, by kernel_rfl, by kernel_rfl⟩
 obtain ⟨t0, e, g1, g2, g3, g4, g5⟩ := ty
 obtain rfl := Option.some.inj (g1.symm.trans h2)
 have hd : Rows.laid_unicode_utf8_first = Lib.tabData .u8 Lib.firstTab := by kernel_rfl
 rw [hd] at h4
 have hcs := Lib.cells_of_tab g2 g3 g4 g5 h4
 intro i hi
 rw [World.var?_cell h1 h3 i, ← Array.getElem?_toList, hcs]
 simp [Lib.firstTab, hi]
theorem acc_cells (h : laidMet PQ laidQl W) : ∀ i, i < 16 → W.cell? ⟨6, 2 * i, none⟩ = some (.int .u8 (Lib.accLo i)) ∧ W.cell? ⟨6, 2 * i + 1, none⟩ = some (.int .u8 (Lib.accHi i)) := by
 obtain ⟨g, t, cs, fuel, p, h1, h2, h3, h4⟩ := Lib.laidMet.reads h (n := "unicode/utf8.acceptRanges") (d := Rows.laid_unicode_utf8_acceptRanges) (by simp [laidQl, Rows.requestChecksRow])
 obtain rfl := Option.some.inj (gAcc.symm.trans h1)
 have ty : ∃ t0 e f0 f1, (PQ.globals[6]?).map (·.type) = some t0 ∧ PQ.underlying t0 = some (.array 16 e) ∧ PQ.underlying e = some (.struct #[f0, f1]) ∧ PQ.cellsOf e = 2 ∧ PQ.underlying f0.type = some (.int .u8) ∧ PQ.underlying f1.type = some (.int .u8) ∧ f0.offset = 0 ∧ f1.offset = 1 ∧ PQ.cellsOf f0.type = 1 ∧ PQ.cellsOf f1.type = 1 :=
  ⟨245, 244, _, _, by kernel_rfl, by kernel_rfl, Tryz.underlying244, by kernel_rfl, by kernel_rfl, by kernel_rfl, rfl, rfl, by kernel_rfl, by kernel_rfl⟩
 obtain ⟨t0, e, f0, f1, g1, g2, g3, g4, g5, g6, o0, o1, c0, c1⟩ := ty
 obtain rfl := Option.some.inj (g1.symm.trans h2)
 have hd : Rows.laid_unicode_utf8_acceptRanges = Lib.acceptData := by kernel_rfl
 rw [hd] at h4
 intro i hi
 obtain ⟨fuel', d, q, hdi, he⟩ := Lib.array_elem g2 h4 i hi
 simp only [List.getElem?_map, List.getElem?_range hi, Option.map_some, Option.some.injEq] at hdi
 subst hdi
 rw [g4] at he
 have hcs := Lib.ints_of_struct (k := .u8) g3 (fun j f hj => by
  match j, hj with
  | 0, hj => simp at hj; subst hj; exact ⟨g5, o0, c0⟩
  | 1, hj => simp at hj; subst hj; exact ⟨g6, o1, c1⟩
  | j + 2, hj => simp at hj) (by rw [g4]; rfl) he
 have e0 := congrArg (·[0]?) hcs
 have e1 := congrArg (·[1]?) hcs
 simp only [List.getElem?_take, List.getElem?_drop] at e0 e1
 constructor
 ·rw [World.var?_cell h1 h3 (2 * i), ← Array.getElem?_toList]
  simpa [Nat.mul_comm] using e0
 ·rw [World.var?_cell h1 h3 (2 * i + 1), ← Array.getElem?_toList]
  simpa [Nat.mul_comm] using e1
theorem keptAcc_at {j : Nat} (h : j < 32) : keptAcc[j]? = some (.int .u8 (if j % 2 = 0 then Lib.accLo (j / 2) else Lib.accHi (j / 2) : Nat)) := by
 match j, h with
 | 0, _ => show some (AV.int .u8 128) = some (.int .u8 (if 0 % 2 = 0 then Lib.accLo (0 / 2) else Lib.accHi (0 / 2) : Nat)); simp [Lib.accLo]
 | 1, _ => show some (AV.int .u8 191) = some (.int .u8 (if 1 % 2 = 0 then Lib.accLo (1 / 2) else Lib.accHi (1 / 2) : Nat)); simp [Lib.accHi]
 | 2, _ => show some (AV.int .u8 160) = some (.int .u8 (if 2 % 2 = 0 then Lib.accLo (2 / 2) else Lib.accHi (2 / 2) : Nat)); simp [Lib.accLo]
 | 3, _ => show some (AV.int .u8 191) = some (.int .u8 (if 3 % 2 = 0 then Lib.accLo (3 / 2) else Lib.accHi (3 / 2) : Nat)); simp [Lib.accHi]
 | 4, _ => show some (AV.int .u8 128) = some (.int .u8 (if 4 % 2 = 0 then Lib.accLo (4 / 2) else Lib.accHi (4 / 2) : Nat)); simp [Lib.accLo]
 | 5, _ => show some (AV.int .u8 159) = some (.int .u8 (if 5 % 2 = 0 then Lib.accLo (5 / 2) else Lib.accHi (5 / 2) : Nat)); simp [Lib.accHi]
 | 6, _ => show some (AV.int .u8 144) = some (.int .u8 (if 6 % 2 = 0 then Lib.accLo (6 / 2) else Lib.accHi (6 / 2) : Nat)); simp [Lib.accLo]
 | 7, _ => show some (AV.int .u8 191) = some (.int .u8 (if 7 % 2 = 0 then Lib.accLo (7 / 2) else Lib.accHi (7 / 2) : Nat)); simp [Lib.accHi]
 | 8, _ => show some (AV.int .u8 128) = some (.int .u8 (if 8 % 2 = 0 then Lib.accLo (8 / 2) else Lib.accHi (8 / 2) : Nat)); simp [Lib.accLo]
 | 9, _ => show some (AV.int .u8 143) = some (.int .u8 (if 9 % 2 = 0 then Lib.accLo (9 / 2) else Lib.accHi (9 / 2) : Nat)); simp [Lib.accHi]
 | 10, _ => show some (AV.int .u8 0) = some (.int .u8 (if 10 % 2 = 0 then Lib.accLo (10 / 2) else Lib.accHi (10 / 2) : Nat)); simp [Lib.accLo]
 | 11, _ => show some (AV.int .u8 0) = some (.int .u8 (if 11 % 2 = 0 then Lib.accLo (11 / 2) else Lib.accHi (11 / 2) : Nat)); simp [Lib.accHi]
 | 12, _ => show some (AV.int .u8 0) = some (.int .u8 (if 12 % 2 = 0 then Lib.accLo (12 / 2) else Lib.accHi (12 / 2) : Nat)); simp [Lib.accLo]
 | 13, _ => show some (AV.int .u8 0) = some (.int .u8 (if 13 % 2 = 0 then Lib.accLo (13 / 2) else Lib.accHi (13 / 2) : Nat)); simp [Lib.accHi]
 | 14, _ => show some (AV.int .u8 0) = some (.int .u8 (if 14 % 2 = 0 then Lib.accLo (14 / 2) else Lib.accHi (14 / 2) : Nat)); simp [Lib.accLo]
 | 15, _ => show some (AV.int .u8 0) = some (.int .u8 (if 15 % 2 = 0 then Lib.accLo (15 / 2) else Lib.accHi (15 / 2) : Nat)); simp [Lib.accHi]
 | 16, _ => show some (AV.int .u8 0) = some (.int .u8 (if 16 % 2 = 0 then Lib.accLo (16 / 2) else Lib.accHi (16 / 2) : Nat)); simp [Lib.accLo]
 | 17, _ => show some (AV.int .u8 0) = some (.int .u8 (if 17 % 2 = 0 then Lib.accLo (17 / 2) else Lib.accHi (17 / 2) : Nat)); simp [Lib.accHi]
 | 18, _ => show some (AV.int .u8 0) = some (.int .u8 (if 18 % 2 = 0 then Lib.accLo (18 / 2) else Lib.accHi (18 / 2) : Nat)); simp [Lib.accLo]
 | 19, _ => show some (AV.int .u8 0) = some (.int .u8 (if 19 % 2 = 0 then Lib.accLo (19 / 2) else Lib.accHi (19 / 2) : Nat)); simp [Lib.accHi]
 | 20, _ => show some (AV.int .u8 0) = some (.int .u8 (if 20 % 2 = 0 then Lib.accLo (20 / 2) else Lib.accHi (20 / 2) : Nat)); simp [Lib.accLo]
 | 21, _ => show some (AV.int .u8 0) = some (.int .u8 (if 21 % 2 = 0 then Lib.accLo (21 / 2) else Lib.accHi (21 / 2) : Nat)); simp [Lib.accHi]
 | 22, _ => show some (AV.int .u8 0) = some (.int .u8 (if 22 % 2 = 0 then Lib.accLo (22 / 2) else Lib.accHi (22 / 2) : Nat)); simp [Lib.accLo]
 | 23, _ => show some (AV.int .u8 0) = some (.int .u8 (if 23 % 2 = 0 then Lib.accLo (23 / 2) else Lib.accHi (23 / 2) : Nat)); simp [Lib.accHi]
 | 24, _ => show some (AV.int .u8 0) = some (.int .u8 (if 24 % 2 = 0 then Lib.accLo (24 / 2) else Lib.accHi (24 / 2) : Nat)); simp [Lib.accLo]
 | 25, _ => show some (AV.int .u8 0) = some (.int .u8 (if 25 % 2 = 0 then Lib.accLo (25 / 2) else Lib.accHi (25 / 2) : Nat)); simp [Lib.accHi]
 | 26, _ => show some (AV.int .u8 0) = some (.int .u8 (if 26 % 2 = 0 then Lib.accLo (26 / 2) else Lib.accHi (26 / 2) : Nat)); simp [Lib.accLo]
 | 27, _ => show some (AV.int .u8 0) = some (.int .u8 (if 27 % 2 = 0 then Lib.accLo (27 / 2) else Lib.accHi (27 / 2) : Nat)); simp [Lib.accHi]
 | 28, _ => show some (AV.int .u8 0) = some (.int .u8 (if 28 % 2 = 0 then Lib.accLo (28 / 2) else Lib.accHi (28 / 2) : Nat)); simp [Lib.accLo]
 | 29, _ => show some (AV.int .u8 0) = some (.int .u8 (if 29 % 2 = 0 then Lib.accLo (29 / 2) else Lib.accHi (29 / 2) : Nat)); simp [Lib.accHi]
 | 30, _ => show some (AV.int .u8 0) = some (.int .u8 (if 30 % 2 = 0 then Lib.accLo (30 / 2) else Lib.accHi (30 / 2) : Nat)); simp [Lib.accLo]
 | 31, _ => show some (AV.int .u8 0) = some (.int .u8 (if 31 % 2 = 0 then Lib.accLo (31 / 2) else Lib.accHi (31 / 2) : Nat)); simp [Lib.accHi]
 | j + 32, h => exact absurd h (by omega)
theorem globQA (h : laidMet PQ laidQl W) (hsh : W.ShapedOpen PQ) {m : Int} (hm : W.cell? ⟨0, 0, none⟩ = some (.int .i64 m)) : GlobOk (GQ m) (oldE W) W := by
 refine globA (fun g e hg => ?_) fun g e hg => ?_
 ·match g, hg with
  | 1, hg =>
   simp only [GQ, Option.some.injEq] at hg
   subst hg
   refine ⟨rfl, fun j c hj => ?_⟩
   have hlt : j < 7 := (List.getElem?_eq_some_iff.1 hj).1
   refine ⟨_, tens_cells h j hlt, ?_, rfl⟩
   have : c = .int .i64 (10 ^ j) := by
    match j, hlt with
    | 0, _ | 1, _ | 2, _ | 3, _ | 4, _ | 5, _ | 6, _ => simp [tensA, AV.cells] at hj; subst hj; rfl
   subst this
   exact .int _ _
  | 0, hg =>
   simp only [GQ, Option.some.injEq] at hg
   subst hg
   refine ⟨rfl, fun j c hj => ?_⟩
   match j, hj with
   | 0, hj => simp [AV.cells] at hj; subst hj; exact ⟨_, hm, .int _ _, rfl⟩
   | j + 1, hj => simp [AV.cells] at hj
  | 2, hg =>
   simp only [GQ, Option.some.injEq] at hg
   subst hg
   refine ⟨rfl, fun j c hj => ?_⟩
   match j, hj with
   | 0, hj =>
    simp [AV.cells] at hj; subst hj
    obtain ⟨t, v, hv⟩ := syn_cell h
    exact ⟨_, hv, .ifc _ _, rfl⟩
   | j + 1, hj => simp [AV.cells] at hj
  | 3, hg =>
   simp only [GQ, Option.some.injEq] at hg
   subst hg
   refine ⟨rfl, fun j c hj => ?_⟩
   match j, hj with
   | 0, hj =>
    simp [AV.cells] at hj; subst hj
    obtain ⟨t, v, hv⟩ := range_cell h
    exact ⟨_, hv, .ifc _ _, rfl⟩
   | j + 1, hj => simp [AV.cells] at hj
  | 5, hg =>
   simp only [GQ, Option.some.injEq] at hg
   subst hg
   refine ⟨?_, fun j c hj => ?_⟩
   ·simp only [keptFirstA, AV.closed1, keptFirst, List.all_map, List.all_eq_true]
    intro x _; rfl
   ·have hlt : j < 256 := by
     have := (List.getElem?_eq_some_iff.1 hj).1
     simpa [keptFirstA, AV.cells, keptFirst] using this
    refine ⟨_, first_cells h j hlt, ?_, rfl⟩
    have : c = .int .u8 (Lib.firstT j) := by
     simp only [keptFirstA, AV.cells, keptFirst, List.getElem?_map, List.getElem?_range hlt, Option.map_some, Option.some.injEq] at hj
     exact hj.symm
    subst this
    exact .int _ _
  | 6, hg =>
   simp only [GQ, Option.some.injEq] at hg
   subst hg
   refine ⟨rfl, fun j c hj => ?_⟩
   have hlt : j < 32 := (List.getElem?_eq_some_iff.1 hj).1
   have key : W.cell? ⟨6, j, none⟩ = some (.int .u8 (if j % 2 = 0 then Lib.accLo (j / 2) else Lib.accHi (j / 2))) := by
    obtain ⟨a1, a2⟩ := acc_cells h (j / 2) (by omega)
    by_cases hp : j % 2 = 0
    ·rw [if_pos hp, show j = 2 * (j / 2) by omega, a1]
     congr 4; omega
    ·rw [if_neg hp]
     conv => lhs; rw [show j = 2 * (j / 2) + 1 by omega]
     rw [a2]
   refine ⟨_, key, ?_, rfl⟩
   have h2 := keptAcc_at hlt
   have h3 : keptAcc[j]? = some c := hj
   rw [h3] at h2
   injection h2 with h2
   subst h2
   by_cases hp : j % 2 = 0
   ·simp only [hp, if_true]; exact .int _ _
   ·simp only [hp, if_false]; exact .int _ _
  | 4, hg =>
   simp only [GQ, Option.some.injEq] at hg
   subst hg
   refine ⟨?_, fun j c hj => ?_⟩
   ·simp only [keptPowsA, AV.closed1, keptPows, List.all_map, List.all_eq_true]
    intro x _; rfl
   ·have hlt : j < 20 := by
     have := (List.getElem?_eq_some_iff.1 hj).1
     simpa [keptPowsA, AV.cells, keptPows] using this
    refine ⟨_, pow_cells h j hlt, ?_, rfl⟩
    have : c = .int .u64 ((10 ^ j : Nat) : Int) := by
     simp only [keptPowsA, AV.cells, keptPows, List.getElem?_map, List.getElem?_range hlt, Option.map_some, Option.some.injEq] at hj
     exact hj.symm
    subst this
    exact .int _ _
  | g + 7, hg => cases hg
 ·match g, hg with
  | 1, hg =>
   simp only [GQ, Option.some.injEq] at hg
   subst hg
   exact glob_size hsh (n := 7) (by rw [nGlob]; omega) (by kernel_rfl)
  | 0, hg =>
   simp only [GQ, Option.some.injEq] at hg
   subst hg
   exact glob_size hsh (n := 1) (by rw [nGlob]; omega) (by kernel_rfl)
  | 2, hg =>
   simp only [GQ, Option.some.injEq] at hg
   subst hg
   exact glob_size hsh (n := 1) (by rw [nGlob]; omega) (by kernel_rfl)
  | 3, hg =>
   simp only [GQ, Option.some.injEq] at hg
   subst hg
   exact glob_size hsh (n := 1) (by rw [nGlob]; omega) (by kernel_rfl)
  | 5, hg =>
   simp only [GQ, Option.some.injEq] at hg
   subst hg
   have := glob_size (P := PQ) hsh (g := 5) (n := 256) (by rw [nGlob]; omega) (by kernel_rfl)
   have hn : keptFirstA.cells.length = 256 := by simp [keptFirstA, AV.cells, keptFirst]
   rw [hn]; exact this
  | 6, hg =>
   simp only [GQ, Option.some.injEq] at hg
   subst hg
   exact glob_size hsh (n := 32) (by rw [nGlob]; omega) (by kernel_rfl)
  | 4, hg =>
   simp only [GQ, Option.some.injEq] at hg
   subst hg
   have := glob_size (P := PQ) hsh (g := 4) (n := 20) (by rw [nGlob]; omega) (by kernel_rfl)
   have hn : keptPowsA.cells.length = 20 := by simp [keptPowsA, AV.cells, keptPows]
   rw [hn]; exact this
  | g + 7, hg => cases hg
end
end Go.Abs
namespace Go.Abs
open Go.ChangeShapes Go.WideShapes Go.ChangeAt Go.RowKit Go.Deep Go.ChangeMaps
open Go.Proofs Go.Proofs.YtfcdefnkhkijaaaGreatDoor
def sLaw5 : Spec := fun args => match args with
 | [.agg [.sl 4 ts .no, .sl 18 fs .no, .sl 18 ds .no, .sl 18 ps .no], b, f, .agg [.opq, .opq, .opq, .opq]] => match unL unFt fs, unL unFt ds, unL unFt ps, unRqN b, unFt f with
  | some _, some d, some _, some r, some _ => if keysOk r.labels = true ∧ ts.length ≤ 2000000 ∧ d.length ≤ 2000000 then some (.bool true, []) else none
  | _, _, _, _, _ => none
 | _ => none
theorem oLaw5 (m : Int) : SpecOk PQ (GQ m) 5 sLaw5 := spec_of (X := X5) (m := []) mixedQ (tbl_cons (o10 m) (tbl_cons (o17 m) (tbl_cons (o14 m) (tbl_cons (o16 m) (tbl_cons (o19 m) (tbl_cons (o20 m) tbl_nil)))))) itbl_nil fun args r h => by
 unfold sLaw5 at h
 split at h
 case h_2 => cases h
 rename_i ts fs ds ps b f
 split at h
 case h_2 => cases h
 rename_i l d p r f hu hd hp hr hf
 split at h
 case isFalse => cases h
 rename_i hk
 injection h with h; subst h
 rw [unL_inv unFt_inv hu, unL_inv unFt_inv hd, unL_inv unFt_inv hp, unRqN_inv _ _ hr, unFt_inv _ _ hf]
 exact ⟨_, p5 m ts l d p r f hk.2.1 hk.2.2 hk.1⟩
def ctOk (c : CtI) : Prop := c.t.length ≤ 2000000 ∧ c.d.length ≤ 2000000
theorem sLaw5_true (c : CtI) (r : Rq) (f : Ft) (hk : keysOk r.labels = true) (hc : ctOk c) : sLaw5 [.agg (ctI c), rqA r, ftA f, tb4] = some (.bool true, []) := by
 simp only [sLaw5, ctI, ctC, tb4, unL_map unFt_ok, unRqN_ok, unFt_ok]
 rw [if_pos ⟨hk, by rw [List.length_map]; exact hc.1, hc.2⟩]
section
variable {H : Type} {enc : TypeId × Value → H} {W : World}
theorem rTbsN : ReadsAs PQ W enc 35 (fun l : List Unit => [.sl 4 (l.map tbA) .no]) (fun l n => l.length ≤ n) := fun n cs x h => by
 obtain ⟨l, h1, h2⟩ := reads_slice (g := tbA) Tryz.underlying35 cz55 (by omega) (fun _ => ⟨rfl, rfl⟩) rTb (fun _ _ _ h _ => h) n cs x h
 exact ⟨l, h1.1, h2⟩
theorem rFtsN : ReadsAs PQ W enc 36 (fun l : List Ft => [.sl 18 (ftsL l) .no]) (fun l n => l.length ≤ n) := fun n cs x h => by
 obtain ⟨l, h1, h2⟩ := reads_slice (g := ftA) Tryz.underlying36 cz52 (by omega) (fun _ => ⟨rfl, rfl⟩) rFt (fun _ _ _ h _ => h) n cs x h
 exact ⟨l, h1.1, h2⟩
theorem rCtN : ReadsAs PQ W enc 38 ctI (fun c n => c.t.length ≤ n ∧ c.d.length ≤ n) := by
 intro n cs x h
 obtain ⟨f0, f1, f2, f3, hu, ⟨t0, o0⟩, ⟨t1, o1⟩, ⟨t2, o2⟩, ⟨t3, o3⟩⟩ := st38
 obtain ⟨xs, m, _, hx, hlen, hxl, hf⟩ := DataW.trod_struct hu h
 obtain ⟨a0, q0, c0⟩ := fieldR rTbsN (fun _ _ _ h k => Nat.le_trans h k) hx hxl hf 0 rfl t0 o0 cz35
 obtain ⟨a1, q1, c1⟩ := fieldR rFtsN (fun _ _ _ h k => Nat.le_trans h k) hx hxl hf 1 rfl t1 o1 cz36
 obtain ⟨a2, q2, c2⟩ := fieldR rFtsN (fun _ _ _ h k => Nat.le_trans h k) hx hxl hf 2 rfl t2 o2 cz36
 obtain ⟨a3, q3, c3⟩ := fieldR rFtsN (fun _ _ _ h k => Nat.le_trans h k) hx hxl hf 3 rfl t3 o3 cz36
 exact ⟨⟨a0, a1, a2, a3⟩, ⟨q0, q2⟩, c0.next rfl (c1.next rfl (c2.next rfl (c3.last (by rw [hlen]; exact cz38))))⟩
end
end Go.Abs
