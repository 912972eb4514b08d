/- Own texts, part 10. -/
import Derived.Test.YtpglogahncpnoaaGreatPart8
import Derived.Test.YtpglogahncpnoaaGreatPart9
import Derived.Test.YtpglogahncpnoaaGreatPart3
import Derived.Test.YtpglogahncpnoaaGreatRows
import Derived.LaidLaws
import Derived.Lay
import Derived.Shelf.Lay

namespace Go.Abs
open Go.Proofs Go.RowKit Go.Sort
theorem par_bits (s : Int) : IntKind.i64.wrap ((BitVec.ofInt IntKind.i64.bits s &&& BitVec.ofInt IntKind.i64.bits 1).toNat : Int) = parI s := by
  show IntKind.i64.wrap (((BitVec.ofInt 64 s &&& BitVec.ofInt 64 1).toNat : Nat) : Int) = parI s
  rw [BitVec.toNat_and, BitVec.toNat_ofInt, BitVec.toNat_ofInt]
  have : ((1 : Int) % ((2 ^ 64 : Nat) : Int)).toNat = 1 := by decide
  rw [this, Nat.and_one_is_mod]
  unfold parI
  rw [wrap64_in (by omega) (by omega)]
  split <;> omega
theorem parI_01 (s : Int) : parI s = 0 ∨ parI s = 1 := by unfold parI; split <;> simp
theorem parB_0 {s : Int} (h : parI s = 0) : parB s = false := by unfold parI at h; unfold parB; split at h <;> simp_all
theorem parB_1 {s : Int} (h : parI s = 1) : parB s = true := by unfold parI at h; unfold parB; split at h <;> simp_all
theorem webA_par (k s n : Int) : webA ⟨k, s, n⟩ = parB s := rfl
theorem tmod_idx (n : Int) {L : Nat} (h : 0 < L) : ((n.tmod L) + L).tmod L = n % L ∧ -(L : Int) < n.tmod L ∧ n.tmod L < L := by
  have h1 : n.tmod L < L := Int.tmod_lt_of_pos n (by omega)
  have h2 : -(L : Int) < n.tmod L := by
    have := Int.lt_tmod_of_pos n (b := L) (by omega)
    omega
  refine ⟨?_, h2, h1⟩
  rw [Int.tmod_eq_emod_of_nonneg (by omega), Int.add_emod_right, Int.tmod_def, Int.sub_mul_emod_self_left]
theorem nIdx_cons {c : List PkI} (n : Int) (h : c ≠ []) : nIdx c n = ((n % c.length).toNat : Nat) ∧ (n % c.length).toNat < c.length ∧ IntKind.i64.wrap (n.tmod c.length + c.length) = n.tmod c.length + c.length ∨ 1048576 < c.length := by
  by_cases hl : 1048576 < c.length
  · exact .inr hl
  · left
    have hp : 0 < c.length := List.length_pos_iff.2 h
    obtain ⟨h1, h2, h3⟩ := tmod_idx n hp
    have h4 := Int.emod_nonneg n (b := c.length) (by omega)
    have h5 := Int.emod_lt_of_pos n (b := c.length) (by omega)
    refine ⟨?_, by omega, wrap64_in (by omega) (by omega)⟩
    unfold nIdx
    rw [if_neg h, h1]; omega
/-- where an act begins -/
theorem head_vals {w : WoI} {n : Int} (hl : w.c.length ≤ 1024) (h : decide (((pksL w.c).length : Int) > 0) = true) : (((pksL w.c).length : Int) ≠ 0) ∧ (IntKind.i64.wrap (n.tmod ((pksL w.c).length : Int) + ((pksL w.c).length : Int))).tmod ((pksL w.c).length : Int) = nIdx w.c n := by
  rw [pkL_len] at h ⊢
  have h := of_decide_eq_true h
  have hne : w.c ≠ [] := by intro e; rw [e] at h; simp at h
  obtain ⟨h1, h2, h3⟩ := tmod_idx n (L := w.c.length) (by omega)
  refine ⟨by omega, ?_⟩
  rw [wrap64_in (n := n.tmod (w.c.length : Int) + w.c.length) (by omega) (by omega)]
  unfold nIdx
  rw [if_neg hne]
theorem head_none {w : WoI} {n : Int} (h : decide (((pksL w.c).length : Int) > 0) = false) : nIdx w.c n = -1 := by
  rw [pkL_len] at h
  have h := of_decide_eq_false h
  unfold nIdx
  rw [if_pos (List.eq_nil_of_length_eq_zero (by omega))]
theorem idxA_eq (w : WoI) (k s n : Int) : idxA w ⟨k, s, n⟩ = (n % (w.c.length : Int)).toNat := rfl
/-- what the index of an act finds -/
theorem idx_at {w : WoI} (hl : w.c.length ≤ 1024) (k s n : Int) : (w.c = [] ∧ nIdx w.c n = -1) ∨ ∃ i : Nat, nIdx w.c n = i ∧ idxA w ⟨k, s, n⟩ = i ∧ i < w.c.length := by
  by_cases h : w.c = []
  · exact .inl ⟨h, by unfold nIdx; rw [if_pos h]⟩
  · right
    rcases nIdx_cons n h with ⟨h1, h2, _⟩ | h1
    · exact ⟨_, h1, idxA_eq .., h2⟩
    · omega
theorem recv_leaf {w r : WoI} {p : PkI} (hb : WBd w) (hbad : w.bad = false) (hf : w.fresh.length < 100000) (hp : pkBd p = true) (h : recvO w p = r) :
    (RAsk (wC w) w.all.length w.fresh.length ∧ PAsk (pkCw p)) ∧ ∃ (s_1 : List UInt8), ∃ (n_2 : Int), ∃ (es_1 : List AV), ∃ (s_2 : List UInt8), ∃ (n_3 : Int), ∃ (es_2 : List AV), ∃ (es_3 : List AV), ∃ (es_4 : List AV), ∃ (es_5 : List AV), ∃ (es_6 : List AV), ∃ (b : Bool),
      OutIs (keptWA (keptRecv (wC w) (pkCw p))) (.agg [.str s_1, .int .i64 n_2, .sl 8 es_1 .no, .str s_2, .int .i64 n_3, .sl 8 es_2 .no, .sl 11 es_3 .no, .sl 3 es_4 .no, .sl 8 es_5 (.tok 0), .sl 8 es_6 (.tok 1), .bool b]) ∧
      RetK (.agg [.str s_1, .int .i64 n_2, .sl 8 es_1 .no, .str s_2, .int .i64 n_3, .sl 8 es_2 .no, .sl 11 es_3 .no, .sl 3 es_4 .no, .sl 8 es_5 (.tok 0), .sl 8 es_6 (.tok 1), .bool b]) [((keptRecv (wC w) (pkCw p)).all.length, 29), ((keptRecv (wC w) (pkCw p)).fresh.length, 29)] (wA r, wL r) := by
  have e : keptRecv (wC w) (pkCw p) = r := by unfold keptRecv; rw [wOf_ok, show pOf (pkCw p) = p from pOf_ok p]; exact h
  refine ⟨⟨⟨w, rfl, rfl, rfl, hb, hbad, hf⟩, ⟨p, rfl, hp⟩⟩, r.a.nm, r.a.nx, fcsL r.a.l, r.b.nm, r.b.nx, fcsL r.b.l, pksL r.c, bxsL r.r, fcsL r.all, fcsL r.fresh, r.bad, ⟨by rw [e]; rfl⟩, ?_⟩
  rw [e]
  exact rk rfl
theorem cs21x {s : SdI} {ev : Int} (h : s.l.length ≤ 2000000) (hx : -4611686018427387904 ≤ s.nx) : s21x [.agg (sdC s.nm s.nx 8 (fcsL s.l)), .agg [.str [], .int .i64 0, .int .i64 1, .int .i64 0, .str [], .str [], .int .i64 ev, .sl 0 [] .nil]] = some (.tup [sdA (subP s ⟨[], 0, 1, 0, [], [], ev, []⟩).1, pkA (subP s ⟨[], 0, 1, 0, [], [], ev, []⟩).2.1, .int .i64 (subP s ⟨[], 0, 1, 0, [], [], ev, []⟩).2.2], []) := by
  unfold s21x
  have e2 : wk1 (.agg [.str [], .int .i64 0, .int .i64 1, .int .i64 0, .str [], .str [], .int .i64 ev, .sl 0 [] .nil]) = .agg [.str [], .int .i64 0, .int .i64 1, .int .i64 0, .str [], .str [], .int .i64 ev, .sl 3 [] .no] := rfl
  rw [List.map_cons, List.map_cons, List.map_nil, e2]
  cases hl : s.l with
  | nil =>
    have e1 : wk1 (.agg (sdC s.nm s.nx 8 (fcsL []))) = .agg [.str s.nm, .int .i64 s.nx, .sl 3 [] .no] := rfl
    rw [e1]
    simp only [s21]
    rw [if_pos ⟨.inr trivial, trivial, by simp, hx⟩]
    simp only [unL]
    rw [show (⟨s.nm, s.nx, []⟩ : SdI) = s from by cases s; simp_all]
  | cons f l =>
    have e1 : wk1 (.agg (sdC s.nm s.nx 8 (fcsL (f :: l)))) = .agg (sdC s.nm s.nx 8 (fcsL (f :: l))) := rfl
    rw [e1, ← hl]
    simp only [s21, unGs_ok, unL]
    rw [if_pos ⟨.inl trivial, trivial, by rw [List.length_map]; exact h, hx⟩]
abbrev RK (w : WoI) (r : WoI) : Prop := RetK (.agg (wCg w)) (wL w) (wA r, wL r)
theorem rkg {w r : WoI} (hbad : w.bad = false) (h : w = r) : RK w r := by
  have : wC w = wCg w := by unfold wC; rw [hbad]
  unfold RK
  rw [← this]
  exact rk h
/-- a fact is submitted -/
theorem lk24s (m : Int) (w : WoI) (s n : Int) (h : WInv w) (hb : w.all.length < 1000) : LkOk PI (GI m) (XAct 13) (tbl [(13, s21x)]) (itbl [(43, v43.up)]) (av24 w 0 s n) [] 24 [.agg (wCg w), .agg [.int .i64 0, .int .i64 s, .int .i64 n]] (wL w) (wA (actO w ⟨0, s, n⟩), wL (actO w ⟨0, s, n⟩)) := by
  refine ⟨rfl, rfl, ?_⟩
  rw [ww24s]
  have hbd := h.bd (Nat.le_of_lt hb)
  have hf : ∀ k, (sdOf w k).l.length ≤ 2000000 ∧ -4611686018427387904 ≤ (sdOf w k).nx := fun k => ⟨by have := (h.sd k).len; omega, by have := h.nx_lo k; omega⟩
  have hla : (fcsL w.all).length = w.all.length := List.length_map ..
  have hl1 : ∀ f, w.all.length + 1 = (w.all ++ [f]).length := fun f => by simp
  have hfr : ∀ f : FcI, fcsL w.all ++ [AV.agg (fcC f)] = fcsL (w.all ++ [f]) := fun f => by
    rw [show fcsL (w.all ++ [f]) = fcsL w.all ++ [fcA f] from List.map_append ..]; rfl
  have hX : ∀ k, parB s = k → subX w ⟨0, s, n⟩ = subP (sdOf w k) ⟨[], 0, 1, 0, [], [], w.all.length, []⟩ := fun k hk => by unfold subX; rw [webA_par, hk]
  have hact0 : ∀ k, parB s = k → (subP (sdOf w k) ⟨[], 0, 1, 0, [], [], w.all.length, []⟩).2.2 = 410 → actO w ⟨0, s, n⟩ = w := fun k hk hq => by
    unfold actO
    rw [if_pos rfl, hX k hk, if_pos hq]
  have hact1 : ∀ k, parB s = k → ¬ (subP (sdOf w k) ⟨[], 0, 1, 0, [], [], w.all.length, []⟩).2.2 = 410 → (subP (sdOf w k) ⟨[], 0, 1, 0, [], [], w.all.length, []⟩).2.2 = 0 ∧ actO w ⟨0, s, n⟩ = sendO (sendA w ⟨0, s, n⟩) (subP (sdOf w k) ⟨[], 0, 1, 0, [], [], w.all.length, []⟩).2.1 ∧ WInv (sendA w ⟨0, s, n⟩) ∧ PkW (sendA w ⟨0, s, n⟩) (subP (sdOf w k) ⟨[], 0, 1, 0, [], [], w.all.length, []⟩).2.1 ∧ (sendA w ⟨0, s, n⟩).all.length = w.all.length + 1 := fun k hk hq => by
    have hq' : ¬ (subX w ⟨0, s, n⟩).2.2 = 410 := by rw [hX k hk]; exact hq
    obtain ⟨a, b, c⟩ := submit_inv h hb hq'
    rw [hX k hk] at b
    refine ⟨?_, ?_, a, b, c⟩
    · have hhi := h.nx_hi (Nat.le_of_lt hb) k
      unfold subP at hq ⊢
      rw [if_neg (by unfold maxT; omega)] at hq ⊢
      split at hq
      · exact absurd rfl hq
      · rename_i hc; rw [if_neg hc]
    · unfold actO
      rw [if_pos rfl, hX k hk, if_neg hq]
  refine ⟨⟨fun h0 => ?_, fun h0 => ?_⟩, fun _ _ _ => ⟨parI_01 s, fun hp => ⟨fun _ => ?_, fun h => (by cases h)⟩, fun hp => ⟨fun _ => ?_, fun h => (by cases h)⟩⟩⟩
  · obtain ⟨a, b⟩ := head_vals (n := n) h.chl h0
    exact ⟨a, a, (), ⟨by rw [b, par_bits, pkL_len]⟩, ⟨rfl⟩, trivial, trivial⟩
  · exact ⟨(), ⟨by rw [head_none h0, par_bits, pkL_len]⟩, ⟨rfl⟩, trivial, trivial⟩
  · have hk := parB_0 hp
    rw [hla]
    refine ⟨⟨by omega, by omega⟩, _, _, _, _, _, _, _, _, _, _, _, _, _, _, _, ⟨by rw [tbl_hit]; exact cs21x (s := w.a) (hf false).1 (hf false).2⟩, fun h0 => ?_, fun h0 => ⟨fun h => (by cases h), fun _ => ⟨fun h1 => ?_, fun h1 => ?_⟩⟩⟩
    · exact rkg h.bad (hact0 false hk (eq_of_beq h0)).symm
    · have := (hact1 false hk (ne_of_beq_false h0)).1
      change ((subP w.a ⟨[], 0, 1, 0, [], [], w.all.length, []⟩).2.2 != 0) = true at h1
      change (subP w.a ⟨[], 0, 1, 0, [], [], w.all.length, []⟩).2.2 = 0 at this
      rw [this] at h1; cases h1
    · obtain ⟨e0, e1, e2, e3, e4⟩ := hact1 false hk (ne_of_beq_false h0)
      refine ⟨⟨by omega, by omega⟩, .inl rfl, by omega, rfl, ?_⟩
      obtain ⟨q, hq⟩ : ∃ q, subP w.a ⟨[], 0, 1, 0, [], [], w.all.length, []⟩ = q := ⟨_, rfl⟩
      change (subP w.a ⟨[], 0, 1, 0, [], [], w.all.length, []⟩).2.2 = 0 at e0
      change actO w ⟨0, s, n⟩ = sendO (sendA w ⟨0, s, n⟩) (subP w.a ⟨[], 0, 1, 0, [], [], w.all.length, []⟩).2.1 at e1
      change PkW (sendA w ⟨0, s, n⟩) (subP w.a ⟨[], 0, 1, 0, [], [], w.all.length, []⟩).2.1 at e3
      rw [hq] at e0 e1 e3 ⊢
      have ew : sendA w ⟨0, s, n⟩ = ⟨q.1, w.b, w.c, w.r, w.all ++ [q.2.1.f], w.fresh, false⟩ := by
        unfold sendA
        rw [hX false hk, webA_par, hk]
        show ({ setS w false (subP w.a _).1 with bad := w.bad || (subP w.a _).2.2 != 0, all := w.all ++ [(subP w.a _).2.1.f] } : WoI) = _
        rw [hq, h.bad, e0]; rfl
      have hb2 := e2.bd (by omega)
      rw [hfr, hl1 q.2.1.f]
      have := send_leaf hb2.1 (e2.pk e3) e1.symm
      rw [ew] at this
      exact this
  · have hk := parB_1 hp
    rw [hla]
    refine ⟨⟨by omega, by omega⟩, _, _, _, _, _, _, _, _, _, _, _, _, _, _, _, ⟨by rw [tbl_hit]; exact cs21x (s := w.b) (hf true).1 (hf true).2⟩, fun h0 => ?_, fun h0 => ⟨fun h => (by cases h), fun _ => ⟨fun h1 => ?_, fun h1 => ?_⟩⟩⟩
    · exact rkg h.bad (hact0 true hk (eq_of_beq h0)).symm
    · have := (hact1 true hk (ne_of_beq_false h0)).1
      change ((subP w.b ⟨[], 0, 1, 0, [], [], w.all.length, []⟩).2.2 != 0) = true at h1
      change (subP w.b ⟨[], 0, 1, 0, [], [], w.all.length, []⟩).2.2 = 0 at this
      rw [this] at h1; cases h1
    · obtain ⟨e0, e1, e2, e3, e4⟩ := hact1 true hk (ne_of_beq_false h0)
      refine ⟨⟨by omega, by omega⟩, .inl rfl, by omega, rfl, ?_⟩
      obtain ⟨q, hq⟩ : ∃ q, subP w.b ⟨[], 0, 1, 0, [], [], w.all.length, []⟩ = q := ⟨_, rfl⟩
      change (subP w.b ⟨[], 0, 1, 0, [], [], w.all.length, []⟩).2.2 = 0 at e0
      change actO w ⟨0, s, n⟩ = sendO (sendA w ⟨0, s, n⟩) (subP w.b ⟨[], 0, 1, 0, [], [], w.all.length, []⟩).2.1 at e1
      change PkW (sendA w ⟨0, s, n⟩) (subP w.b ⟨[], 0, 1, 0, [], [], w.all.length, []⟩).2.1 at e3
      rw [hq] at e0 e1 e3 ⊢
      have ew : sendA w ⟨0, s, n⟩ = ⟨w.a, q.1, w.c, w.r, w.all ++ [q.2.1.f], w.fresh, false⟩ := by
        unfold sendA
        rw [hX true hk, webA_par, hk]
        show ({ setS w true (subP w.b _).1 with bad := w.bad || (subP w.b _).2.2 != 0, all := w.all ++ [(subP w.b _).2.1.f] } : WoI) = _
        rw [hq, h.bad, e0]; rfl
      have hb2 := e2.bd (by omega)
      rw [hfr, hl1 q.2.1.f]
      have := send_leaf hb2.1 (e2.pk e3) e1.symm
      rw [ew] at this
      exact this
theorem actO_1 (w : WoI) (s n : Int) : actO w ⟨1, s, n⟩ = (match w.c[idxA w ⟨1, s, n⟩]? with
    | some p => recvO { w with c := w.c.eraseIdx (idxA w ⟨1, s, n⟩) } p
    | none => w) := by
  unfold actO
  rw [if_neg (show ¬ (1 : Int) = 0 by decide), if_pos rfl]
  rfl
theorem actO_2 (w : WoI) (s n : Int) : actO w ⟨2, s, n⟩ = { w with c := w.c.eraseIdx (idxA w ⟨2, s, n⟩) } := by
  unfold actO
  rw [if_neg (show ¬ (2 : Int) = 0 by decide), if_neg (show ¬ (2 : Int) = 1 by decide), if_pos rfl]
theorem actO_3 (w : WoI) (s n : Int) : actO w ⟨3, s, n⟩ = (match w.c[idxA w ⟨3, s, n⟩]? with
    | some p => { w with c := if (chSend w.c p).2 = 0 then (chSend w.c p).1 else w.c }
    | none => w) := by
  unfold actO
  rw [if_neg (show ¬ (3 : Int) = 0 by decide), if_neg (show ¬ (3 : Int) = 1 by decide), if_neg (show ¬ (3 : Int) = 2 by decide), if_pos rfl]
  rfl
theorem actO_4 (w : WoI) (s n : Int) : actO w ⟨4, s, n⟩ = againL w s (openP w s).length := by
  unfold actO againL openP
  rw [if_neg (show ¬ (4 : Int) = 0 by decide), if_neg (show ¬ (4 : Int) = 1 by decide), if_neg (show ¬ (4 : Int) = 2 by decide), if_neg (show ¬ (4 : Int) = 3 by decide), if_pos rfl, List.take_length, webA_par]
theorem actO_o {w : WoI} {k s n : Int} (h0 : k ≠ 0) (h1 : k ≠ 1) (h2 : k ≠ 2) (h3 : k ≠ 3) (h4 : k ≠ 4) : actO w ⟨k, s, n⟩ = w := by
  unfold actO
  rw [if_neg h0, if_neg h1, if_neg h2, if_neg h3, if_neg h4]
theorem chDel_some {c : List PkI} {i : Nat} (h : i < c.length) : chDel c i = (c.eraseIdx i, c[i], 0) := by
  unfold chDel
  rw [if_neg (by omega), Int.toNat_natCast, List.getD_eq_getElem?_getD, List.getElem?_eq_getElem h]; rfl
theorem chDel_none : chDel [] (-1) = ([], zPk, 4) := rfl
/-- a packet is delivered -/
theorem lk24d (m : Int) (w : WoI) (s n : Int) (h : WInv w) (hb : w.all.length < 1000) : LkOk PI (GI m) (XAct 44) (tbl [(44, v44)]) (itbl [(23, v23.up)]) (av24n w 1 s n) [] 24 [.agg (wCg w), .agg [.int .i64 1, .int .i64 s, .int .i64 n]] (wL w) (wA (actO w ⟨1, s, n⟩), wL (actO w ⟨1, s, n⟩)) := by
  refine ⟨rfl, rfl, ?_⟩
  rw [ww24d]
  have hcl : w.c.length ≤ 2000000 := by have := h.chl; omega
  refine ⟨⟨fun h0 => ?_, fun h0 => ?_⟩, fun _ _ _ => ⟨fun h => (by cases h), fun _ => ⟨fun _ => ⟨_, _, _, _, _, _, _, _, _, _, _, _, _, ⟨by rw [tbl_hit]; exact cv44 hcl⟩, fun h0 => ?_, fun h0 => ?_⟩, fun h => (by cases h)⟩⟩⟩
  · obtain ⟨a, b⟩ := head_vals (n := n) h.chl h0
    exact ⟨a, a, (), ⟨by rw [b, pkL_len]⟩, ⟨rfl⟩, trivial, trivial⟩
  · exact ⟨(), ⟨by rw [head_none h0, pkL_len]⟩, ⟨rfl⟩, trivial, trivial⟩
  · rcases idx_at h.chl 1 s n with ⟨e1, e2⟩ | ⟨i, e1, e2, e3⟩
    · rw [e2, e1, chDel_none] at h0
      cases h0
    · rw [e1, chDel_some e3]
      have hm : w.c[i] ∈ w.c := List.getElem_mem e3
      have hI : WInv { w with c := w.c.eraseIdx i } := h.setC (fun p hp => h.ch p (List.mem_of_mem_eraseIdx hp)) (Nat.le_trans (List.length_eraseIdx_le ..) h.chl)
      have hbd := hI.bd (Nat.le_of_lt hb)
      have hr : actO w ⟨1, s, n⟩ = recvO { w with c := w.c.eraseIdx i } w.c[i] := by
        rw [actO_1, e2, List.getElem?_eq_getElem e3]
      have hcg : wC { w with c := w.c.eraseIdx i } = wCg { w with c := w.c.eraseIdx i } := by unfold wC; rw [h.bad]
      have := recv_leaf (p := w.c[i]) hbd.1 h.bad hbd.2 (h.pk (h.ch _ hm)) hr.symm
      rw [hcg] at this
      exact this
  · rcases idx_at h.chl 1 s n with ⟨e1, e2⟩ | ⟨i, e1, e2, e3⟩
    · refine rkg h.bad ?_
      rw [actO_1, e1]; rfl
    · rw [e1, chDel_some e3] at h0
      cases h0
/-- a packet is lost -/
theorem lk24l (m : Int) (w : WoI) (s n : Int) (h : WInv w) (hb : w.all.length < 1000) : LkOk PI (GI m) (XAct 45) (tbl [(45, v45)]) (itbl []) (av24n w 2 s n) [] 24 [.agg (wCg w), .agg [.int .i64 2, .int .i64 s, .int .i64 n]] (wL w) (wA (actO w ⟨2, s, n⟩), wL (actO w ⟨2, s, n⟩)) := by
  refine ⟨rfl, rfl, ?_⟩
  rw [ww24l]
  have hcl : w.c.length ≤ 2000000 := by have := h.chl; omega
  have cv45 : v45 [chA w.c, .int .i64 (nIdx w.c n)] = some (.tup [chA (chDrop w.c (nIdx w.c n)).1, .int .i64 (chDrop w.c (nIdx w.c n)).2], []) := by
    simp only [v45]
    rw [if_pos ⟨trivial, by rw [pkL_len]; exact hcl⟩, show unL unK (pksL w.c) = some w.c from unL_map unK_ok w.c]
  refine ⟨⟨fun h0 => ?_, fun h0 => ?_⟩, fun _ _ _ => ⟨fun h => (by cases h), fun _ => ⟨fun h => (by cases h), fun _ => ⟨fun _ => ⟨_, _, ⟨by rw [tbl_hit]; exact cv45⟩, fun h0 => ?_, fun h0 => ?_⟩, fun h => (by cases h)⟩⟩⟩⟩
  · obtain ⟨a, b⟩ := head_vals (n := n) h.chl h0
    exact ⟨a, a, (), ⟨by rw [b, pkL_len]⟩, ⟨rfl⟩, trivial, trivial⟩
  · exact ⟨(), ⟨by rw [head_none h0, pkL_len]⟩, ⟨rfl⟩, trivial, trivial⟩
  · rcases idx_at h.chl 2 s n with ⟨e1, e2⟩ | ⟨i, e1, e2, e3⟩
    · unfold chDrop at h0
      rw [e2, e1, chDel_none] at h0
      cases h0
    · unfold chDrop
      rw [e1, chDel_some e3]
      refine rkg (w := { w with c := w.c.eraseIdx i }) h.bad ?_
      rw [actO_2, e2]
  · rcases idx_at h.chl 2 s n with ⟨e1, e2⟩ | ⟨i, e1, e2, e3⟩
    · refine rkg h.bad ?_
      rw [actO_2, e1, List.eraseIdx_nil]
      cases w; simp_all
    · unfold chDrop at h0
      rw [e1, chDel_some e3] at h0
      cases h0
/-- a packet is doubled -/
theorem lk24c (m : Int) (w : WoI) (s n : Int) (h : WInv w) (_hb : w.all.length < 1000) : LkOk PI (GI m) (XAct 46) (tbl [(46, v46)]) (itbl []) (av24n w 3 s n) [] 24 [.agg (wCg w), .agg [.int .i64 3, .int .i64 s, .int .i64 n]] (wL w) (wA (actO w ⟨3, s, n⟩), wL (actO w ⟨3, s, n⟩)) := by
  refine ⟨rfl, rfl, ?_⟩
  rw [ww24c]
  have hcl : w.c.length ≤ 2000000 := by have := h.chl; omega
  have hpk : w.c.all pkBd = true := List.all_eq_true.2 fun p hp => h.pk (h.ch p hp)
  have cv46 : v46 [chA w.c, .int .i64 (nIdx w.c n)] = some (.tup [chA (chDup w.c (nIdx w.c n)).1, .int .i64 (chDup w.c (nIdx w.c n)).2], []) := by
    simp only [v46]
    rw [if_pos ⟨trivial, by rw [pkL_len]; exact hcl⟩, show unL unK (pksL w.c) = some w.c from unL_map unK_ok w.c]
    simp only
    rw [if_pos hpk]
  have hdup : ∀ i, i < w.c.length → ∀ hi : i < w.c.length, chDup w.c i = chSend w.c w.c[i] := fun i hi _ => by
    unfold chDup
    rw [if_neg (by omega), Int.toNat_natCast, List.getD_eq_getElem?_getD, List.getElem?_eq_getElem hi]; rfl
  refine ⟨⟨fun h0 => ?_, fun h0 => ?_⟩, fun _ _ _ => ⟨fun h => (by cases h), fun _ => ⟨fun h => (by cases h), fun _ => ⟨fun h => (by cases h), fun _ => ⟨fun _ => ⟨_, _, ⟨by rw [tbl_hit]; exact cv46⟩, fun h0 => ?_, fun h0 => ?_⟩, fun h => (by cases h)⟩⟩⟩⟩⟩
  · obtain ⟨a, b⟩ := head_vals (n := n) h.chl h0
    exact ⟨a, a, (), ⟨by rw [b, pkL_len]⟩, ⟨rfl⟩, trivial, trivial⟩
  · exact ⟨(), ⟨by rw [head_none h0, pkL_len]⟩, ⟨rfl⟩, trivial, trivial⟩
  · rcases idx_at h.chl 3 s n with ⟨e1, e2⟩ | ⟨i, e1, e2, e3⟩
    · rw [e2, e1] at h0
      cases h0
    · rw [e1, hdup i e3 e3] at h0 ⊢
      refine rkg (w := { w with c := (chSend w.c w.c[i]).1 }) h.bad ?_
      rw [actO_3, e2, List.getElem?_eq_getElem e3]
      simp only
      rw [if_pos (eq_of_beq h0)]
  · refine rkg h.bad ?_
    rcases idx_at h.chl 3 s n with ⟨e1, e2⟩ | ⟨i, e1, e2, e3⟩
    · rw [actO_3, e1]; rfl
    · rw [e1, hdup i e3 e3] at h0
      rw [actO_3, e2, List.getElem?_eq_getElem e3]
      simp only
      rw [if_neg (ne_of_beq_false h0)]
theorem againL_succ {w : WoI} {s : Int} {i : Nat} (h : i < (openP w s).length) : againL w s (i + 1) = sendO (againL w s i) (openP w s)[i] := by
  unfold againL
  rw [List.take_succ_eq_append_getElem h, List.foldl_append]; rfl
theorem again_send {w : WoI} (h : WInv w) (hb : w.all.length ≤ 1000) (s : Int) : ∀ i, i ≤ (openP w s).length → WInv (againL w s i) ∧ (againL w s i).all = w.all := fun i _ => by
  unfold againL
  exact sends_inv _ h hb fun p hp => open_pk h (parB s) p (List.mem_of_mem_take hp)
/-- what is open is sent again -/
theorem lk24a (m : Int) (w : WoI) (s n : Int) (h : WInv w) (hb : w.all.length < 1000) : LkOk PI (GI m) (XAct 16) (tbl [(16, s22)]) (itbl [(43, v43.up), (1000043, fun _ _ => some (False, .junk, ⟨[], []⟩))]) (av24 w 4 s n) [] 24 [.agg (wCg w), .agg [.int .i64 4, .int .i64 s, .int .i64 n]] (wL w) (wA (actO w ⟨4, s, n⟩), wL (actO w ⟨4, s, n⟩)) := by
  refine ⟨rfl, rfl, ?_⟩
  rw [ww24a]
  have hb' := Nat.le_of_lt hb
  have h64 : ∀ k, (sdOf w k).l.length ≤ 2000000 := fun k => by have := (h.sd k).len; omega
  have cs22 : ∀ sd : SdI, sd.l.length ≤ 2000000 → s22 [.agg [.str sd.nm, .int .i64 sd.nx, .sl 8 (fcsL sd.l) .no]] = some (.sl 11 (pksL (resP sd.l)) .no, []) := fun sd hs => by
    simp only [s22, unGs_ok]
    rw [if_pos ⟨trivial, by rw [List.length_map]; exact hs⟩]
  have hcg : ∀ i, wC (againL w s i) = wC (againL w s i) := fun _ => rfl
  have h00 : wCg w = wC (againL w s 0) := by
    show wCg w = wC w
    unfold wC; rw [h.bad]
  have hpl : ((pksL (openP w s)).length : Int) = ((openP w s).length : Nat) := by rw [pkL_len]
  have loop : ∀ (x : Nat), x ≤ (openP w s).length → decide ((x : Int) < ((pksL (openP w s)).length : Int)) = true → ∃ hx : x < (openP w s).length, WBd (againL w s x) ∧ pkBd (openP w s)[x] = true ∧ keptSend (wC (againL w s x)) (pkCw (openP w s)[x]) = againL w s (x + 1) := fun x hx hlt => by
    have hlt := of_decide_eq_true hlt
    rw [pkL_len] at hlt
    have hx2 : x < (openP w s).length := by omega
    obtain ⟨a, b⟩ := again_send h hb' s x hx
    refine ⟨hx2, (a.bd (by rw [b]; exact hb')).1, h.pk (open_pk h (parB s) _ (List.getElem_mem hx2)), ?_⟩
    unfold keptSend
    rw [wOf_ok, show pOf (pkCw _) = _ from pOf_ok _, againL_succ hx2]
  have fin : ∀ (x : Nat), x ≤ (openP w s).length → decide ((x : Int) < ((pksL (openP w s)).length : Int)) = false → againL w s x = actO w ⟨4, s, n⟩ := fun x hx hge => by
    have hge := of_decide_eq_false hge
    rw [pkL_len] at hge
    have : x = (openP w s).length := by omega
    rw [actO_4, this]
  refine ⟨⟨fun h0 => ?_, fun h0 => ?_⟩, fun _ _ _ => ⟨parI_01 s, fun hp => ⟨fun h => (by cases h), fun _ => ⟨fun h => (by cases h), fun _ => ⟨fun h => (by cases h), fun _ => ⟨fun h => (by cases h), fun _ => ⟨fun _ => ?_, fun h => (by cases h)⟩⟩⟩⟩⟩, fun hp => ⟨fun h => (by cases h), fun _ => ⟨fun h => (by cases h), fun _ => ⟨fun h => (by cases h), fun _ => ⟨fun h => (by cases h), fun _ => ⟨fun _ => ?_, fun h => (by cases h)⟩⟩⟩⟩⟩⟩⟩
  · obtain ⟨a, b⟩ := head_vals (n := n) h.chl h0
    exact ⟨a, a, (), ⟨by rw [b, par_bits, pkL_len]⟩, ⟨rfl⟩, trivial, trivial⟩
  · exact ⟨(), ⟨by rw [head_none h0, par_bits, pkL_len]⟩, ⟨rfl⟩, trivial, trivial⟩
  · have ho : openP w s = resP w.a.l := by unfold openP; rw [parB_0 hp]; rfl
    refine ⟨⟨by omega, by omega⟩, _, ⟨by rw [tbl_hit]; exact cs22 w.a (h64 false)⟩, ⟨0, ⟨by rw [ho]; rfl⟩, ⟨congrArg (fun c => St.mk [some c, some [.int .i64 4, .int .i64 s, .int .i64 n], some wZ] (wL w)) h00⟩, Nat.zero_le _, trivial⟩, fun x hx => ⟨fun hlt => ?_, fun hge => ?_⟩⟩
    · obtain ⟨hx2, l1, l2, l3⟩ := loop x hx hlt
      refine ⟨⟨by omega, of_decide_eq_true hlt⟩, _, _, _, _, _, _, _, _, _, _, _, by rw [Int.toNat_natCast]; exact take_pkA hx2, ⟨⟨_, rfl, rfl, rfl, l1⟩, ⟨_, rfl, l2⟩⟩, ?_⟩
      rw [show keptSend _ _ = againL w s (x + 1) from l3]
      exact ⟨_, _, _, _, _, _, _, _, _, _, _, ⟨rfl⟩, x + 1, ⟨by rw [wrapN (by rw [pkL_len] at hpl; have := h.sd (parB s) |>.len; simp [openP, resP] at hx2; omega)]⟩, ⟨rfl⟩, hx2, by omega⟩
    · exact rk (fin x hx hge)
  · have ho : openP w s = resP w.b.l := by unfold openP; rw [parB_1 hp]; rfl
    refine ⟨⟨by omega, by omega⟩, _, ⟨by rw [tbl_hit]; exact cs22 w.b (h64 true)⟩, ⟨0, ⟨by rw [ho]; rfl⟩, ⟨congrArg (fun c => St.mk [some c, some [.int .i64 4, .int .i64 s, .int .i64 n], some wZ] (wL w)) h00⟩, Nat.zero_le _, trivial⟩, fun x hx => ⟨fun hlt => ?_, fun hge => ?_⟩⟩
    · obtain ⟨hx2, l1, l2, l3⟩ := loop x hx hlt
      refine ⟨⟨by omega, of_decide_eq_true hlt⟩, _, _, _, _, _, _, _, _, _, _, _, by rw [Int.toNat_natCast]; exact take_pkA hx2, ⟨⟨_, rfl, rfl, rfl, l1⟩, ⟨_, rfl, l2⟩⟩, ?_⟩
      rw [show keptSend _ _ = againL w s (x + 1) from l3]
      exact ⟨_, _, _, _, _, _, _, _, _, _, _, ⟨rfl⟩, x + 1, ⟨by rw [wrapN (by have := h.sd (parB s) |>.len; simp [openP, resP] at hx2; omega)]⟩, ⟨rfl⟩, hx2, by omega⟩
    · exact rk (fin x hx hge)
/-- nothing happens -/
theorem lk24o (m : Int) (w : WoI) (k s n : Int) (h : WInv w) (h0 : k ≠ 0) (h1 : k ≠ 1) (h2 : k ≠ 2) (h3 : k ≠ 3) (h4 : k ≠ 4) : LkOk PI (GI m) XNo (tbl []) (itbl []) (av24n w k s n) [] 24 [.agg (wCg w), .agg [.int .i64 k, .int .i64 s, .int .i64 n]] (wL w) (wA (actO w ⟨k, s, n⟩), wL (actO w ⟨k, s, n⟩)) := by
  refine ⟨rfl, rfl, ?_⟩
  rw [ww24o]
  refine ⟨⟨fun h0 => ?_, fun h0 => ?_⟩, fun _ _ _ => ⟨fun h => absurd (eq_of_beq h) h0, fun _ => ⟨fun h => absurd (eq_of_beq h) h1, fun _ => ⟨fun h => absurd (eq_of_beq h) h2, fun _ => ⟨fun h => absurd (eq_of_beq h) h3, fun _ => ⟨fun h => absurd (eq_of_beq h) h4, fun _ => rkg h.bad (actO_o h0 h1 h2 h3 h4).symm⟩⟩⟩⟩⟩⟩
  · obtain ⟨a, b⟩ := head_vals (n := n) h.chl h0
    exact ⟨a, a, (), ⟨by rw [b, pkL_len]⟩, ⟨rfl⟩, trivial, trivial⟩
  · exact ⟨(), ⟨by rw [head_none h0, pkL_len]⟩, ⟨rfl⟩, trivial, trivial⟩
end Go.Abs

namespace Go.Abs
open Go.Proofs Go.RowKit Go.Sort
section
variable {P : Program} {G : Glob}
/-- as lspec_of; the callees may differ from argument to argument -/
theorem lspec_of' (hm : P.follows .mixedOrders = true) {m : List Bool} {f : FuncId} {s : LSpec}
    (h : ∀ args l p r, s args l = some (p, r) → p → ∃ X R C A, CalleeOk P G R ∧ ICalleeOk P G (lowC C) ∧ LkOk P G X R C A m f args l r) : ISpecOk P G f s.up := by
  classical
  intro g args S r S' hr
  by_cases e : g = f
  case neg =>
    simp only [lowC, if_neg e] at hr
    cases hr
  subst e
  have hr0 := hr
  simp only [lowC, if_true] at hr
  split at hr
  case h_2 => cases hr
  case h_1 x hx =>
  split at hr
  case isFalse => cases hr
  case isTrue hp =>
  unfold LSpec.up at hx
  split at hx
  case h_2 => cases hx
  rename_i p r1 l hs
  injection hx with hx
  subst hx
  obtain ⟨X, R, C, A, hR, hC, hA⟩ := h args S.live p (r1, l) hs hp
  have key := lspec_of (s := fun a l' => if a = args ∧ l' = S.live then some (p, r1, l) else none) (X := X) (m := m) (f := g) hm hR hC fun a l' p' r' h' hp' => by
    split at h'
    · rename_i hc
      obtain ⟨rfl, rfl⟩ := hc
      injection h' with h'
      injection h' with h1 h2
      subst h2
      exact ⟨A, hA⟩
    · cases h'
  refine key g args S r S' ?_
  simp only [lowC, if_true, LSpec.up, and_self]
  rw [if_pos hp]
  exact hr
/-- the sign that impure callees are called in regions that draw -/
theorem flag_ok {k : FuncId} : ISpecOk P G k fun _ _ => some (False, .junk, ⟨[], []⟩) := by
  intro g args S r S' hr
  simp only [lowC] at hr
  by_cases e : g = k
  · simp [e] at hr
  · simp [e] at hr
end
theorem ov24 (m : Int) : ISpecOk PI (GI m) 24 v24.up := lspec_of' (m := []) mixedI fun args l p r h hp => by
  unfold v24 at h
  split at h
  case h_2 => cases h
  rename_i cs xs n0 e0 n1 e1
  split at h
  case isFalse => cases h
  rename_i hc
  simp only [Bool.and_eq_true, decide_eq_true_eq] at hc
  obtain ⟨⟨_, hx⟩, rfl, rfl⟩ := hc
  injection h with h
  injection h with h1 h2
  subst h1
  obtain ⟨w, rfl, rfl, rfl, hI, hb⟩ := hp
  obtain ⟨k, s, n, rfl⟩ : ∃ k s n, xs = [.int .i64 k, .int .i64 s, .int .i64 n] := by
    unfold isXc at hx
    split at hx
    · exact ⟨_, _, _, rfl⟩
    · cases hx
  have hr : r = (wA (actO w ⟨k, s, n⟩), wL (actO w ⟨k, s, n⟩)) := by
    rw [← h2]
    simp only [keptWA, keptAct, wOf_ok, xOf]
  subst hr
  have hcg : wC w = wCg w := by unfold wC; rw [hI.bad]
  rw [hcg]
  by_cases h0 : k = 0
  · subst h0
    exact ⟨_, _, _, _, tbl_cons (o21x m) tbl_nil, itbl_cons (ov43 m) itbl_nil, lk24s m w s n hI hb⟩
  by_cases h1 : k = 1
  · subst h1
    exact ⟨_, _, _, _, tbl_cons (ov44 m) tbl_nil, itbl_cons (ov23 m) itbl_nil, lk24d m w s n hI hb⟩
  by_cases h2 : k = 2
  · subst h2
    exact ⟨_, _, _, _, tbl_cons (ov45 m) tbl_nil, itbl_nil, lk24l m w s n hI hb⟩
  by_cases h3 : k = 3
  · subst h3
    exact ⟨_, _, _, _, tbl_cons (ov46 m) tbl_nil, itbl_nil, lk24c m w s n hI hb⟩
  by_cases h4 : k = 4
  · subst h4
    exact ⟨_, _, _, _, tbl_cons (o22 m) tbl_nil, itbl_cons (ov43 m) (itbl_cons flag_ok itbl_nil), lk24a m w s n hI hb⟩
  exact ⟨_, _, _, _, tbl_nil, itbl_nil, lk24o m w k s n hI h0 h1 h2 h3 h4⟩
theorem ov41 (m : Int) : SpecOk PI (GI m) 41 v41 := spec_of (X := XWo) (m := []) mixedI (tbl_cons (oz9 m) tbl_nil) itbl_nil fun args r h => by
  unfold v41 at h
  split at h
  case h_2 => cases h
  injection h with h; subst h
  refine ⟨nAn, ⟨?_⟩⟩
  rw [ww41]
  exact ⟨_, _, _, _, ⟨rfl⟩, _, _, _, _, ⟨rfl⟩, fun h => (by cases h), fun _ => ⟨fun h => (by cases h), fun _ => ⟨rfl⟩⟩⟩
theorem unX_ok (x : AcI) : unX (acA x) = some x := rfl
theorem lXs_ok (l : List AcI) : lXs (acsL l) = l := by unfold lXs; rw [show unL unX (acsL l) = some l from unL_map unX_ok l]; rfl
theorem agg61 : aggA PI 61 = some true := by kernel_rfl
theorem size61 : sizeA PI 61 = some 3 := by kernel_rfl
theorem take_ac {l : List AcI} {i : Nat} (h : i < l.length) : takeAt PI 61 (acsL l) i 0 = some (acA l[i]) := by
  simp only [takeAt, List.getElem?_map, List.getElem?_eq_getElem h, Option.map_some, takeA, agg61, size61]
  rfl
theorem ranO_succ {l : List AcI} {i : Nat} (h : i < l.length) : ranO (l.take (i + 1)) = actO (ranO (l.take i)) l[i] := by
  unfold ranO
  rw [List.take_succ_eq_append_getElem h, List.foldl_append]; rfl
theorem ranO_take {l : List AcI} (hl : l.length ≤ 100) (i : Nat) : WInv (ranO (l.take i)) ∧ (ranO (l.take i)).all.length ≤ 100 := ranO_inv (by rw [List.length_take]; omega)
theorem ov20 (m : Int) : ISpecOk PI (GI m) 20 v20.up := lspec_of (X := XWo) (m := []) mixedI (tbl_cons (ov41 m) tbl_nil) (itbl_cons (ov24 m) (itbl_cons flag_ok itbl_nil)) fun args l p r h hp => by
  unfold v20 at h
  split at h
  case h_2 => cases h
  split at h
  case isFalse => cases h
  rename_i hz
  subst hz
  injection h with h
  injection h with h1 h2
  subst h1
  obtain ⟨l, rfl, hl⟩ := hp
  have hr : r = (wA (ranO l), wL (ranO l)) := by
    rw [← h2]
    simp only [keptWA, keptRan, lXs_ok]
  subst hr
  refine ⟨av20 l, rfl, rfl, ?_⟩
  show lkW PI (GI m) XWo (tbl [(41, v41)]) (itbl [(24, v24.up), (1000024, fun _ _ => some (False, .junk, ⟨[], []⟩))]) (av20 l) [] 20 [.sl 3 (acsL l) .no] [] (wA (ranO l), wL (ranO l))
  rw [ww20]
  have hll : (acsL l).length = l.length := List.length_map ..
  rw [hll]
  refine ⟨⟨rfl⟩, ⟨0, ⟨rfl⟩, ⟨rfl⟩, Nat.zero_le _, trivial⟩, fun x hx => ⟨fun hlt => ?_, fun hge => ?_⟩⟩
  · have hlt := of_decide_eq_true hlt
    have hxl : x < l.length := by omega
    obtain ⟨hI, hb⟩ := ranO_take hl x
    refine ⟨⟨by omega, hlt⟩, _, _, _, by rw [Int.toNat_natCast]; exact take_ac hxl, ⟨_, rfl, rfl, rfl, hI, by omega⟩, ?_⟩
    have e : keptAct (wC (ranO (l.take x))) [.int .i64 (l[x]).k, .int .i64 (l[x]).s, .int .i64 (l[x]).n] = ranO (l.take (x + 1)) := by
      unfold keptAct
      rw [wOf_ok, ranO_succ hxl]; rfl
    rw [show keptAct _ _ = ranO (l.take (x + 1)) from e]
    exact ⟨_, _, _, _, _, _, _, _, _, _, _, ⟨rfl⟩, x + 1, ⟨by rw [wrapN (by omega)]⟩, ⟨rfl⟩, hxl, by omega⟩
  · have hge := of_decide_eq_false hge
    have : x = l.length := by omega
    subst this
    exact rk (by rw [List.take_length])
end Go.Abs

namespace Go.Abs
open Go.Proofs
/-- the cells of an entry that a log of facts leaves as they are -/
def tailE : List AV := [.int .i64 0, .str [], .str [], .str [], .int .i64 0, .int .i64 0, .str [], .str [], .sl 0 [] .nil, .int .i64 0, .str [], .str [], .int .i64 0, .sl 0 [] .nil, .str [], .int .i64 0, .str [], .str [], .str [], .int .i64 0, .int .i64 0, .str [], .sl 0 [] .nil, .int .i64 0, .int .i64 0, .int .i64 0, .sl 0 [] .nil, .int .i64 0, .str []]
/-- an entry of the log -/
def lgA (i : Nat) (f : FcI) : AV := .agg (.int .i64 ((i : Int) + 1) :: .int .i64 i :: .int .i64 1 :: .str f.src :: .int .i64 f.seq :: .int .i64 f.kind :: .int .i64 f.ref :: .str f.table :: .str f.key :: .int .i64 f.event :: .sl 3 (vasL f.fs) .no :: tailE)
def logL (l : List FcI) : List AV := l.mapIdx lgA
/-- the log, as Marks looks at it -/
def entL (l : List FcI) : List EnI := l.mapIdx fun i f => ⟨i, 1, f⟩
def mkA2 (W : WoI) : List MkI := marksM (metL W.fresh.length (entL W.fresh))
def mkO (W : WoI) (early : Int) : List MkI := marksM (metL early (entL W.fresh))
def hasMk (M : List MkI) (o : MkI) : Bool := M.any fun k => decide (k.s = o.s) && decide (o.n ≤ k.n)
def atM (O : List MkI) (j : Nat) : MkI := O.getD j ⟨[], 0⟩
structure StT where
  j : Nat
  i : Nat
  b : Bool
def XWt : Shapes := fun f => match f with
  | 28 => some (.val (.one (.sl 2 .no)), none)
  | f => XWo f
def tT : List (FuncId × Spec) := [(7, s7), (28, s15x)]
def av6 (W : WoI) (early : Int) : Anns := ⟨fun k => match k with
  | 8 => some { α := Nat, slots := [1, 5, 6, 7], nb := 1, vals := fun n => [.int .i64 early, .ptr 0 0, .sl 40 (logL (W.fresh.take n)) (.tok 2), .int .i64 n], sS := fun n => ⟨[some (wC W)], wL W ++ [((logL (W.fresh.take n)).length, 89)]⟩, I := fun n => n ≤ W.fresh.length, μ := fun n => W.fresh.length - n, mint := [(6, 89)] }
  | 15 => some { α := Nat, slots := [1, 5, 6, 8, 9], nb := 1, vals := fun n => [.int .i64 early, .ptr 0 0, .sl 40 (logL W.fresh) (.tok 2), .sl 2 (mksL (mkA2 W)) .no, .int .i64 n], sS := fun _ => ⟨[some (wC W)], wL W ++ [((logL W.fresh).length, 89)]⟩, I := fun n => n ≤ W.r.length, μ := fun n => W.r.length - n }
  | 21 => some { α := Nat, slots := [8, 10, 11], nb := 1, vals := fun n => [.sl 2 (mksL (mkA2 W)) .no, .sl 2 (mksL (mkO W early)) .no, .int .i64 n], sS := fun _ => ⟨[some (wC W)], wL W ++ [((logL W.fresh).length, 89)]⟩, I := fun n => n ≤ (mkO W early).length, μ := fun n => (mkO W early).length - n }
  | 25 => some { α := StT, slots := [8, 10, 11, 12, 13], nb := 1, vals := fun n => [.sl 2 (mksL (mkA2 W)) .no, .sl 2 (mksL (mkO W early)) .no, .int .i64 n.j, .bool n.b, .int .i64 n.i], sS := fun _ => ⟨[some (wC W)], wL W ++ [((logL W.fresh).length, 89)]⟩, I := fun n => n.j < (mkO W early).length ∧ n.i ≤ (mkA2 W).length ∧ n.b = hasMk ((mkA2 W).take n.i) (atM (mkO W early) n.j), μ := fun n => (mkA2 W).length - n.i, bools := [12], link := some fun T n => T[11]? = some (.int .i64 (n.j : Nat)) }
  | _ => none, nA⟩
end Go.Abs

namespace Go.Abs
open Go.Proofs Go.RowKit Go.Sort
theorem logL_len (l : List FcI) : (logL l).length = l.length := List.length_mapIdx ..
theorem logL_next {l : List FcI} {i : Nat} (h : i < l.length) : logL (l.take (i + 1)) = logL (l.take i) ++ [lgA i l[i]] := by
  unfold logL
  rw [List.take_add_one, List.getElem?_eq_getElem h, Option.toList_some, List.mapIdx_concat, List.length_take, Nat.min_eq_left (by omega)]
theorem wk_lg (i : Nat) (f : FcI) : wkEn (lgA i f) = enA ⟨i, 1, f⟩ := by
  cases h : f.fs with
  | nil => simp [wkEn, lgA, wkCs, tailE, enA, wk0, vasL, h]
  | cons v l => simp [wkEn, lgA, wkCs, tailE, enA, wk0, vasL, h]
theorem logL_ens (l : List FcI) : (logL l).map wkEn = ensL (entL l) := by
  apply List.ext_getElem
  · simp [logL, entL]
  · intro i h1 h2
    simp only [logL, entL, List.getElem_map, List.getElem_mapIdx]
    exact wk_lg i _
theorem entL_len (l : List FcI) : (entL l).length = l.length := List.length_mapIdx ..
theorem mem_entL {l : List FcI} {e : EnI} : e ∈ entL l ↔ ∃ (i : Nat) (h : i < l.length), (⟨i, 1, l[i]⟩ : EnI) = e := List.mem_mapIdx
theorem ent_f {l : List FcI} {e : EnI} (h : e ∈ entL l) : e.f ∈ l := by
  obtain ⟨i, hi, rfl⟩ := mem_entL.1 h
  exact List.getElem_mem hi
theorem ent_of {l : List FcI} {f : FcI} (h : f ∈ l) : ∃ e ∈ entL l, e.f = f := by
  obtain ⟨i, hi, rfl⟩ := List.getElem_of_mem h
  exact ⟨_, mem_entL.2 ⟨i, hi, rfl⟩, rfl⟩
theorem cs15x {l : List FcI} {t : Int} (h1 : l.length ≤ 2000000) (h2 : idsOk (entL l) = true) : s15x [.sl 40 (logL l) .no, .int .i64 t] = some (.sl 2 (mksL (marksM (metL t (entL l)))) .no, []) := by
  have e : [AV.sl 40 (logL l) .no, .int .i64 t].map wkEs = [.sl 40 (ensL (entL l)) .no, .int .i64 t] := by
    simp only [List.map_cons, List.map_nil, wkEs, logL_ens]
  unfold s15x
  rw [e]
  simp only [s15]
  rw [if_pos ⟨trivial, by rw [show (ensL (entL l)).length = (entL l).length from List.length_map .., entL_len]; exact h1⟩, unEs_ok]
  simp only
  rw [if_pos h2]
theorem met_all (l : List FcI) : metL l.length (entL l) = entL l := by
  unfold metL
  rw [List.filter_eq_self]
  intro e he
  obtain ⟨i, hi, rfl⟩ := mem_entL.1 he
  simp only [relB, decide_true, Bool.true_and, decide_eq_true_eq]
  omega
theorem has_ids {l : List FcI} {s : List UInt8} {n : Int} : hasId (entL l) s n = true ↔ (s, n) ∈ idsF l := by
  unfold hasId
  rw [List.any_eq_true]
  constructor
  · rintro ⟨e, he, h⟩
    simp only [Bool.and_eq_true, decide_eq_true_eq] at h
    have := mem_ids (ent_f he)
    rwa [h.1, h.2] at this
  · intro h
    obtain ⟨f, hf, h1, h2⟩ := ids_mem h
    obtain ⟨e, he, rfl⟩ := ent_of hf
    exact ⟨e, he, by simp [h1, h2]⟩
theorem nextF_run {has : Int → Bool} : ∀ (j k : Nat) (n : Int), j ≤ k → (∀ i : Nat, i < j → has (n + i) = true) → has (n + j) = false → nextF has k n = n + j
  | 0, k, n, _, _, h => by rw [nextF_stop (by simpa using h)]; simp
  | j + 1, k, n, hk, h1, h2 => by
    obtain ⟨k, rfl⟩ : ∃ k', k = k' + 1 := ⟨k - 1, by omega⟩
    rw [nextF_go (by simpa using h1 0 (by omega)), nextF_run j k (n + 1) (by omega) (fun i hi => by
      have := h1 (i + 1) (by omega)
      rwa [show n + ((i + 1 : Nat) : Int) = n + 1 + i from by omega] at this) (by rwa [show n + ((j + 1 : Nat) : Int) = n + 1 + j from by omega] at h2)]
    omega
theorem nextF_ge {has : Int → Bool} : ∀ (k : Nat) (n : Int), n ≤ nextF has k n
  | 0, n => Int.le_refl _
  | k + 1, n => by
    unfold nextF
    split
    · have := nextF_ge (has := has) k (n + 1); omega
    · exact Int.le_refl _
theorem nextF_mono {a b : Int → Bool} (h : ∀ n, a n = true → b n = true) : ∀ (j k : Nat) (n : Int), j ≤ k → nextF a j n ≤ nextF b k n
  | 0, k, n, _ => nextF_ge k n
  | j + 1, k, n, hk => by
    obtain ⟨k, rfl⟩ : ∃ k', k = k' + 1 := ⟨k - 1, by omega⟩
    cases ha : a n with
    | true => rw [nextF_go ha, nextF_go (h n ha)]; exact nextF_mono h j k (n + 1) (by omega)
    | false => rw [nextF_stop ha]; exact nextF_ge _ n
theorem nms_asc (L : List EnI) : (nmsM L).Pairwise (· < ·) := by rw [← nmsR_eq]; exact nmsR_sorted L
theorem asc_ext8 {l m : List (List UInt8)} (hl : l.Pairwise (· < ·)) (hm : m.Pairwise (· < ·)) (h : ∀ x, x ∈ l ↔ x ∈ m) : l = m := by
  have nd : ∀ {l : List (List UInt8)}, l.Pairwise (· < ·) → l.Nodup := fun h => h.imp fun h e => by subst e; exact List.lt_irrefl _ h
  exact List.Perm.eq_of_pairwise (le := fun a b => a < b) (fun a b _ _ h1 h2 => absurd (List.lt_trans h1 h2) (List.lt_irrefl _)) hl hm ((List.perm_ext_iff_of_nodup (nd hl) (nd hm)).2 h)
section
variable {W : WoI}
theorem ids_okW (h : WInv W) (hb : W.all.length ≤ 1000) : idsOk (entL W.fresh) = true := by
  refine List.all_eq_true.2 fun e he => ?_
  have hf := ent_f he
  obtain ⟨k, hk⟩ := h.src _ (h.sub _ hf)
  have hi := mem_ids hf
  rw [hk] at hi
  have := h.fresh_ids hi
  have hx := h.nx_hi hb k
  simp only [Bool.and_eq_true, decide_eq_true_eq]
  refine ⟨⟨?_, by omega⟩, by omega⟩
  rw [hk, nm_len]; omega
theorem nms_box (h : WInv W) : nmsM (entL W.fresh) = W.r.map (·.src) := by
  refine asc_ext8 (nms_asc _) (List.pairwise_map.2 h.can.asc) fun s => ?_
  rw [mem_nmsM]
  constructor
  · rintro ⟨e, he, rfl⟩
    obtain ⟨b, hb, e1⟩ := (h.can.src e.f.src).2 ⟨_, mem_ids (ent_f he)⟩
    exact List.mem_map.2 ⟨b, hb, e1⟩
  · intro hs
    obtain ⟨b, hb, rfl⟩ := List.mem_map.1 hs
    obtain ⟨n, hn⟩ := (h.can.src b.src).1 ⟨b, hb, rfl⟩
    obtain ⟨f, hf, h1, _⟩ := ids_mem hn
    obtain ⟨e, he, rfl⟩ := ent_of hf
    exact ⟨e, he, h1⟩
theorem next_box (h : WInv W) {b : BxI} (hb : b ∈ W.r) : nextM (entL W.fresh) b.src = b.next := by
  have hB := h.can.box b hb
  have h1 := hB.lo
  obtain ⟨j, hj⟩ : ∃ j : Nat, b.next = 1 + j := ⟨(b.next - 1).toNat, by omega⟩
  have hrun : ∀ k : Nat, k < j → hasId (entL W.fresh) b.src (1 + k) = true := fun k hk => has_ids.2 (hB.seen _ (by omega) (by omega))
  unfold nextM
  rw [hj]
  refine nextF_run j _ 1 (pigeon (s := b.src) fun k hk => ?_) hrun ?_
  · have := hrun k hk
    rwa [Int.add_comm] at this
  · rw [← hj]
    cases hc : hasId (entL W.fresh) b.src b.next with
    | false => rfl
    | true => exact absurd (has_ids.1 hc) hB.miss
theorem marks_box (h : WInv W) : mkA2 W = W.r.map fun b => ⟨b.src, b.next⟩ := by
  unfold mkA2 marksM
  rw [met_all, nms_box h, List.map_map]
  refine List.map_congr_left fun b hb => ?_
  simp only [Function.comp, mkOf, next_box h hb]
theorem early_sub (W : WoI) (t : Int) : ∀ e ∈ metL t (entL W.fresh), e ∈ entL W.fresh := fun _ he => (List.mem_filter.1 he).1
theorem early_nms (W : WoI) (t : Int) : ∀ s ∈ nmsM (metL t (entL W.fresh)), s ∈ nmsM (entL W.fresh) := fun s hs => by
  obtain ⟨e, he, rfl⟩ := mem_nmsM.1 hs
  exact mem_nmsM.2 ⟨e, early_sub W t e he, rfl⟩
theorem early_len (W : WoI) (t : Int) : (mkO W t).length ≤ (mkA2 W).length := by
  unfold mkO mkA2 marksM
  rw [List.length_map, List.length_map, met_all]
  exact nodup_len ((nms_asc _).imp fun h e => by subst e; exact List.lt_irrefl _ h) (early_nms W t)
theorem early_has (W : WoI) (t : Int) {o : MkI} (ho : o ∈ mkO W t) : hasMk (mkA2 W) o = true := by
  obtain ⟨s, hs, rfl⟩ := List.mem_map.1 ho
  refine List.any_eq_true.2 ⟨mkOf (entL W.fresh) s, ?_, ?_⟩
  · unfold mkA2
    rw [met_all]
    exact List.mem_map.2 ⟨s, early_nms W t s hs, rfl⟩
  · simp only [mkOf, decide_true, Bool.true_and]
    refine decide_eq_true ?_
    refine nextF_mono (fun n hn => ?_) _ _ 1 (metL_len ..)
    obtain ⟨e, he, h⟩ := List.any_eq_true.1 hn
    exact List.any_eq_true.2 ⟨e, early_sub W t e he, h⟩
end
theorem hasMk_next {M : List MkI} {i : Nat} (o : MkI) (h : i < M.length) : hasMk (M.take (i + 1)) o = (hasMk (M.take i) o || (decide (M[i].s = o.s) && decide (o.n ≤ M[i].n))) := by
  unfold hasMk
  rw [List.take_add_one, List.getElem?_eq_getElem h, List.any_append]
  simp only [Option.toList_some, List.any_cons, List.any_nil, Bool.or_false]
theorem atM_in {O : List MkI} {j : Nat} (h : j < O.length) : atM O j = O[j] := by
  simp [atM, List.getD_eq_getElem?_getD, List.getElem?_eq_getElem h]
theorem mk3 {l : List MkI} {i : Nat} (h : i < l.length) : takeAt PI 3 (mksL l) i 1 = some (.int .i64 l[i].n) := by
  simp only [takeAt, List.getElem?_map, List.getElem?_eq_getElem h, Option.map_some, takeA, agg3i, size3i]
  rfl
theorem bx3 {r : List BxI} {i : Nat} (h : i < r.length) : takeAt PI 3 (bxsL r) i 1 = some (.int .i64 r[i].next) := by
  simp only [takeAt, List.getElem?_map, List.getElem?_eq_getElem h, Option.map_some, takeA, agg3i, size3i]
  rfl
end Go.Abs

namespace Go.Abs
open Go.Proofs
theorem ww6 (m : Int) (l : List AcI) (early : Int) : (pureW PI (GI m) XWt (tbl tT) (itbl [(20, v20.up)]) (av6 (ranO l) early) [] 6 [.sl 3 (acsL l) .no, .int .i64 early] (.bool true, [])) =
(∃ (b : Bool),
  CallIs (some (AV.bool true, [])) (AV.bool b) [] ∧
    (b = true →
        (decide ((↑(acsL l).length : Int) > (100 : Int)) = true → RetIs (AV.bool true) [] (AV.bool true, [])) ∧
 (decide ((↑(acsL l).length : Int) > (100 : Int)) = false →
 (∃ (l_1 : List AcI), acsL l = acsL l_1 ∧ l_1.length ≤ (100 : Nat)) ∧
 ∃ (s : List UInt8),
 ∃ (n : Int),
 ∃ (es : List AV),
 ∃ (s_1 : List UInt8),
 ∃ (n_1 : Int),
 ∃ (es_1 : List AV),
 ∃ (es_2 : List AV),
 ∃ (es_3 : List AV),
 ∃ (es_4 : List AV),
 ∃ (es_5 : List AV),
 ∃ (b : Bool),
 OutIs (keptWA (keptRan (acsL l)))
 (AV.agg
 [AV.str s, AV.int IntKind.i64 n, AV.sl 8 es Own.no, AV.str s_1, AV.int IntKind.i64 n_1,
 AV.sl 8 es_1 Own.no, AV.sl 11 es_2 Own.no, AV.sl 3 es_3 Own.no,
 AV.sl 8 es_4 (Own.tok 0), AV.sl 8 es_5 (Own.tok 1), AV.bool b]) ∧
 (∃ (y : Nat),
 ValsAre
 [AV.int IntKind.i64 early, AV.ptr 0 0, AV.sl 40 [] (Own.tok (2 : Nat)),
 AV.int IntKind.i64 0]
 [AV.int IntKind.i64 early, AV.ptr 0 0,
 AV.sl 40 (logL (List.take y (ranO l).fresh)) (Own.tok 2), AV.int IntKind.i64 (↑y : Int)] ∧
 StIs
 { boxes := [some [AV.str s, AV.int IntKind.i64 n, AV.sl 8 es Own.no, AV.str s_1, AV.int IntKind.i64 n_1, AV.sl 8 es_1 Own.no, AV.sl 11 es_2 Own.no, AV.sl 3 es_3 Own.no, AV.sl 8 es_4 (Own.tok 0), AV.sl 8 es_5 (Own.tok 1), AV.bool b]], live := [((keptRan (acsL l)).all.length, (29 : Nat)), ((keptRan (acsL l)).fresh.length, (29 : Nat)), ((0 : Nat), (89 : Nat))] }
 { boxes := [some (wC (ranO l))], live := [((ranO l).all.length, (29 : Nat)), ((ranO l).fresh.length, (29 : Nat)), ((logL (List.take y (ranO l).fresh)).length, (89 : Nat))] } ∧
 y ≤ (ranO l).fresh.length ∧ True) ∧
 ∀ (x : Nat),
 x ≤ (ranO l).fresh.length →
 (decide ((↑x : Int) < (↑(fcsL (ranO l).fresh).length : Int)) = true →
 ((0 : Int) ≤ (↑x : Int) ∧ (↑x : Int) < (↑(fcsL (ranO l).fresh).length : Int)) ∧
 ∃ (s : List UInt8),
 ∃ (n : Int),
 ∃ (n_2 : Int),
 ∃ (n_3 : Int),
 ∃ (s_2 : List UInt8),
 ∃ (s_3 : List UInt8),
 ∃ (n_4 : Int),
 ∃ (es : List AV),
 takeAt PI 29 (fcsL (ranO l).fresh) (↑x : Int).toNat 0 =
 some
 (AV.agg
 [AV.str s, AV.int IntKind.i64 n, AV.int IntKind.i64 n_2, AV.int IntKind.i64 n_3,
 AV.str s_2, AV.str s_3, AV.int IntKind.i64 n_4, AV.sl 3 es Own.no]) ∧
 ((40 : Nat) = (40 : Nat) ∨ logL (List.take x (ranO l).fresh) = []) ∧
 ((logL (List.take x (ranO l).fresh)).length + (1 : Nat)) * (529 : Nat) ≤
 (70368744177664 : Nat) ∧
 (logL (List.take x (ranO l).fresh)).length =
 (logL (List.take x (ranO l).fresh)).length ∧
 ∃ (y : Nat),
 ValsAre
 [AV.int IntKind.i64 early, AV.ptr 0 0,
 AV.sl 40
 (logL (List.take x (ranO l).fresh) ++
 [AV.agg
 [AV.int IntKind.i64 (IntKind.i64.wrap ((↑x : Int) + (1 : Int))),
 AV.int IntKind.i64 (↑x : Int), AV.int IntKind.i64 1,
 AV.str s, AV.int IntKind.i64 n, AV.int IntKind.i64 n_2,
 AV.int IntKind.i64 n_3, AV.str s_2, AV.str s_3,
 AV.int IntKind.i64 n_4, AV.sl 3 es Own.no,
 AV.int IntKind.i64 0, AV.str [], AV.str [], AV.str [],
 AV.int IntKind.i64 0, AV.int IntKind.i64 0,
 AV.str [], AV.str [], AV.sl 0 [] Own.nil,
 AV.int IntKind.i64 0, AV.str [], AV.str [],
 AV.int IntKind.i64 0, AV.sl 0 [] Own.nil,
 AV.str [], AV.int IntKind.i64 0, AV.str [], AV.str [],
 AV.str [], AV.int IntKind.i64 0,
 AV.int IntKind.i64 0, AV.str [],
 AV.sl 0 [] Own.nil, AV.int IntKind.i64 0,
 AV.int IntKind.i64 0, AV.int IntKind.i64 0,
 AV.sl 0 [] Own.nil, AV.int IntKind.i64 0,
 AV.str []]])
 (Own.tok 2),
 AV.int IntKind.i64 (IntKind.i64.wrap ((↑x : Int) + (1 : Int)))]
 [AV.int IntKind.i64 early, AV.ptr 0 0,
 AV.sl 40 (logL (List.take y (ranO l).fresh)) (Own.tok 2),
 AV.int IntKind.i64 (↑y : Int)] ∧
 StIs
 { boxes := [some (wC (ranO l))], live := [((ranO l).all.length, (29 : Nat)), ((ranO l).fresh.length, (29 : Nat)), ((logL (List.take x (ranO l).fresh)).length + (1 : Nat), (89 : Nat))] }
 { boxes := [some (wC (ranO l))], live := [((ranO l).all.length, (29 : Nat)), ((ranO l).fresh.length, (29 : Nat)), ((logL (List.take y (ranO l).fresh)).length, (89 : Nat))] } ∧
 y ≤ (ranO l).fresh.length ∧
 (ranO l).fresh.length - y < (ranO l).fresh.length - x) ∧
 (decide ((↑x : Int) < (↑(fcsL (ranO l).fresh).length : Int)) = false →
 ∃ (es : List AV),
 CallIs
 (tbl [((7 : Nat), s7), ((28 : Nat), s15x)] 28
 [AV.sl 40 (logL (List.take x (ranO l).fresh)) Own.no,
 AV.int IntKind.i64 (↑(logL (List.take x (ranO l).fresh)).length : Int)])
 (AV.sl 2 es Own.no) [] ∧
 (((↑es.length : Int) != (↑(bxsL (ranO l).r).length : Int)) = true →
 RetIs (AV.bool false) [] (AV.bool true, [])) ∧
 (((↑es.length : Int) != (↑(bxsL (ranO l).r).length : Int)) = false →
 (∃ (y : Nat),
 ValsAre
 [AV.int IntKind.i64 early, AV.ptr 0 0,
 AV.sl 40 (logL (List.take x (ranO l).fresh)) (Own.tok 2),
 AV.sl 2 es Own.no, AV.int IntKind.i64 0]
 [AV.int IntKind.i64 early, AV.ptr 0 0,
 AV.sl 40 (logL (ranO l).fresh) (Own.tok 2),
 AV.sl 2 (mksL (mkA2 (ranO l))) Own.no, AV.int IntKind.i64 (↑y : Int)] ∧
 StIs
 { boxes := [some (wC (ranO l))], live := [((ranO l).all.length, (29 : Nat)), ((ranO l).fresh.length, (29 : Nat)), ((logL (List.take x (ranO l).fresh)).length, (89 : Nat))] }
 { boxes := [some (wC (ranO l))], live := [((ranO l).all.length, (29 : Nat)), ((ranO l).fresh.length, (29 : Nat)), ((logL (ranO l).fresh).length, (89 : Nat))] } ∧
 y ≤ (ranO l).r.length ∧ True) ∧
 ∀ (x : Nat),
 x ≤ (ranO l).r.length →
 (decide ((↑x : Int) < (↑(mksL (mkA2 (ranO l))).length : Int)) = true →
 ((0 : Int) ≤ (↑x : Int) ∧ (↑x : Int) < (↑(mksL (mkA2 (ranO l))).length : Int)) ∧
 ∃ (s : List UInt8),
 ∃ (n : Int),
 takeAt PI 93 (mksL (mkA2 (ranO l))) (↑x : Int).toNat 0 =
 some (AV.agg [AV.str s, AV.int IntKind.i64 n]) ∧
 ((0 : Int) ≤ (↑x : Int) ∧ (↑x : Int) < (↑(bxsL (ranO l).r).length : Int)) ∧
 ∃ (s_2 : List UInt8),
 takeAt PI 9 (bxsL (ranO l).r) (↑x : Int).toNat 0 =
 some (AV.str s_2) ∧
 ((0 : Int) ≤ (↑x : Int) ∧ (↑x : Int) < (↑(bxsL (ranO l).r).length : Int)) ∧
 ∃ (n_2 : Int),
 takeAt PI 3 (bxsL (ranO l).r) (↑x : Int).toNat 1 =
 some (AV.int IntKind.i64 n_2) ∧
 ((!(s == s_2 && (n == n_2 && true))) = true →
 RetIs (AV.bool false) [] (AV.bool true, [])) ∧
 ((!(s == s_2 && (n == n_2 && true))) = false →
 ∃ (y : Nat),
 ValsAre
 [AV.int IntKind.i64 early, AV.ptr 0 0,
 AV.sl 40 (logL (ranO l).fresh)
 (Own.tok 2),
 AV.sl 2 (mksL (mkA2 (ranO l))) Own.no,
 AV.int IntKind.i64
 (IntKind.i64.wrap ((↑x : Int) + (1 : Int)))]
 [AV.int IntKind.i64 early, AV.ptr 0 0,
 AV.sl 40 (logL (ranO l).fresh)
 (Own.tok 2),
 AV.sl 2 (mksL (mkA2 (ranO l))) Own.no,
 AV.int IntKind.i64 (↑y : Int)] ∧
 StIs
 { boxes := [some (wC (ranO l))], live := [((ranO l).all.length, (29 : Nat)), ((ranO l).fresh.length, (29 : Nat)), ((logL (ranO l).fresh).length, (89 : Nat))] }
 { boxes := [some (wC (ranO l))], live := [((ranO l).all.length, (29 : Nat)), ((ranO l).fresh.length, (29 : Nat)), ((logL (ranO l).fresh).length, (89 : Nat))] } ∧
 y ≤ (ranO l).r.length ∧
 (ranO l).r.length - y < (ranO l).r.length - x)) ∧
 (decide ((↑x : Int) < (↑(mksL (mkA2 (ranO l))).length : Int)) = false →
 ∃ (es : List AV),
 CallIs
 (tbl [((7 : Nat), s7), ((28 : Nat), s15x)] 28
 [AV.sl 40 (logL (ranO l).fresh) Own.no, AV.int IntKind.i64 early])
 (AV.sl 2 es Own.no) [] ∧
 (∃ (y : Nat),
 ValsAre
 [AV.sl 2 (mksL (mkA2 (ranO l))) Own.no, AV.sl 2 es Own.no,
 AV.int IntKind.i64 0]
 [AV.sl 2 (mksL (mkA2 (ranO l))) Own.no,
 AV.sl 2 (mksL (mkO (ranO l) early)) Own.no,
 AV.int IntKind.i64 (↑y : Int)] ∧
 StIs
 { boxes := [some (wC (ranO l))], live := [((ranO l).all.length, (29 : Nat)), ((ranO l).fresh.length, (29 : Nat)), ((logL (ranO l).fresh).length, (89 : Nat))] }
 { boxes := [some (wC (ranO l))], live := [((ranO l).all.length, (29 : Nat)), ((ranO l).fresh.length, (29 : Nat)), ((logL (ranO l).fresh).length, (89 : Nat))] } ∧
 y ≤ (mkO (ranO l) early).length ∧ True) ∧
 ∀ (x : Nat),
 x ≤ (mkO (ranO l) early).length →
 (decide ((↑x : Int) < (↑(mksL (mkO (ranO l) early)).length : Int)) = true →
 (∃ (y : StT),
 ValsAre
 [AV.sl 2 (mksL (mkA2 (ranO l))) Own.no,
 AV.sl 2 (mksL (mkO (ranO l) early)) Own.no,
 AV.int IntKind.i64 (↑x : Int), AV.bool false,
 AV.int IntKind.i64 0]
 [AV.sl 2 (mksL (mkA2 (ranO l))) Own.no,
 AV.sl 2 (mksL (mkO (ranO l) early)) Own.no,
 AV.int IntKind.i64 (↑y.j : Int), AV.bool y.b,
 AV.int IntKind.i64 (↑y.i : Int)] ∧
 StIs
 { boxes := [some (wC (ranO l))], live := [((ranO l).all.length, (29 : Nat)), ((ranO l).fresh.length, (29 : Nat)), ((logL (ranO l).fresh).length, (89 : Nat))] }
 { boxes := [some (wC (ranO l))], live := [((ranO l).all.length, (29 : Nat)), ((ranO l).fresh.length, (29 : Nat)), ((logL (ranO l).fresh).length, (89 : Nat))] } ∧
 (y.j < (mkO (ranO l) early).length ∧
 y.i ≤ (mkA2 (ranO l)).length ∧
 y.b =
 hasMk (List.take y.i (mkA2 (ranO l)))
 (atM (mkO (ranO l) early) y.j)) ∧
 some (AV.int IntKind.i64 (↑x : Int)) =
 some (AV.int IntKind.i64 (↑y.j : Int))) ∧
 ∀ (x_1 : StT),
 x_1.j < (mkO (ranO l) early).length ∧
 x_1.i ≤ (mkA2 (ranO l)).length ∧
 x_1.b =
 hasMk (List.take x_1.i (mkA2 (ranO l)))
 (atM (mkO (ranO l) early) x_1.j) →
 some (AV.int IntKind.i64 (↑x : Int)) =
 some (AV.int IntKind.i64 (↑x_1.j : Int)) →
 (x_1.b = true →
 (decide ((↑x_1.i : Int) < (↑(mksL (mkA2 (ranO l))).length : Int)) =
 true →
 ∃ (y : StT),
 ValsAre
 [AV.sl 2 (mksL (mkA2 (ranO l))) Own.no,
 AV.sl 2 (mksL (mkO (ranO l) early)) Own.no,
 AV.int IntKind.i64 (↑x_1.j : Int), AV.bool true,
 AV.int IntKind.i64
 (IntKind.i64.wrap ((↑x_1.i : Int) + (1 : Int)))]
 [AV.sl 2 (mksL (mkA2 (ranO l))) Own.no,
 AV.sl 2 (mksL (mkO (ranO l) early)) Own.no,
 AV.int IntKind.i64 (↑y.j : Int), AV.bool y.b,
 AV.int IntKind.i64 (↑y.i : Int)] ∧
 StIs
 { boxes := [some (wC (ranO l))], live := [((ranO l).all.length, (29 : Nat)), ((ranO l).fresh.length, (29 : Nat)), ((logL (ranO l).fresh).length, (89 : Nat))] }
 { boxes := [some (wC (ranO l))], live := [((ranO l).all.length, (29 : Nat)), ((ranO l).fresh.length, (29 : Nat)), ((logL (ranO l).fresh).length, (89 : Nat))] } ∧
 (y.j < (mkO (ranO l) early).length ∧
 y.i ≤ (mkA2 (ranO l)).length ∧
 y.b =
 hasMk (List.take y.i (mkA2 (ranO l)))
 (atM (mkO (ranO l) early) y.j)) ∧
 some (AV.int IntKind.i64 (↑x : Int)) =
 some (AV.int IntKind.i64 (↑y.j : Int)) ∧
 (mkA2 (ranO l)).length - y.i <
 (mkA2 (ranO l)).length - x_1.i) ∧
 (decide
 ((↑x_1.i : Int) < (↑(mksL (mkA2 (ranO l))).length : Int)) =
 false →
 ∃ (y : Nat),
 ValsAre
 [AV.sl 2 (mksL (mkA2 (ranO l))) Own.no,
 AV.sl 2 (mksL (mkO (ranO l) early)) Own.no,
 AV.int IntKind.i64
 (IntKind.i64.wrap ((↑x_1.j : Int) + (1 : Int)))]
 [AV.sl 2 (mksL (mkA2 (ranO l))) Own.no,
 AV.sl 2 (mksL (mkO (ranO l) early)) Own.no,
 AV.int IntKind.i64 (↑y : Int)] ∧
 StIs
 { boxes := [some (wC (ranO l))], live := [((ranO l).all.length, (29 : Nat)), ((ranO l).fresh.length, (29 : Nat)), ((logL (ranO l).fresh).length, (89 : Nat))] }
 { boxes := [some (wC (ranO l))], live := [((ranO l).all.length, (29 : Nat)), ((ranO l).fresh.length, (29 : Nat)), ((logL (ranO l).fresh).length, (89 : Nat))] } ∧
 y ≤ (mkO (ranO l) early).length ∧
 (mkO (ranO l) early).length - y <
 (mkO (ranO l) early).length - x)) ∧
 (x_1.b = false →
 (decide ((↑x_1.i : Int) < (↑(mksL (mkA2 (ranO l))).length : Int)) =
 true →
 ((0 : Int) ≤ (↑x_1.i : Int) ∧
 (↑x_1.i : Int) < (↑(mksL (mkA2 (ranO l))).length : Int)) ∧
 ∃ (s : List UInt8),
 takeAt PI 9 (mksL (mkA2 (ranO l)))
 (↑x_1.i : Int).toNat 0 =
 some (AV.str s) ∧
 ((0 : Int) ≤ (↑x_1.j : Int) ∧
 (↑x_1.j : Int) <
 (↑(mksL (mkO (ranO l) early)).length : Int)) ∧
 ∃ (s_2 : List UInt8),
 takeAt PI 9 (mksL (mkO (ranO l) early))
 (↑x_1.j : Int).toNat 0 =
 some (AV.str s_2) ∧
 ((s == s_2) = true →
 ((0 : Int) ≤ (↑x_1.i : Int) ∧
 (↑x_1.i : Int) <
 (↑(mksL (mkA2 (ranO l))).length : Int)) ∧
 ∃ (n : Int),
 takeAt PI 3 (mksL (mkA2 (ranO l)))
 (↑x_1.i : Int).toNat 1 =
 some (AV.int IntKind.i64 n) ∧
 ((0 : Int) ≤ (↑x_1.j : Int) ∧
 (↑x_1.j : Int) <
 (↑(mksL
 (mkO (ranO l)
 early)).length :
 Int)) ∧
 ∃ (n_2 : Int),
 takeAt PI 3
 (mksL (mkO (ranO l) early))
 (↑x_1.j : Int).toNat
 1 =
 some (AV.int IntKind.i64 n_2) ∧
 (decide (n ≥ n_2) = true →
 ∃ (y : StT),
 ValsAre
 [AV.sl 2
 (mksL (mkA2 (ranO l)))
 Own.no,
 AV.sl 2
 (mksL
 (mkO (ranO l)
 early))
 Own.no,
 AV.int IntKind.i64
 (↑x_1.j : Int),
 AV.bool true,
 AV.int IntKind.i64
 (IntKind.i64.wrap
 ((↑x_1.i : Int) +
 (1 : Int)))]
 [AV.sl 2
 (mksL (mkA2 (ranO l)))
 Own.no,
 AV.sl 2
 (mksL
 (mkO (ranO l)
 early))
 Own.no,
 AV.int IntKind.i64
 (↑y.j : Int),
 AV.bool y.b,
 AV.int IntKind.i64
 (↑y.i : Int)] ∧
 StIs
 { boxes := [some [AV.str (ranO l).a.nm, AV.int IntKind.i64 (ranO l).a.nx, AV.sl 8 (fcsL (ranO l).a.l) Own.no, AV.str (ranO l).b.nm, AV.int IntKind.i64 (ranO l).b.nx, AV.sl 8 (fcsL (ranO l).b.l) Own.no, AV.sl 11 (pksL (ranO l).c) Own.no, AV.sl 3 (bxsL (ranO l).r) Own.no, AV.sl 8 (fcsL (ranO l).all) (Own.tok (nat_lit 0)), AV.sl 8 (fcsL (ranO l).fresh) (Own.tok (nat_lit 1)), AV.bool (ranO l).bad]], live := [((ranO l).all.length, (29 : Nat)), ((ranO l).fresh.length, (29 : Nat)), ((logL (ranO l).fresh).length, (89 : Nat))] }
 { boxes := [some [AV.str (ranO l).a.nm, AV.int IntKind.i64 (ranO l).a.nx, AV.sl 8 (fcsL (ranO l).a.l) Own.no, AV.str (ranO l).b.nm, AV.int IntKind.i64 (ranO l).b.nx, AV.sl 8 (fcsL (ranO l).b.l) Own.no, AV.sl 11 (pksL (ranO l).c) Own.no, AV.sl 3 (bxsL (ranO l).r) Own.no, AV.sl 8 (fcsL (ranO l).all) (Own.tok (nat_lit 0)), AV.sl 8 (fcsL (ranO l).fresh) (Own.tok (nat_lit 1)), AV.bool (ranO l).bad]], live := [((ranO l).all.length, (29 : Nat)), ((ranO l).fresh.length, (29 : Nat)), ((logL (ranO l).fresh).length, (89 : Nat))] } ∧
 (y.j <
 (mkO (ranO l)
 early).length ∧
 y.i ≤
 (mkA2
 (ranO
 l)).length ∧
 y.b =
 hasMk
 (List.take y.i
 (mkA2
 (ranO l)))
 (atM
 (mkO (ranO l)
 early)
 y.j)) ∧
 some
 (AV.int
 IntKind.i64
 (↑x : Int)) =
 some
 (AV.int
 IntKind.i64
 (↑y.j : Int)) ∧
 (mkA2
 (ranO
 l)).length -
 y.i <
 (mkA2
 (ranO
 l)).length -
 x_1.i) ∧
 (decide (n ≥ n_2) = false →
 ∃ (y : StT),
 ValsAre
 [AV.sl 2
 (mksL (mkA2 (ranO l)))
 Own.no,
 AV.sl 2
 (mksL
 (mkO (ranO l)
 early))
 Own.no,
 AV.int IntKind.i64
 (↑x_1.j : Int),
 AV.bool false,
 AV.int IntKind.i64
 (IntKind.i64.wrap
 ((↑x_1.i : Int) +
 (1 : Int)))]
 [AV.sl 2
 (mksL (mkA2 (ranO l)))
 Own.no,
 AV.sl 2
 (mksL
 (mkO (ranO l)
 early))
 Own.no,
 AV.int IntKind.i64
 (↑y.j : Int),
 AV.bool y.b,
 AV.int IntKind.i64
 (↑y.i : Int)] ∧
 StIs
 { boxes := [some [AV.str (ranO l).a.nm, AV.int IntKind.i64 (ranO l).a.nx, AV.sl 8 (fcsL (ranO l).a.l) Own.no, AV.str (ranO l).b.nm, AV.int IntKind.i64 (ranO l).b.nx, AV.sl 8 (fcsL (ranO l).b.l) Own.no, AV.sl 11 (pksL (ranO l).c) Own.no, AV.sl 3 (bxsL (ranO l).r) Own.no, AV.sl 8 (fcsL (ranO l).all) (Own.tok (nat_lit 0)), AV.sl 8 (fcsL (ranO l).fresh) (Own.tok (nat_lit 1)), AV.bool (ranO l).bad]], live := [((ranO l).all.length, (29 : Nat)), ((ranO l).fresh.length, (29 : Nat)), ((logL (ranO l).fresh).length, (89 : Nat))] }
 { boxes := [some [AV.str (ranO l).a.nm, AV.int IntKind.i64 (ranO l).a.nx, AV.sl 8 (fcsL (ranO l).a.l) Own.no, AV.str (ranO l).b.nm, AV.int IntKind.i64 (ranO l).b.nx, AV.sl 8 (fcsL (ranO l).b.l) Own.no, AV.sl 11 (pksL (ranO l).c) Own.no, AV.sl 3 (bxsL (ranO l).r) Own.no, AV.sl 8 (fcsL (ranO l).all) (Own.tok (nat_lit 0)), AV.sl 8 (fcsL (ranO l).fresh) (Own.tok (nat_lit 1)), AV.bool (ranO l).bad]], live := [((ranO l).all.length, (29 : Nat)), ((ranO l).fresh.length, (29 : Nat)), ((logL (ranO l).fresh).length, (89 : Nat))] } ∧
 (y.j <
 (mkO (ranO l)
 early).length ∧
 y.i ≤
 (mkA2
 (ranO
 l)).length ∧
 y.b =
 hasMk
 (List.take y.i
 (mkA2
 (ranO l)))
 (atM
 (mkO (ranO l)
 early)
 y.j)) ∧
 some
 (AV.int
 IntKind.i64
 (↑x : Int)) =
 some
 (AV.int
 IntKind.i64
 (↑y.j : Int)) ∧
 (mkA2
 (ranO
 l)).length -
 y.i <
 (mkA2
 (ranO
 l)).length -
 x_1.i)) ∧
 ((s == s_2) = false →
 ∃ (y : StT),
 ValsAre
 [AV.sl 2 (mksL (mkA2 (ranO l)))
 Own.no,
 AV.sl 2
 (mksL (mkO (ranO l) early)) Own.no,
 AV.int IntKind.i64 (↑x_1.j : Int),
 AV.bool false,
 AV.int IntKind.i64
 (IntKind.i64.wrap
 ((↑x_1.i : Int) + (1 : Int)))]
 [AV.sl 2 (mksL (mkA2 (ranO l)))
 Own.no,
 AV.sl 2
 (mksL (mkO (ranO l) early)) Own.no,
 AV.int IntKind.i64 (↑y.j : Int),
 AV.bool y.b,
 AV.int IntKind.i64 (↑y.i : Int)] ∧
 StIs
 { boxes := [some (wC (ranO l))], live := [((ranO l).all.length, (29 : Nat)), ((ranO l).fresh.length, (29 : Nat)), ((logL (ranO l).fresh).length, (89 : Nat))] }
 { boxes := [some (wC (ranO l))], live := [((ranO l).all.length, (29 : Nat)), ((ranO l).fresh.length, (29 : Nat)), ((logL (ranO l).fresh).length, (89 : Nat))] } ∧
 (y.j < (mkO (ranO l) early).length ∧
 y.i ≤ (mkA2 (ranO l)).length ∧
 y.b =
 hasMk
 (List.take y.i (mkA2 (ranO l)))
 (atM (mkO (ranO l) early)
 y.j)) ∧
 some (AV.int IntKind.i64 (↑x : Int)) =
 some
 (AV.int IntKind.i64
 (↑y.j : Int)) ∧
 (mkA2 (ranO l)).length - y.i <
 (mkA2 (ranO l)).length - x_1.i)) ∧
 (decide
 ((↑x_1.i : Int) < (↑(mksL (mkA2 (ranO l))).length : Int)) =
 false →
 RetIs (AV.bool false) [] (AV.bool true, [])))) ∧
 (decide ((↑x : Int) < (↑(mksL (mkO (ranO l) early)).length : Int)) = false →
 (decide
 ((↑(mksL (mkO (ranO l) early)).length : Int) ≤
 (↑(mksL (mkA2 (ranO l))).length : Int)) =
 true →
 RetIs (AV.bool true) [] (AV.bool true, [])) ∧
 (decide
 ((↑(mksL (mkO (ranO l) early)).length : Int) ≤
 (↑(mksL (mkA2 (ranO l))).length : Int)) =
 false →
 RetIs (AV.bool false) [] (AV.bool true, [])))))))) ∧
      (b = false → RetIs (AV.bool false) [] (AV.bool true, []))) := by kernel_rfl
end Go.Abs

namespace Go.Abs
open Go.Proofs Go.RowKit Go.Sort
theorem lT (m : Int) : CalleeOk PI (GI m) (tbl tT) := tbl_cons (o7 m) (tbl_cons (o15x m) tbl_nil)
theorem lTi (m : Int) : ICalleeOk PI (GI m) (lowC (itbl [(20, v20.up)])) := itbl_cons (ov20 m) itbl_nil
theorem fcW_len (l : List FcI) : (fcsL l).length = l.length := List.length_map ..
theorem bxW_len (l : List BxI) : (bxsL l).length = l.length := List.length_map ..
theorem mkW_len (l : List MkI) : (mksL l).length = l.length := List.length_map ..
set_option maxHeartbeats 1000000 in
theorem pv6 (m : Int) (l : List AcI) (early : Int) : PureOk PI (GI m) XWt (tbl tT) (itbl [(20, v20.up)]) (av6 (ranO l) early) [] 6 [.sl 3 (acsL l) .no, .int .i64 early] (.bool true, []) := by
  constructor
  rw [ww6]
  refine ⟨true, ⟨rfl⟩, fun _ => ⟨fun _ => ⟨rfl⟩, fun h100 => ?_⟩, fun h => by cases h⟩
  have hl : l.length ≤ 100 := by
    have := of_decide_eq_false h100
    rw [show (acsL l).length = l.length from List.length_map ..] at this
    omega
  obtain ⟨hI, hall⟩ := ranO_inv hl
  have eR : keptRan (acsL l) = ranO l := by unfold keptRan; rw [lXs_ok]
  rw [eR]
  obtain ⟨W, hW⟩ : ∃ W, ranO l = W := ⟨_, rfl⟩
  rw [hW] at hI hall ⊢
  have hb : W.all.length ≤ 1000 := by omega
  have hf := hI.freshLen
  have hbx := hI.boxes
  have hM := marks_box hI
  have hMl : (mkA2 W).length = W.r.length := by rw [hM, List.length_map]
  have hOl := early_len W early
  have hid := ids_okW hI hb
  refine ⟨⟨l, rfl, hl⟩, _, _, _, _, _, _, _, _, _, _, _, ⟨rfl⟩, ⟨0, ⟨rfl⟩, ⟨rfl⟩, Nat.zero_le _, trivial⟩, fun x hx => ⟨fun hlt => ?_, fun hge => ?_⟩⟩
  · -- a fact is put into the log
    have hlt := of_decide_eq_true hlt
    rw [fcW_len] at hlt ⊢
    have hxl : x < W.fresh.length := by omega
    have hw : IntKind.i64.wrap ((x : Int) + 1) = ((x + 1 : Nat) : Int) := wrapN (by omega)
    refine ⟨⟨by omega, hlt⟩, _, _, _, _, _, _, _, _, by rw [Int.toNat_natCast]; exact take_f hxl, .inl rfl, by rw [logL_len, List.length_take]; omega, rfl, x + 1, ⟨?_⟩, ⟨?_⟩, hxl, by omega⟩
    · rw [hw, logL_next hxl]; rfl
    · rw [logL_next hxl, List.length_append]; rfl
  · have hge := of_decide_eq_false hge
    rw [fcW_len] at hge
    have hxe : x = W.fresh.length := by omega
    subst hxe
    rw [List.take_length]
    refine ⟨_, ⟨by
      rw [tbl_miss (by decide), tbl_hit, logL_len]
      exact cs15x (by omega) hid⟩, fun h => ?_, fun _ => ⟨⟨0, ⟨rfl⟩, ⟨rfl⟩, Nat.zero_le _, trivial⟩, fun x hx => ⟨fun hlt => ?_, fun hge => ?_⟩⟩⟩
    · have e : (mksL (mkA2 W)).length = (bxsL W.r).length := by
        rw [mkW_len, bxW_len]; exact hMl
      rw [e] at h
      simp at h
    · have hlt := of_decide_eq_true hlt
      rw [mkW_len] at hlt ⊢
      rw [bxW_len]
      have hx1 : x < (mkA2 W).length := by omega
      have hx2 : x < W.r.length := by omega
      have em : (mkA2 W)[x] = ⟨W.r[x].src, W.r[x].next⟩ := by simp only [hM, List.getElem_map]
      refine ⟨⟨by omega, hlt⟩, _, _, by rw [Int.toNat_natCast]; exact take_mk hx1, ⟨by omega, by omega⟩, _, by rw [Int.toNat_natCast]; exact take_src hx2, ⟨by omega, by omega⟩, _, by rw [Int.toNat_natCast]; exact bx3 hx2, fun h => ?_, fun _ => ⟨x + 1, ⟨by rw [wrapN (by omega)]⟩, ⟨rfl⟩, hx2, by omega⟩⟩
      rw [em] at h
      simp at h
    · refine ⟨_, ⟨by
        rw [tbl_miss (by decide), tbl_hit]
        exact cs15x (by omega) hid⟩, ⟨0, ⟨rfl⟩, ⟨rfl⟩, Nat.zero_le _, trivial⟩, fun x hx => ⟨fun hlt => ?_, fun hge => ⟨fun _ => ⟨rfl⟩, fun h => ?_⟩⟩⟩
      · have hlt := of_decide_eq_true hlt
        rw [mkW_len] at hlt
        have hxO : x < (mkO W early).length := by omega
        refine ⟨⟨⟨x, 0, false⟩, ⟨rfl⟩, ⟨rfl⟩, ⟨hxO, Nat.zero_le _, rfl⟩, rfl⟩, fun n ⟨hj, hi, hbv⟩ hk => ?_⟩
        have hk : n.j = x := by
          simp only [Option.some.injEq, AV.int.injEq, true_and] at hk
          omega
        have step : decide ((n.i : Int) < ((mksL (mkA2 W)).length : Int)) = true → ∃ h : n.i < (mkA2 W).length, IntKind.i64.wrap ((n.i : Int) + 1) = ((n.i + 1 : Nat) : Int) := fun h => by
          have h := of_decide_eq_true h
          rw [mkW_len] at h
          exact ⟨by omega, wrapN (by omega)⟩
        refine ⟨fun ht => ⟨fun hlt => ?_, fun _ => ⟨x + 1, ⟨by rw [hk, wrapN (by omega)]⟩, ⟨rfl⟩, hxO, by omega⟩⟩, fun ht => ⟨fun hlt => ?_, fun hge => ?_⟩⟩
        · obtain ⟨h1, h2⟩ := step hlt
          refine ⟨⟨n.j, n.i + 1, true⟩, ⟨by rw [h2]⟩, ⟨rfl⟩, ⟨hj, h1, ?_⟩, by rw [hk], by simp only; omega⟩
          simp only
          rw [hasMk_next _ h1, ← hbv, ht]; rfl
        · obtain ⟨h1, h2⟩ := step hlt
          have hlt := of_decide_eq_true hlt
          have ea := atM_in hj
          refine ⟨⟨by omega, hlt⟩, _, by rw [Int.toNat_natCast]; exact take_mk9 (List.getElem?_eq_getElem h1), ⟨by omega, by rw [mkW_len]; omega⟩, _, by rw [Int.toNat_natCast]; exact take_mk9 (List.getElem?_eq_getElem hj), fun hs => ⟨⟨by omega, hlt⟩, _, by rw [Int.toNat_natCast]; exact mk3 h1, ⟨by omega, by rw [mkW_len]; omega⟩, _, by rw [Int.toNat_natCast]; exact mk3 hj, fun hn => ?_, fun hn => ?_⟩, fun hs => ?_⟩
          · refine ⟨⟨n.j, n.i + 1, true⟩, ⟨by rw [h2]⟩, ⟨rfl⟩, ⟨hj, h1, ?_⟩, by rw [hk], by simp only; omega⟩
            simp only
            rw [hasMk_next _ h1, ea, decide_eq_true (by simpa using hs), decide_eq_true (show (mkO W early)[n.j].n ≤ (mkA2 W)[n.i].n from of_decide_eq_true hn)]
            simp
          · refine ⟨⟨n.j, n.i + 1, false⟩, ⟨by rw [h2]⟩, ⟨rfl⟩, ⟨hj, h1, ?_⟩, by rw [hk], by simp only; omega⟩
            simp only
            rw [hasMk_next _ h1, ← hbv, ht, ea, decide_eq_false (show ¬ (mkO W early)[n.j].n ≤ (mkA2 W)[n.i].n from of_decide_eq_false hn)]
            simp
          · refine ⟨⟨n.j, n.i + 1, false⟩, ⟨by rw [h2]⟩, ⟨rfl⟩, ⟨hj, h1, ?_⟩, by rw [hk], by simp only; omega⟩
            simp only
            rw [hasMk_next _ h1, ← hbv, ht, ea, decide_eq_false (by simpa using hs)]
            simp
        · have hge := of_decide_eq_false hge
          rw [mkW_len] at hge
          rw [List.take_of_length_le (by omega), atM_in hj, early_has W early (List.getElem_mem hj), ht] at hbv
          cases hbv
      · have h := of_decide_eq_false h
        rw [mkW_len, mkW_len] at h
        omega
/-- the law -/
def v6 : Spec := fun args => match args with
  | [.sl sz es .no, .int .i64 _] => if sz = 3 then (match unL unX es with
    | some _ => some (.bool true, [])
    | none => none) else none
  | _ => none
theorem unX_invW {a : AV} {x : AcI} (h : unX a = some x) : a = acA x := by
  unfold unX at h
  split at h
  · injection h with h; subst h; rfl
  · cases h
theorem ov6 (m : Int) : SpecOk PI (GI m) 6 v6 := spec_of (X := XWt) (m := []) mixedI (lT m) (lTi m) fun args r h => by
  unfold v6 at h
  split at h
  case h_2 => cases h
  split at h
  case isFalse => cases h
  rename_i hz
  subst hz
  split at h
  case h_2 => cases h
  rename_i l hl
  injection h with h; subst h
  obtain rfl := unL_inv (fun _ _ => unX_invW) hl
  exact ⟨_, pv6 m l _⟩
theorem v6_true (l : List AcI) (early : Int) : v6 [.sl 3 (acsL l) .no, .int .i64 early] = some (.bool true, []) := by
  simp only [v6, if_true]
  rw [show unL unX (acsL l) = some l from unL_map unX_ok l]
end Go.Abs

namespace Go.Abs
open Go.ChangeShapes Go.WideShapes Go.ChangeAt Go.RowKit Go.Deep Go.ChangeMaps
open Go.Proofs Go.Proofs.YtpglogahncpnoaaGreat
section
variable {H : Type} {enc : TypeId × Value → H} {P : Program} {W : World}
def ElemR (P : Program) (W : World) (enc : TypeId × Value → H) (e : TypeId) {α : Type} (g : α → AV) (Q : α → DataW H → Prop) : Prop :=
  ∀ n cs x, DataW.trod enc P W 0 (fun _ => true) true n e cs = some x → ∃ a : α, Q a x.1 ∧ ∀ (j : Nat) (c : AV) (u : Value), (g a).cells[j]? = some c → cs[j]? = some u → Rep (oldE W) W c u ∧ u.oneCell' = true
theorem open_slR {t e : TypeId} {sz : Nat} {α : Type} [Inhabited α] {g : α → AV} {Q : α → DataW H → Prop} (ht : P.underlying t = some (.slice e)) (hc : P.cellsOf e = sz) (hsz : 0 < sz) (hg : ∀ a, (g a).cells.length = sz ∧ (g a).closed1 = true) (hel : ElemR P W enc e g Q)
    {v : Value} {d : DataW H} {ps : List MemPlace} (hv : ∃ A len cap, v = .slice A len cap) (h : DataW.Trod enc P W 0 (fun _ => true) true t v d ps) :
    ∃ l : List α, Rep (oldE W) W (.sl sz (l.map g) .no) v ∧ (l = [] ∨ ∃ elems spare, d = .slice elems spare ∧ elems.length = l.length ∧ ∀ (i : Nat) a x, l[i]? = some a → elems[i]? = some x → Q a x) := by
  obtain ⟨a, len, cap, rfl⟩ := hv
  obtain ⟨fuel, h⟩ := h
  rcases open_slice ht h with ⟨hcs, _⟩ | ⟨a', len', cap', m, n, D, Pl, hcs, hb, hl, hmx, hm, hx, hels⟩
  · simp [Value.cells] at hcs
    obtain ⟨rfl, rfl, rfl⟩ := hcs
    exact ⟨[], .sl sz [] .no none 0 (fun _ _ => .bool false) (by simp) (by simp [maxLen]) (.inl rfl) (by simp) (by simp) trivial (by simp) (fun _ _ => rfl), .inl rfl⟩
  · simp [Value.cells] at hcs
    obtain ⟨rfl, rfl, rfl⟩ := hcs
    have hm' : m = cap := by simpa using hm
    have hch : ∀ i, i < len → ∃ x : α × List Value, x.2.length = sz ∧ (∀ j, j < sz → W.cell? (a'.add (i * sz + j)) = x.2[j]?) ∧ Q x.1 (D i) ∧ ∀ (j : Nat) (c : AV) (u : Value), (g x.1).cells[j]? = some c → x.2[j]? = some u → Rep (oldE W) W c u ∧ u.oneCell' = true := fun i hi => by
      obtain ⟨cs, hcs, ht'⟩ := hels i (by omega)
      rw [hc] at hcs
      obtain ⟨_, hlen, hat⟩ := World.cells?_some hcs
      obtain ⟨x, hq, hx⟩ := hel n cs _ ht'
      refine ⟨(x, cs), hlen, fun j hj => ?_, hq, hx⟩
      have := hat j hj
      rw [Go.Deep.add_add] at this
      exact this
    obtain ⟨f, hf⟩ := choose_lt hch
    refine ⟨(List.range len).map fun i => (f i).1, ?_, .inr ?_⟩
    · have hlen : ((List.range len).map fun i => (f i).1).length = len := by simp
      have hln : (((List.range len).map fun i => (f i).1).map g).length = len := by simp
      have hget : ∀ (i : Nat) (e' : AV), (((List.range len).map fun i => (f i).1).map g)[i]? = some e' → i < len ∧ e' = g (f i).1 := fun i e' h => by
        have hi : i < len := by
          have := (List.getElem?_eq_some_iff.1 h).1
          simpa using this
        refine ⟨hi, ?_⟩
        simp [List.getElem?_range hi] at h
        exact h.symm
      let u : Nat → Nat → Value := fun i j => if i < len ∧ j < sz then ((f i).2[j]?).getD (.bool false) else .bool false
      have hu : ∀ i j, i < len → j < sz → (f i).2[j]? = some (u i j) := fun i j hi hj => by
        have h2 : j < (f i).2.length := by rw [(hf i hi).1]; exact hj
        simp only [u, hi, hj, and_self, if_true, List.getElem?_eq_getElem h2, Option.getD_some]
      have key := Rep.sl (E := oldE W) (w := W) sz (((List.range len).map fun i => (f i).1).map g) .no (some a') cap u (by rw [hln]; exact hl) hmx ?_ ?_ ?_ trivial ?_ ?_
      · rw [hln] at key; exact key
      · rcases Nat.eq_zero_or_pos len with h0 | h0
        · left; subst h0; rfl
        · right
          have h1 := (hf 0 h0).2.1 0 hsz
          rw [hu 0 0 h0 hsz] at h1
          have hadd : a'.add (0 * sz + 0) = a' := by unfold Addr.add; simp
          rw [hadd] at h1
          have hp := addr_plain h1
          refine ⟨a'.block, a'.off, by rw [← hp], fun i e' j c hi hj => ?_⟩
          obtain ⟨hlt, rfl⟩ := hget i e' hi
          have hjs : j < sz := by
            have := (List.getElem?_eq_some_iff.1 hj).1
            rw [(hg _).1] at this; exact this
          have h2 := (hf i hlt).2.1 j hjs
          rw [hu i j hlt hjs, hp, addp] at h2
          have e : a'.off + i * sz + j = a'.off + (i * sz + j) := by omega
          refine ⟨cell_lt h1, by rw [e]; exact h2⟩
      · intro e' he
        obtain ⟨x, hx, rfl⟩ := List.mem_map.1 he
        exact (hg x).1
      · intro e' he
        obtain ⟨x, hx, rfl⟩ := List.mem_map.1 he
        exact (hg x).2
      · intro i e' j c hi hj
        obtain ⟨hlt, rfl⟩ := hget i e' hi
        have hjs : j < sz := by
          have := (List.getElem?_eq_some_iff.1 hj).1
          rw [(hg _).1] at this; exact this
        exact ((hf i hlt).2.2.2 j c (u i j) hj (hu i j hlt hjs)).1
      · intro i j
        by_cases hij : i < len ∧ j < sz
        · have hjs : j < (g (f i).1).cells.length := by rw [(hg _).1]; exact hij.2
          exact ((hf i hij.1).2.2.2 j _ (u i j) (List.getElem?_eq_getElem hjs) (hu i j hij.1 hij.2)).2
        · simp only [u, if_neg hij]; rfl
    · have hx1 := congrArg Prod.fst hx
      simp only at hx1
      refine ⟨_, _, hx1, by simp, fun i a x hi hxi => ?_⟩
      have hlt : i < len := by
        have := (List.getElem?_eq_some_iff.1 hi).1
        simpa using this
      simp [List.getElem?_range hlt] at hi hxi
      subst hi; subst hxi
      exact (hf i hlt).2.2.1

/-! cells that read so -/
def CellsAre (W : World) (l : List AV) (cs : List Value) : Prop :=
  l.length = cs.length ∧ ∀ (j : Nat) (c : AV) (u : Value), l[j]? = some c → cs[j]? = some u → Rep (oldE W) W c u ∧ u.oneCell' = true
theorem CellsAre.one {c : AV} {u : Value} (h : Rep (oldE W) W c u) (h1 : u.oneCell' = true) : CellsAre W [c] [u] := ⟨rfl, fun j c' u' hc hu => by
  match j, hc, hu with
  | 0, hc, hu => simp at hc hu; subst hc; subst hu; exact ⟨h, h1⟩⟩
theorem CellsAre.append {l r : List AV} {cs ds : List Value} (h : CellsAre W l cs) (k : CellsAre W r ds) : CellsAre W (l ++ r) (cs ++ ds) := by
  refine ⟨by simp [h.1, k.1], fun j c u hc hu => ?_⟩
  rcases Nat.lt_or_ge j l.length with hj | hj
  · rw [List.getElem?_append_left hj] at hc
    rw [List.getElem?_append_left (by rw [← h.1]; exact hj)] at hu
    exact h.2 j c u hc hu
  · rw [List.getElem?_append_right hj] at hc
    rw [List.getElem?_append_right (by rw [← h.1]; exact hj), ← h.1] at hu
    exact k.2 _ c u hc hu
/-- a struct's cells, field behind field -/
theorem CellsAre.next {l r : List AV} {cs : List Value} {o s p : Nat} (h : CellsAre W l ((cs.drop o).take s)) (hp : p = o + s) (k : CellsAre W r (cs.drop p)) : CellsAre W (l ++ r) (cs.drop o) := by
  subst hp
  have := h.append k
  rwa [← List.drop_drop, List.take_append_drop] at this
theorem CellsAre.last {l : List AV} {cs : List Value} {o s : Nat} (h : CellsAre W l ((cs.drop o).take s)) (hs : cs.length = o + s) : CellsAre W l (cs.drop o) := by
  rwa [List.take_of_length_le (by rw [List.length_drop]; omega)] at h
/-- what is read of a type -/
def ReadsAs (P : Program) (W : World) (enc : TypeId × Value → H) (t : TypeId) {α : Type} (g : α → List AV) (Q : α → Nat → Prop) : Prop :=
  ∀ n cs x, DataW.trod enc P W 0 (fun _ => true) true n t cs = some x → ∃ a : α, Q a (Rows.uptoBulk x.1) ∧ CellsAre W (g a) cs
theorem reads_int {t : TypeId} (ht : P.underlying t = some (.int .i64)) : ReadsAs P W enc t (fun n : Int => [.int .i64 n]) (fun n _ => -9223372036854775808 ≤ n ∧ n ≤ 9223372036854775807) := by
  intro n cs x h
  obtain ⟨k, rfl, _, hw⟩ := DataW.trod_int ht h
  have := int_rng hw
  exact ⟨k, ⟨this.1, by omega⟩, .one (.int _ _) rfl⟩
namespace Bulks
theorem one_le (d : DataW H) : 1 ≤ Rows.uptoBulk d := by
  cases d with
  | lit l => cases l <;> simp [Rows.uptoBulk]
  | nil => simp [Rows.uptoBulk]
  | ptr d => simp [Rows.uptoBulk]
  | slice elems spare => simp [Rows.uptoBulk]
  | agg parts => simp [Rows.uptoBulk]
  | iface t d => simp [Rows.uptoBulk]
  | map entries => simp [Rows.uptoBulk]
  | held h => simp [Rows.uptoBulk]
theorem part_le {d : DataW H} {l : List (DataW H)} (h : d ∈ l) : Rows.uptoBulk d ≤ Rows.uptoBulkAll l := by
  induction l with
  | nil => cases h
  | cons x r ih =>
    simp only [Rows.uptoBulkAll]
    cases List.mem_cons.1 h with
    | inl e => subst e; omega
    | inr e => have := ih e; omega
theorem length_le (l : List (DataW H)) : l.length ≤ Rows.uptoBulkAll l := by
  induction l with
  | nil => simp [Rows.uptoBulkAll]
  | cons x r ih => have := one_le x; simp only [Rows.uptoBulkAll, List.length_cons]; omega
theorem bound {l : List (DataW H)} (hk : Rows.uptoSmall H l = true) : Rows.uptoBulkAll l ≤ 1048576 := by
  simpa [Rows.uptoSmall] using hk
theorem field_le {xs : List (DataW H × List MemPlace)} {i : Nat} {y : DataW H × List MemPlace} (h : xs[i]? = some y) : Rows.uptoBulk y.1 ≤ Rows.uptoBulk (DataW.agg (xs.map (·.1))) := by
  have := part_le (List.mem_map_of_mem (f := fun y : DataW H × List MemPlace => y.1) (List.mem_of_getElem? h))
  simp only [Rows.uptoBulk]
  omega
end Bulks
theorem reads_slice {t e : TypeId} {sz : Nat} {α : Type} [Inhabited α] {g : α → AV} {Q : α → Nat → Prop} (ht : P.underlying t = some (.slice e)) (hc : P.cellsOf e = sz) (hsz : 0 < sz) (hg : ∀ a, (g a).cells.length = sz ∧ (g a).closed1 = true) (hel : ReadsAs P W enc e (fun a => (g a).cells) Q)
    (hQ : ∀ a n m, Q a n → n ≤ m → Q a m) : ReadsAs P W enc t (fun l : List α => [.sl sz (l.map g) .no]) (fun l n => l.length ≤ n ∧ ∀ a ∈ l, Q a n) := by
  intro n cs x h
  have hs : ∃ A len cap, cs = [.slice A len cap] := by
    rcases open_slice ht h with ⟨hcs, _⟩ | ⟨a', len', cap', m, n, D, Pl, hcs, _⟩
    · exact ⟨_, _, _, hcs⟩
    · exact ⟨_, _, _, hcs⟩
  obtain ⟨A, len, cap, rfl⟩ := hs
  have hel' : ElemR P W enc e g (fun a d => Q a (Rows.uptoBulk d)) := fun n cs x h => by
    obtain ⟨a, h1, h2⟩ := hel n cs x h
    exact ⟨a, h1, h2.2⟩
  obtain ⟨l, hl, hb⟩ := open_slR ht hc hsz hg hel' ⟨A, len, cap, rfl⟩ (d := x.1) (ps := x.2) ⟨n, by simpa [Value.cells] using h⟩
  refine ⟨l, ?_, .one hl rfl⟩
  rcases hb with rfl | ⟨elems, spare, he, hlen, hq⟩
  · exact ⟨Nat.zero_le _, fun a ha => by cases ha⟩
  · rw [he]
    have hE : Rows.uptoBulk (DataW.slice elems spare) = Rows.uptoBulkAll elems + Rows.uptoBulkAll spare + 1 := by simp only [Rows.uptoBulk]
    rw [hE]
    refine ⟨by have := Bulks.length_le elems; omega, fun a ha => ?_⟩
    obtain ⟨i, hi⟩ := List.mem_iff_getElem?.1 ha
    have hlt : i < elems.length := by rw [hlen]; exact (List.getElem?_eq_some_iff.1 hi).1
    have hx := List.getElem?_eq_getElem hlt
    refine hQ a _ _ (hq i a _ hi hx) ?_
    have := Bulks.part_le (List.mem_of_getElem? hx)
    omega
/-! cells of any type -/
end
end Go.Abs

namespace Go.Abs
open Go.ChangeShapes Go.WideShapes Go.ChangeAt Go.RowKit Go.Deep Go.ChangeMaps
open Go.Proofs Go.Proofs.YtpglogahncpnoaaGreat
section
variable {H : Type} {enc : TypeId × Value → H} {P : Program} {W : World}
theorem fieldR {t : TypeId} {α : Type} {g : α → List AV} {Q : α → Nat → Prop} (hr : ReadsAs P W enc t g Q) (hQ : ∀ a n m, Q a n → n ≤ m → Q a m) {fs : Array Field} {xs : List (DataW H × List MemPlace)} {n : Nat} {cs : List Value} {x : DataW H × List MemPlace}
    (hx : x = (.agg (xs.map (·.1)), xs.flatMap (·.2))) (hxl : xs.length = fs.size)
    (hf : ∀ (i : Nat) (f : Field), fs[i]? = some f → DataW.trod enc P W 0 (fun _ => true) true n f.type ((cs.drop f.offset).take (P.cellsOf f.type)) = xs[i]?)
    (i : Nat) {f : Field} (hi : fs[i]? = some f) (ht : f.type = t) {o s : Nat} (ho : f.offset = o) (hs : P.cellsOf t = s) : ∃ a, Q a (Rows.uptoBulk x.1) ∧ CellsAre W (g a) ((cs.drop o).take s) := by
  have h := hf i f hi
  rw [ht, ho, hs] at h
  have hil : i < xs.length := by rw [hxl]; exact (Array.getElem?_eq_some_iff.1 hi).1
  have hg := List.getElem?_eq_getElem hil
  rw [hg] at h
  obtain ⟨a, h1, h2⟩ := hr n _ _ h
  refine ⟨a, hQ a _ _ h1 ?_, h2⟩
  rw [hx]
  exact Bulks.field_le hg
end
section
variable {H : Type} {enc : TypeId × Value → H} {W : World}
theorem cz3 : PI.cellsOf 3 = 1 := by kernel_rfl
theorem cz61 : PI.cellsOf 61 = 3 := by kernel_rfl
theorem st61 : ∃ f0 f1 f2 : Field, PI.underlying 61 = some (.struct #[f0, f1, f2]) ∧ (f0.type = 3 ∧ f0.offset = 0) ∧ (f1.type = 3 ∧ f1.offset = 1) ∧ (f2.type = 3 ∧ f2.offset = 2) := ⟨_, _, _, Tryz.underlying61, ⟨rfl, rfl⟩, ⟨rfl, rfl⟩, ⟨rfl, rfl⟩⟩
def rngI (n : Int) : Prop := -9223372036854775808 ≤ n ∧ n ≤ 9223372036854775807
theorem rInt : ReadsAs PI W enc 3 (fun n : Int => [.int .i64 n]) (fun n _ => rngI n) := reads_int Tryz.underlying3
theorem rAct : ReadsAs PI W enc 61 (fun x : AcI => (acA x).cells) (fun _ _ => True) := by
  intro n cs x h
  obtain ⟨f0, f1, f2, hu, ⟨t0, o0⟩, ⟨t1, o1⟩, ⟨t2, o2⟩⟩ := st61
  obtain ⟨xs, m, _, hx, hlen, hxl, hf⟩ := DataW.trod_struct hu h
  obtain ⟨a0, q0, c0⟩ := fieldR rInt (fun _ _ _ h _ => h) hx hxl hf 0 rfl t0 o0 cz3
  obtain ⟨a1, q1, c1⟩ := fieldR rInt (fun _ _ _ h _ => h) hx hxl hf 1 rfl t1 o1 cz3
  obtain ⟨a2, q2, c2⟩ := fieldR rInt (fun _ _ _ h _ => h) hx hxl hf 2 rfl t2 o2 cz3
  exact ⟨⟨a0, a1, a2⟩, trivial, c0.next rfl (c1.next rfl (c2.last (by rw [hlen]; exact cz61)))⟩
theorem rActs : ReadsAs PI W enc 46 (fun l : List AcI => [.sl 3 (acsL l) .no]) (fun l n => l.length ≤ n ∧ ∀ f ∈ l, True) :=
  reads_slice (g := acA) Tryz.underlying46 cz61 (by omega) (fun _ => ⟨rfl, rfl⟩) rAct (fun _ _ _ h _ => h)
/-! arguments -/
/-- an argument of one cell -/
theorem open_one {t : TypeId} {α : Type} {g : α → AV} {Q : α → Nat → Prop} (hr : ReadsAs PI W enc t (fun a => [g a]) Q) {v : Value} {d : DataW H} {ps : List MemPlace} (h1 : ∃ u, v.cells = #[u] ∧ v = u) (h : DataW.Trod enc PI W 0 (fun _ => true) true t v d ps) : ∃ a, Rep (oldE W) W (g a) v ∧ Q a (Rows.uptoBulk d) := by
  obtain ⟨u, hu, rfl⟩ := h1
  obtain ⟨fuel, h⟩ := h
  rw [hu] at h
  obtain ⟨a, q, c⟩ := hr fuel _ _ h
  exact ⟨a, (c.2 0 _ _ rfl rfl).1, q⟩
end
end Go.Abs

namespace Go.Abs
open Go.ChangeShapes Go.WideShapes Go.ChangeAt Go.RowKit Go.Deep Go.ChangeMaps
open Go.Proofs Go.Proofs.YtpglogahncpnoaaGreat
section
variable {W : World}
theorem nGlobI : 0 < PI.globals.size := by
  have : decide (0 < PI.globals.size) = true := by kernel_rfl
  exact of_decide_eq_true this
theorem globI (hsh : W.ShapedOpen PI) {m : Int} (hm : W.cell? ⟨0, 0, none⟩ = some (.int .i64 m)) : GlobOk (GI m) (oldE W) W := by
  refine globA (fun g e hg => ?_) fun g e hg => ?_
  · match g, hg with
    | 0, hg =>
      simp only [GI, Option.some.injEq] at hg
      subst hg
      refine ⟨rfl, fun j c hj => ?_⟩
      match j, hj with
      | 0, hj => simp [AV.cells] at hj; subst hj; exact ⟨_, hm, .int _ _, rfl⟩
      | j + 1, hj => simp [AV.cells] at hj
    | g + 1, hg => cases hg
  · match g, hg with
    | 0, hg =>
      simp only [GI, Option.some.injEq] at hg
      subst hg
      exact glob_size hsh (n := 1) nGlobI (by kernel_rfl)
    | g + 1, hg => cases hg
end
theorem one_slice {P : Program} {W : World} {t e : TypeId} {v : Value} {b : Nat} (ht : P.underlying t = some (.slice e)) (h : Value.okWide P W .any b t v) : ∃ u, v.cells = #[u] ∧ v = u := by
  obtain ⟨A, n, c, rfl⟩ := okWide_slice ht h
  exact ⟨_, rfl, rfl⟩
theorem one_int {P : Program} {W : World} {t : TypeId} {k : IntKind} {v : Value} {b : Nat} (ht : P.underlying t = some (.int k)) (h : Value.okWide P W .any b t v) : ∃ u, v.cells = #[u] ∧ v = u := by
  obtain ⟨n, rfl⟩ := okWide_int ht h
  exact ⟨_, rfl, rfl⟩
theorem witness_row_shaped {H : Type} {enc : TypeId × Value → H} {C : Checked} {os : Os} {f : FuncId} {fn : Func} {s : OpenSpec} {conds : List PathCond} {apart : Bool} {laid : List (String × DataW Unit)} (w0 : World) (args : Array Value) (hos : w0.os = os)
    (hsh : (w0.forCall (fun _ _ => 0) ⟨#[], args, []⟩).Shaped C.prog)
    (hok : Input.okWideB C.prog (w0.forCall (fun _ _ => 0) ⟨#[], args, []⟩) f ⟨#[], args, []⟩ = true)
    (hrow : s.preRow enc C.prog fn conds apart laid (w0.forCall (fun _ _ => 0) ⟨#[], args, []⟩).memory args) :
    ∃ (w : World) (tape : Tape) (i : Input), w.os = os ∧ (w.forCall tape i).Shaped C.prog ∧ i.vars = [] ∧ Input.okWide C.prog (w.forCall tape i) .any w.heap.size f i ∧
      s.preRow enc C.prog fn conds apart laid (w.forCall tape i).memory i.args ∧ ({} : Assume).holds C.prog (lone (Frame.enter C.prog f i.args .normal) [] (w.forCall tape i)) :=
  ⟨w0, fun _ _ => 0, ⟨#[], args, []⟩, hos, hsh, (Input.okWide_of_okWideB (base := 0) hok).1, (Input.okWide_of_okWideB hok).2, hrow, by
    simp only [Assume.holds]
    exact ⟨by simp, by simp, fun _ => Modest.zero, by simp, by simp⟩⟩

end Go.Abs
