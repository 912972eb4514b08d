/- Own texts, part 10. -/
import Derived.Test.YtpglogahncpnoaaGreatPart8
import Derived.Test.YtpglogahncpnoaaGreatPart9

namespace Go.Abs
open Go.Proofs Go.RowKit Go.Sort
theorem par_bits (s : Int) : IntKind.i64.wrap ((BitVec.ofInt IntKind.i64.bits s &&& BitVec.ofInt IntKind.i64.bits 1).toNat : Int) = parI s := by
  show IntKind.i64.wrap (((BitVec.ofInt 64 s &&& BitVec.ofInt 64 1).toNat : Nat) : Int) = parI s
  rw [BitVec.toNat_and, BitVec.toNat_ofInt, BitVec.toNat_ofInt]
  have : ((1 : Int) % ((2 ^ 64 : Nat) : Int)).toNat = 1 := by decide
  rw [this, Nat.and_one_is_mod]
  unfold parI
  rw [wrap64_in (by omega) (by omega)]
  split <;> omega
theorem parI_01 (s : Int) : parI s = 0 ∨ parI s = 1 := by unfold parI; split <;> simp
theorem parB_0 {s : Int} (h : parI s = 0) : parB s = false := by unfold parI at h; unfold parB; split at h <;> simp_all
theorem parB_1 {s : Int} (h : parI s = 1) : parB s = true := by unfold parI at h; unfold parB; split at h <;> simp_all
theorem webA_par (k s n : Int) : webA ⟨k, s, n⟩ = parB s := rfl
theorem tmod_idx (n : Int) {L : Nat} (h : 0 < L) : ((n.tmod L) + L).tmod L = n % L ∧ -(L : Int) < n.tmod L ∧ n.tmod L < L := by
  have h1 : n.tmod L < L := Int.tmod_lt_of_pos n (by omega)
  have h2 : -(L : Int) < n.tmod L := by
    have := Int.lt_tmod_of_pos n (b := L) (by omega)
    omega
  refine ⟨?_, h2, h1⟩
  rw [Int.tmod_eq_emod_of_nonneg (by omega), Int.add_emod_right, Int.tmod_def, Int.sub_mul_emod_self_left]
theorem nIdx_cons {c : List PkI} (n : Int) (h : c ≠ []) : nIdx c n = ((n % c.length).toNat : Nat) ∧ (n % c.length).toNat < c.length ∧ IntKind.i64.wrap (n.tmod c.length + c.length) = n.tmod c.length + c.length ∨ 1048576 < c.length := by
  by_cases hl : 1048576 < c.length
  · exact .inr hl
  · left
    have hp : 0 < c.length := List.length_pos_iff.2 h
    obtain ⟨h1, h2, h3⟩ := tmod_idx n hp
    have h4 := Int.emod_nonneg n (b := c.length) (by omega)
    have h5 := Int.emod_lt_of_pos n (b := c.length) (by omega)
    refine ⟨?_, by omega, wrap64_in (by omega) (by omega)⟩
    unfold nIdx
    rw [if_neg h, h1]; omega
/-- where an act begins -/
theorem head_vals {w : WoI} {n : Int} (hl : w.c.length ≤ 1024) (h : decide (((pksL w.c).length : Int) > 0) = true) : (((pksL w.c).length : Int) ≠ 0) ∧ (IntKind.i64.wrap (n.tmod ((pksL w.c).length : Int) + ((pksL w.c).length : Int))).tmod ((pksL w.c).length : Int) = nIdx w.c n := by
  rw [pkL_len] at h ⊢
  have h := of_decide_eq_true h
  have hne : w.c ≠ [] := by intro e; rw [e] at h; simp at h
  obtain ⟨h1, h2, h3⟩ := tmod_idx n (L := w.c.length) (by omega)
  refine ⟨by omega, ?_⟩
  rw [wrap64_in (n := n.tmod (w.c.length : Int) + w.c.length) (by omega) (by omega)]
  unfold nIdx
  rw [if_neg hne]
theorem head_none {w : WoI} {n : Int} (h : decide (((pksL w.c).length : Int) > 0) = false) : nIdx w.c n = -1 := by
  rw [pkL_len] at h
  have h := of_decide_eq_false h
  unfold nIdx
  rw [if_pos (List.eq_nil_of_length_eq_zero (by omega))]
theorem idxA_eq (w : WoI) (k s n : Int) : idxA w ⟨k, s, n⟩ = (n % (w.c.length : Int)).toNat := rfl
/-- what the index of an act finds -/
theorem idx_at {w : WoI} (hl : w.c.length ≤ 1024) (k s n : Int) : (w.c = [] ∧ nIdx w.c n = -1) ∨ ∃ i : Nat, nIdx w.c n = i ∧ idxA w ⟨k, s, n⟩ = i ∧ i < w.c.length := by
  by_cases h : w.c = []
  · exact .inl ⟨h, by unfold nIdx; rw [if_pos h]⟩
  · right
    rcases nIdx_cons n h with ⟨h1, h2, _⟩ | h1
    · exact ⟨_, h1, idxA_eq .., h2⟩
    · omega
theorem recv_leaf {w r : WoI} {p : PkI} (hb : WBd w) (hbad : w.bad = false) (hf : w.fresh.length < 100000) (hp : pkBd p = true) (h : recvO w p = r) :
    (RAsk (wC w) w.all.length w.fresh.length ∧ PAsk (pkCw p)) ∧ ∃ (s_1 : List UInt8), ∃ (n_2 : Int), ∃ (es_1 : List AV), ∃ (s_2 : List UInt8), ∃ (n_3 : Int), ∃ (es_2 : List AV), ∃ (es_3 : List AV), ∃ (es_4 : List AV), ∃ (es_5 : List AV), ∃ (es_6 : List AV), ∃ (b : Bool),
      OutIs (keptWA (keptRecv (wC w) (pkCw p))) (.agg [.str s_1, .int .i64 n_2, .sl 8 es_1 .no, .str s_2, .int .i64 n_3, .sl 8 es_2 .no, .sl 11 es_3 .no, .sl 3 es_4 .no, .sl 8 es_5 (.tok 0), .sl 8 es_6 (.tok 1), .bool b]) ∧
      RetK (.agg [.str s_1, .int .i64 n_2, .sl 8 es_1 .no, .str s_2, .int .i64 n_3, .sl 8 es_2 .no, .sl 11 es_3 .no, .sl 3 es_4 .no, .sl 8 es_5 (.tok 0), .sl 8 es_6 (.tok 1), .bool b]) [((keptRecv (wC w) (pkCw p)).all.length, 29), ((keptRecv (wC w) (pkCw p)).fresh.length, 29)] (wA r, wL r) := by
  have e : keptRecv (wC w) (pkCw p) = r := by unfold keptRecv; rw [wOf_ok, show pOf (pkCw p) = p from pOf_ok p]; exact h
  refine ⟨⟨⟨w, rfl, rfl, rfl, hb, hbad, hf⟩, ⟨p, rfl, hp⟩⟩, r.a.nm, r.a.nx, fcsL r.a.l, r.b.nm, r.b.nx, fcsL r.b.l, pksL r.c, bxsL r.r, fcsL r.all, fcsL r.fresh, r.bad, ⟨by rw [e]; rfl⟩, ?_⟩
  rw [e]
  exact rk rfl
theorem cs21x {s : SdI} {ev : Int} (h : s.l.length ≤ 2000000) (hx : -4611686018427387904 ≤ s.nx) : s21x [.agg (sdC s.nm s.nx 8 (fcsL s.l)), .agg [.str [], .int .i64 0, .int .i64 1, .int .i64 0, .str [], .str [], .int .i64 ev, .sl 0 [] .nil]] = some (.tup [sdA (subP s ⟨[], 0, 1, 0, [], [], ev, []⟩).1, pkA (subP s ⟨[], 0, 1, 0, [], [], ev, []⟩).2.1, .int .i64 (subP s ⟨[], 0, 1, 0, [], [], ev, []⟩).2.2], []) := by
  unfold s21x
  have e2 : wk1 (.agg [.str [], .int .i64 0, .int .i64 1, .int .i64 0, .str [], .str [], .int .i64 ev, .sl 0 [] .nil]) = .agg [.str [], .int .i64 0, .int .i64 1, .int .i64 0, .str [], .str [], .int .i64 ev, .sl 3 [] .no] := rfl
  rw [List.map_cons, List.map_cons, List.map_nil, e2]
  cases hl : s.l with
  | nil =>
    have e1 : wk1 (.agg (sdC s.nm s.nx 8 (fcsL []))) = .agg [.str s.nm, .int .i64 s.nx, .sl 3 [] .no] := rfl
    rw [e1]
    simp only [s21]
    rw [if_pos ⟨.inr trivial, trivial, by simp, hx⟩]
    simp only [unL]
    rw [show (⟨s.nm, s.nx, []⟩ : SdI) = s from by cases s; simp_all]
  | cons f l =>
    have e1 : wk1 (.agg (sdC s.nm s.nx 8 (fcsL (f :: l)))) = .agg (sdC s.nm s.nx 8 (fcsL (f :: l))) := rfl
    rw [e1, ← hl]
    simp only [s21, unGs_ok, unL]
    rw [if_pos ⟨.inl trivial, trivial, by rw [List.length_map]; exact h, hx⟩]
abbrev RK (w : WoI) (r : WoI) : Prop := RetK (.agg (wCg w)) (wL w) (wA r, wL r)
theorem rkg {w r : WoI} (hbad : w.bad = false) (h : w = r) : RK w r := by
  have : wC w = wCg w := by unfold wC; rw [hbad]
  unfold RK
  rw [← this]
  exact rk h
/-- a fact is submitted -/
theorem lk24s (m : Int) (w : WoI) (s n : Int) (h : WInv w) (hb : w.all.length < 1000) : LkOk PI (GI m) (XAct 13) (tbl [(13, s21x)]) (itbl [(43, v43.up)]) (av24 w 0 s n) [] 24 [.agg (wCg w), .agg [.int .i64 0, .int .i64 s, .int .i64 n]] (wL w) (wA (actO w ⟨0, s, n⟩), wL (actO w ⟨0, s, n⟩)) := by
  refine ⟨rfl, rfl, ?_⟩
  rw [ww24s]
  have hbd := h.bd (Nat.le_of_lt hb)
  have hf : ∀ k, (sdOf w k).l.length ≤ 2000000 ∧ -4611686018427387904 ≤ (sdOf w k).nx := fun k => ⟨by have := (h.sd k).len; omega, by have := h.nx_lo k; omega⟩
  have hla : (fcsL w.all).length = w.all.length := List.length_map ..
  have hl1 : ∀ f, w.all.length + 1 = (w.all ++ [f]).length := fun f => by simp
  have hfr : ∀ f : FcI, fcsL w.all ++ [AV.agg (fcC f)] = fcsL (w.all ++ [f]) := fun f => by
    rw [show fcsL (w.all ++ [f]) = fcsL w.all ++ [fcA f] from List.map_append ..]; rfl
  have hX : ∀ k, parB s = k → subX w ⟨0, s, n⟩ = subP (sdOf w k) ⟨[], 0, 1, 0, [], [], w.all.length, []⟩ := fun k hk => by unfold subX; rw [webA_par, hk]
  have hact0 : ∀ k, parB s = k → (subP (sdOf w k) ⟨[], 0, 1, 0, [], [], w.all.length, []⟩).2.2 = 410 → actO w ⟨0, s, n⟩ = w := fun k hk hq => by
    unfold actO
    rw [if_pos rfl, hX k hk, if_pos hq]
  have hact1 : ∀ k, parB s = k → ¬ (subP (sdOf w k) ⟨[], 0, 1, 0, [], [], w.all.length, []⟩).2.2 = 410 → (subP (sdOf w k) ⟨[], 0, 1, 0, [], [], w.all.length, []⟩).2.2 = 0 ∧ actO w ⟨0, s, n⟩ = sendO (sendA w ⟨0, s, n⟩) (subP (sdOf w k) ⟨[], 0, 1, 0, [], [], w.all.length, []⟩).2.1 ∧ WInv (sendA w ⟨0, s, n⟩) ∧ PkW (sendA w ⟨0, s, n⟩) (subP (sdOf w k) ⟨[], 0, 1, 0, [], [], w.all.length, []⟩).2.1 ∧ (sendA w ⟨0, s, n⟩).all.length = w.all.length + 1 := fun k hk hq => by
    have hq' : ¬ (subX w ⟨0, s, n⟩).2.2 = 410 := by rw [hX k hk]; exact hq
    obtain ⟨a, b, c⟩ := submit_inv h hb hq'
    rw [hX k hk] at b
    refine ⟨?_, ?_, a, b, c⟩
    · have hhi := h.nx_hi (Nat.le_of_lt hb) k
      unfold subP at hq ⊢
      rw [if_neg (by unfold maxT; omega)] at hq ⊢
      split at hq
      · exact absurd rfl hq
      · rename_i hc; rw [if_neg hc]
    · unfold actO
      rw [if_pos rfl, hX k hk, if_neg hq]
  refine ⟨⟨fun h0 => ?_, fun h0 => ?_⟩, fun _ _ _ => ⟨parI_01 s, fun hp => ⟨fun _ => ?_, fun h => (by cases h)⟩, fun hp => ⟨fun _ => ?_, fun h => (by cases h)⟩⟩⟩
  · obtain ⟨a, b⟩ := head_vals (n := n) h.chl h0
    exact ⟨a, a, (), ⟨by rw [b, par_bits, pkL_len]⟩, ⟨rfl⟩, trivial, trivial⟩
  · exact ⟨(), ⟨by rw [head_none h0, par_bits, pkL_len]⟩, ⟨rfl⟩, trivial, trivial⟩
  · have hk := parB_0 hp
    rw [hla]
    refine ⟨⟨by omega, by omega⟩, _, _, _, _, _, _, _, _, _, _, _, _, _, _, _, ⟨by rw [tbl_hit]; exact cs21x (s := w.a) (hf false).1 (hf false).2⟩, fun h0 => ?_, fun h0 => ⟨fun h => (by cases h), fun _ => ⟨fun h1 => ?_, fun h1 => ?_⟩⟩⟩
    · exact rkg h.bad (hact0 false hk (eq_of_beq h0)).symm
    · have := (hact1 false hk (ne_of_beq_false h0)).1
      change ((subP w.a ⟨[], 0, 1, 0, [], [], w.all.length, []⟩).2.2 != 0) = true at h1
      change (subP w.a ⟨[], 0, 1, 0, [], [], w.all.length, []⟩).2.2 = 0 at this
      rw [this] at h1; cases h1
    · obtain ⟨e0, e1, e2, e3, e4⟩ := hact1 false hk (ne_of_beq_false h0)
      refine ⟨⟨by omega, by omega⟩, .inl rfl, by omega, rfl, ?_⟩
      obtain ⟨q, hq⟩ : ∃ q, subP w.a ⟨[], 0, 1, 0, [], [], w.all.length, []⟩ = q := ⟨_, rfl⟩
      change (subP w.a ⟨[], 0, 1, 0, [], [], w.all.length, []⟩).2.2 = 0 at e0
      change actO w ⟨0, s, n⟩ = sendO (sendA w ⟨0, s, n⟩) (subP w.a ⟨[], 0, 1, 0, [], [], w.all.length, []⟩).2.1 at e1
      change PkW (sendA w ⟨0, s, n⟩) (subP w.a ⟨[], 0, 1, 0, [], [], w.all.length, []⟩).2.1 at e3
      rw [hq] at e0 e1 e3 ⊢
      have ew : sendA w ⟨0, s, n⟩ = ⟨q.1, w.b, w.c, w.r, w.all ++ [q.2.1.f], w.fresh, false⟩ := by
        unfold sendA
        rw [hX false hk, webA_par, hk]
        show ({ setS w false (subP w.a _).1 with bad := w.bad || (subP w.a _).2.2 != 0, all := w.all ++ [(subP w.a _).2.1.f] } : WoI) = _
        rw [hq, h.bad, e0]; rfl
      have hb2 := e2.bd (by omega)
      rw [hfr, hl1 q.2.1.f]
      have := send_leaf hb2.1 (e2.pk e3) e1.symm
      rw [ew] at this
      exact this
  · have hk := parB_1 hp
    rw [hla]
    refine ⟨⟨by omega, by omega⟩, _, _, _, _, _, _, _, _, _, _, _, _, _, _, _, ⟨by rw [tbl_hit]; exact cs21x (s := w.b) (hf true).1 (hf true).2⟩, fun h0 => ?_, fun h0 => ⟨fun h => (by cases h), fun _ => ⟨fun h1 => ?_, fun h1 => ?_⟩⟩⟩
    · exact rkg h.bad (hact0 true hk (eq_of_beq h0)).symm
    · have := (hact1 true hk (ne_of_beq_false h0)).1
      change ((subP w.b ⟨[], 0, 1, 0, [], [], w.all.length, []⟩).2.2 != 0) = true at h1
      change (subP w.b ⟨[], 0, 1, 0, [], [], w.all.length, []⟩).2.2 = 0 at this
      rw [this] at h1; cases h1
    · obtain ⟨e0, e1, e2, e3, e4⟩ := hact1 true hk (ne_of_beq_false h0)
      refine ⟨⟨by omega, by omega⟩, .inl rfl, by omega, rfl, ?_⟩
      obtain ⟨q, hq⟩ : ∃ q, subP w.b ⟨[], 0, 1, 0, [], [], w.all.length, []⟩ = q := ⟨_, rfl⟩
      change (subP w.b ⟨[], 0, 1, 0, [], [], w.all.length, []⟩).2.2 = 0 at e0
      change actO w ⟨0, s, n⟩ = sendO (sendA w ⟨0, s, n⟩) (subP w.b ⟨[], 0, 1, 0, [], [], w.all.length, []⟩).2.1 at e1
      change PkW (sendA w ⟨0, s, n⟩) (subP w.b ⟨[], 0, 1, 0, [], [], w.all.length, []⟩).2.1 at e3
      rw [hq] at e0 e1 e3 ⊢
      have ew : sendA w ⟨0, s, n⟩ = ⟨w.a, q.1, w.c, w.r, w.all ++ [q.2.1.f], w.fresh, false⟩ := by
        unfold sendA
        rw [hX true hk, webA_par, hk]
        show ({ setS w true (subP w.b _).1 with bad := w.bad || (subP w.b _).2.2 != 0, all := w.all ++ [(subP w.b _).2.1.f] } : WoI) = _
        rw [hq, h.bad, e0]; rfl
      have hb2 := e2.bd (by omega)
      rw [hfr, hl1 q.2.1.f]
      have := send_leaf hb2.1 (e2.pk e3) e1.symm
      rw [ew] at this
      exact this
theorem actO_1 (w : WoI) (s n : Int) : actO w ⟨1, s, n⟩ = (match w.c[idxA w ⟨1, s, n⟩]? with
    | some p => recvO { w with c := w.c.eraseIdx (idxA w ⟨1, s, n⟩) } p
    | none => w) := by
  unfold actO
  rw [if_neg (show ¬ (1 : Int) = 0 by decide), if_pos rfl]
  rfl
theorem actO_2 (w : WoI) (s n : Int) : actO w ⟨2, s, n⟩ = { w with c := w.c.eraseIdx (idxA w ⟨2, s, n⟩) } := by
  unfold actO
  rw [if_neg (show ¬ (2 : Int) = 0 by decide), if_neg (show ¬ (2 : Int) = 1 by decide), if_pos rfl]
theorem actO_3 (w : WoI) (s n : Int) : actO w ⟨3, s, n⟩ = (match w.c[idxA w ⟨3, s, n⟩]? with
    | some p => { w with c := if (chSend w.c p).2 = 0 then (chSend w.c p).1 else w.c }
    | none => w) := by
  unfold actO
  rw [if_neg (show ¬ (3 : Int) = 0 by decide), if_neg (show ¬ (3 : Int) = 1 by decide), if_neg (show ¬ (3 : Int) = 2 by decide), if_pos rfl]
  rfl
theorem actO_4 (w : WoI) (s n : Int) : actO w ⟨4, s, n⟩ = againL w s (openP w s).length := by
  unfold actO againL openP
  rw [if_neg (show ¬ (4 : Int) = 0 by decide), if_neg (show ¬ (4 : Int) = 1 by decide), if_neg (show ¬ (4 : Int) = 2 by decide), if_neg (show ¬ (4 : Int) = 3 by decide), if_pos rfl, List.take_length, webA_par]
theorem actO_o {w : WoI} {k s n : Int} (h0 : k ≠ 0) (h1 : k ≠ 1) (h2 : k ≠ 2) (h3 : k ≠ 3) (h4 : k ≠ 4) : actO w ⟨k, s, n⟩ = w := by
  unfold actO
  rw [if_neg h0, if_neg h1, if_neg h2, if_neg h3, if_neg h4]
theorem chDel_some {c : List PkI} {i : Nat} (h : i < c.length) : chDel c i = (c.eraseIdx i, c[i], 0) := by
  unfold chDel
  rw [if_neg (by omega), Int.toNat_natCast, List.getD_eq_getElem?_getD, List.getElem?_eq_getElem h]; rfl
theorem chDel_none : chDel [] (-1) = ([], zPk, 4) := rfl
/-- a packet is delivered -/
theorem lk24d (m : Int) (w : WoI) (s n : Int) (h : WInv w) (hb : w.all.length < 1000) : LkOk PI (GI m) (XAct 44) (tbl [(44, v44)]) (itbl [(23, v23.up)]) (av24n w 1 s n) [] 24 [.agg (wCg w), .agg [.int .i64 1, .int .i64 s, .int .i64 n]] (wL w) (wA (actO w ⟨1, s, n⟩), wL (actO w ⟨1, s, n⟩)) := by
  refine ⟨rfl, rfl, ?_⟩
  rw [ww24d]
  have hcl : w.c.length ≤ 2000000 := by have := h.chl; omega
  refine ⟨⟨fun h0 => ?_, fun h0 => ?_⟩, fun _ _ _ => ⟨fun h => (by cases h), fun _ => ⟨fun _ => ⟨_, _, _, _, _, _, _, _, _, _, _, _, _, ⟨by rw [tbl_hit]; exact cv44 hcl⟩, fun h0 => ?_, fun h0 => ?_⟩, fun h => (by cases h)⟩⟩⟩
  · obtain ⟨a, b⟩ := head_vals (n := n) h.chl h0
    exact ⟨a, a, (), ⟨by rw [b, pkL_len]⟩, ⟨rfl⟩, trivial, trivial⟩
  · exact ⟨(), ⟨by rw [head_none h0, pkL_len]⟩, ⟨rfl⟩, trivial, trivial⟩
  · rcases idx_at h.chl 1 s n with ⟨e1, e2⟩ | ⟨i, e1, e2, e3⟩
    · rw [e2, e1, chDel_none] at h0
      cases h0
    · rw [e1, chDel_some e3]
      have hm : w.c[i] ∈ w.c := List.getElem_mem e3
      have hI : WInv { w with c := w.c.eraseIdx i } := h.setC (fun p hp => h.ch p (List.mem_of_mem_eraseIdx hp)) (Nat.le_trans (List.length_eraseIdx_le ..) h.chl)
      have hbd := hI.bd (Nat.le_of_lt hb)
      have hr : actO w ⟨1, s, n⟩ = recvO { w with c := w.c.eraseIdx i } w.c[i] := by
        rw [actO_1, e2, List.getElem?_eq_getElem e3]
      have hcg : wC { w with c := w.c.eraseIdx i } = wCg { w with c := w.c.eraseIdx i } := by unfold wC; rw [h.bad]
      have := recv_leaf (p := w.c[i]) hbd.1 h.bad hbd.2 (h.pk (h.ch _ hm)) hr.symm
      rw [hcg] at this
      exact this
  · rcases idx_at h.chl 1 s n with ⟨e1, e2⟩ | ⟨i, e1, e2, e3⟩
    · refine rkg h.bad ?_
      rw [actO_1, e1]; rfl
    · rw [e1, chDel_some e3] at h0
      cases h0
/-- a packet is lost -/
theorem lk24l (m : Int) (w : WoI) (s n : Int) (h : WInv w) (hb : w.all.length < 1000) : LkOk PI (GI m) (XAct 45) (tbl [(45, v45)]) (itbl []) (av24n w 2 s n) [] 24 [.agg (wCg w), .agg [.int .i64 2, .int .i64 s, .int .i64 n]] (wL w) (wA (actO w ⟨2, s, n⟩), wL (actO w ⟨2, s, n⟩)) := by
  refine ⟨rfl, rfl, ?_⟩
  rw [ww24l]
  have hcl : w.c.length ≤ 2000000 := by have := h.chl; omega
  have cv45 : v45 [chA w.c, .int .i64 (nIdx w.c n)] = some (.tup [chA (chDrop w.c (nIdx w.c n)).1, .int .i64 (chDrop w.c (nIdx w.c n)).2], []) := by
    simp only [v45]
    rw [if_pos ⟨trivial, by rw [pkL_len]; exact hcl⟩, show unL unK (pksL w.c) = some w.c from unL_map unK_ok w.c]
  refine ⟨⟨fun h0 => ?_, fun h0 => ?_⟩, fun _ _ _ => ⟨fun h => (by cases h), fun _ => ⟨fun h => (by cases h), fun _ => ⟨fun _ => ⟨_, _, ⟨by rw [tbl_hit]; exact cv45⟩, fun h0 => ?_, fun h0 => ?_⟩, fun h => (by cases h)⟩⟩⟩⟩
  · obtain ⟨a, b⟩ := head_vals (n := n) h.chl h0
    exact ⟨a, a, (), ⟨by rw [b, pkL_len]⟩, ⟨rfl⟩, trivial, trivial⟩
  · exact ⟨(), ⟨by rw [head_none h0, pkL_len]⟩, ⟨rfl⟩, trivial, trivial⟩
  · rcases idx_at h.chl 2 s n with ⟨e1, e2⟩ | ⟨i, e1, e2, e3⟩
    · unfold chDrop at h0
      rw [e2, e1, chDel_none] at h0
      cases h0
    · unfold chDrop
      rw [e1, chDel_some e3]
      refine rkg (w := { w with c := w.c.eraseIdx i }) h.bad ?_
      rw [actO_2, e2]
  · rcases idx_at h.chl 2 s n with ⟨e1, e2⟩ | ⟨i, e1, e2, e3⟩
    · refine rkg h.bad ?_
      rw [actO_2, e1, List.eraseIdx_nil]
      cases w; simp_all
    · unfold chDrop at h0
      rw [e1, chDel_some e3] at h0
      cases h0
/-- a packet is doubled -/
theorem lk24c (m : Int) (w : WoI) (s n : Int) (h : WInv w) (_hb : w.all.length < 1000) : LkOk PI (GI m) (XAct 46) (tbl [(46, v46)]) (itbl []) (av24n w 3 s n) [] 24 [.agg (wCg w), .agg [.int .i64 3, .int .i64 s, .int .i64 n]] (wL w) (wA (actO w ⟨3, s, n⟩), wL (actO w ⟨3, s, n⟩)) := by
  refine ⟨rfl, rfl, ?_⟩
  rw [ww24c]
  have hcl : w.c.length ≤ 2000000 := by have := h.chl; omega
  have hpk : w.c.all pkBd = true := List.all_eq_true.2 fun p hp => h.pk (h.ch p hp)
  have cv46 : v46 [chA w.c, .int .i64 (nIdx w.c n)] = some (.tup [chA (chDup w.c (nIdx w.c n)).1, .int .i64 (chDup w.c (nIdx w.c n)).2], []) := by
    simp only [v46]
    rw [if_pos ⟨trivial, by rw [pkL_len]; exact hcl⟩, show unL unK (pksL w.c) = some w.c from unL_map unK_ok w.c]
    simp only
    rw [if_pos hpk]
  have hdup : ∀ i, i < w.c.length → ∀ hi : i < w.c.length, chDup w.c i = chSend w.c w.c[i] := fun i hi _ => by
    unfold chDup
    rw [if_neg (by omega), Int.toNat_natCast, List.getD_eq_getElem?_getD, List.getElem?_eq_getElem hi]; rfl
  refine ⟨⟨fun h0 => ?_, fun h0 => ?_⟩, fun _ _ _ => ⟨fun h => (by cases h), fun _ => ⟨fun h => (by cases h), fun _ => ⟨fun h => (by cases h), fun _ => ⟨fun _ => ⟨_, _, ⟨by rw [tbl_hit]; exact cv46⟩, fun h0 => ?_, fun h0 => ?_⟩, fun h => (by cases h)⟩⟩⟩⟩⟩
  · obtain ⟨a, b⟩ := head_vals (n := n) h.chl h0
    exact ⟨a, a, (), ⟨by rw [b, pkL_len]⟩, ⟨rfl⟩, trivial, trivial⟩
  · exact ⟨(), ⟨by rw [head_none h0, pkL_len]⟩, ⟨rfl⟩, trivial, trivial⟩
  · rcases idx_at h.chl 3 s n with ⟨e1, e2⟩ | ⟨i, e1, e2, e3⟩
    · rw [e2, e1] at h0
      cases h0
    · rw [e1, hdup i e3 e3] at h0 ⊢
      refine rkg (w := { w with c := (chSend w.c w.c[i]).1 }) h.bad ?_
      rw [actO_3, e2, List.getElem?_eq_getElem e3]
      simp only
      rw [if_pos (eq_of_beq h0)]
  · refine rkg h.bad ?_
    rcases idx_at h.chl 3 s n with ⟨e1, e2⟩ | ⟨i, e1, e2, e3⟩
    · rw [actO_3, e1]; rfl
    · rw [e1, hdup i e3 e3] at h0
      rw [actO_3, e2, List.getElem?_eq_getElem e3]
      simp only
      rw [if_neg (ne_of_beq_false h0)]
theorem againL_succ {w : WoI} {s : Int} {i : Nat} (h : i < (openP w s).length) : againL w s (i + 1) = sendO (againL w s i) (openP w s)[i] := by
  unfold againL
  rw [List.take_succ_eq_append_getElem h, List.foldl_append]; rfl
theorem again_send {w : WoI} (h : WInv w) (hb : w.all.length ≤ 1000) (s : Int) : ∀ i, i ≤ (openP w s).length → WInv (againL w s i) ∧ (againL w s i).all = w.all := fun i _ => by
  unfold againL
  exact sends_inv _ h hb fun p hp => open_pk h (parB s) p (List.mem_of_mem_take hp)
/-- what is open is sent again -/
theorem lk24a (m : Int) (w : WoI) (s n : Int) (h : WInv w) (hb : w.all.length < 1000) : LkOk PI (GI m) (XAct 16) (tbl [(16, s22)]) (itbl [(43, v43.up), (1000043, fun _ _ => some (False, .junk, ⟨[], []⟩))]) (av24 w 4 s n) [] 24 [.agg (wCg w), .agg [.int .i64 4, .int .i64 s, .int .i64 n]] (wL w) (wA (actO w ⟨4, s, n⟩), wL (actO w ⟨4, s, n⟩)) := by
  refine ⟨rfl, rfl, ?_⟩
  rw [ww24a]
  have hb' := Nat.le_of_lt hb
  have h64 : ∀ k, (sdOf w k).l.length ≤ 2000000 := fun k => by have := (h.sd k).len; omega
  have cs22 : ∀ sd : SdI, sd.l.length ≤ 2000000 → s22 [.agg [.str sd.nm, .int .i64 sd.nx, .sl 8 (fcsL sd.l) .no]] = some (.sl 11 (pksL (resP sd.l)) .no, []) := fun sd hs => by
    simp only [s22, unGs_ok]
    rw [if_pos ⟨trivial, by rw [List.length_map]; exact hs⟩]
  have hcg : ∀ i, wC (againL w s i) = wC (againL w s i) := fun _ => rfl
  have h00 : wCg w = wC (againL w s 0) := by
    show wCg w = wC w
    unfold wC; rw [h.bad]
  have hpl : ((pksL (openP w s)).length : Int) = ((openP w s).length : Nat) := by rw [pkL_len]
  have loop : ∀ (x : Nat), x ≤ (openP w s).length → decide ((x : Int) < ((pksL (openP w s)).length : Int)) = true → ∃ hx : x < (openP w s).length, WBd (againL w s x) ∧ pkBd (openP w s)[x] = true ∧ keptSend (wC (againL w s x)) (pkCw (openP w s)[x]) = againL w s (x + 1) := fun x hx hlt => by
    have hlt := of_decide_eq_true hlt
    rw [pkL_len] at hlt
    have hx2 : x < (openP w s).length := by omega
    obtain ⟨a, b⟩ := again_send h hb' s x hx
    refine ⟨hx2, (a.bd (by rw [b]; exact hb')).1, h.pk (open_pk h (parB s) _ (List.getElem_mem hx2)), ?_⟩
    unfold keptSend
    rw [wOf_ok, show pOf (pkCw _) = _ from pOf_ok _, againL_succ hx2]
  have fin : ∀ (x : Nat), x ≤ (openP w s).length → decide ((x : Int) < ((pksL (openP w s)).length : Int)) = false → againL w s x = actO w ⟨4, s, n⟩ := fun x hx hge => by
    have hge := of_decide_eq_false hge
    rw [pkL_len] at hge
    have : x = (openP w s).length := by omega
    rw [actO_4, this]
  refine ⟨⟨fun h0 => ?_, fun h0 => ?_⟩, fun _ _ _ => ⟨parI_01 s, fun hp => ⟨fun h => (by cases h), fun _ => ⟨fun h => (by cases h), fun _ => ⟨fun h => (by cases h), fun _ => ⟨fun h => (by cases h), fun _ => ⟨fun _ => ?_, fun h => (by cases h)⟩⟩⟩⟩⟩, fun hp => ⟨fun h => (by cases h), fun _ => ⟨fun h => (by cases h), fun _ => ⟨fun h => (by cases h), fun _ => ⟨fun h => (by cases h), fun _ => ⟨fun _ => ?_, fun h => (by cases h)⟩⟩⟩⟩⟩⟩⟩
  · obtain ⟨a, b⟩ := head_vals (n := n) h.chl h0
    exact ⟨a, a, (), ⟨by rw [b, par_bits, pkL_len]⟩, ⟨rfl⟩, trivial, trivial⟩
  · exact ⟨(), ⟨by rw [head_none h0, par_bits, pkL_len]⟩, ⟨rfl⟩, trivial, trivial⟩
  · have ho : openP w s = resP w.a.l := by unfold openP; rw [parB_0 hp]; rfl
    refine ⟨⟨by omega, by omega⟩, _, ⟨by rw [tbl_hit]; exact cs22 w.a (h64 false)⟩, ⟨0, ⟨by rw [ho]; rfl⟩, ⟨congrArg (fun c => St.mk [some c, some [.int .i64 4, .int .i64 s, .int .i64 n], some wZ] (wL w)) h00⟩, Nat.zero_le _, trivial⟩, fun x hx => ⟨fun hlt => ?_, fun hge => ?_⟩⟩
    · obtain ⟨hx2, l1, l2, l3⟩ := loop x hx hlt
      refine ⟨⟨by omega, of_decide_eq_true hlt⟩, _, _, _, _, _, _, _, _, _, _, _, by rw [Int.toNat_natCast]; exact take_pkA hx2, ⟨⟨_, rfl, rfl, rfl, l1⟩, ⟨_, rfl, l2⟩⟩, ?_⟩
      rw [show keptSend _ _ = againL w s (x + 1) from l3]
      exact ⟨_, _, _, _, _, _, _, _, _, _, _, ⟨rfl⟩, x + 1, ⟨by rw [wrapN (by rw [pkL_len] at hpl; have := h.sd (parB s) |>.len; simp [openP, resP] at hx2; omega)]⟩, ⟨rfl⟩, hx2, by omega⟩
    · exact rk (fin x hx hge)
  · have ho : openP w s = resP w.b.l := by unfold openP; rw [parB_1 hp]; rfl
    refine ⟨⟨by omega, by omega⟩, _, ⟨by rw [tbl_hit]; exact cs22 w.b (h64 true)⟩, ⟨0, ⟨by rw [ho]; rfl⟩, ⟨congrArg (fun c => St.mk [some c, some [.int .i64 4, .int .i64 s, .int .i64 n], some wZ] (wL w)) h00⟩, Nat.zero_le _, trivial⟩, fun x hx => ⟨fun hlt => ?_, fun hge => ?_⟩⟩
    · obtain ⟨hx2, l1, l2, l3⟩ := loop x hx hlt
      refine ⟨⟨by omega, of_decide_eq_true hlt⟩, _, _, _, _, _, _, _, _, _, _, _, by rw [Int.toNat_natCast]; exact take_pkA hx2, ⟨⟨_, rfl, rfl, rfl, l1⟩, ⟨_, rfl, l2⟩⟩, ?_⟩
      rw [show keptSend _ _ = againL w s (x + 1) from l3]
      exact ⟨_, _, _, _, _, _, _, _, _, _, _, ⟨rfl⟩, x + 1, ⟨by rw [wrapN (by have := h.sd (parB s) |>.len; simp [openP, resP] at hx2; omega)]⟩, ⟨rfl⟩, hx2, by omega⟩
    · exact rk (fin x hx hge)
/-- nothing happens -/
theorem lk24o (m : Int) (w : WoI) (k s n : Int) (h : WInv w) (h0 : k ≠ 0) (h1 : k ≠ 1) (h2 : k ≠ 2) (h3 : k ≠ 3) (h4 : k ≠ 4) : LkOk PI (GI m) XNo (tbl []) (itbl []) (av24n w k s n) [] 24 [.agg (wCg w), .agg [.int .i64 k, .int .i64 s, .int .i64 n]] (wL w) (wA (actO w ⟨k, s, n⟩), wL (actO w ⟨k, s, n⟩)) := by
  refine ⟨rfl, rfl, ?_⟩
  rw [ww24o]
  refine ⟨⟨fun h0 => ?_, fun h0 => ?_⟩, fun _ _ _ => ⟨fun h => absurd (eq_of_beq h) h0, fun _ => ⟨fun h => absurd (eq_of_beq h) h1, fun _ => ⟨fun h => absurd (eq_of_beq h) h2, fun _ => ⟨fun h => absurd (eq_of_beq h) h3, fun _ => ⟨fun h => absurd (eq_of_beq h) h4, fun _ => rkg h.bad (actO_o h0 h1 h2 h3 h4).symm⟩⟩⟩⟩⟩⟩
  · obtain ⟨a, b⟩ := head_vals (n := n) h.chl h0
    exact ⟨a, a, (), ⟨by rw [b, pkL_len]⟩, ⟨rfl⟩, trivial, trivial⟩
  · exact ⟨(), ⟨by rw [head_none h0, pkL_len]⟩, ⟨rfl⟩, trivial, trivial⟩
end Go.Abs

namespace Go.Abs
open Go.Proofs Go.RowKit Go.Sort
section
variable {P : Program} {G : Glob}
/-- as lspec_of; the callees may differ from argument to argument -/
theorem lspec_of' (hm : P.follows .mixedOrders = true) {m : List Bool} {f : FuncId} {s : LSpec}
    (h : ∀ args l p r, s args l = some (p, r) → p → ∃ X R C A, CalleeOk P G R ∧ ICalleeOk P G (lowC C) ∧ LkOk P G X R C A m f args l r) : ISpecOk P G f s.up := by
  classical
  intro g args S r S' hr
  by_cases e : g = f
  case neg =>
    simp only [lowC, if_neg e] at hr
    cases hr
  subst e
  have hr0 := hr
  simp only [lowC, if_true] at hr
  split at hr
  case h_2 => cases hr
  case h_1 x hx =>
  split at hr
  case isFalse => cases hr
  case isTrue hp =>
  unfold LSpec.up at hx
  split at hx
  case h_2 => cases hx
  rename_i p r1 l hs
  injection hx with hx
  subst hx
  obtain ⟨X, R, C, A, hR, hC, hA⟩ := h args S.live p (r1, l) hs hp
  have key := lspec_of (s := fun a l' => if a = args ∧ l' = S.live then some (p, r1, l) else none) (X := X) (m := m) (f := g) hm hR hC fun a l' p' r' h' hp' => by
    split at h'
    · rename_i hc
      obtain ⟨rfl, rfl⟩ := hc
      injection h' with h'
      injection h' with h1 h2
      subst h2
      exact ⟨A, hA⟩
    · cases h'
  refine key g args S r S' ?_
  simp only [lowC, if_true, LSpec.up, and_self]
  rw [if_pos hp]
  exact hr
/-- the sign that impure callees are called in regions that draw -/
theorem flag_ok {k : FuncId} : ISpecOk P G k fun _ _ => some (False, .junk, ⟨[], []⟩) := by
  intro g args S r S' hr
  simp only [lowC] at hr
  by_cases e : g = k
  · simp [e] at hr
  · simp [e] at hr
end
theorem ov24 (m : Int) : ISpecOk PI (GI m) 24 v24.up := lspec_of' (m := []) mixedI fun args l p r h hp => by
  unfold v24 at h
  split at h
  case h_2 => cases h
  rename_i cs xs n0 e0 n1 e1
  split at h
  case isFalse => cases h
  rename_i hc
  simp only [Bool.and_eq_true, decide_eq_true_eq] at hc
  obtain ⟨⟨_, hx⟩, rfl, rfl⟩ := hc
  injection h with h
  injection h with h1 h2
  subst h1
  obtain ⟨w, rfl, rfl, rfl, hI, hb⟩ := hp
  obtain ⟨k, s, n, rfl⟩ : ∃ k s n, xs = [.int .i64 k, .int .i64 s, .int .i64 n] := by
    unfold isXc at hx
    split at hx
    · exact ⟨_, _, _, rfl⟩
    · cases hx
  have hr : r = (wA (actO w ⟨k, s, n⟩), wL (actO w ⟨k, s, n⟩)) := by
    rw [← h2]
    simp only [keptWA, keptAct, wOf_ok, xOf]
  subst hr
  have hcg : wC w = wCg w := by unfold wC; rw [hI.bad]
  rw [hcg]
  by_cases h0 : k = 0
  · subst h0
    exact ⟨_, _, _, _, tbl_cons (o21x m) tbl_nil, itbl_cons (ov43 m) itbl_nil, lk24s m w s n hI hb⟩
  by_cases h1 : k = 1
  · subst h1
    exact ⟨_, _, _, _, tbl_cons (ov44 m) tbl_nil, itbl_cons (ov23 m) itbl_nil, lk24d m w s n hI hb⟩
  by_cases h2 : k = 2
  · subst h2
    exact ⟨_, _, _, _, tbl_cons (ov45 m) tbl_nil, itbl_nil, lk24l m w s n hI hb⟩
  by_cases h3 : k = 3
  · subst h3
    exact ⟨_, _, _, _, tbl_cons (ov46 m) tbl_nil, itbl_nil, lk24c m w s n hI hb⟩
  by_cases h4 : k = 4
  · subst h4
    exact ⟨_, _, _, _, tbl_cons (o22 m) tbl_nil, itbl_cons (ov43 m) (itbl_cons flag_ok itbl_nil), lk24a m w s n hI hb⟩
  exact ⟨_, _, _, _, tbl_nil, itbl_nil, lk24o m w k s n hI h0 h1 h2 h3 h4⟩
theorem ov41 (m : Int) : SpecOk PI (GI m) 41 v41 := spec_of (X := XWo) (m := []) mixedI (tbl_cons (oz9 m) tbl_nil) itbl_nil fun args r h => by
  unfold v41 at h
  split at h
  case h_2 => cases h
  injection h with h; subst h
  refine ⟨nAn, ⟨?_⟩⟩
  rw [ww41]
  exact ⟨_, _, _, _, ⟨rfl⟩, _, _, _, _, ⟨rfl⟩, fun h => (by cases h), fun _ => ⟨fun h => (by cases h), fun _ => ⟨rfl⟩⟩⟩
theorem unX_ok (x : AcI) : unX (acA x) = some x := rfl
theorem lXs_ok (l : List AcI) : lXs (acsL l) = l := by unfold lXs; rw [show unL unX (acsL l) = some l from unL_map unX_ok l]; rfl
theorem agg61 : aggA PI 61 = some true := by kernel_rfl
theorem size61 : sizeA PI 61 = some 3 := by kernel_rfl
theorem take_ac {l : List AcI} {i : Nat} (h : i < l.length) : takeAt PI 61 (acsL l) i 0 = some (acA l[i]) := by
  simp only [takeAt, List.getElem?_map, List.getElem?_eq_getElem h, Option.map_some, takeA, agg61, size61]
  rfl
theorem ranO_succ {l : List AcI} {i : Nat} (h : i < l.length) : ranO (l.take (i + 1)) = actO (ranO (l.take i)) l[i] := by
  unfold ranO
  rw [List.take_succ_eq_append_getElem h, List.foldl_append]; rfl
theorem ranO_take {l : List AcI} (hl : l.length ≤ 100) (i : Nat) : WInv (ranO (l.take i)) ∧ (ranO (l.take i)).all.length ≤ 100 := ranO_inv (by rw [List.length_take]; omega)
theorem ov20 (m : Int) : ISpecOk PI (GI m) 20 v20.up := lspec_of (X := XWo) (m := []) mixedI (tbl_cons (ov41 m) tbl_nil) (itbl_cons (ov24 m) (itbl_cons flag_ok itbl_nil)) fun args l p r h hp => by
  unfold v20 at h
  split at h
  case h_2 => cases h
  split at h
  case isFalse => cases h
  rename_i hz
  subst hz
  injection h with h
  injection h with h1 h2
  subst h1
  obtain ⟨l, rfl, hl⟩ := hp
  have hr : r = (wA (ranO l), wL (ranO l)) := by
    rw [← h2]
    simp only [keptWA, keptRan, lXs_ok]
  subst hr
  refine ⟨av20 l, rfl, rfl, ?_⟩
  show lkW PI (GI m) XWo (tbl [(41, v41)]) (itbl [(24, v24.up), (1000024, fun _ _ => some (False, .junk, ⟨[], []⟩))]) (av20 l) [] 20 [.sl 3 (acsL l) .no] [] (wA (ranO l), wL (ranO l))
  rw [ww20]
  have hll : (acsL l).length = l.length := List.length_map ..
  rw [hll]
  refine ⟨⟨rfl⟩, ⟨0, ⟨rfl⟩, ⟨rfl⟩, Nat.zero_le _, trivial⟩, fun x hx => ⟨fun hlt => ?_, fun hge => ?_⟩⟩
  · have hlt := of_decide_eq_true hlt
    have hxl : x < l.length := by omega
    obtain ⟨hI, hb⟩ := ranO_take hl x
    refine ⟨⟨by omega, hlt⟩, _, _, _, by rw [Int.toNat_natCast]; exact take_ac hxl, ⟨_, rfl, rfl, rfl, hI, by omega⟩, ?_⟩
    have e : keptAct (wC (ranO (l.take x))) [.int .i64 (l[x]).k, .int .i64 (l[x]).s, .int .i64 (l[x]).n] = ranO (l.take (x + 1)) := by
      unfold keptAct
      rw [wOf_ok, ranO_succ hxl]; rfl
    rw [show keptAct _ _ = ranO (l.take (x + 1)) from e]
    exact ⟨_, _, _, _, _, _, _, _, _, _, _, ⟨rfl⟩, x + 1, ⟨by rw [wrapN (by omega)]⟩, ⟨rfl⟩, hxl, by omega⟩
  · have hge := of_decide_eq_false hge
    have : x = l.length := by omega
    subst this
    exact rk (by rw [List.take_length])
end Go.Abs

namespace Go.Abs
open Go.Proofs Go.RowKit
/-- the world when k sources have resent; within -/
def openK (W : WoI) (k : Nat) : List PkI := resP (sdOf W (k == 1)).l
def wK0 (W : WoI) : WoI := { W with c := [] }
def wKI (W : WoI) (k i : Nat) : WoI := if k = 0 then ((openK W 0).take i).foldl recvO (wK0 W) else ((openK W 1).take i).foldl recvO (againO (wK0 W) false)
def wK (W : WoI) (k : Nat) : WoI := if k = 0 then wK0 W else if k = 1 then againO (wK0 W) false else againO (againO (wK0 W) false) true
structure StK where
  k : Nat
  i : Nat
structure StD where
  w : WoI
  i : Nat
def tO : List (FuncId × Spec) := [(7, s7), (16, s22), (21, v21), (22, v22)]
def tOi : List (FuncId × ISpec) := [(20, v20.up), (23, v23.up), (24, v24.up), (1000023, fun _ _ => some (False, .junk, ⟨[], []⟩))]
def av4 (W : WoI) : Anns := ⟨fun i => match i with
  | 7 => some { α := Nat, slots := [3, 4], nb := 1, vals := fun n => [.ptr 0 0, .int .i64 n], sS := fun _ => ⟨[some (wC W)], wL W⟩, I := fun n => n ≤ W.fresh.length, μ := fun n => W.fresh.length - n }
  | 14 => some { α := Nat, slots := [3, 6], nb := 1, vals := fun k => [.ptr 0 0, .int .i64 k], sS := fun k => ⟨[some (wC (wK W k))], wL (wK W k)⟩, I := fun k => k ≤ 2, μ := fun k => 2 - k, mintB := [(6000, 1000031)] }
  | 1000016 => some { α := Nat, slots := [3, 6], nb := 1, vals := fun k => [.ptr 0 0, .int .i64 k], sS := fun k => ⟨[some (wC (wK W k))], wL (wK W k)⟩, I := fun k => k ≤ 1, μ := fun _ => 0, bools := [1006], rel := fun T k => T[6]? = some (.int .i64 (k : Nat)) }
  | 18 => some { α := StK, slots := [3, 6, 7, 8], nb := 1, vals := fun n => [.ptr 0 0, .int .i64 n.k, .sl 11 (pksL (openK W n.k)) .no, .int .i64 n.i], sS := fun n => ⟨[some (wC (wKI W n.k n.i))], wL (wKI W n.k n.i)⟩, I := fun n => n.k ≤ 1 ∧ n.i ≤ (openK W n.k).length, μ := fun n => (openK W n.k).length - n.i, link := some fun T n => T[6]? = some (.int .i64 (n.k : Nat)) }
  | 22 => some { α := StD, slots := [3, 9], nb := 1, vals := fun n => [.ptr 0 0, .int .i64 n.i], sS := fun n => ⟨[some (wC n.w)], wL n.w⟩, I := fun n => Drain W n.w ∧ n.w.c.length + n.i ≤ 128, μ := fun n => 128 - n.i }
  | 26 => some { α := StD, slots := [3, 10], nb := 1, vals := fun n => [.ptr 0 0, .int .i64 n.i], sS := fun n => ⟨[some (wC n.w)], wL n.w⟩, I := fun n => Drain W n.w ∧ n.w.c = [] ∧ n.i ≤ n.w.all.length, μ := fun n => n.w.all.length - n.i }
  | _ => none, nA⟩
end Go.Abs

namespace Go.Abs
open Go.Proofs Go.RowKit Go.Sort
section
variable {W : WoI}
theorem openK_0 (W : WoI) : openK W 0 = resP (sdOf (wK0 W) false).l := rfl
theorem again1 (h : WInv W) (hb : W.all.length ≤ 1000) : Again (wK0 W) (againO (wK0 W) false) (resP (sdOf (wK0 W) false).l) := again_all h.clear hb (fun q hq => by cases hq) (by simp []) false
theorem again1_sd (h : WInv W) (hb : W.all.length ≤ 1000) (j : Bool) : sdOf (againO (wK0 W) false) j = sdOf W j := by
  rw [(again1 h hb).sd]; cases j <;> rfl
theorem openK_1 (h : WInv W) (hb : W.all.length ≤ 1000) : openK W 1 = resP (sdOf (againO (wK0 W) false) true).l := by rw [again1_sd h hb]; rfl
theorem openK_le (h : WInv W) (k : Nat) : (openK W k).length ≤ 64 := by
  unfold openK resP
  rw [List.length_map]
  exact (h.sd _).len
theorem wKI_inv (h : WInv W) (hb : W.all.length ≤ 1000) {k i : Nat} (hk : k ≤ 1) (hi : i ≤ (openK W k).length) : WInv (wKI W k i) ∧ (wKI W k i).all = W.all := by
  have h1 := again1 h hb
  have h64 := openK_le h 0
  rcases (by omega : k = 0 ∨ k = 1) with rfl | rfl
  · have hA := open_again h.clear hb (fun q hq => by cases hq) (by simp) false i (by
      rw [openK_0] at hi
      have hi : i ≤ (resP (sdOf (wK0 W) false).l).length := hi
      rw [resP, List.length_map] at hi
      exact hi)
    have e : wKI W 0 i = (List.take i (resP (sdOf { W with c := [] } false).l)).foldl recvO { W with c := [] } := rfl
    rw [e]
    exact ⟨hA.inv, hA.all⟩
  · have hlen : (againO (wK0 W) false).c.length ≤ 500 := by
      rw [h1.len, ← openK_0]
      simp [wK0]; omega
    have hA := open_again h1.inv (by rw [h1.all]; exact hb) h1.acks hlen true i (by
      rw [openK_1 h hb] at hi; simpa [resP] using hi)
    have e : wKI W 1 i = (List.take i (resP (sdOf (againO (wK0 W) false) true).l)).foldl recvO (againO (wK0 W) false) := by
      rw [← openK_1 h hb]; rfl
    rw [e]
    exact ⟨hA.inv, hA.all.trans h1.all⟩
theorem wKI_end (h : WInv W) (hb : W.all.length ≤ 1000) {k : Nat} (hk : k ≤ 1) : wKI W k (openK W k).length = wK W (k + 1) := by
  rcases (by omega : k = 0 ∨ k = 1) with rfl | rfl
  · unfold wKI
    rw [if_pos rfl, List.take_length]; rfl
  · unfold wKI
    rw [if_neg (by decide), List.take_length, openK_1 h hb]; rfl
theorem wKI_succ {k i : Nat} (hk : k ≤ 1) (hi : i < (openK W k).length) : wKI W k (i + 1) = recvO (wKI W k i) (openK W k)[i] := by
  rcases (by omega : k = 0 ∨ k = 1) with rfl | rfl
  · unfold wKI
    rw [if_pos rfl, if_pos rfl, List.take_succ_eq_append_getElem hi, List.foldl_append]; rfl
  · unfold wKI
    rw [if_neg (by decide), if_neg (by decide), List.take_succ_eq_append_getElem hi, List.foldl_append]; rfl
theorem openK_pk (h : WInv W) {k i : Nat} (hi : i < (openK W k).length) : pkBd (openK W k)[i] = true := h.pk (open_pk h (k == 1) _ (List.getElem_mem hi))
/-- a packet is received -/
theorem wKI_step (h : WInv W) (hb : W.all.length ≤ 1000) {k i : Nat} (hk : k ≤ 1) (hi : i < (openK W k).length) : RAsk (wC (wKI W k i)) (wKI W k i).all.length (wKI W k i).fresh.length ∧ keptRecv (wC (wKI W k i)) (pkCw (openK W k)[i]) = wKI W k (i + 1) := by
  obtain ⟨a, b⟩ := wKI_inv h hb hk (Nat.le_of_lt hi)
  obtain ⟨c, d⟩ := a.bd (by rw [b]; exact hb)
  refine ⟨⟨_, rfl, rfl, rfl, c, a.bad, d⟩, ?_⟩
  unfold keptRecv
  rw [wOf_ok, show pOf (pkCw _) = _ from pOf_ok _, wKI_succ hk hi]
theorem wK_sd (h : WInv W) (hb : W.all.length ≤ 1000) {k : Nat} (hk : k ≤ 1) (j : Bool) : sdOf (wK W k) j = sdOf W j := by
  rcases (by omega : k = 0 ∨ k = 1) with rfl | rfl
  · cases j <;> rfl
  · exact again1_sd h hb j
theorem wK_2 (W : WoI) : wK W 2 = againO (againO { W with c := [] } false) true := rfl
end
theorem cv21 {l : List FcI} {s : List UInt8} {n : Int} (h : l.length ≤ 2000000) : v21 [.sl 8 (fcsL l) .no, .agg [.str s, .int .i64 n]] = some (.int .i64 (cntF l s n), []) := by
  simp only [v21, unGs_ok]
  rw [if_pos ⟨trivial, by rw [List.length_map]; exact h⟩]
theorem cs22w {sd : SdI} (h : sd.l.length ≤ 2000000) : s22 [.agg [.str sd.nm, .int .i64 sd.nx, .sl 8 (fcsL sd.l) .no]] = some (.sl 11 (pksL (resP sd.l)) .no, []) := by
  simp only [s22, unGs_ok]
  rw [if_pos ⟨trivial, by rw [List.length_map]; exact h⟩]
end Go.Abs
