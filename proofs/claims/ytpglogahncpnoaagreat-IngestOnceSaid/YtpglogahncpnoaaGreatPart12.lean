/- Own texts, part 12. -/
import Derived.Test.YtpglogahncpnoaaGreatPart10
import Derived.Test.YtpglogahncpnoaaGreatPart11
import Derived.Test.YtpglogahncpnoaaGreatPart3
import Derived.Test.YtpglogahncpnoaaGreatRows
import Derived.LaidLaws
import Derived.Lay
import Derived.Shelf.Lay

namespace Go.Abs
open Go.Proofs Go.RowKit Go.Sort
theorem lO7 (m : Int) : CalleeOk PI (GI m) (tbl tO) := tbl_cons (o7 m) (tbl_cons (o22 m) (tbl_cons (ov21 m) (tbl_cons (ov22 m) tbl_nil)))
theorem lOi (m : Int) : ICalleeOk PI (GI m) (lowC (itbl tOi)) := itbl_cons (ov20 m) (itbl_cons (ov23 m) (itbl_cons (ov24 m) (itbl_cons flag_ok itbl_nil)))
theorem fcs_len (l : List FcI) : (fcsL l).length = l.length := List.length_map ..
set_option maxHeartbeats 1000000 in
theorem pv4 (m : Int) (l : List AcI) : PureOk PI (GI m) XWo (tbl tO) (itbl tOi) (av4 (ranO l)) [] 4 [.sl 3 (acsL l) .no] (.bool true, []) := by
  constructor
  rw [ww4]
  refine ⟨true, ⟨rfl⟩, fun _ => ⟨fun _ => ⟨rfl⟩, fun h100 => ?_⟩, fun h => by cases h⟩
  have hl : l.length ≤ 100 := by
    have := of_decide_eq_false h100
    rw [show (acsL l).length = l.length from List.length_map ..] at this
    omega
  obtain ⟨hI, hall⟩ := ranO_inv hl
  have eR : keptRan (acsL l) = ranO l := by unfold keptRan; rw [lXs_ok]
  rw [eR]
  obtain ⟨W, hW⟩ : ∃ W, ranO l = W := ⟨_, rfl⟩
  rw [hW] at hI hall ⊢
  have hb : W.all.length ≤ 1000 := by omega
  have hf := hI.freshLen
  refine ⟨⟨l, rfl, hl⟩, _, _, _, _, _, _, _, _, _, _, _, ⟨rfl⟩, ⟨0, ⟨rfl⟩, ⟨rfl⟩, Nat.zero_le _, trivial⟩, fun x hx => ⟨fun hlt => ?_, fun _ => ?_⟩⟩
  · -- each fresh fact
    have hlt := of_decide_eq_true hlt
    rw [fcs_len] at hlt ⊢
    have hxl : x < W.fresh.length := by omega
    have hc1 := cnt_one hI.fnd (mem_ids (List.getElem_mem hxl))
    obtain ⟨i, e1, hi, e2⟩ := fresh_event hI (List.getElem_mem hxl)
    refine ⟨⟨by omega, hlt⟩, _, _, _, _, _, _, _, _, by rw [Int.toNat_natCast]; exact take_f hxl, _, ⟨by rw [tbl_miss (by decide), tbl_miss (by decide), tbl_hit]; exact cv21 (by omega)⟩, fun h => ?_, fun _ => ⟨fun h => ?_, fun _ => ⟨fun h => ?_, fun _ => ?_⟩⟩⟩
    · rw [hc1] at h; simp at h
    · have h := of_decide_eq_true h
      rw [e1] at h; omega
    · have h := of_decide_eq_true h
      rw [e1, fcs_len] at h; omega
    · refine ⟨⟨by rw [e1]; omega, by rw [e1, fcs_len]; omega⟩, _, _, _, _, _, _, _, _, by rw [e1, Int.toNat_natCast]; exact take_f hi, _, ⟨by
        rw [tbl_miss (by decide), tbl_miss (by decide), tbl_miss (by decide), tbl_hit]
        exact cv22 (f := W.all[i]) (g := W.fresh[x]) (by rw [hI.fs _ (List.getElem_mem hi)]; simp)⟩, fun _ => ⟨x + 1, ⟨by rw [wrapN (by omega)]⟩, ⟨rfl⟩, hxl, by omega⟩, fun h => ?_⟩
      rw [e2] at h
      simp at h
  · refine ⟨⟨0, ⟨rfl⟩, ⟨rfl⟩, by omega, trivial⟩, fun x hx => ⟨⟨fun h2 => ⟨x, ⟨rfl⟩, ⟨rfl⟩, by have := of_decide_eq_true h2; omega, rfl⟩, fun h2 => ?_⟩, fun y hy hxy => ?_⟩⟩
    · have h2 := of_decide_eq_false h2
      obtain rfl : x = 2 := by omega
      obtain ⟨hD, hlen⟩ := drain_start hI hb
      rw [← wK_2] at hD hlen
      refine ⟨⟨⟨wK W 2, 0⟩, ⟨rfl⟩, ⟨rfl⟩, ⟨hD, by simpa using hlen⟩, trivial⟩, fun ⟨w, i⟩ ⟨hD, hi⟩ => ⟨fun _ => ⟨fun hc => ?_, fun hc => ⟨⟨⟨w, 0⟩, ⟨rfl⟩, ⟨rfl⟩, ⟨hD, ?_, Nat.zero_le _⟩, trivial⟩, fun ⟨w, i⟩ ⟨hD, hw, hi⟩ => ⟨fun hlt => ?_, fun hge => ?_⟩⟩⟩, fun h => ?_⟩⟩
      · -- a packet is delivered
        have hc := of_decide_eq_true hc
        simp only at hc hi hD ⊢
        rw [pkL_len] at hc
        have hne : w.c ≠ [] := by intro e; rw [e] at hc; simp at hc
        obtain ⟨s1, s2, _⟩ := drain_step hD hne
        have e : keptAct (wC w) [.int .i64 1, .int .i64 0, .int .i64 0] = actO w ⟨1, 0, 0⟩ := by
          unfold keptAct
          rw [wOf_ok]; rfl
        rw [show keptAct _ _ = actO w ⟨1, 0, 0⟩ from e]
        exact ⟨⟨w, rfl, rfl, rfl, hD.inv, by rw [hD.all]; omega⟩, _, _, _, _, _, _, _, _, _, _, _, ⟨rfl⟩, ⟨actO w ⟨1, 0, 0⟩, i + 1⟩, ⟨by rw [wrapN (by omega)]⟩, ⟨rfl⟩, ⟨s1, by simp only; omega⟩, by simp only; omega⟩
      · have hc := of_decide_eq_false hc
        simp only at hc ⊢
        rw [pkL_len] at hc
        exact List.eq_nil_of_length_eq_zero (by omega)
      · -- each fact was fresh once
        have hlt := of_decide_eq_true hlt
        simp only at hlt hi hD hw ⊢
        rw [fcs_len] at hlt ⊢
        have hil : i < w.all.length := by omega
        have hc1 := cnt_one hD.inv.fnd (full_mem hD (List.getElem_mem hil))
        have hfl := full_len hD
        have hal := congrArg List.length hD.all
        refine ⟨⟨by omega, hlt⟩, _, _, by rw [Int.toNat_natCast]; exact take_id hil, _, ⟨by rw [tbl_miss (by decide), tbl_miss (by decide), tbl_hit]; exact cv21 (by omega)⟩, fun h => ?_, fun _ => ⟨⟨w, i + 1⟩, ⟨by rw [wrapN (by omega)]⟩, ⟨rfl⟩, ⟨hD, hw, hil⟩, by simp only; omega⟩⟩
        rw [hc1] at h; simp at h
      · simp only at hD hw hi ⊢
        have ha : w.a.l = [] := drain_end hD hw false
        have hbl : w.b.l = [] := drain_end hD hw true
        have hfl := full_len hD
        refine ⟨fun h => ?_, fun _ => ⟨fun _ => ⟨⟨by omega, by omega⟩, fun _ => ⟨⟨by omega, by omega⟩, fun _ => ⟨rfl⟩, fun h => ?_⟩, fun h => ?_⟩, fun h => ?_⟩⟩
        · rw [hD.inv.bad] at h; cases h
        · rw [fcs_len, hbl] at h; simp at h
        · rw [fcs_len, ha] at h; simp at h
        · rw [fcs_len, fcs_len, hfl] at h; simp at h
      · have h := of_decide_eq_false h
        simp only at h hi
        omega
    · have hxy' : x = y := by
        simp only [Option.some.injEq, AV.int.injEq, true_and] at hxy
        omega
      subst hxy'
      have inner : ∀ (n : StK), n.k ≤ 1 ∧ n.i ≤ (openK W n.k).length → n.k = x → decide ((n.i : Int) < ((pksL (openK W n.k)).length : Int)) = true → ∃ hi : n.i < (openK W n.k).length, RAsk (wC (wKI W n.k n.i)) (wKI W n.k n.i).all.length (wKI W n.k n.i).fresh.length ∧ PAsk (pkCw (openK W n.k)[n.i]) ∧ keptRecv (wC (wKI W n.k n.i)) (pkCw (openK W n.k)[n.i]) = wKI W n.k (n.i + 1) := fun n hn _ hlt => by
        have hlt := of_decide_eq_true hlt
        rw [pkL_len] at hlt
        have hi : n.i < (openK W n.k).length := by omega
        obtain ⟨a, b⟩ := wKI_step hI hb hn.1 hi
        exact ⟨hi, a, ⟨_, rfl, openK_pk hI hi⟩, b⟩
      have h64 := fun k => openK_le hI k
      refine ⟨by omega, fun h0 => ?_, fun h1 => ?_⟩
      · obtain rfl : x = 0 := by omega
        refine ⟨⟨by omega, by omega⟩, _, ⟨by rw [tbl_miss (by decide), tbl_hit]; exact cs22w (sd := (wK W 0).a) (by have := (hI.sd false).len; show W.a.l.length ≤ _; change W.a.l.length ≤ 64 at this; omega)⟩, ⟨⟨0, 0⟩, ⟨rfl⟩, ⟨rfl⟩, ⟨by simp, Nat.zero_le _⟩, rfl⟩, fun n hn hk => ?_⟩
        have hk : n.k = 0 := by
          simp only [Option.some.injEq, AV.int.injEq, true_and] at hk
          omega
        refine ⟨fun hlt => ?_, fun hge => ⟨1, ⟨by rw [hk]; rfl⟩, ⟨?_⟩, by omega, by omega⟩⟩
        · obtain ⟨hi, i1, i2, i3⟩ := inner n hn hk hlt
          have := h64 n.k
          refine ⟨⟨by omega, of_decide_eq_true hlt⟩, _, _, _, _, _, _, _, _, _, _, _, by rw [Int.toNat_natCast]; exact take_pkA hi, ⟨i1, i2⟩, ?_⟩
          rw [show keptRecv _ _ = wKI W n.k (n.i + 1) from i3]
          exact ⟨_, _, _, _, _, _, _, _, _, _, _, ⟨rfl⟩, ⟨n.k, n.i + 1⟩, ⟨by rw [wrapN (by omega)]⟩, ⟨rfl⟩, ⟨hn.1, hi⟩, by rw [hk]; rfl, by simp only; omega⟩
        · have hge := of_decide_eq_false hge
          rw [pkL_len] at hge
          have : n.i = (openK W n.k).length := by omega
          rw [this, wKI_end hI hb hn.1, hk]
      · obtain rfl : x = 1 := by omega
        refine ⟨⟨by omega, by omega⟩, _, ⟨by rw [tbl_miss (by decide), tbl_hit]; exact cs22w (sd := (wK W 1).b) (by
          have := (hI.sd true).len
          have e := wK_sd hI hb (k := 1) (by omega) true
          change (wK W 1).b = W.b at e
          change W.b.l.length ≤ 64 at this
          rw [e]; omega)⟩, ⟨⟨1, 0⟩, ⟨?_⟩, ⟨rfl⟩, ⟨by simp, Nat.zero_le _⟩, rfl⟩, fun n hn hk => ?_⟩
        · have e := wK_sd hI hb (k := 1) (by omega) true
          change (wK W 1).b = W.b at e
          rw [e]; rfl
        have hk : n.k = 1 := by
          simp only [Option.some.injEq, AV.int.injEq, true_and] at hk
          omega
        refine ⟨fun hlt => ?_, fun hge => ⟨2, ⟨by rw [hk]; rfl⟩, ⟨?_⟩, by omega, by omega⟩⟩
        · obtain ⟨hi, i1, i2, i3⟩ := inner n hn hk hlt
          have := h64 n.k
          refine ⟨⟨by omega, of_decide_eq_true hlt⟩, _, _, _, _, _, _, _, _, _, _, _, by rw [Int.toNat_natCast]; exact take_pkA hi, ⟨i1, i2⟩, ?_⟩
          rw [show keptRecv _ _ = wKI W n.k (n.i + 1) from i3]
          exact ⟨_, _, _, _, _, _, _, _, _, _, _, ⟨rfl⟩, ⟨n.k, n.i + 1⟩, ⟨by rw [wrapN (by omega)]⟩, ⟨rfl⟩, ⟨hn.1, hi⟩, by rw [hk]; rfl, by simp only; omega⟩
        · have hge := of_decide_eq_false hge
          rw [pkL_len] at hge
          have : n.i = (openK W n.k).length := by omega
          rw [this, wKI_end hI hb hn.1, hk]
/-- the law -/
def v4 : Spec := fun args => match args with
  | [.sl sz es .no] => if sz = 3 then (match unL unX es with
    | some _ => some (.bool true, [])
    | none => none) else none
  | _ => none
theorem unX_inv {a : AV} {x : AcI} (h : unX a = some x) : a = acA x := by
  unfold unX at h
  split at h
  · injection h with h; subst h; rfl
  · cases h
theorem ov4 (m : Int) : SpecOk PI (GI m) 4 v4 := spec_of (X := XWo) (m := []) mixedI (lO7 m) (lOi m) fun args r h => by
  unfold v4 at h
  split at h
  case h_2 => cases h
  split at h
  case isFalse => cases h
  rename_i hz
  subst hz
  split at h
  case h_2 => cases h
  rename_i l hl
  injection h with h; subst h
  obtain rfl := unL_inv (fun _ _ => unX_inv) hl
  exact ⟨_, pv4 m l⟩
theorem v4_true (l : List AcI) : v4 [.sl 3 (acsL l) .no] = some (.bool true, []) := by
  simp only [v4, if_true]
  rw [show unL unX (acsL l) = some l from unL_map unX_ok l]
end Go.Abs

namespace Go.Abs
open Go.ChangeShapes Go.WideShapes Go.ChangeAt Go.RowKit Go.Deep Go.ChangeMaps
open Go.Proofs Go.Proofs.YtpglogahncpnoaaGreat
section
variable {H : Type} {enc : TypeId × Value → H} {P : Program} {W : World}
def ElemR (P : Program) (W : World) (enc : TypeId × Value → H) (e : TypeId) {α : Type} (g : α → AV) (Q : α → DataW H → Prop) : Prop :=
  ∀ n cs x, DataW.trod enc P W 0 (fun _ => true) true n e cs = some x → ∃ a : α, Q a x.1 ∧ ∀ (j : Nat) (c : AV) (u : Value), (g a).cells[j]? = some c → cs[j]? = some u → Rep (oldE W) W c u ∧ u.oneCell' = true
theorem open_slR {t e : TypeId} {sz : Nat} {α : Type} [Inhabited α] {g : α → AV} {Q : α → DataW H → Prop} (ht : P.underlying t = some (.slice e)) (hc : P.cellsOf e = sz) (hsz : 0 < sz) (hg : ∀ a, (g a).cells.length = sz ∧ (g a).closed1 = true) (hel : ElemR P W enc e g Q)
    {v : Value} {d : DataW H} {ps : List MemPlace} (hv : ∃ A len cap, v = .slice A len cap) (h : DataW.Trod enc P W 0 (fun _ => true) true t v d ps) :
    ∃ l : List α, Rep (oldE W) W (.sl sz (l.map g) .no) v ∧ (l = [] ∨ ∃ elems spare, d = .slice elems spare ∧ elems.length = l.length ∧ ∀ (i : Nat) a x, l[i]? = some a → elems[i]? = some x → Q a x) := by
  obtain ⟨a, len, cap, rfl⟩ := hv
  obtain ⟨fuel, h⟩ := h
  rcases open_slice ht h with ⟨hcs, _⟩ | ⟨a', len', cap', m, n, D, Pl, hcs, hb, hl, hmx, hm, hx, hels⟩
  · simp [Value.cells] at hcs
    obtain ⟨rfl, rfl, rfl⟩ := hcs
    exact ⟨[], .sl sz [] .no none 0 (fun _ _ => .bool false) (by simp) (by simp [maxLen]) (.inl rfl) (by simp) (by simp) trivial (by simp) (fun _ _ => rfl), .inl rfl⟩
  · simp [Value.cells] at hcs
    obtain ⟨rfl, rfl, rfl⟩ := hcs
    have hm' : m = cap := by simpa using hm
    have hch : ∀ i, i < len → ∃ x : α × List Value, x.2.length = sz ∧ (∀ j, j < sz → W.cell? (a'.add (i * sz + j)) = x.2[j]?) ∧ Q x.1 (D i) ∧ ∀ (j : Nat) (c : AV) (u : Value), (g x.1).cells[j]? = some c → x.2[j]? = some u → Rep (oldE W) W c u ∧ u.oneCell' = true := fun i hi => by
      obtain ⟨cs, hcs, ht'⟩ := hels i (by omega)
      rw [hc] at hcs
      obtain ⟨_, hlen, hat⟩ := World.cells?_some hcs
      obtain ⟨x, hq, hx⟩ := hel n cs _ ht'
      refine ⟨(x, cs), hlen, fun j hj => ?_, hq, hx⟩
      have := hat j hj
      rw [Go.Deep.add_add] at this
      exact this
    obtain ⟨f, hf⟩ := choose_lt hch
    refine ⟨(List.range len).map fun i => (f i).1, ?_, .inr ?_⟩
    · have hlen : ((List.range len).map fun i => (f i).1).length = len := by simp
      have hln : (((List.range len).map fun i => (f i).1).map g).length = len := by simp
      have hget : ∀ (i : Nat) (e' : AV), (((List.range len).map fun i => (f i).1).map g)[i]? = some e' → i < len ∧ e' = g (f i).1 := fun i e' h => by
        have hi : i < len := by
          have := (List.getElem?_eq_some_iff.1 h).1
          simpa using this
        refine ⟨hi, ?_⟩
        simp [List.getElem?_range hi] at h
        exact h.symm
      let u : Nat → Nat → Value := fun i j => if i < len ∧ j < sz then ((f i).2[j]?).getD (.bool false) else .bool false
      have hu : ∀ i j, i < len → j < sz → (f i).2[j]? = some (u i j) := fun i j hi hj => by
        have h2 : j < (f i).2.length := by rw [(hf i hi).1]; exact hj
        simp only [u, hi, hj, and_self, if_true, List.getElem?_eq_getElem h2, Option.getD_some]
      have key := Rep.sl (E := oldE W) (w := W) sz (((List.range len).map fun i => (f i).1).map g) .no (some a') cap u (by rw [hln]; exact hl) hmx ?_ ?_ ?_ trivial ?_ ?_
      · rw [hln] at key; exact key
      · rcases Nat.eq_zero_or_pos len with h0 | h0
        · left; subst h0; rfl
        · right
          have h1 := (hf 0 h0).2.1 0 hsz
          rw [hu 0 0 h0 hsz] at h1
          have hadd : a'.add (0 * sz + 0) = a' := by unfold Addr.add; simp
          rw [hadd] at h1
          have hp := addr_plain h1
          refine ⟨a'.block, a'.off, by rw [← hp], fun i e' j c hi hj => ?_⟩
          obtain ⟨hlt, rfl⟩ := hget i e' hi
          have hjs : j < sz := by
            have := (List.getElem?_eq_some_iff.1 hj).1
            rw [(hg _).1] at this; exact this
          have h2 := (hf i hlt).2.1 j hjs
          rw [hu i j hlt hjs, hp, addp] at h2
          have e : a'.off + i * sz + j = a'.off + (i * sz + j) := by omega
          refine ⟨cell_lt h1, by rw [e]; exact h2⟩
      · intro e' he
        obtain ⟨x, hx, rfl⟩ := List.mem_map.1 he
        exact (hg x).1
      · intro e' he
        obtain ⟨x, hx, rfl⟩ := List.mem_map.1 he
        exact (hg x).2
      · intro i e' j c hi hj
        obtain ⟨hlt, rfl⟩ := hget i e' hi
        have hjs : j < sz := by
          have := (List.getElem?_eq_some_iff.1 hj).1
          rw [(hg _).1] at this; exact this
        exact ((hf i hlt).2.2.2 j c (u i j) hj (hu i j hlt hjs)).1
      · intro i j
        by_cases hij : i < len ∧ j < sz
        · have hjs : j < (g (f i).1).cells.length := by rw [(hg _).1]; exact hij.2
          exact ((hf i hij.1).2.2.2 j _ (u i j) (List.getElem?_eq_getElem hjs) (hu i j hij.1 hij.2)).2
        · simp only [u, if_neg hij]; rfl
    · have hx1 := congrArg Prod.fst hx
      simp only at hx1
      refine ⟨_, _, hx1, by simp, fun i a x hi hxi => ?_⟩
      have hlt : i < len := by
        have := (List.getElem?_eq_some_iff.1 hi).1
        simpa using this
      simp [List.getElem?_range hlt] at hi hxi
      subst hi; subst hxi
      exact (hf i hlt).2.2.1

/-! cells that read so -/
def CellsAre (W : World) (l : List AV) (cs : List Value) : Prop :=
  l.length = cs.length ∧ ∀ (j : Nat) (c : AV) (u : Value), l[j]? = some c → cs[j]? = some u → Rep (oldE W) W c u ∧ u.oneCell' = true
theorem CellsAre.one {c : AV} {u : Value} (h : Rep (oldE W) W c u) (h1 : u.oneCell' = true) : CellsAre W [c] [u] := ⟨rfl, fun j c' u' hc hu => by
  match j, hc, hu with
  | 0, hc, hu => simp at hc hu; subst hc; subst hu; exact ⟨h, h1⟩⟩
theorem CellsAre.append {l r : List AV} {cs ds : List Value} (h : CellsAre W l cs) (k : CellsAre W r ds) : CellsAre W (l ++ r) (cs ++ ds) := by
  refine ⟨by simp [h.1, k.1], fun j c u hc hu => ?_⟩
  rcases Nat.lt_or_ge j l.length with hj | hj
  · rw [List.getElem?_append_left hj] at hc
    rw [List.getElem?_append_left (by rw [← h.1]; exact hj)] at hu
    exact h.2 j c u hc hu
  · rw [List.getElem?_append_right hj] at hc
    rw [List.getElem?_append_right (by rw [← h.1]; exact hj), ← h.1] at hu
    exact k.2 _ c u hc hu
/-- a struct's cells, field behind field -/
theorem CellsAre.next {l r : List AV} {cs : List Value} {o s p : Nat} (h : CellsAre W l ((cs.drop o).take s)) (hp : p = o + s) (k : CellsAre W r (cs.drop p)) : CellsAre W (l ++ r) (cs.drop o) := by
  subst hp
  have := h.append k
  rwa [← List.drop_drop, List.take_append_drop] at this
theorem CellsAre.last {l : List AV} {cs : List Value} {o s : Nat} (h : CellsAre W l ((cs.drop o).take s)) (hs : cs.length = o + s) : CellsAre W l (cs.drop o) := by
  rwa [List.take_of_length_le (by rw [List.length_drop]; omega)] at h
/-- what is read of a type -/
def ReadsAs (P : Program) (W : World) (enc : TypeId × Value → H) (t : TypeId) {α : Type} (g : α → List AV) (Q : α → Nat → Prop) : Prop :=
  ∀ n cs x, DataW.trod enc P W 0 (fun _ => true) true n t cs = some x → ∃ a : α, Q a (Rows.uptoBulk x.1) ∧ CellsAre W (g a) cs
theorem reads_int {t : TypeId} (ht : P.underlying t = some (.int .i64)) : ReadsAs P W enc t (fun n : Int => [.int .i64 n]) (fun n _ => -9223372036854775808 ≤ n ∧ n ≤ 9223372036854775807) := by
  intro n cs x h
  obtain ⟨k, rfl, _, hw⟩ := DataW.trod_int ht h
  have := int_rng hw
  exact ⟨k, ⟨this.1, by omega⟩, .one (.int _ _) rfl⟩
namespace Bulks
theorem one_le (d : DataW H) : 1 ≤ Rows.uptoBulk d := by
  cases d with
  | lit l => cases l <;> simp [Rows.uptoBulk]
  | nil => simp [Rows.uptoBulk]
  | ptr d => simp [Rows.uptoBulk]
  | slice elems spare => simp [Rows.uptoBulk]
  | agg parts => simp [Rows.uptoBulk]
  | iface t d => simp [Rows.uptoBulk]
  | map entries => simp [Rows.uptoBulk]
  | held h => simp [Rows.uptoBulk]
theorem part_le {d : DataW H} {l : List (DataW H)} (h : d ∈ l) : Rows.uptoBulk d ≤ Rows.uptoBulkAll l := by
  induction l with
  | nil => cases h
  | cons x r ih =>
    simp only [Rows.uptoBulkAll]
    cases List.mem_cons.1 h with
    | inl e => subst e; omega
    | inr e => have := ih e; omega
theorem length_le (l : List (DataW H)) : l.length ≤ Rows.uptoBulkAll l := by
  induction l with
  | nil => simp [Rows.uptoBulkAll]
  | cons x r ih => have := one_le x; simp only [Rows.uptoBulkAll, List.length_cons]; omega
theorem bound {l : List (DataW H)} (hk : Rows.uptoSmall H l = true) : Rows.uptoBulkAll l ≤ 1048576 := by
  simpa [Rows.uptoSmall] using hk
theorem field_le {xs : List (DataW H × List MemPlace)} {i : Nat} {y : DataW H × List MemPlace} (h : xs[i]? = some y) : Rows.uptoBulk y.1 ≤ Rows.uptoBulk (DataW.agg (xs.map (·.1))) := by
  have := part_le (List.mem_map_of_mem (f := fun y : DataW H × List MemPlace => y.1) (List.mem_of_getElem? h))
  simp only [Rows.uptoBulk]
  omega
end Bulks
theorem reads_slice {t e : TypeId} {sz : Nat} {α : Type} [Inhabited α] {g : α → AV} {Q : α → Nat → Prop} (ht : P.underlying t = some (.slice e)) (hc : P.cellsOf e = sz) (hsz : 0 < sz) (hg : ∀ a, (g a).cells.length = sz ∧ (g a).closed1 = true) (hel : ReadsAs P W enc e (fun a => (g a).cells) Q)
    (hQ : ∀ a n m, Q a n → n ≤ m → Q a m) : ReadsAs P W enc t (fun l : List α => [.sl sz (l.map g) .no]) (fun l n => l.length ≤ n ∧ ∀ a ∈ l, Q a n) := by
  intro n cs x h
  have hs : ∃ A len cap, cs = [.slice A len cap] := by
    rcases open_slice ht h with ⟨hcs, _⟩ | ⟨a', len', cap', m, n, D, Pl, hcs, _⟩
    · exact ⟨_, _, _, hcs⟩
    · exact ⟨_, _, _, hcs⟩
  obtain ⟨A, len, cap, rfl⟩ := hs
  have hel' : ElemR P W enc e g (fun a d => Q a (Rows.uptoBulk d)) := fun n cs x h => by
    obtain ⟨a, h1, h2⟩ := hel n cs x h
    exact ⟨a, h1, h2.2⟩
  obtain ⟨l, hl, hb⟩ := open_slR ht hc hsz hg hel' ⟨A, len, cap, rfl⟩ (d := x.1) (ps := x.2) ⟨n, by simpa [Value.cells] using h⟩
  refine ⟨l, ?_, .one hl rfl⟩
  rcases hb with rfl | ⟨elems, spare, he, hlen, hq⟩
  · exact ⟨Nat.zero_le _, fun a ha => by cases ha⟩
  · rw [he]
    have hE : Rows.uptoBulk (DataW.slice elems spare) = Rows.uptoBulkAll elems + Rows.uptoBulkAll spare + 1 := by simp only [Rows.uptoBulk]
    rw [hE]
    refine ⟨by have := Bulks.length_le elems; omega, fun a ha => ?_⟩
    obtain ⟨i, hi⟩ := List.mem_iff_getElem?.1 ha
    have hlt : i < elems.length := by rw [hlen]; exact (List.getElem?_eq_some_iff.1 hi).1
    have hx := List.getElem?_eq_getElem hlt
    refine hQ a _ _ (hq i a _ hi hx) ?_
    have := Bulks.part_le (List.mem_of_getElem? hx)
    omega
/-! cells of any type -/
end
end Go.Abs

namespace Go.Abs
open Go.ChangeShapes Go.WideShapes Go.ChangeAt Go.RowKit Go.Deep Go.ChangeMaps
open Go.Proofs Go.Proofs.YtpglogahncpnoaaGreat
section
variable {H : Type} {enc : TypeId × Value → H} {P : Program} {W : World}
theorem fieldR {t : TypeId} {α : Type} {g : α → List AV} {Q : α → Nat → Prop} (hr : ReadsAs P W enc t g Q) (hQ : ∀ a n m, Q a n → n ≤ m → Q a m) {fs : Array Field} {xs : List (DataW H × List MemPlace)} {n : Nat} {cs : List Value} {x : DataW H × List MemPlace}
    (hx : x = (.agg (xs.map (·.1)), xs.flatMap (·.2))) (hxl : xs.length = fs.size)
    (hf : ∀ (i : Nat) (f : Field), fs[i]? = some f → DataW.trod enc P W 0 (fun _ => true) true n f.type ((cs.drop f.offset).take (P.cellsOf f.type)) = xs[i]?)
    (i : Nat) {f : Field} (hi : fs[i]? = some f) (ht : f.type = t) {o s : Nat} (ho : f.offset = o) (hs : P.cellsOf t = s) : ∃ a, Q a (Rows.uptoBulk x.1) ∧ CellsAre W (g a) ((cs.drop o).take s) := by
  have h := hf i f hi
  rw [ht, ho, hs] at h
  have hil : i < xs.length := by rw [hxl]; exact (Array.getElem?_eq_some_iff.1 hi).1
  have hg := List.getElem?_eq_getElem hil
  rw [hg] at h
  obtain ⟨a, h1, h2⟩ := hr n _ _ h
  refine ⟨a, hQ a _ _ h1 ?_, h2⟩
  rw [hx]
  exact Bulks.field_le hg
end
section
variable {H : Type} {enc : TypeId × Value → H} {W : World}
theorem cz3 : PI.cellsOf 3 = 1 := by kernel_rfl
theorem cz61 : PI.cellsOf 61 = 3 := by kernel_rfl
theorem st61 : ∃ f0 f1 f2 : Field, PI.underlying 61 = some (.struct #[f0, f1, f2]) ∧ (f0.type = 3 ∧ f0.offset = 0) ∧ (f1.type = 3 ∧ f1.offset = 1) ∧ (f2.type = 3 ∧ f2.offset = 2) := ⟨_, _, _, Tryz.underlying61, ⟨rfl, rfl⟩, ⟨rfl, rfl⟩, ⟨rfl, rfl⟩⟩
def rngI (n : Int) : Prop := -9223372036854775808 ≤ n ∧ n ≤ 9223372036854775807
theorem rInt : ReadsAs PI W enc 3 (fun n : Int => [.int .i64 n]) (fun n _ => rngI n) := reads_int Tryz.underlying3
theorem rAct : ReadsAs PI W enc 61 (fun x : AcI => (acA x).cells) (fun _ _ => True) := by
  intro n cs x h
  obtain ⟨f0, f1, f2, hu, ⟨t0, o0⟩, ⟨t1, o1⟩, ⟨t2, o2⟩⟩ := st61
  obtain ⟨xs, m, _, hx, hlen, hxl, hf⟩ := DataW.trod_struct hu h
  obtain ⟨a0, q0, c0⟩ := fieldR rInt (fun _ _ _ h _ => h) hx hxl hf 0 rfl t0 o0 cz3
  obtain ⟨a1, q1, c1⟩ := fieldR rInt (fun _ _ _ h _ => h) hx hxl hf 1 rfl t1 o1 cz3
  obtain ⟨a2, q2, c2⟩ := fieldR rInt (fun _ _ _ h _ => h) hx hxl hf 2 rfl t2 o2 cz3
  exact ⟨⟨a0, a1, a2⟩, trivial, c0.next rfl (c1.next rfl (c2.last (by rw [hlen]; exact cz61)))⟩
theorem rActs : ReadsAs PI W enc 46 (fun l : List AcI => [.sl 3 (acsL l) .no]) (fun l n => l.length ≤ n ∧ ∀ f ∈ l, True) :=
  reads_slice (g := acA) Tryz.underlying46 cz61 (by omega) (fun _ => ⟨rfl, rfl⟩) rAct (fun _ _ _ h _ => h)
/-! arguments -/
/-- an argument of one cell -/
theorem open_one {t : TypeId} {α : Type} {g : α → AV} {Q : α → Nat → Prop} (hr : ReadsAs PI W enc t (fun a => [g a]) Q) {v : Value} {d : DataW H} {ps : List MemPlace} (h1 : ∃ u, v.cells = #[u] ∧ v = u) (h : DataW.Trod enc PI W 0 (fun _ => true) true t v d ps) : ∃ a, Rep (oldE W) W (g a) v ∧ Q a (Rows.uptoBulk d) := by
  obtain ⟨u, hu, rfl⟩ := h1
  obtain ⟨fuel, h⟩ := h
  rw [hu] at h
  obtain ⟨a, q, c⟩ := hr fuel _ _ h
  exact ⟨a, (c.2 0 _ _ rfl rfl).1, q⟩
end
end Go.Abs

namespace Go.Abs
open Go.ChangeShapes Go.WideShapes Go.ChangeAt Go.RowKit Go.Deep Go.ChangeMaps
open Go.Proofs Go.Proofs.YtpglogahncpnoaaGreat
section
variable {W : World}
theorem nGlobI : 0 < PI.globals.size := by
  have : decide (0 < PI.globals.size) = true := by kernel_rfl
  exact of_decide_eq_true this
theorem globI (hsh : W.ShapedOpen PI) {m : Int} (hm : W.cell? ⟨0, 0, none⟩ = some (.int .i64 m)) : GlobOk (GI m) (oldE W) W := by
  refine globA (fun g e hg => ?_) fun g e hg => ?_
  · match g, hg with
    | 0, hg =>
      simp only [GI, Option.some.injEq] at hg
      subst hg
      refine ⟨rfl, fun j c hj => ?_⟩
      match j, hj with
      | 0, hj => simp [AV.cells] at hj; subst hj; exact ⟨_, hm, .int _ _, rfl⟩
      | j + 1, hj => simp [AV.cells] at hj
    | g + 1, hg => cases hg
  · match g, hg with
    | 0, hg =>
      simp only [GI, Option.some.injEq] at hg
      subst hg
      exact glob_size hsh (n := 1) nGlobI (by kernel_rfl)
    | g + 1, hg => cases hg
end
theorem one_slice {P : Program} {W : World} {t e : TypeId} {v : Value} {b : Nat} (ht : P.underlying t = some (.slice e)) (h : Value.okWide P W .any b t v) : ∃ u, v.cells = #[u] ∧ v = u := by
  obtain ⟨A, n, c, rfl⟩ := okWide_slice ht h
  exact ⟨_, rfl, rfl⟩
theorem witness_row_shaped {H : Type} {enc : TypeId × Value → H} {C : Checked} {os : Os} {f : FuncId} {fn : Func} {s : OpenSpec} {conds : List PathCond} {apart : Bool} {laid : List (String × DataW Unit)} (w0 : World) (args : Array Value) (hos : w0.os = os)
    (hsh : (w0.forCall (fun _ _ => 0) ⟨#[], args, []⟩).Shaped C.prog)
    (hok : Input.okWideB C.prog (w0.forCall (fun _ _ => 0) ⟨#[], args, []⟩) f ⟨#[], args, []⟩ = true)
    (hrow : s.preRow enc C.prog fn conds apart laid (w0.forCall (fun _ _ => 0) ⟨#[], args, []⟩).memory args) :
    ∃ (w : World) (tape : Tape) (i : Input), w.os = os ∧ (w.forCall tape i).Shaped C.prog ∧ i.vars = [] ∧ Input.okWide C.prog (w.forCall tape i) .any w.heap.size f i ∧
      s.preRow enc C.prog fn conds apart laid (w.forCall tape i).memory i.args ∧ ({} : Assume).holds C.prog (lone (Frame.enter C.prog f i.args .normal) [] (w.forCall tape i)) :=
  ⟨w0, fun _ _ => 0, ⟨#[], args, []⟩, hos, hsh, (Input.okWide_of_okWideB (base := 0) hok).1, (Input.okWide_of_okWideB hok).2, hrow, by
    simp only [Assume.holds]
    exact ⟨by simp, by simp, fun _ => Modest.zero, by simp, by simp⟩⟩

end Go.Abs
