/- Own texts, part 10. -/
import Derived.Test.YtpglogahncpnoaaPart8
import Derived.Test.YtpglogahncpnoaaPart9
import Derived.Test.YtpglogahncpnoaaPart3
import Derived.Test.YtpglogahncpnoaaRows
import Derived.Test.YtpglogahncpnoaaPart7
import Derived.LaidLaws
import Derived.Lay
import Derived.Shelf.Lay

namespace Go.Abs
open Go.Proofs Go.RowKit
theorem p6 (m : Int) (l : List Int) (turn : Int) (hl2 : l.length ≤ 2000000) : PureOk PI (GI m) (XO6 l) (tbl t6) (itbl []) (a6 l turn) [] 6 [.sl 1 (intsA l) .no, .int .i64 turn] (.bool true, []) := by
  constructor
  rw [w6]
  have hll : (intsA l).length = l.length := List.length_map ..
  rw [hll]
  refine ⟨⟨rfl⟩, fun _ => ⟨fun _ => ⟨rfl⟩, fun h60 => ⟨fun _ => ⟨rfl⟩, fun h0 => ⟨fun _ => ⟨rfl⟩, fun ht0 => ⟨fun _ => ⟨rfl⟩, fun ht1 => ?_⟩⟩⟩⟩, nofun⟩
  have h60 := of_decide_eq_false h60
  have ht0 := of_decide_eq_false ht0
  have ht1 := of_decide_eq_false ht1
  have h0 : ¬ (l.length : Int) = 0 := by simpa using h0
  obtain ⟨P, hP⟩ : ∃ P, numP l = P := ⟨_, rfl⟩
  have hPl : P.length = l.length := by rw [← hP, numP_len]
  have hPok : OkPs P := hP ▸ numP_ok (by omega)
  have happ : ∀ p ∈ P, p.1 = appN := fun p hp => by
    rw [← hP] at hp
    obtain ⟨x, _, rfl⟩ := List.mem_map.1 hp
    rfl
  have hPne : P ≠ [] := fun e => by rw [e] at hPl; simp at hPl; omega
  have h17 : tbl t6 17 [.sl 1 (intsA l) .no] = some (.sl 11 (pksL (seL P)) (.tok 0), [(l.length, 35)]) := by
    rw [tbl_miss (by decide), tbl_hit]
    simp only [s17]
    rw [if_pos ⟨trivial, by rw [hll]; omega⟩, show unL unIn (intsA l) = some l from unL_map (f := unIn) (g := AV.int .i64) (fun _ => rfl) l]
    simp only [hP]
  rw [hP]
  have hpl : ∀ ps : Arr, (pksL (seL ps)).length = ps.length := fun ps => by rw [pksL_len, seL_len]
  obtain ⟨k, hk⟩ : ∃ k : Nat, turn = k := ⟨turn.toNat, by omega⟩
  subst hk
  have hkl : k < P.length := by omega
  have h18 : ∀ (ps : Arr) (o : Own), (∀ p, p ∈ P ↔ p ∈ ps) → ps.length ≤ 200 → CallIs (tbl t6 18 [.agg [.sl 0 [] o], .sl 11 (pksL (seL ps)) .no]) (.tup [.agg [.sl 3 (bxsL (allS P)) .no], .int .i64 (cntS P), .bool true]) [] := fun ps o h h2 => ⟨by
    rw [tbl_miss (by decide), tbl_miss (by decide)]; exact c18x hPok h h2⟩
  have rM : RcvP (allS P) := allS_ok P [] rcv_nil
  have h13 : CallIs (tbl t6 13 [.agg [.sl 3 (bxsL (allS P)) .no], .agg [.sl 3 (bxsL (allS P)) .no]]) (.bool true) [] := ⟨by
    rw [tbl_miss (by decide), tbl_miss (by decide), tbl_miss (by decide), tbl_miss (by decide)]; exact c13x rM⟩
  obtain ⟨b, hb, hbs, hb1, hb2⟩ := one_box hPok happ hPne
  have hmr : ∀ p, p ∈ P ↔ p ∈ P.reverse ++ P := fun p => by simp
  refine ⟨pksL (seL P), ⟨by rw [h17, hpl, hPl]⟩, ⟨0, ⟨?_⟩, ⟨by rw [hpl, hPl]; rfl⟩, Nat.zero_le _, trivial⟩, fun x hx => ⟨fun hlt => ?_, fun hge => ?_⟩⟩
  · rw [hpl, hPl, wrap64_in (by omega) (by omega)]
    simp
  · have hlt := of_decide_eq_true hlt
    have hlt : (0 : Int) ≤ (l.length : Int) - 1 - x := hlt
    have hxl : x < l.length := by omega
    have hidx : ((l.length : Int) - 1 - x).toNat = l.length - 1 - x := by omega
    have hrev : P.reverse.length = l.length := by rw [List.length_reverse, hPl]
    have hrx : P.reverse[x]? = some (P[l.length - 1 - x]'(by omega)) := by
      rw [List.getElem?_reverse (by omega), List.getElem?_eq_getElem (by omega)]
      congr 2
      omega
    have hrl : ∀ n, n ≤ l.length → (P.reverse.take n).length = n := fun n hn => by rw [List.length_take]; omega
    refine ⟨⟨by omega, by rw [hpl, hPl]; omega⟩, _, _, _, _, _, _, _, _, _, _, _, by rw [hidx]; exact take_se (List.getElem?_eq_getElem (by omega)), .inl rfl, by rw [hpl, hrl _ hx]; omega, by rw [hpl], x + 1, ⟨?_⟩, ⟨?_⟩, hxl, by omega⟩
    · rw [wrap64_in (by omega) (by omega), show (l.length : Int) - 1 - x - 1 = (l.length : Int) - 1 - ((x + 1 : Nat) : Int) by omega]
      obtain ⟨hxr, hxe⟩ := List.getElem?_eq_some_iff.1 hrx
      rw [List.take_succ_eq_append_getElem hxr, hxe]
      simp only [pksL, seL, List.map_append, List.map_cons, List.map_nil]
      rfl
    · rw [hpl, hrl _ hx, hrl _ hxl]
  · have hge := of_decide_eq_false hge
    have hge : ¬ (0 : Int) ≤ (l.length : Int) - 1 - x := hge
    have hxl : x = l.length := by omega
    subst hxl
    have hrt : P.reverse.take l.length = P.reverse := List.take_of_length_le (by rw [List.length_reverse, hPl]; exact Nat.le_refl _)
    have hrl : P.reverse.length = l.length := by rw [List.length_reverse, hPl]
    rw [hrt, hrl, Int.toNat_natCast]
    have hDT : List.drop k (List.take (pksL (seL P)).length (pksL (seL P))) = pksL (seL (P.drop k)) := by rw [List.take_length, ← List.map_drop, ← List.map_drop]
    have hTT : List.drop 0 (List.take k (pksL (seL P))) = pksL (seL (P.take k)) := by rw [List.drop_zero, ← List.map_take, ← List.map_take]
    rw [hDT, hTT]
    have hDne : pksL (seL (P.drop k)) ≠ [] := fun e => by
      have := congrArg List.length e
      rw [hpl, List.length_drop] at this
      simp at this; omega
    have hrot : [] ++ pksL (seL (P.drop k)) ++ pksL (seL (P.take k)) = pksL (seL (rotA P k)) := by simp [rotA, pksL, seL]
    have hrotl : (rotA P k).length ≤ 200 := by unfold rotA; rw [List.length_append, List.length_drop, List.length_take]; omega
    have hrev2 : pksL (seL P.reverse) ++ pksL (seL P) = pksL (seL (P.reverse ++ P)) := by simp [pksL, seL]
    have hsize : (([] ++ pksL (seL (P.drop k))).length + (pksL (seL (P.take k))).length) * 137 ≤ 70368744177664 := by
      rw [List.nil_append, hpl, hpl, List.length_drop, List.length_take]; omega
    have hd0 : (0 + (pksL (seL (P.drop k))).length) * 137 ≤ 70368744177664 := by rw [hpl, List.length_drop]; omega
    have hlp : (pksL (seL P)).length = l.length := by rw [hpl, hPl]
    have hlr : (pksL (seL P.reverse)).length = l.length := by rw [hpl, hrl]
    rw [hrot, hrev2, hlp, hlr]
    refine ⟨h18 P _ (fun _ => Iff.rfl) (by omega), fun _ => ⟨⟨by omega, ⟨by omega, Nat.le_refl _⟩, .inl rfl, ?_, ?_⟩, fun _ _ _ => ⟨⟨.inl rfl, by omega, rfl, h18 _ _ hmr (by rw [List.length_append, hrl, hPl]; omega), fun _ => ⟨(), ⟨rfl⟩, ⟨rfl⟩, trivial, trivial⟩, nofun⟩, fun _ _ _ => ?_⟩⟩, nofun⟩
    · exact fun _ => ⟨.inl rfl, hd0, fun h => absurd h hDne, fun _ => ⟨by omega, ⟨Nat.zero_le _, by omega⟩, .inl rfl, fun _ => ⟨.inl rfl, hsize, by simp, h18 _ _ (mem_rot P k) hrotl, fun _ => ⟨(), ⟨rfl⟩, ⟨rfl⟩, trivial, trivial⟩, nofun⟩, fun _ => ⟨.inl rfl, hsize, by simp, h18 _ _ (mem_rot P k) hrotl, fun _ => ⟨(), ⟨rfl⟩, ⟨rfl⟩, trivial, trivial⟩, nofun⟩⟩⟩
    · exact fun _ => ⟨.inl rfl, hd0, fun h => absurd h hDne, fun _ => ⟨by omega, ⟨Nat.zero_le _, by omega⟩, .inl rfl, fun _ => ⟨.inl rfl, hsize, by simp, h18 _ _ (mem_rot P k) hrotl, fun _ => ⟨(), ⟨rfl⟩, ⟨rfl⟩, trivial, trivial⟩, nofun⟩, fun _ => ⟨.inl rfl, hsize, by simp, h18 _ _ (mem_rot P k) hrotl, fun _ => ⟨(), ⟨rfl⟩, ⟨rfl⟩, trivial, trivial⟩, nofun⟩⟩⟩
    · have hcc : ((cntS P : Int) == (cntS P : Int)) = true := by simp
      have h10 : CallIs (tbl t6 10 [.agg [.sl 3 (bxsL (allS P)) .no], pkA (sentP P[k])]) (.tup [.agg [.sl 3 (bxsL (allS P)) .no], .bool false, .agg [.str appN, .bool true, .int .i64 b.next, .str [], .int .i64 0, .int .i64 0, .int .i64 0, .str [], .str [], .int .i64 0, .sl 3 [] .no], .int .i64 0]) [] := ⟨by
        rw [tbl_miss (by decide), tbl_miss (by decide), tbl_miss (by decide)]; exact c10x hPok hkl happ hb⟩
      have hlb : (bxsL (allS P)).length = 1 := by rw [hb]; rfl
      have htk : takeAt PI 3 (bxsL (allS P)) 0 1 = some (.int .i64 b.next) := by
        rw [hb]
        simp only [takeAt, List.map_cons, List.getElem?_cons_zero, takeA, agg3i, size3i]
        rfl
      have h19 := c19x (l := []) hPok happ hb1 hb2
      refine ⟨⟨by omega, by omega⟩, _, _, _, _, _, _, _, _, _, _, _, take_se (List.getElem?_eq_getElem hkl), b.next, h10, nofun, fun _ => ⟨fun h => ?_, fun _ => ⟨fun _ => ⟨fun _ => ⟨h13, fun _ => ⟨h13, fun _ => ⟨fun _ => ⟨h13, fun _ => ⟨⟨Int.le_refl _, by rw [hlb]; omega⟩, b.next, htk, fun _ => ⟨.inl rfl, Nat.le_trans (show (l.length + 1) * 137 ≤ 100000 by omega) (by decide), rfl, ⟨?_⟩, fun _ => ⟨rfl⟩, nofun⟩, fun h => ?_⟩, nofun⟩, nofun⟩, nofun⟩, nofun⟩, fun h => ?_⟩, fun h => ?_⟩⟩⟩
      · rw [hlb] at h; cases h
      · rw [tbl_miss (by decide), tbl_miss (by decide), tbl_miss (by decide), tbl_miss (by decide), tbl_miss (by decide)]
        exact h19
      · simp at h
      · rw [hcc] at h; cases h
      · rw [hcc] at h; cases h
def s6L : Spec := fun args => match args with
  | [.sl sz es .no, .int .i64 _] => if sz = 1 ∧ es.length ≤ 2000000 then (match unL unIn es with
    | some _ => some (.bool true, [])
    | none => none) else none
  | _ => none
theorem t6_ok (m : Int) : CalleeOk PI (GI m) (tbl t6) := tbl_cons (o7 m) (tbl_cons (o17 m) (tbl_cons ((o18 m).wk) (tbl_cons (o10w m) (tbl_cons (o13 m) (tbl_cons ((o19 m).wk) tbl_nil)))))
theorem o6L (m : Int) : SpecOk PI (GI m) 6 s6L := spec_of' (m := []) mixedI fun args r h => by
  unfold s6L at h
  split at h
  case h_2 => cases h
  split at h
  case isFalse => cases h
  rename_i hz
  obtain ⟨rfl, h1⟩ := hz
  split at h
  case h_2 => cases h
  rename_i l hl
  obtain rfl : _ = intsA l := unL_inv unIn_inv hl
  injection h with h; subst h
  rw [List.length_map] at h1
  exact ⟨XO6 l, tbl t6, itbl [], a6 l _, t6_ok m, itbl_nil, p6 m l _ h1⟩
theorem s6L_true (l : List Int) (turn : Int) (h : l.length ≤ 1048576) : s6L [.sl 1 (intsA l) .no, .int .i64 turn] = some (.bool true, []) := by
  simp only [s6L]
  rw [if_pos ⟨trivial, by rw [List.length_map]; omega⟩, show unL unIn (intsA l) = some l from unL_map (f := unIn) (g := AV.int .i64) (fun _ => rfl) l]
end Go.Abs

namespace Go.Abs
open Go.ChangeShapes Go.WideShapes Go.ChangeAt Go.RowKit Go.Deep Go.ChangeMaps
open Go.Proofs Go.Proofs.Ytpglogahncpnoaa
section
variable {H : Type} {enc : TypeId × Value → H} {P : Program} {W : World}
def ElemR (P : Program) (W : World) (enc : TypeId × Value → H) (e : TypeId) {α : Type} (g : α → AV) (Q : α → DataW H → Prop) : Prop :=
  ∀ n cs x, DataW.trod enc P W 0 (fun _ => true) true n e cs = some x → ∃ a : α, Q a x.1 ∧ ∀ (j : Nat) (c : AV) (u : Value), (g a).cells[j]? = some c → cs[j]? = some u → Rep (oldE W) W c u ∧ u.oneCell' = true
theorem open_slR {t e : TypeId} {sz : Nat} {α : Type} [Inhabited α] {g : α → AV} {Q : α → DataW H → Prop} (ht : P.underlying t = some (.slice e)) (hc : P.cellsOf e = sz) (hsz : 0 < sz) (hg : ∀ a, (g a).cells.length = sz ∧ (g a).closed1 = true) (hel : ElemR P W enc e g Q)
    {v : Value} {d : DataW H} {ps : List MemPlace} (hv : ∃ A len cap, v = .slice A len cap) (h : DataW.Trod enc P W 0 (fun _ => true) true t v d ps) :
    ∃ l : List α, Rep (oldE W) W (.sl sz (l.map g) .no) v ∧ (l = [] ∨ ∃ elems spare, d = .slice elems spare ∧ elems.length = l.length ∧ ∀ (i : Nat) a x, l[i]? = some a → elems[i]? = some x → Q a x) := by
  obtain ⟨a, len, cap, rfl⟩ := hv
  obtain ⟨fuel, h⟩ := h
  rcases open_slice ht h with ⟨hcs, _⟩ | ⟨a', len', cap', m, n, D, Pl, hcs, hb, hl, hmx, hm, hx, hels⟩
  · simp [Value.cells] at hcs
    obtain ⟨rfl, rfl, rfl⟩ := hcs
    exact ⟨[], .sl sz [] .no none 0 (fun _ _ => .bool false) (by simp) (by simp [maxLen]) (.inl rfl) (by simp) (by simp) trivial (by simp) (fun _ _ => rfl), .inl rfl⟩
  · simp [Value.cells] at hcs
    obtain ⟨rfl, rfl, rfl⟩ := hcs
    have hm' : m = cap := by simpa using hm
    have hch : ∀ i, i < len → ∃ x : α × List Value, x.2.length = sz ∧ (∀ j, j < sz → W.cell? (a'.add (i * sz + j)) = x.2[j]?) ∧ Q x.1 (D i) ∧ ∀ (j : Nat) (c : AV) (u : Value), (g x.1).cells[j]? = some c → x.2[j]? = some u → Rep (oldE W) W c u ∧ u.oneCell' = true := fun i hi => by
      obtain ⟨cs, hcs, ht'⟩ := hels i (by omega)
      rw [hc] at hcs
      obtain ⟨_, hlen, hat⟩ := World.cells?_some hcs
      obtain ⟨x, hq, hx⟩ := hel n cs _ ht'
      refine ⟨(x, cs), hlen, fun j hj => ?_, hq, hx⟩
      have := hat j hj
      rw [Go.Deep.add_add] at this
      exact this
    obtain ⟨f, hf⟩ := choose_lt hch
    refine ⟨(List.range len).map fun i => (f i).1, ?_, .inr ?_⟩
    · have hlen : ((List.range len).map fun i => (f i).1).length = len := by simp
      have hln : (((List.range len).map fun i => (f i).1).map g).length = len := by simp
      have hget : ∀ (i : Nat) (e' : AV), (((List.range len).map fun i => (f i).1).map g)[i]? = some e' → i < len ∧ e' = g (f i).1 := fun i e' h => by
        have hi : i < len := by
          have := (List.getElem?_eq_some_iff.1 h).1
          simpa using this
        refine ⟨hi, ?_⟩
        simp [List.getElem?_range hi] at h
        exact h.symm
      let u : Nat → Nat → Value := fun i j => if i < len ∧ j < sz then ((f i).2[j]?).getD (.bool false) else .bool false
      have hu : ∀ i j, i < len → j < sz → (f i).2[j]? = some (u i j) := fun i j hi hj => by
        have h2 : j < (f i).2.length := by rw [(hf i hi).1]; exact hj
        simp only [u, hi, hj, and_self, if_true, List.getElem?_eq_getElem h2, Option.getD_some]
      have key := Rep.sl (E := oldE W) (w := W) sz (((List.range len).map fun i => (f i).1).map g) .no (some a') cap u (by rw [hln]; exact hl) hmx ?_ ?_ ?_ trivial ?_ ?_
      · rw [hln] at key; exact key
      · rcases Nat.eq_zero_or_pos len with h0 | h0
        · left; subst h0; rfl
        · right
          have h1 := (hf 0 h0).2.1 0 hsz
          rw [hu 0 0 h0 hsz] at h1
          have hadd : a'.add (0 * sz + 0) = a' := by unfold Addr.add; simp
          rw [hadd] at h1
          have hp := addr_plain h1
          refine ⟨a'.block, a'.off, by rw [← hp], fun i e' j c hi hj => ?_⟩
          obtain ⟨hlt, rfl⟩ := hget i e' hi
          have hjs : j < sz := by
            have := (List.getElem?_eq_some_iff.1 hj).1
            rw [(hg _).1] at this; exact this
          have h2 := (hf i hlt).2.1 j hjs
          rw [hu i j hlt hjs, hp, addp] at h2
          have e : a'.off + i * sz + j = a'.off + (i * sz + j) := by omega
          refine ⟨cell_lt h1, by rw [e]; exact h2⟩
      · intro e' he
        obtain ⟨x, hx, rfl⟩ := List.mem_map.1 he
        exact (hg x).1
      · intro e' he
        obtain ⟨x, hx, rfl⟩ := List.mem_map.1 he
        exact (hg x).2
      · intro i e' j c hi hj
        obtain ⟨hlt, rfl⟩ := hget i e' hi
        have hjs : j < sz := by
          have := (List.getElem?_eq_some_iff.1 hj).1
          rw [(hg _).1] at this; exact this
        exact ((hf i hlt).2.2.2 j c (u i j) hj (hu i j hlt hjs)).1
      · intro i j
        by_cases hij : i < len ∧ j < sz
        · have hjs : j < (g (f i).1).cells.length := by rw [(hg _).1]; exact hij.2
          exact ((hf i hij.1).2.2.2 j _ (u i j) (List.getElem?_eq_getElem hjs) (hu i j hij.1 hij.2)).2
        · simp only [u, if_neg hij]; rfl
    · have hx1 := congrArg Prod.fst hx
      simp only at hx1
      refine ⟨_, _, hx1, by simp, fun i a x hi hxi => ?_⟩
      have hlt : i < len := by
        have := (List.getElem?_eq_some_iff.1 hi).1
        simpa using this
      simp [List.getElem?_range hlt] at hi hxi
      subst hi; subst hxi
      exact (hf i hlt).2.2.1

/-! cells that read so -/
def CellsAre (W : World) (l : List AV) (cs : List Value) : Prop :=
  l.length = cs.length ∧ ∀ (j : Nat) (c : AV) (u : Value), l[j]? = some c → cs[j]? = some u → Rep (oldE W) W c u ∧ u.oneCell' = true
theorem CellsAre.one {c : AV} {u : Value} (h : Rep (oldE W) W c u) (h1 : u.oneCell' = true) : CellsAre W [c] [u] := ⟨rfl, fun j c' u' hc hu => by
  match j, hc, hu with
  | 0, hc, hu => simp at hc hu; subst hc; subst hu; exact ⟨h, h1⟩⟩
theorem CellsAre.append {l r : List AV} {cs ds : List Value} (h : CellsAre W l cs) (k : CellsAre W r ds) : CellsAre W (l ++ r) (cs ++ ds) := by
  refine ⟨by simp [h.1, k.1], fun j c u hc hu => ?_⟩
  rcases Nat.lt_or_ge j l.length with hj | hj
  · rw [List.getElem?_append_left hj] at hc
    rw [List.getElem?_append_left (by rw [← h.1]; exact hj)] at hu
    exact h.2 j c u hc hu
  · rw [List.getElem?_append_right hj] at hc
    rw [List.getElem?_append_right (by rw [← h.1]; exact hj), ← h.1] at hu
    exact k.2 _ c u hc hu
/-- a struct's cells, field behind field -/
theorem CellsAre.next {l r : List AV} {cs : List Value} {o s p : Nat} (h : CellsAre W l ((cs.drop o).take s)) (hp : p = o + s) (k : CellsAre W r (cs.drop p)) : CellsAre W (l ++ r) (cs.drop o) := by
  subst hp
  have := h.append k
  rwa [← List.drop_drop, List.take_append_drop] at this
theorem CellsAre.last {l : List AV} {cs : List Value} {o s : Nat} (h : CellsAre W l ((cs.drop o).take s)) (hs : cs.length = o + s) : CellsAre W l (cs.drop o) := by
  rwa [List.take_of_length_le (by rw [List.length_drop]; omega)] at h
/-- what is read of a type -/
def ReadsAs (P : Program) (W : World) (enc : TypeId × Value → H) (t : TypeId) {α : Type} (g : α → List AV) (Q : α → Nat → Prop) : Prop :=
  ∀ n cs x, DataW.trod enc P W 0 (fun _ => true) true n t cs = some x → ∃ a : α, Q a (Rows.uptoBulk x.1) ∧ CellsAre W (g a) cs
theorem reads_str {t : TypeId} (ht : P.underlying t = some .string) : ReadsAs P W enc t (fun s : List UInt8 => [.str s]) (fun s n => s.length ≤ n) := by
  intro n cs x h
  obtain ⟨s, rfl, rfl, _⟩ := DataW.trod_string ht h
  exact ⟨s.data.toList, by simp [Rows.uptoBulk], .one (mk_str s) rfl⟩
theorem reads_int {t : TypeId} (ht : P.underlying t = some (.int .i64)) : ReadsAs P W enc t (fun n : Int => [.int .i64 n]) (fun n _ => -9223372036854775808 ≤ n ∧ n ≤ 9223372036854775807) := by
  intro n cs x h
  obtain ⟨k, rfl, _, hw⟩ := DataW.trod_int ht h
  have := int_rng hw
  exact ⟨k, ⟨this.1, by omega⟩, .one (.int _ _) rfl⟩
theorem reads_bool {t : TypeId} (ht : P.underlying t = some .bool) : ReadsAs P W enc t (fun b : Bool => [.bool b]) (fun _ _ => True) := by
  intro n cs x h
  obtain ⟨b, rfl, _⟩ := DataW.trod_bool ht h
  exact ⟨b, trivial, .one (.bool _) rfl⟩
namespace Bulks
theorem one_le (d : DataW H) : 1 ≤ Rows.uptoBulk d := by
  cases d with
  | lit l => cases l <;> simp [Rows.uptoBulk]
  | nil => simp [Rows.uptoBulk]
  | ptr d => simp [Rows.uptoBulk]
  | slice elems spare => simp [Rows.uptoBulk]
  | agg parts => simp [Rows.uptoBulk]
  | iface t d => simp [Rows.uptoBulk]
  | map entries => simp [Rows.uptoBulk]
  | held h => simp [Rows.uptoBulk]
theorem part_le {d : DataW H} {l : List (DataW H)} (h : d ∈ l) : Rows.uptoBulk d ≤ Rows.uptoBulkAll l := by
  induction l with
  | nil => cases h
  | cons x r ih =>
    simp only [Rows.uptoBulkAll]
    cases List.mem_cons.1 h with
    | inl e => subst e; omega
    | inr e => have := ih e; omega
theorem length_le (l : List (DataW H)) : l.length ≤ Rows.uptoBulkAll l := by
  induction l with
  | nil => simp [Rows.uptoBulkAll]
  | cons x r ih => have := one_le x; simp only [Rows.uptoBulkAll, List.length_cons]; omega
theorem bound {l : List (DataW H)} (hk : Rows.uptoSmall H l = true) : Rows.uptoBulkAll l ≤ 1048576 := by
  simpa [Rows.uptoSmall] using hk
theorem field_le {xs : List (DataW H × List MemPlace)} {i : Nat} {y : DataW H × List MemPlace} (h : xs[i]? = some y) : Rows.uptoBulk y.1 ≤ Rows.uptoBulk (DataW.agg (xs.map (·.1))) := by
  have := part_le (List.mem_map_of_mem (f := fun y : DataW H × List MemPlace => y.1) (List.mem_of_getElem? h))
  simp only [Rows.uptoBulk]
  omega
end Bulks
theorem reads_slice {t e : TypeId} {sz : Nat} {α : Type} [Inhabited α] {g : α → AV} {Q : α → Nat → Prop} (ht : P.underlying t = some (.slice e)) (hc : P.cellsOf e = sz) (hsz : 0 < sz) (hg : ∀ a, (g a).cells.length = sz ∧ (g a).closed1 = true) (hel : ReadsAs P W enc e (fun a => (g a).cells) Q)
    (hQ : ∀ a n m, Q a n → n ≤ m → Q a m) : ReadsAs P W enc t (fun l : List α => [.sl sz (l.map g) .no]) (fun l n => l.length ≤ n ∧ ∀ a ∈ l, Q a n) := by
  intro n cs x h
  have hs : ∃ A len cap, cs = [.slice A len cap] := by
    rcases open_slice ht h with ⟨hcs, _⟩ | ⟨a', len', cap', m, n, D, Pl, hcs, _⟩
    · exact ⟨_, _, _, hcs⟩
    · exact ⟨_, _, _, hcs⟩
  obtain ⟨A, len, cap, rfl⟩ := hs
  have hel' : ElemR P W enc e g (fun a d => Q a (Rows.uptoBulk d)) := fun n cs x h => by
    obtain ⟨a, h1, h2⟩ := hel n cs x h
    exact ⟨a, h1, h2.2⟩
  obtain ⟨l, hl, hb⟩ := open_slR ht hc hsz hg hel' ⟨A, len, cap, rfl⟩ (d := x.1) (ps := x.2) ⟨n, by simpa [Value.cells] using h⟩
  refine ⟨l, ?_, .one hl rfl⟩
  rcases hb with rfl | ⟨elems, spare, he, hlen, hq⟩
  · exact ⟨Nat.zero_le _, fun a ha => by cases ha⟩
  · rw [he]
    have hE : Rows.uptoBulk (DataW.slice elems spare) = Rows.uptoBulkAll elems + Rows.uptoBulkAll spare + 1 := by simp only [Rows.uptoBulk]
    rw [hE]
    refine ⟨by have := Bulks.length_le elems; omega, fun a ha => ?_⟩
    obtain ⟨i, hi⟩ := List.mem_iff_getElem?.1 ha
    have hlt : i < elems.length := by rw [hlen]; exact (List.getElem?_eq_some_iff.1 hi).1
    have hx := List.getElem?_eq_getElem hlt
    refine hQ a _ _ (hq i a _ hi hx) ?_
    have := Bulks.part_le (List.mem_of_getElem? hx)
    omega
/-! cells of any type -/
theorem sum_at : ∀ (L : List Nat) (k : Nat), k < L.sum → ∃ j s, L[j]? = some s ∧ (L.take j).sum ≤ k ∧ k < (L.take j).sum + s
  | [], k, h => by simp at h
  | a :: L, k, h => by
    by_cases hk : k < a
    · exact ⟨0, a, rfl, by simp, by simpa using hk⟩
    · obtain ⟨j, s, h1, h2, h3⟩ := sum_at L (k - a) (by simp at h; omega)
      exact ⟨j + 1, s, h1, by simp; omega, by simp; omega⟩
theorem trod_one (hl : laidOutB P = true) : ∀ (n : Nat) (t : TypeId) (cs : List Value) (x : DataW H × List MemPlace), isVar P t = true → DataW.trod enc P W 0 (fun _ => true) true n t cs = some x → ∀ u ∈ cs, u.oneCell' = true
  | 0, t, cs, x, _, h => by simp [DataW.trod] at h
  | n + 1, t, cs, x, hv, h => by
    have hlt : t < P.types.size := by
      simp only [isVar, Bool.and_eq_true, decide_eq_true_eq] at hv
      exact hv.1
    have hr := rowFine_of_laidOut hl hlt
    unfold rowFine at hr
    rw [hv] at hr
    simp only [Bool.not_true, Bool.false_or] at hr
    cases hu : P.underlying t with
    | none => unfold DataW.trod at h; rw [hu] at h; simp at h
    | some d =>
      cases d with
      | struct fs =>
        simp only [hu, Bool.and_eq_true, beq_iff_eq, List.all_eq_true, List.mem_range] at hr
        obtain ⟨xs, m, hm, _, hlen, hxl, hf⟩ := DataW.trod_struct hu h
        obtain rfl : n = m := by omega
        intro u hm
        obtain ⟨k, hk⟩ := List.mem_iff_getElem?.1 hm
        have hkl : k < cs.length := (List.getElem?_eq_some_iff.1 hk).1
        rw [hlen, hr.1.2] at hkl
        obtain ⟨j, s, h1, h2, h3⟩ := sum_at _ _ hkl
        rw [List.getElem?_map] at h1
        cases hfj : fs.toList[j]? with
        | none => rw [hfj] at h1; cases h1
        | some f =>
          rw [hfj] at h1
          injection h1 with h1
          have h1 : P.cellsOf f.type = s := h1
          subst h1
          have hjl : j < fs.toList.length := (List.getElem?_eq_some_iff.1 hfj).1
          have ho := hr.2 j hjl
          rw [hfj] at ho
          simp only [beq_iff_eq] at ho
          rw [← List.map_take] at h2 h3
          rw [← ho] at h2 h3
          have hfa : fs[j]? = some f := by rw [← Array.getElem?_toList]; exact hfj
          have hxj : j < xs.length := by rw [hxl]; simpa using hjl
          have ht := hf j f hfa
          rw [List.getElem?_eq_getElem hxj] at ht
          refine trod_one hl n f.type _ _ (hr.1.1 f (List.mem_of_getElem? hfj)) ht u ?_
          refine List.mem_iff_getElem?.2 ⟨k - f.offset, ?_⟩
          rw [List.getElem?_take, if_pos (by omega), List.getElem?_drop, show f.offset + (k - f.offset) = k by omega]
          exact hk
      | array m e =>
        simp only [hu, Bool.and_eq_true, beq_iff_eq] at hr
        unfold DataW.trod at h
        rw [hu] at h
        simp only at h
        split at h
        · rename_i hlen
          simp only [Option.map_eq_some_iff] at h
          obtain ⟨xs, hx, _⟩ := h
          intro u hm
          obtain ⟨k, hk⟩ := List.mem_iff_getElem?.1 hm
          have hkl : k < cs.length := (List.getElem?_eq_some_iff.1 hk).1
          rw [hlen, hr.2] at hkl
          have hc0 : 0 < P.cellsOf e := Nat.pos_of_ne_zero fun h0 => by rw [h0] at hkl; simp at hkl
          have hj : k / P.cellsOf e < m := (Nat.div_lt_iff_lt_mul hc0).2 hkl
          have hmod := Nat.div_add_mod k (P.cellsOf e)
          have hml := Nat.mod_lt k hc0
          rw [Nat.mul_comm] at hmod
          have hg := mapM_some_get hx (k / P.cellsOf e) (k / P.cellsOf e) (by rw [List.getElem?_range hj])
          have hxl := mapM_some_length hx
          rw [List.length_range] at hxl
          rw [List.getElem?_eq_getElem (by omega)] at hg
          refine trod_one hl n e _ _ hr.1 hg u ?_
          refine List.mem_iff_getElem?.2 ⟨k % P.cellsOf e, ?_⟩
          rw [List.getElem?_take, if_pos hml, List.getElem?_drop, hmod]
          exact hk
        · cases h
      | _ =>
        unfold DataW.trod at h
        rw [hu] at h
        intro u hm
        split at h <;> first
          | (simp only [List.mem_cons, List.not_mem_nil, or_false] at hm; subst hm; rfl)
          | (cases h; done)
          | (rename_i he _; cases he; done)
          | (rename_i he; cases he; done)
theorem reads_any (hl : laidOutB P = true) {t : TypeId} (hv : isVar P t = true) (hn : ∃ d, P.underlying t = some (.struct d)) : ReadsAs P W enc t (fun _ : Unit => List.replicate (P.cellsOf t) .opq) (fun _ _ => True) := by
  intro n cs x h
  obtain ⟨d, hd⟩ := hn
  obtain ⟨_, _, _, _, hlen, _⟩ := DataW.trod_struct hd h
  have h1 := trod_one hl n t cs x hv h
  refine ⟨(), trivial, by simp [hlen], fun j c u hc hu => ?_⟩
  have hc' : c = .opq := (List.eq_replicate_iff.1 (rfl : List.replicate (P.cellsOf t) AV.opq = _)).2 c (List.mem_of_getElem? hc)
  subst hc'
  exact ⟨.opq _ (h1 u (List.mem_of_getElem? hu)), h1 u (List.mem_of_getElem? hu)⟩
end
end Go.Abs

namespace Go.Abs
open Go.ChangeShapes Go.WideShapes Go.ChangeAt Go.RowKit Go.Deep Go.ChangeMaps
open Go.Proofs Go.Proofs.Ytpglogahncpnoaa
section
variable {H : Type} {enc : TypeId × Value → H} {P : Program} {W : World}
theorem fieldR {t : TypeId} {α : Type} {g : α → List AV} {Q : α → Nat → Prop} (hr : ReadsAs P W enc t g Q) (hQ : ∀ a n m, Q a n → n ≤ m → Q a m) {fs : Array Field} {xs : List (DataW H × List MemPlace)} {n : Nat} {cs : List Value} {x : DataW H × List MemPlace}
    (hx : x = (.agg (xs.map (·.1)), xs.flatMap (·.2))) (hxl : xs.length = fs.size)
    (hf : ∀ (i : Nat) (f : Field), fs[i]? = some f → DataW.trod enc P W 0 (fun _ => true) true n f.type ((cs.drop f.offset).take (P.cellsOf f.type)) = xs[i]?)
    (i : Nat) {f : Field} (hi : fs[i]? = some f) (ht : f.type = t) {o s : Nat} (ho : f.offset = o) (hs : P.cellsOf t = s) : ∃ a, Q a (Rows.uptoBulk x.1) ∧ CellsAre W (g a) ((cs.drop o).take s) := by
  have h := hf i f hi
  rw [ht, ho, hs] at h
  have hil : i < xs.length := by rw [hxl]; exact (Array.getElem?_eq_some_iff.1 hi).1
  have hg := List.getElem?_eq_getElem hil
  rw [hg] at h
  obtain ⟨a, h1, h2⟩ := hr n _ _ h
  refine ⟨a, hQ a _ _ h1 ?_, h2⟩
  rw [hx]
  exact Bulks.field_le hg
theorem ReadsAs.map {t : TypeId} {α β : Type} {g : α → List AV} {g' : β → List AV} {Q : α → Nat → Prop} {Q' : β → Nat → Prop} (h : ReadsAs P W enc t g Q) (f : α → β) (hg : ∀ a, g a = g' (f a)) (hQ : ∀ a n, Q a n → Q' (f a) n) : ReadsAs P W enc t g' Q' := fun n cs x hx => by
  obtain ⟨a, h1, h2⟩ := h n cs x hx
  exact ⟨f a, hQ a _ h1, by rw [← hg]; exact h2⟩
end
section
variable {H : Type} {enc : TypeId × Value → H} {W : World}
theorem cz3 : PI.cellsOf 3 = 1 := by kernel_rfl
theorem cz4 : PI.cellsOf 4 = 1 := by kernel_rfl
theorem cz9 : PI.cellsOf 9 = 1 := by kernel_rfl
theorem cz30 : PI.cellsOf 30 = 2 := by kernel_rfl
theorem cz31 : PI.cellsOf 31 = 1 := by kernel_rfl
theorem cz33 : PI.cellsOf 33 = 8 := by kernel_rfl
theorem cz35 : PI.cellsOf 35 = 11 := by kernel_rfl
theorem cz44 : PI.cellsOf 44 = 5 := by kernel_rfl
theorem cz52 : PI.cellsOf 52 = 3 := by kernel_rfl
theorem cz61 : PI.cellsOf 61 = 24 := by kernel_rfl
theorem cz63 : PI.cellsOf 63 = 40 := by kernel_rfl
theorem cz68 : PI.cellsOf 68 = 1 := by kernel_rfl
theorem cz75 : PI.cellsOf 75 = 3 := by kernel_rfl
theorem cz22 : PI.cellsOf 22 = 1 := by kernel_rfl
theorem laidP : laidOutB PI = true := by kernel_rfl
theorem st30 : ∃ f0 f1 : Field, PI.underlying 30 = some (.struct #[f0, f1]) ∧ (f0.type = 9 ∧ f0.offset = 0) ∧ (f1.type = 3 ∧ f1.offset = 1) := ⟨_, _, Try.underlying30, ⟨rfl, rfl⟩, ⟨rfl, rfl⟩⟩
theorem st52 : ∃ f0 f1 f2 : Field, PI.underlying 52 = some (.struct #[f0, f1, f2]) ∧ (f0.type = 3 ∧ f0.offset = 0) ∧ (f1.type = 3 ∧ f1.offset = 1) ∧ (f2.type = 9 ∧ f2.offset = 2) := ⟨_, _, _, Try.underlying52, ⟨rfl, rfl⟩, ⟨rfl, rfl⟩, ⟨rfl, rfl⟩⟩
theorem st75 : ∃ f0 f1 f2 : Field, PI.underlying 75 = some (.struct #[f0, f1, f2]) ∧ (f0.type = 9 ∧ f0.offset = 0) ∧ (f1.type = 3 ∧ f1.offset = 1) ∧ (f2.type = 68 ∧ f2.offset = 2) := ⟨_, _, _, Try.underlying75, ⟨rfl, rfl⟩, ⟨rfl, rfl⟩, ⟨rfl, rfl⟩⟩
theorem st33 : ∃ f0 f1 f2 f3 f4 f5 f6 : Field, PI.underlying 33 = some (.struct #[f0, f1, f2, f3, f4, f5, f6]) ∧ (f0.type = 30 ∧ f0.offset = 0) ∧ (f1.type = 3 ∧ f1.offset = 2) ∧ (f2.type = 3 ∧ f2.offset = 3) ∧ (f3.type = 9 ∧ f3.offset = 4) ∧ (f4.type = 9 ∧ f4.offset = 5) ∧ (f5.type = 3 ∧ f5.offset = 6) ∧ (f6.type = 31 ∧ f6.offset = 7) :=
  ⟨_, _, _, _, _, _, _, Try.underlying33, ⟨rfl, rfl⟩, ⟨rfl, rfl⟩, ⟨rfl, rfl⟩, ⟨rfl, rfl⟩, ⟨rfl, rfl⟩, ⟨rfl, rfl⟩, ⟨rfl, rfl⟩⟩
theorem st35 : ∃ f0 f1 f2 f3 : Field, PI.underlying 35 = some (.struct #[f0, f1, f2, f3]) ∧ (f0.type = 9 ∧ f0.offset = 0) ∧ (f1.type = 4 ∧ f1.offset = 1) ∧ (f2.type = 3 ∧ f2.offset = 2) ∧ (f3.type = 33 ∧ f3.offset = 3) := ⟨_, _, _, _, Try.underlying35, ⟨rfl, rfl⟩, ⟨rfl, rfl⟩, ⟨rfl, rfl⟩, ⟨rfl, rfl⟩⟩
theorem st63 : ∃ f0 f1 f2 f3 f4 f5 : Field, PI.underlying 63 = some (.struct #[f0, f1, f2, f3, f4, f5]) ∧ (f0.type = 3 ∧ f0.offset = 0) ∧ (f1.type = 3 ∧ f1.offset = 1) ∧ (f2.type = 3 ∧ f2.offset = 2) ∧ (f3.type = 33 ∧ f3.offset = 3) ∧ (f4.type = 44 ∧ f4.offset = 11) ∧ (f5.type = 61 ∧ f5.offset = 16) := ⟨_, _, _, _, _, _, Try.underlying63, ⟨rfl, rfl⟩, ⟨rfl, rfl⟩, ⟨rfl, rfl⟩, ⟨rfl, rfl⟩, ⟨rfl, rfl⟩, ⟨rfl, rfl⟩⟩
theorem st24 : ∃ f0 : Field, PI.underlying 24 = some (.struct #[f0]) ∧ (f0.type = 22 ∧ f0.offset = 0) := ⟨_, Try.underlying24, ⟨rfl, rfl⟩⟩
def rngI (n : Int) : Prop := -9223372036854775808 ≤ n ∧ n ≤ 9223372036854775807
theorem mono_le {k n m : Nat} (h : k ≤ n) (hm : n ≤ m) : k ≤ m := Nat.le_trans h hm
theorem rStr : ReadsAs PI W enc 9 (fun s : List UInt8 => [.str s]) (fun s n => s.length ≤ n) := reads_str Try.underlying9
theorem rInt : ReadsAs PI W enc 3 (fun n : Int => [.int .i64 n]) (fun n _ => rngI n) := reads_int Try.underlying3
theorem rBool : ReadsAs PI W enc 4 (fun b : Bool => [.bool b]) (fun _ _ => True) := reads_bool Try.underlying4
theorem rId : ReadsAs PI W enc 30 (fun p : List UInt8 × Int => [.str p.1, .int .i64 p.2]) (fun p n => p.1.length ≤ n ∧ rngI p.2) := by
  intro n cs x h
  obtain ⟨f0, f1, hu, ⟨t0, o0⟩, ⟨t1, o1⟩⟩ := st30
  obtain ⟨xs, m, _, hx, hlen, hxl, hf⟩ := DataW.trod_struct hu h
  obtain ⟨a0, q0, c0⟩ := fieldR rStr (fun _ _ _ => mono_le) hx hxl hf 0 rfl t0 o0 cz9
  obtain ⟨a1, q1, c1⟩ := fieldR rInt (fun _ _ _ h _ => h) hx hxl hf 1 rfl t1 o1 cz3
  exact ⟨(a0, a1), ⟨q0, q1⟩, c0.next rfl (c1.last (by rw [hlen]; exact cz30))⟩
theorem rVal : ReadsAs PI W enc 52 (fun v : VaI => (vaA v).cells) (fun _ _ => True) := by
  intro n cs x h
  obtain ⟨f0, f1, f2, hu, ⟨t0, o0⟩, ⟨t1, o1⟩, ⟨t2, o2⟩⟩ := st52
  obtain ⟨xs, m, _, hx, hlen, hxl, hf⟩ := DataW.trod_struct hu h
  obtain ⟨a0, q0, c0⟩ := fieldR rInt (fun _ _ _ h _ => h) hx hxl hf 0 rfl t0 o0 cz3
  obtain ⟨a1, q1, c1⟩ := fieldR rInt (fun _ _ _ h _ => h) hx hxl hf 1 rfl t1 o1 cz3
  obtain ⟨a2, q2, c2⟩ := fieldR rStr (fun _ _ _ => mono_le) hx hxl hf 2 rfl t2 o2 cz9
  exact ⟨⟨a0, a1, a2⟩, trivial, c0.next rfl (c1.next rfl (c2.last (by rw [hlen]; exact cz52)))⟩
theorem rVals : ReadsAs PI W enc 31 (fun l : List VaI => [.sl 3 (vasL l) .no]) (fun l n => l.length ≤ n) := fun n cs x h => by
  obtain ⟨l, h1, h2⟩ := reads_slice (g := vaA) Try.underlying31 cz52 (by omega) (fun _ => ⟨rfl, rfl⟩) rVal (fun _ _ _ _ _ => trivial) n cs x h
  exact ⟨l, h1.1, h2⟩
theorem rInts : ReadsAs PI W enc 68 (fun l : List Int => [.sl 1 (intsA l) .no]) (fun l n => l.length ≤ n) := fun n cs x h => by
  obtain ⟨l, h1, h2⟩ := reads_slice (g := AV.int .i64) Try.underlying68 cz3 (by omega) (fun _ => ⟨rfl, rfl⟩) rInt (fun _ _ _ h _ => h) n cs x h
  exact ⟨l, h1.1, h2⟩
def fcQ (f : FcI) (n : Nat) : Prop := (f.src.length ≤ n ∧ rngI f.seq) ∧ f.table.length ≤ n ∧ f.key.length ≤ n ∧ f.fs.length ≤ n ∧ rngI f.kind
theorem fcQ_mono (f : FcI) (n m : Nat) (h : fcQ f n) (hm : n ≤ m) : fcQ f m := ⟨⟨mono_le h.1.1 hm, h.1.2⟩, mono_le h.2.1 hm, mono_le h.2.2.1 hm, mono_le h.2.2.2.1 hm, h.2.2.2.2⟩
theorem rFact : ReadsAs PI W enc 33 fcC fcQ := by
  intro n cs x h
  obtain ⟨f0, f1, f2, f3, f4, f5, f6, hu, ⟨t0, o0⟩, ⟨t1, o1⟩, ⟨t2, o2⟩, ⟨t3, o3⟩, ⟨t4, o4⟩, ⟨t5, o5⟩, ⟨t6, o6⟩⟩ := st33
  obtain ⟨xs, m, _, hx, hlen, hxl, hf⟩ := DataW.trod_struct hu h
  obtain ⟨a0, q0, c0⟩ := fieldR rId (fun _ _ _ h hm => ⟨mono_le h.1 hm, h.2⟩) hx hxl hf 0 rfl t0 o0 cz30
  obtain ⟨a1, q1, c1⟩ := fieldR rInt (fun _ _ _ h _ => h) hx hxl hf 1 rfl t1 o1 cz3
  obtain ⟨a2, q2, c2⟩ := fieldR rInt (fun _ _ _ h _ => h) hx hxl hf 2 rfl t2 o2 cz3
  obtain ⟨a3, q3, c3⟩ := fieldR rStr (fun _ _ _ => mono_le) hx hxl hf 3 rfl t3 o3 cz9
  obtain ⟨a4, q4, c4⟩ := fieldR rStr (fun _ _ _ => mono_le) hx hxl hf 4 rfl t4 o4 cz9
  obtain ⟨a5, q5, c5⟩ := fieldR rInt (fun _ _ _ h _ => h) hx hxl hf 5 rfl t5 o5 cz3
  obtain ⟨a6, q6, c6⟩ := fieldR rVals (fun _ _ _ => mono_le) hx hxl hf 6 rfl t6 o6 cz31
  exact ⟨⟨a0.1, a0.2, a1, a2, a3, a4, a5, a6⟩, ⟨q0, q3, q4, q6, q1⟩, c0.next rfl (c1.next rfl (c2.next rfl (c3.next rfl (c4.next rfl (c5.next rfl (c6.last (by rw [hlen]; exact cz33)))))))⟩
theorem rPacket : ReadsAs PI W enc 35 (fun p : PkI => (pkA p).cells) (fun p n => fcQ p.f n ∧ p.src.length ≤ n) := by
  intro n cs x h
  obtain ⟨f0, f1, f2, f3, hu, ⟨t0, o0⟩, ⟨t1, o1⟩, ⟨t2, o2⟩, ⟨t3, o3⟩⟩ := st35
  obtain ⟨xs, m, _, hx, hlen, hxl, hf⟩ := DataW.trod_struct hu h
  obtain ⟨a0, q0, c0⟩ := fieldR rStr (fun _ _ _ => mono_le) hx hxl hf 0 rfl t0 o0 cz9
  obtain ⟨a1, q1, c1⟩ := fieldR rBool (fun _ _ _ h _ => h) hx hxl hf 1 rfl t1 o1 cz4
  obtain ⟨a2, q2, c2⟩ := fieldR rInt (fun _ _ _ h _ => h) hx hxl hf 2 rfl t2 o2 cz3
  obtain ⟨a3, q3, c3⟩ := fieldR rFact fcQ_mono hx hxl hf 3 rfl t3 o3 cz33
  exact ⟨⟨a0, a1, a2, a3⟩, ⟨q3, q0⟩, c0.next rfl (c1.next rfl (c2.next rfl (c3.last (by rw [hlen]; exact cz35))))⟩
theorem rPackets : ReadsAs PI W enc 25 (fun l : List PkI => [.sl 11 (pksL l) .no]) (fun l n => l.length ≤ n ∧ ∀ p ∈ l, fcQ p.f n ∧ p.src.length ≤ n) :=
  reads_slice (g := pkA) Try.underlying25 cz35 (by omega) (fun _ => ⟨rfl, rfl⟩) rPacket (fun p n m h hm => ⟨fcQ_mono _ _ _ h.1 hm, mono_le h.2 hm⟩)
theorem rInbox : ReadsAs PI W enc 75 (fun b : BxI => (bxA b).cells) (fun b n => b.src.length ≤ n ∧ b.ahead.length ≤ n) := by
  intro n cs x h
  obtain ⟨f0, f1, f2, hu, ⟨t0, o0⟩, ⟨t1, o1⟩, ⟨t2, o2⟩⟩ := st75
  obtain ⟨xs, m, _, hx, hlen, hxl, hf⟩ := DataW.trod_struct hu h
  obtain ⟨a0, q0, c0⟩ := fieldR rStr (fun _ _ _ => mono_le) hx hxl hf 0 rfl t0 o0 cz9
  obtain ⟨a1, q1, c1⟩ := fieldR rInt (fun _ _ _ h _ => h) hx hxl hf 1 rfl t1 o1 cz3
  obtain ⟨a2, q2, c2⟩ := fieldR rInts (fun _ _ _ => mono_le) hx hxl hf 2 rfl t2 o2 cz68
  exact ⟨⟨a0, a1, a2⟩, ⟨q0, q2⟩, c0.next rfl (c1.next rfl (c2.last (by rw [hlen]; exact cz75)))⟩
theorem rInboxes : ReadsAs PI W enc 22 (fun l : List BxI => [.sl 3 (bxsL l) .no]) (fun l n => l.length ≤ n ∧ ∀ b ∈ l, b.src.length ≤ n ∧ b.ahead.length ≤ n) :=
  reads_slice (g := bxA) Try.underlying22 cz75 (by omega) (fun _ => ⟨rfl, rfl⟩) rInbox (fun p n m h hm => ⟨mono_le h.1 hm, mono_le h.2 hm⟩)
theorem rReceiver : ReadsAs PI W enc 24 (fun l : List BxI => [.sl 3 (bxsL l) .no]) (fun l n => l.length ≤ n ∧ ∀ b ∈ l, b.src.length ≤ n ∧ b.ahead.length ≤ n) := by
  intro n cs x h
  obtain ⟨f0, hu, ⟨t0, o0⟩⟩ := st24
  obtain ⟨xs, m, _, hx, hlen, hxl, hf⟩ := DataW.trod_struct hu h
  obtain ⟨a0, q0, c0⟩ := fieldR rInboxes (fun _ _ _ h hm => ⟨mono_le h.1 hm, fun b hb => ⟨mono_le (h.2 b hb).1 hm, mono_le (h.2 b hb).2 hm⟩⟩) hx hxl hf 0 rfl t0 o0 cz22
  exact ⟨a0, q0, c0.last (by rw [hlen]; kernel_rfl)⟩
theorem rEntry : ReadsAs PI W enc 63 (fun e : EnI => (enA e).cells) (fun e n => fcQ e.f n) := by
  intro n cs x h
  obtain ⟨f0, f1, f2, f3, f4, f5, hu, ⟨t0, o0⟩, ⟨t1, o1⟩, ⟨t2, o2⟩, ⟨t3, o3⟩, ⟨t4, o4⟩, ⟨t5, o5⟩⟩ := st63
  obtain ⟨xs, m, _, hx, hlen, hxl, hf⟩ := DataW.trod_struct hu h
  obtain ⟨a0, q0, c0⟩ := fieldR rInt (fun _ _ _ h _ => h) hx hxl hf 0 rfl t0 o0 cz3
  obtain ⟨a1, q1, c1⟩ := fieldR rInt (fun _ _ _ h _ => h) hx hxl hf 1 rfl t1 o1 cz3
  obtain ⟨a2, q2, c2⟩ := fieldR rInt (fun _ _ _ h _ => h) hx hxl hf 2 rfl t2 o2 cz3
  obtain ⟨a3, q3, c3⟩ := fieldR rFact fcQ_mono hx hxl hf 3 rfl t3 o3 cz33
  obtain ⟨a4, q4, c4⟩ := fieldR (reads_any laidP (t := 44) (by kernel_rfl) ⟨_, Try.underlying44⟩) (fun _ _ _ h _ => h) hx hxl hf 4 rfl t4 o4 cz44
  obtain ⟨a5, q5, c5⟩ := fieldR (reads_any laidP (t := 61) (by kernel_rfl) ⟨_, Try.underlying61⟩) (fun _ _ _ h _ => h) hx hxl hf 5 rfl t5 o5 cz61
  rw [cz44] at c4
  rw [cz61] at c5
  have c0' : CellsAre W [AV.opq] ((cs.drop 0).take 1) := ⟨c0.1, fun j c u hc hu => by
    match j, hc, hu with
    | 0, hc, hu =>
      simp only [List.getElem?_cons_zero, Option.some.injEq] at hc
      subst hc
      have := c0.2 0 _ u rfl hu
      exact ⟨.opq _ this.2, this.2⟩
    | j + 1, hc, _ => simp at hc⟩
  exact ⟨⟨a1, a2, a3⟩, q3, c0'.next rfl (c1.next rfl (c2.next rfl (c3.next rfl (c4.next rfl (c5.last (by rw [hlen]; exact cz63))))))⟩
theorem rEntries : ReadsAs PI W enc 42 (fun l : List EnI => [.sl 40 (ensL l) .no]) (fun l n => l.length ≤ n ∧ ∀ e ∈ l, fcQ e.f n) :=
  reads_slice (g := enA) Try.underlying42 cz63 (by omega) (fun _ => ⟨rfl, rfl⟩) rEntry (fun p n m h hm => fcQ_mono _ _ _ h hm)
/-! arguments -/
/-- an argument of one cell -/
theorem open_one {t : TypeId} {α : Type} {g : α → AV} {Q : α → Nat → Prop} (hr : ReadsAs PI W enc t (fun a => [g a]) Q) {v : Value} {d : DataW H} {ps : List MemPlace} (h1 : ∃ u, v.cells = #[u] ∧ v = u) (h : DataW.Trod enc PI W 0 (fun _ => true) true t v d ps) : ∃ a, Rep (oldE W) W (g a) v ∧ Q a (Rows.uptoBulk d) := by
  obtain ⟨u, hu, rfl⟩ := h1
  obtain ⟨fuel, h⟩ := h
  rw [hu] at h
  obtain ⟨a, q, c⟩ := hr fuel _ _ h
  exact ⟨a, (c.2 0 _ _ rfl rfl).1, q⟩
theorem open_agg {t : TypeId} {α : Type} {g : α → List AV} {Q : α → Nat → Prop} (hr : ReadsAs PI W enc t g Q) {v : Value} {d : DataW H} {ps : List MemPlace} (h1 : ∃ cs, v = .agg cs) (h : DataW.Trod enc PI W 0 (fun _ => true) true t v d ps) : ∃ a, Rep (oldE W) W (.agg (g a)) v ∧ Q a (Rows.uptoBulk d) := by
  obtain ⟨cs, rfl⟩ := h1
  obtain ⟨fuel, h⟩ := h
  obtain ⟨a, q, c⟩ := hr fuel _ _ h
  refine ⟨a, .agg _ cs ?_ (fun i v hv => ?_) fun i c' v hc hv => ?_, q⟩
  · have : (g a).length = cs.toList.length := c.1
    rw [this, Array.length_toList]
  · have hv' : cs.toList[i]? = some v := by rw [Array.getElem?_toList]; exact hv
    have hil : i < (g a).length := by rw [c.1]; exact (List.getElem?_eq_some_iff.1 hv').1
    exact (c.2 i _ v (List.getElem?_eq_getElem hil) hv').2
  · exact (c.2 i c' v hc (by show cs.toList[i]? = some v; rw [Array.getElem?_toList]; exact hv)).1
end
end Go.Abs

namespace Go.Abs
open Go.ChangeShapes Go.WideShapes Go.ChangeAt Go.RowKit Go.Deep Go.ChangeMaps
open Go.Proofs Go.Proofs.Ytpglogahncpnoaa
section
variable {W : World}
theorem nGlobI : 0 < PI.globals.size := by
  have : decide (0 < PI.globals.size) = true := by kernel_rfl
  exact of_decide_eq_true this
theorem globI (hsh : W.ShapedOpen PI) {m : Int} (hm : W.cell? ⟨0, 0, none⟩ = some (.int .i64 m)) : GlobOk (GI m) (oldE W) W := by
  refine globA (fun g e hg => ?_) fun g e hg => ?_
  · match g, hg with
    | 0, hg =>
      simp only [GI, Option.some.injEq] at hg
      subst hg
      refine ⟨rfl, fun j c hj => ?_⟩
      match j, hj with
      | 0, hj => simp [AV.cells] at hj; subst hj; exact ⟨_, hm, .int _ _, rfl⟩
      | j + 1, hj => simp [AV.cells] at hj
    | g + 1, hg => cases hg
  · match g, hg with
    | 0, hg =>
      simp only [GI, Option.some.injEq] at hg
      subst hg
      exact glob_size hsh (n := 1) nGlobI (by kernel_rfl)
    | g + 1, hg => cases hg
end
/-! what the bound on all that is read gives -/
theorem rc3_of {l : List BxI} {n : Nat} (h : l.length ≤ n ∧ ∀ b ∈ l, b.src.length ≤ n ∧ b.ahead.length ≤ n) (hn : n ≤ 1048576) : rc3 l = true := by
  simp only [rc3, List.all_eq_true, Bool.and_eq_true, decide_eq_true_eq]
  intro b hb
  have := h.2 b hb
  omega
theorem pk3_of {l : List PkI} {n : Nat} (h : l.length ≤ n ∧ ∀ p ∈ l, fcQ p.f n ∧ p.src.length ≤ n) (hn : n ≤ 1048576) : pk3 l = true := by
  simp only [pk3, List.all_eq_true, Bool.and_eq_true, decide_eq_true_eq]
  intro p hp
  obtain ⟨⟨⟨h1, _⟩, h2, h3, h4, _⟩, _⟩ := h.2 p hp
  omega
theorem en4_of {l : List EnI} {n : Nat} (h : l.length ≤ n ∧ ∀ e ∈ l, fcQ e.f n) (hn : n ≤ 1048576) : ∀ e ∈ l, enOk e := fun e he => by
  obtain ⟨⟨h1, h5⟩, h2, h3, h4, _⟩ := h.2 e he
  exact ⟨by omega, by omega, by omega, by omega, h5.1, h5.2⟩
theorem one_slice {P : Program} {W : World} {t e : TypeId} {v : Value} {b : Nat} (ht : P.underlying t = some (.slice e)) (h : Value.okWide P W .any b t v) : ∃ u, v.cells = #[u] ∧ v = u := by
  obtain ⟨A, n, c, rfl⟩ := okWide_slice ht h
  exact ⟨_, rfl, rfl⟩
theorem one_int {P : Program} {W : World} {t : TypeId} {k : IntKind} {v : Value} {b : Nat} (ht : P.underlying t = some (.int k)) (h : Value.okWide P W .any b t v) : ∃ u, v.cells = #[u] ∧ v = u := by
  obtain ⟨n, rfl⟩ := okWide_int ht h
  exact ⟨_, rfl, rfl⟩
theorem one_str {P : Program} {W : World} {t : TypeId} {v : Value} {b : Nat} (ht : P.underlying t = some .string) (h : Value.okWide P W .any b t v) : ∃ u, v.cells = #[u] ∧ v = u := by
  obtain ⟨n, rfl⟩ := okWide_string ht h
  exact ⟨_, rfl, rfl⟩
theorem is_agg {P : Program} {W : World} {t : TypeId} {fs : Array Field} {v : Value} {b : Nat} (ht : P.underlying t = some (.struct fs)) (h : Value.okWide P W .any b t v) : ∃ cs, v = .agg cs := by
  obtain ⟨cs, h, _⟩ := okWide_struct ht h
  exact ⟨cs, h⟩
theorem witness_row_shaped {H : Type} {enc : TypeId × Value → H} {C : Checked} {os : Os} {f : FuncId} {fn : Func} {s : OpenSpec} {conds : List PathCond} {apart : Bool} {laid : List (String × DataW Unit)} (w0 : World) (args : Array Value) (hos : w0.os = os)
    (hsh : (w0.forCall (fun _ _ => 0) ⟨#[], args, []⟩).Shaped C.prog)
    (hok : Input.okWideB C.prog (w0.forCall (fun _ _ => 0) ⟨#[], args, []⟩) f ⟨#[], args, []⟩ = true)
    (hrow : s.preRow enc C.prog fn conds apart laid (w0.forCall (fun _ _ => 0) ⟨#[], args, []⟩).memory args) :
    ∃ (w : World) (tape : Tape) (i : Input), w.os = os ∧ (w.forCall tape i).Shaped C.prog ∧ i.vars = [] ∧ Input.okWide C.prog (w.forCall tape i) .any w.heap.size f i ∧
      s.preRow enc C.prog fn conds apart laid (w.forCall tape i).memory i.args ∧ ({} : Assume).holds C.prog (lone (Frame.enter C.prog f i.args .normal) [] (w.forCall tape i)) :=
  ⟨w0, fun _ _ => 0, ⟨#[], args, []⟩, hos, hsh, (Input.okWide_of_okWideB (base := 0) hok).1, (Input.okWide_of_okWideB hok).2, hrow, by
    simp only [Assume.holds]
    exact ⟨by simp, by simp, fun _ => Modest.zero, by simp, by simp⟩⟩

end Go.Abs

namespace Go.Abs
open Go.ChangeShapes Go.WideShapes Go.ChangeAt Go.RowKit Go.Deep Go.ChangeMaps
open Go.Proofs Go.Proofs.Ytpglogahncpnoaa
theorem rBools {H : Type} {enc : TypeId × Value → H} {W : World} : ReadsAs PI W enc 69 (fun l : List Bool => [.sl 1 (l.map AV.bool) .no]) (fun l n => l.length ≤ n) := fun n cs x h => by
  obtain ⟨l, h1, h2⟩ := reads_slice (g := AV.bool) Try.underlying69 cz4 (by omega) (fun _ => ⟨rfl, rfl⟩) rBool (fun _ _ _ h _ => h) n cs x h
  exact ⟨l, h1.1, h2⟩
theorem len_of {k n : Nat} (h : k ≤ n) (hn : n ≤ 1048576) : k ≤ 1048576 := Nat.le_trans h hn
end Go.Abs
