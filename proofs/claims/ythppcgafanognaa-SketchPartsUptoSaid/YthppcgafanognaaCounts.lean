/-
  The walk over counts: the map of the counts of some sketches.
-/
import Derived.Test.YthppcgafanognaaRank
import Derived.Maps.RangeWalk
import Derived.Maps.OwnOps
import Derived.Maps.Own
import Derived.Maps.OwnSet
namespace Go.Proofs.Ythppcgafanognaa
open Go.RowKit Go.Maps

/-- the sum of the numbers at a key, with wraparound, in the list's order -/
def totFrom (s : Int) : Bks → Int → Int
  | [], _ => s
  | x :: t, k => totFrom (if x.1 = k then wrap64 (s + x.2) else s) t k
def tot (l : Bks) (k : Int) : Int := totFrom 0 l k
theorem totFrom_append (l : Bks) : ∀ (s : Int) (m : Bks) (k : Int), totFrom s (l ++ m) k = totFrom (totFrom s l k) m k := by
  induction l with
  | nil => intro s m k; rfl
  | cons x t ih => intro s m k; exact ih _ m k
theorem tot_snoc (l : Bks) (i n k : Int) : tot (l ++ [(i, n)]) k = if i = k then wrap64 (tot l k + n) else tot l k := by
  unfold tot; rw [totFrom_append]; rfl

abbrev i64 (n : Int) : DataW Unit := .lit (.int .i64 n)
/-- the map reads as the sums of the list -/
def MapIs (D : DataW Unit) (l : Bks) : Prop :=
  IsMap D ∧ (∀ k, D.atKey (.int .i64 k) (i64 0) = i64 (tot l k)) ∧ (∀ k, Maps.has D (.int .i64 k) = l.any (fun x => x.1 == k))
theorem mapIs_nil : MapIs (.map []) [] := ⟨isMap_empty, fun _ => rfl, fun _ => rfl⟩
theorem mapIs_put {D : DataW Unit} {l : Bks} (h : MapIs D l) (i n c : Int) (hc : D.atKey (.int .i64 i) (i64 0) = i64 c) :
    MapIs (D.put (.int .i64 i) (i64 (wrap64 (c + n)))) (l ++ [(i, n)]) := by
  obtain ⟨h1, h2, h3⟩ := h
  have hk : WideAt.IsKeyLit (.int .i64 i) := by simp [WideAt.IsKeyLit]
  have hce : c = tot l i := by
    rw [h2] at hc; injection hc with hc; injection hc with _ hc; exact hc.symm
  refine ⟨h1.put _ _, fun k => ?_, fun k => ?_⟩
  · rw [tot_snoc]
    by_cases e : i = k
    · subst e; rw [atKey_put_same h1 hk, if_pos rfl, hce]
    · rw [if_neg e, atKey_put_other (by intro h; injection h with _ h; exact e h.symm)]; exact h2 k
  · by_cases e : i = k
    · subst e; rw [has_put_same h1 hk]; simp
    · rw [has_put_other (by intro h; injection h with _ h; exact e h.symm), h3 k]; simp [e]

/-- a slice of slices of buckets: address, capacity, list -/
abbrev Sls := List (Option Addr × Nat × Bks)
def slenc (x : Option Addr × Nat × Bks) : List Value := [.slice x.1 x.2.2.length x.2.1]
def flat (L : Sls) : Bks := L.flatMap (·.2.2)
theorem Arr.sl_ {w : World} {A : Option Addr} {L : Sls} (h : Arr w slenc 1 A L) {k : Nat} (hk : k < L.length) : ∃ b off x, A = some ⟨b, off, none⟩ ∧ b < w.heap.size ∧ Hid (L[k]? = some x) ∧
    w.cell? ⟨b, off + k, none⟩ = some (.slice x.1 x.2.2.length x.2.1) := by
  obtain ⟨b, off, i, hA, hb, hx, hc⟩ := h.at_ hk
  have h0 := hc 0 _ rfl
  simp only [Nat.mul_one, Nat.add_zero] at h0
  exact ⟨b, off, i, hA, hb, hx, h0⟩
theorem flat_take {L : Sls} {k : Nat} {x : Option Addr × Nat × Bks} (h : L[k]? = some x) : flat (L.take (k + 1)) = flat (L.take k) ++ x.2.2 := by
  obtain ⟨hk, rfl⟩ := List.getElem?_eq_some_iff.1 h
  unfold flat; rw [List.take_succ_eq_append_getElem hk, List.flatMap_append]; simp
theorem flat_le {L : Sls} {k : Nat} {x : Option Addr × Nat × Bks} (h : L[k]? = some x) : (flat (L.take k)).length + x.2.2.length ≤ (flat L).length := by
  have e := flat_take h
  have : flat L = flat (L.take (k + 1)) ++ flat (L.drop (k + 1)) := by unfold flat; rw [← List.flatMap_append, List.take_append_drop]
  rw [this, List.length_append, e, List.length_append]; omega
theorem take_snoc {α : Type} {l : List α} {k : Nat} {x : α} (h : l[k]? = some x) : l.take (k + 1) = l.take k ++ [x] := by
  obtain ⟨hk, rfl⟩ := List.getElem?_eq_some_iff.1 h
  exact List.take_succ_eq_append_getElem hk
theorem wf_i64 {n : Int} (h : I64 n) : (Lit.int .i64 n).wf = true := WalkArith.wf_i64 h
/-- the integers of a list of buckets are ints -/
def WfB (l : Bks) : Prop := ∀ x ∈ l, I64 x.1 ∧ I64 x.2

theorem law3 : Keyed Try.prog 3 := int_keyed Try.underlying3
theorem zero3 (w : World) : (zeroValue 3).run Try.prog w = .ok (.int .i64 0) w := by kernel_rfl

def SomeMap (N : Nat) (l : Bks) (w : World) (e : Ending) (w' : World) : Prop :=
  ∃ b D, e = .returned (.map (some b)) ∧ w.heap.size ≤ b ∧ w'.ownsMap Try.prog 3 (plainElem (H := Unit) Try.prog 3) b N D ∧ MapIs D l ∧ Below w.heap.size w w'

set_option maxHeartbeats 2000000 in
set_option maxRecDepth 100000 in
theorem counts_any (A : Option Addr) (cap : Nat) (L : Sls) (w : World) (hL : Arr w slenc 1 A L) (hs : ∀ x ∈ L, Arr w benc 2 x.1 x.2.2) (hf : ∀ x ∈ L, WfB x.2.2)
    (hsum : (flat L).length ≤ 100000000000000) (hlen : L.length ≤ 1000) :
    Calls Try.prog 40 #[.slice A L.length cap] w (SomeMap (flat L).length (flat L) w) := by
  have hmm := @run_makeMap Try.prog
  go_enter Try.func40, Try.ntmps40
  go_wp2
  go_loopw [11] (fun i wr => ∃ (k : Nat) (D : DataW Unit), k ≤ L.length ∧ i = .int .i64 k ∧ wr.ownsMap Try.prog 3 (plainElem Try.prog 3) w.heap.size (flat (L.take k)).length D ∧ Hid (MapIs D (flat (L.take k))) ∧ Below w.heap.size w wr)
    (fun i _ => L.length - (intOf i).toNat)
  case atStart => exact ⟨0, _, Nat.zero_le _, rfl, World.ownsMap_made _ _ _ _, mapIs_nil, (Below.refl _ _).alloc (Nat.le_refl _) _⟩
  case round =>
    obtain ⟨k, D, hk, rfl, hown, HM, hb⟩ := hrel
    by_cases hlt : k < L.length
    · obtain ⟨p, off, x, rfl, _, HX, c0⟩ := (hL.below hb).sl_ hlt
      have hm := List.mem_of_getElem? HX.out
      have hx := hs x hm
      have hfx := hf x hm
      have hle := flat_le HX.out
      have HF := Lib.hid (flat_take HX.out)
      obtain ⟨A', cap', l⟩ := x
      clear hm
      simp only at hx hfx hle c0
      go_wp2
      obtain ⟨wo, rfl⟩ : ∃ wo : World, wo = wr := ⟨_, rfl⟩
      go_loopw [17] (fun i wr => ∃ (j : Nat) (D : DataW Unit), j ≤ l.length ∧ i = .int .i64 j ∧ wr.ownsMap Try.prog 3 (plainElem Try.prog 3) w.heap.size ((flat (L.take k)).length + j) D ∧ Hid (MapIs D (flat (L.take k) ++ l.take j)) ∧ Below w.heap.size w wr)
        (fun i _ => l.length - (intOf i).toNat)
      case atStart => exact ⟨0, D, Nat.zero_le _, rfl, hown, by simpa using HM, hb⟩
      case round =>
        clear hown HM hb
        obtain ⟨j, D, hj, rfl, hown, HM, hb⟩ := hrel
        by_cases hlj : j < l.length
        · obtain ⟨q, off', i, n, rfl, _, HY, c1, c2⟩ := (hx.below hb).bk_ hlj
          obtain ⟨wi, wn⟩ := hfx _ (List.mem_of_getElem? HY.out)
          have hkey : keyOf Try.prog 3 (.int .i64 i) = some (.int .i64 i) := keyOf_int_mk Try.underlying3 (wf_i64 wi)
          have hown1 := hown.alloc (.cells #[.int .i64 i, .int .i64 n] 51)
          clear hown
          go_wp2_with (first
            | (at_lookup; refine wpList_lookup_own_int _ rfl _ _ 55 rfl 3 3 .i64 law3 Try.underlying55 Try.underlying3 (zero3 _) w.heap.size _ _ rfl hown1 _ _ rfl hkey ?_; intro c hat hwc)
            | (at_mapUpdate; refine wpList_mapUpdate_own _ rfl _ _ _ 55 rfl 3 3 law3 Try.underlying55 _ w.heap.size _ _ rfl hown1 (by unfold maxLen; omega) _ _ _ rfl rfl hkey _ [] (plainElem_int Try.underlying3 (wrap64_wf _)) ?_; intro w1 hown2 hgrow2)
            | go_in)
          have HM2 : Hid (MapIs (D.put (.int .i64 i) (i64 (wrap64 (c + n)))) (flat (L.take k) ++ l.take (j + 1))) := by
            show MapIs _ _
            rw [take_snoc HY.out, ← List.append_assoc]
            exact mapIs_put HM.out i n c hat
          go_roundw
          case rel => exact ⟨j + 1, _, by omega, by go_num, hown2, HM2, (hb.alloc hb.size _).grown hgrow2 (by have := hb.size; simp; omega) (fun g hg => by cases hg; exact Nat.le_refl _)⟩
          case measure => simp [intOf]; omega
        · obtain rfl : j = l.length := by omega
          have HM2 : Hid (MapIs D (flat (L.take (k + 1)))) := by
            show MapIs _ _
            have hm := HM.out
            rw [List.take_length] at hm
            rw [HF.out]; exact hm
          have hn : (flat (L.take k)).length + l.length = (flat (L.take (k + 1))).length := by rw [HF.out, List.length_append]
          rw [hn] at hown
          clear hn HM
          go_wp2
          go_roundw
          case rel => exact ⟨k + 1, D, by omega, by go_num, hown, HM2, hb⟩
          case measure => simp [intOf]; omega
    · obtain rfl : k = L.length := by omega
      rw [List.take_length] at hown HM
      go_wp2
      go_ret
      exact ⟨_, D, rfl, Nat.le_refl _, hown, HM.out, hb⟩
end Go.Proofs.Ythppcgafanognaa
