/-
  The walk over ordered, counted: the sorted list of a map's entries that are not zero.
-/
import Derived.Test.YthppcgafanognaaCounts
import Derived.Sort.OwnSortedInts
import Derived.Maps.AppendAt
namespace Go.Proofs.Ythppcgafanognaa
open Go.RowKit Go.Maps Go.Sort

theorem grown_of_below {a w : World} (h : Below a.heap.size a w) (row : Option Nat) : a.grownBy w row := ⟨h.os, h.tape, h.output, h.size, fun i hi _ => h.block i hi⟩
theorem own_ne {w : World} {b1 b2 : Nat} {e1 e2 : TypeId} {s1 s2 n1 n2 : Nat} {v1 v2 : Value} {x1 x2 : List Value} (h1 : w.ownsRow b1 e1 s1 v1 n1 x1) (h2 : w.ownsRow b2 e2 s2 v2 n2 x2) (hne : e1 ≠ e2) :
    v1.ownBlock = none ∨ v1.ownBlock ≠ v2.ownBlock := by
  rcases h1.2 with ⟨rfl, _⟩ | ⟨g, cap, cur, rfl, _, hh, _⟩
  · exact Or.inl rfl
  · right
    rcases h2.2 with ⟨rfl, _⟩ | ⟨g', cap', cur', rfl, _, hh', _⟩
    · simp [Value.ownBlock]
    · intro e
      simp [Value.ownBlock] at e
      subst e
      rw [hh] at hh'
      injection hh' with h
      injection h with _ h
      exact hne h
theorem size_le {k : TypeId} {R : Value → Option (DataW Unit × List MemPlace)} {w : World} {P : Program} {b n : Nat} {D : DataW Unit} (h : w.ownsMap P k R b n D) : Maps.size D ≤ n := by
  obtain ⟨es, clock, _, _, hs, rfl⟩ := h
  rw [size_eq, length_sorted]; simpa using hs

def CollI (D0 : DataW Unit) (left : Lit → Bool) (ss : List Int) : Prop :=
  ss.Nodup ∧ (∀ x, x ∈ ss ↔ (Maps.has D0 (.int .i64 x) = true ∧ left (.int .i64 x) = false)) ∧ ∀ x ∈ ss, (Lit.int .i64 x).wf = true
theorem CollI.start (D0 : DataW Unit) : CollI D0 (Maps.has D0) [] := ⟨List.nodup_nil, fun x => by cases Maps.has D0 (.int .i64 x) <;> simp, by simp⟩
theorem CollI.step {D0 : DataW Unit} {left : Lit → Bool} {ss : List Int} (h : CollI D0 left ss) {x : Int} {y : DataW Unit} (hw : (Lit.int .i64 x).wf = true) (hlk : left (.int .i64 x) = true) (hat : ∀ zd, D0.atKey (.int .i64 x) zd = y) :
    CollI D0 (fun z => left z && !z.sameKey (.int .i64 x)) (ss ++ [x]) := by
  obtain ⟨h1, h2, h3⟩ := h
  have hx : x ∉ ss := fun hm => by rw [(h2 x).1 hm |>.2] at hlk; cases hlk
  have hsame : (Lit.int .i64 x).sameKey (.int .i64 x) = true := by simp [Lit.sameKey]
  refine ⟨List.nodup_append.2 ⟨h1, by simp, fun a ha b hb => by simp at hb; subst hb; intro e; subst e; exact hx ha⟩, fun z => ?_, fun z hz => ?_⟩
  · rw [List.mem_append, List.mem_singleton]
    by_cases e : z = x
    · subst e; simp [has_true_of_atKey hat, hsame]
    · have hne : (Lit.int .i64 z).sameKey (.int .i64 x) = false := sameKey_ne (by intro h; injection h with _ h; exact e h)
      simp [e, h2 z, hne]
  · rcases List.mem_append.1 hz with hz | hz
    · exact h3 z hz
    · simp at hz; subst hz; exact hw
theorem CollI.done {D0 : DataW Unit} {left : Lit → Bool} {ss : List Int} (h : CollI D0 left ss) (hl : ∀ kl, left kl = false) : ss.Nodup ∧ ∀ x, x ∈ ss ↔ Maps.has D0 (.int .i64 x) = true :=
  ⟨h.1, fun x => by rw [h.2.1 x]; simp [hl]⟩

/-- the entries of the sums of l at the keys ss that are not zero -/
def pick (l : Bks) (ss : List Int) : Bks := ss.filterMap fun k => if tot l k = 0 then none else some (k, tot l k)

set_option maxHeartbeats 400000 in
theorem closure_any (i n : Int) (w : World) :
    Calls Try.prog 46 #[.int .i64 i, .int .i64 n] w fun e w' => e = .returned (.tuple #[.agg #[.int .i64 i, .int .i64 n], .bool (n != 0)]) ∧ Below w.heap.size w w' := by
  go_enter Try.func46, Try.ntmps46
  go_wp2
  exact bodyPost_ret (v := .tuple #[.agg #[.int .i64 i, .int .i64 n], .bool (n != 0)]) (by simp [results, Try.results46, go_sem]) rfl ⟨rfl, (Below.refl _ _).alloc (Nat.le_refl _) _⟩

theorem int_info : (Try.prog.info? 3).map (fun i => (i.zero, i.size, i.bytes)) = some (some (.int .i64 0), 1, 8) := by kernel_rfl
theorem bk_info : (Try.prog.info? 51).map (fun i => (i.zero, i.size, i.bytes)) = some (some (.agg #[.int .i64 0, .int .i64 0]), 2, 16) := by kernel_rfl

theorem cell_two_at {w : World} {n : Nat} (hn : n = w.heap.size) (a b : Value) (t : TypeId) : ∀ j u, [a, b][j]? = some u → (w.alloc (.cells #[a, b] t)).cell? ((⟨n, 0, none⟩ : Addr).add j) = some u := by
  subst hn; exact cell_two_new w a b t

def leI : Int → Int → Bool := fun x y => decide (x ≤ y)
def bcells (l : Bks) : List Value := l.flatMap benc
def SomeOut (N : Nat) (l : Bks) (w : World) (e : Ending) (w' : World) : Prop :=
  ∃ (v : Value) (ss : List Int), e = .returned v ∧ ss.Nodup ∧ ss.length ≤ N ∧ (∀ x, x ∈ ss ↔ l.any (fun y => y.1 == x) = true) ∧
    w'.ownsRow w.heap.size 51 2 v (pick l (ss.mergeSort leI)).length (bcells (pick l (ss.mergeSort leI))) ∧ Below w.heap.size w w'

set_option maxHeartbeats 2000000 in
set_option maxRecDepth 100000 in
theorem ordered_any (b N : Nat) (l : Bks) (D : DataW Unit) (w : World) (hown : w.ownsMap Try.prog 3 (plainElem (H := Unit) Try.prog 3) b N D) (HM : Hid (MapIs D l)) (hN : N ≤ 1000000000000) :
    Calls Try.prog 45 #[.map (some b), .func (.func 46) #[] #[]] w (SomeOut N l w) := by
  obtain ⟨i0, hi0, hz0, hz1, hz2⟩ := info_parts int_info
  obtain ⟨i1, hi1, hy0, hy1, hy2⟩ := info_parts bk_info
  have hbl := hown.lt
  have hsz := size_le hown
  go_enter Try.func45, Try.ntmps45
  go_wp2_with (first
    | (at_len; refine wpList_len_own _ rfl _ 55 rfl 3 3 Try.underlying55 _ b N _ rfl hown ?_)
    | (at_make; refine wpList_make_own _ rfl _ _ 31 rfl w.heap.size 3 i0 (.int .i64 0) 1 Try.underlying31 hi0 hz0 hz1 _ _ _ (Maps.size D) rfl rfl rfl (by rw [hz2]; omega) (by unfold maxLen; omega) (Nat.le_refl _) ?_; intro w1 hrow1 hg1)
    | (at_range; refine wpList_range_own _ rfl _ 55 rfl 3 3 law3 Try.underlying55 _ b N _ rfl (hown.kept hg1 (by simp)) ?_; intro w0 hrg0 hg0 hs0)
    | go_in)
  go_frame
  go_loopw [5] (fun v wr => ∃ (left : Lit → Bool) (cnt : Nat) (ss : List Int), wr.ranges Try.prog 3 (plainElem Try.prog 3) b w1.heap.size N D left cnt ∧ ss.length + cnt ≤ Maps.size D ∧
      wr.ownsRow w.heap.size 3 1 v ss.length (ss.map (Value.int .i64)) ∧ v ≠ .slice none 0 0 ∧ CollI D left ss ∧ Below w.heap.size w wr)
    (fun _ wr => wr.rangeLeft b w1.heap.size)
  case atStart =>
    exact ⟨_, _, [], hrg0, by simp, hrow1.kept hg0 (Or.inr (by simp [Value.ownBlock])), by simp, CollI.start D,
      ((Below.refl _ _).grown hg1 (Nat.le_refl _) (fun j hj => by cases hj)).grown hg0 hg1.size (fun j hj => by cases hj)⟩
  case round =>
    obtain ⟨left, cnt, ss, hrg, hcs, hrow, hnn, hC, hnx⟩ := hrel
    go_wp2_with (first
      | (at_next; refine wpList_next_ranges_ii _ rfl _ rfl 3 3 .i64 .i64 law3 Try.underlying3 Try.underlying3 b w1.heap.size N _ _ _ rfl hrg ?_ ?_)
      | go_in)
    · intro hc0 hl0
      have hcol := hC.done hl0
      have hwfs := hC.2.2
      have hown2 := hrg.owns
      clear hC hl0 hrg
      rcases hrow.2 with ⟨hnil, _⟩ | ⟨g, cap, cur, rfl, hbase, hb, h1, h2, h3, h4⟩
      · exact absurd hnil hnn
      have hH : Holds (Value.int .i64) wr g 0 ss.toArray := holds_of_blockI hb (by simpa using h4)
      have hgl : g < wr.heap.size := (Array.getElem?_eq_some_iff.1 hb).1
      have hc := Lib.hid (Try.slices_Sort_int g 0 cap ss wr hH hgl (by omega))
      have hperm := List.mergeSort_perm ss leI
      have hlen : (ss.mergeSort leI).length = ss.length := hperm.length_eq
      have HCol := Lib.hid (show ss.Nodup ∧ (∀ x, x ∈ ss ↔ l.any (fun y => y.1 == x) = true) from ⟨hcol.1, fun x => by rw [hcol.2 x, HM.out.2.2 x]⟩)
      have HWf := Lib.hid (show ∀ x ∈ ss.mergeSort leI, (Lit.int .i64 x).wf = true from fun x hx => hwfs x (hperm.mem_iff.1 hx))
      have hsort : ∀ nn os, (grow (putRow (Value.int .i64) (Sort.ahead wr nn) g 0 (ss.mergeSort leI).toArray) os).ownsRow w.heap.size 3 1 (.slice (some ⟨g, 0, none⟩) ss.length cap) ss.length ((ss.mergeSort leI).map (Value.int .i64)) :=
        fun nn os => ownsRow_sortedI hlen hbase hb h1 h2 h3
      have hgs : ∀ nn os, wr.grownBy (grow (putRow (Value.int .i64) (Sort.ahead wr nn) g 0 (ss.mergeSort leI).toArray) os) (some g) := fun nn os => grownBy_sortedI _
      have HS := Lib.hid hsort
      have HG := Lib.hid hgs
      have HL := Lib.hid hlen
      have hbg : b ≠ g := by omega
      clear hcol hwfs hperm hlen hsort hgs h1 h2 h3 h4 hH hb
      go_wp2_with fail
      refine hc.out.mono ?_
      rintro e w2 ⟨rfl, nn, os, rfl⟩
      have hrow2 := HS.out nn os
      have hg2 := HG.out nn os
      obtain ⟨w2, hw2⟩ : ∃ w2, grow (putRow (Value.int .i64) (Sort.ahead wr nn) g 0 (ss.mergeSort leI).toArray) os = w2 := ⟨_, rfl⟩
      have hw2' : grow (putRow (Value.int .i64) (Sort.ahead wr nn) g 0 (ss.mergeSort fun x y => decide (x ≤ y)).toArray) os = w2 := hw2
      rw [hw2'] at *
      rw [hw2] at hrow2 hg2
      clear hw2 hw2' HS HG hc
      have hnx2 := hnx.grown hg2 hnx.size (fun j hj => by cases hj; exact hbase)
      have hown3 := hown2.kept hg2 (by simpa using hbg)
      clear hown2 hg2 hnx hrow hrow1 hg1 hrg0 hg0 hs0 hown
      have hssN : ss.length ≤ N := by omega
      clear hcs hc0 hnn hgl
      have hcells := hrow2
      go_wp2_with fail
      go_loopw [7, 29] (fun v i wr => ∃ j : Nat, j ≤ ss.length ∧ i = .int .i64 j ∧ wr.ownsRow w.heap.size 51 2 v (pick l ((ss.mergeSort leI).take j)).length (bcells (pick l ((ss.mergeSort leI).take j))) ∧
          wr.ownsRow w.heap.size 3 1 (.slice (some ⟨g, 0, none⟩) ss.length cap) ss.length ((ss.mergeSort leI).map (Value.int .i64)) ∧ wr.ownsMap Try.prog 3 (plainElem Try.prog 3) b N D ∧ RowKit.Below w.heap.size w wr)
        (fun _ i _ => ss.length - (intOf i).toNat)
      case atStart => exact ⟨0, Nat.zero_le _, rfl, World.ownsRow_nil _ _ _ _, hrow2, hown3, hnx2⟩
      case round =>
        clear hcells hrow2 hown3 hnx2
        obtain ⟨j, hj, rfl, hout, hkeys, hmap, hb⟩ := hrel
        by_cases hlt : j < ss.length
        · have hka : Arr wr ienc 1 (some ⟨g, 0, none⟩) (ss.mergeSort leI) := arr_of_own ienc_len HL.out (by rw [← ints_flat]; exact hkeys)
          obtain ⟨b', off', x, hA, _, HX, c0⟩ := hka.int_ (k := j) (by rw [HL.out]; exact hlt)
          obtain ⟨rfl, rfl⟩ : g = b' ∧ 0 = off' := by simpa using hA
          simp only [Nat.zero_add] at c0
          have hwx := HWf.out x (List.mem_of_getElem? HX.out)
          have hkey : keyOf Try.prog 3 (.int .i64 x) = some (.int .i64 x) := keyOf_int_mk Try.underlying3 hwx
          obtain ⟨t, ht⟩ : ∃ t, tot l x = t := ⟨_, rfl⟩
          have HT := Lib.hid (show ∀ c, D.atKey (.int .i64 x) (.lit (.int .i64 0)) = .lit (.int .i64 c) → c = t from fun c hc => by
            rw [HM.out.2.1 x] at hc; injection hc with hc; injection hc with _ hc; rw [← hc, ht])
          have hpl : (pick l ((ss.mergeSort leI).take j)).length ≤ j := Nat.le_trans (List.length_filterMap_le _ _) (List.length_take_le _ _)
          clear hka hwx hA
          by_cases hz : t = 0
          · have HP := Lib.hid (show pick l ((ss.mergeSort leI).take (j + 1)) = pick l ((ss.mergeSort leI).take j) by
              rw [take_snoc HX.out]; simp [pick, List.filterMap_append, ht, hz])
            subst hz
            go_wp2_with (first
              | (at_lookup; refine wpList_lookup_own_int _ rfl _ _ 55 rfl 3 3 .i64 law3 Try.underlying55 Try.underlying3 (zero3 _) b N _ rfl hmap _ _ rfl hkey ?_; intro c hat hwc; obtain rfl : c = 0 := HT.out c hat; clear hat hwc)
              | (go_at_call 46; refine (closure_any _ _ _).mono ?_; rintro e w3 ⟨rfl, hb3⟩))
            go_roundw
            case rel =>
              refine ⟨j + 1, by omega, by go_num, by rw [HP.out]; exact (hout.kept (grown_of_below hb3 none) (by cases Value.ownBlock u7 <;> simp)).alloc _,
                (hkeys.kept (grown_of_below hb3 none) (Or.inr (by simp [Value.ownBlock]))).alloc _, (hmap.kept (grown_of_below hb3 none) (by simp)).alloc _, (hb.trans (hb3.mono hb.size)).alloc (by have := hb.size; have := hb3.size; omega) _⟩
            case measure => simp [intOf]; omega
          · have HP := Lib.hid (show pick l ((ss.mergeSort leI).take (j + 1)) = pick l ((ss.mergeSort leI).take j) ++ [(x, t)] by
              rw [take_snoc HX.out]; simp [pick, List.filterMap_append, ht, hz])
            have hz2 : (t != 0) = true := by simpa using hz
            clear hz ht
            go_wp2_with (first
              | (at_lookup; refine wpList_lookup_own_int _ rfl _ _ 55 rfl 3 3 .i64 law3 Try.underlying55 Try.underlying3 (zero3 _) b N _ rfl hmap _ _ rfl hkey ?_; intro c hat hwc; obtain rfl : c = t := HT.out c hat; clear hat hwc)
              | (go_at_call 46; refine (closure_any _ _ _).mono ?_; rintro e w3 ⟨rfl, hb3⟩)
              | (at_builtin; refine wpList_append_own _ rfl _ _ 25 rfl w.heap.size 51 i1 (.agg #[.int .i64 0, .int .i64 0]) 2 16 Try.underlying25 hi1 hy0 hy1 hy2 rfl (by decide) _ _ _ rfl (((hout.kept (grown_of_below hb3 none) (by cases Value.ownBlock u7 <;> simp)).alloc (.cells #[.int .i64 x, .int .i64 c] 51)).alloc (.cells #[.int .i64 x, .int .i64 c] 51)) ⟨w3.heap.size + 1, 0, none⟩ 1 1 [.int .i64 x, .int .i64 c] rfl rfl (cell_two_at (by simp) _ _ _) (by simp [Value.oneCell']) (by unfold maxLen; omega) (by omega) (by have := hb.size; have := hb3.size; simp; omega) ?_; intro v4 w4 hown4 hg4 _; go_frame))
            have hlow : ∀ k, u7.ownBlock = some k → w.heap.size ≤ k := fun k hk => (hout.lt k hk).1
            have hkn : Value.ownBlock (.slice (some ⟨g, 0, none⟩) ss.length cap) ≠ u7.ownBlock := by
              rcases own_ne hkeys hout (by decide) with h | h
              · simp [Value.ownBlock] at h
              · exact h
            go_roundw
            case rel =>
              refine ⟨j + 1, by omega, by go_num, ?_, ?_, ?_, ?_⟩
              · rw [HP.out, List.length_append]; unfold bcells at *; rw [List.flatMap_append]; exact hown4
              · exact (((hkeys.kept (grown_of_below hb3 none) (Or.inr (by simp [Value.ownBlock]))).alloc _).alloc _).kept hg4 (Or.inr hkn)
              · exact (((hmap.kept (grown_of_below hb3 none) (by simp)).alloc _).alloc _).kept hg4 (fun e => by have := hlow b e.symm; omega)
              · exact (((hb.trans (hb3.mono hb.size)).alloc (by have := hb.size; have := hb3.size; omega) _).alloc (by have := hb.size; have := hb3.size; simp; omega) _).grown hg4 (by have := hb.size; have := hb3.size; simp; omega) hlow
            case measure => simp [intOf]; omega
        · have hall : (ss.mergeSort leI).take j = ss.mergeSort leI := List.take_of_length_le (by rw [HL.out]; omega)
          rw [hall] at hout
          clear hall
          go_wp2
          go_ret
          exact ⟨_, ss, rfl, HCol.out.1, hssN, HCol.out.2, hout, hb⟩
    · intro x c w2 cnt2 hwx hwc hlk hat hrg2 hlt hg2 hs2 hen
      have hrow2 := hrow.kept hg2 (Or.inr (row_ne_iter hrow hrg).symm)
      clear hs2
      go_wp2_with (first
        | (at_builtin; refine wpList_append_own _ rfl _ _ 31 rfl w.heap.size 3 i0 (.int .i64 0) 1 8 Try.underlying31 hi0 hz0 hz1 hz2 rfl (by decide) _ _ _ rfl (hrow2.alloc _) ⟨w2.heap.size, 0, none⟩ 1 1 [.int .i64 x] rfl rfl (cell_one_new _ _ _) (by simp [Value.oneCell']) (by unfold maxLen at *; omega) (by omega) (by have := hnx.size; have := hg2.size; simp; omega) ?_; intro v' w3 hown' hg3 hnil3; go_frame)
        | go_in)
      have hrg3 := (hrg2.alloc _).kept hg3 (row_ne_low hrow2 hbl) (row_ne_iter hrow2 hrg2)
      go_roundw
      case rel =>
        refine ⟨_, cnt2, ss ++ [x], hrg3, by simp; omega, by simpa using hown', fun hv' => by have := (hnil3.1 hv').2; omega, hC.step hwx hlk hat, ?_⟩
        exact ((hnx.grown hg2 hnx.size (fun j hj => by cases hj; exact hg1.size)).alloc (by have := hnx.size; have := hg2.size; omega) _).grown hg3 (by have := hnx.size; have := hg2.size; simp; omega) (fun j hj => (hrow2.lt j hj).1)
      case measure => rw [hrg3.left_eq, hrg.left_eq]; exact hlt
end Go.Proofs.Ythppcgafanognaa
