/-
  The walks over counted, Add, Merge and all.
-/
import Derived.Test.YthppcgafanognaaSums
namespace Go.Proofs.Ythppcgafanognaa
open Go.RowKit Go.Maps

/-- a sketch with the sums t, of at most n buckets -/
def SomeSk (n : Nat) (t : Int → Int) (w : World) (e : Ending) (w' : World) : Prop :=
  ∃ (A : Option Addr) (cap : Nat) (m : Bks), e = .returned (.slice A m.length cap) ∧ Arr w' benc 2 A m ∧ Asc m ∧ WfB m ∧ m.length ≤ n ∧ (∀ k, tot m k = t k) ∧ Below w.heap.size w w'

theorem someSk_of {N : Nat} {l : Bks} {w w' : World} {e : Ending} (hf : WfB l) (h : SomeOut N l w e w') : SomeSk N (tot l) w e w' := by
  obtain ⟨v, ss, rfl, hnd, hN, hm, hown, hb⟩ := h
  obtain ⟨A, cap, rfl⟩ := own_shape hown
  have hw : WfB (pick l (ss.mergeSort leI)) := pick_wf fun k hk => by
    obtain ⟨y, hy, e⟩ := List.any_eq_true.1 ((hm k).1 hk)
    have : y.1 = k := by simpa using e
    rw [← this]; exact (hf y hy).1
  refine ⟨A, cap, _, rfl, arr_of_own benc_len rfl hown, pick_asc hnd, hw, ?_, pick_tot hnd hm hw, hb⟩
  have := List.length_filterMap_le (fun k => if tot l k = 0 then none else some (k, tot l k)) (ss.mergeSort leI)
  rw [(List.mergeSort_perm ss leI).length_eq] at this
  unfold pick; omega
theorem SomeSk.mono {n : Nat} {t t' : Int → Int} {w w1 w' : World} {e : Ending} (h : SomeSk n t w1 e w') (ht : ∀ k, t k = t' k) (hb : Below w.heap.size w w1) : SomeSk n t' w e w' := by
  obtain ⟨A, cap, m, he, ha, h1, h2, h3, h4, h5⟩ := h
  exact ⟨A, cap, m, he, ha, h1, h2, h3, fun k => (h4 k).trans (ht k), hb.trans (h5.mono hb.size)⟩

set_option maxHeartbeats 400000 in
theorem counted_any (b N : Nat) (l : Bks) (D : DataW Unit) (w : World) (hown : w.ownsMap Try.prog 3 (plainElem (H := Unit) Try.prog 3) b N D) (HM : Hid (MapIs D l)) (hN : N ≤ 1000000000000) (hf : WfB l) :
    Calls Try.prog 41 #[.map (some b)] w (SomeSk N (tot l) w) := by
  have H := Lib.hid (ordered_any b N l D w hown HM hN)
  have HF := Lib.hid hf
  clear hown hf
  go_enter Try.func41, Try.ntmps41
  go_wp2_with fail
  refine H.out.mono ?_
  intro e w' h
  obtain ⟨A, cap, m, rfl, h2⟩ := someSk_of HF.out h
  have H2 := Lib.hid h2
  clear h h2
  go_wp2_with fail
  go_ret
  exact ⟨A, cap, m, rfl, H2.out⟩

theorem arr_one (w : World) (t : TypeId) (A : Option Addr) (cap : Nat) (l : Bks) (n : Nat) (hn : n = w.heap.size) : Arr (w.alloc (.cells #[.slice A l.length cap] t)) slenc 1 (some ⟨n, 0, none⟩) [(A, cap, l)] := by
  subst hn
  refine Or.inr ⟨w.heap.size, 0, rfl, by simp, fun k x hx j u hu => ?_⟩
  match k, hx with
  | 0, hx =>
    simp at hx; subst hx
    match j, hu with
    | 0, hu => simp [slenc] at hu; subst hu; simp
    | j + 1, hu => simp [slenc] at hu
  | k + 1, hx => simp at hx
theorem arr_two (w : World) (t : TypeId) (A B : Option Addr) (c d : Nat) (l m : Bks) (n : Nat) (hn : n = w.heap.size) : Arr (w.alloc (.cells #[.slice A l.length c, .slice B m.length d] t)) slenc 1 (some ⟨n, 0, none⟩) [(A, c, l), (B, d, m)] := by
  subst hn
  refine Or.inr ⟨w.heap.size, 0, rfl, by simp, fun k x hx j u hu => ?_⟩
  match k, hx with
  | 0, hx =>
    simp at hx; subst hx
    match j, hu with
    | 0, hu => simp [slenc] at hu; subst hu; simp
    | j + 1, hu => simp [slenc] at hu
  | 1, hx =>
    simp at hx; subst hx
    match j, hu with
    | 0, hu => simp [slenc] at hu; subst hu; simp
    | j + 1, hu => simp [slenc] at hu
  | k + 2, hx => simp at hx

set_option maxHeartbeats 1000000 in
theorem merge_any (A B : Option Addr) (c d : Nat) (l m : Bks) (w : World) (ha : Arr w benc 2 A l) (hb : Arr w benc 2 B m) (fl : WfB l) (fm : WfB m) (hn : l.length + m.length ≤ 1000000000000) :
    Calls Try.prog 26 #[.slice A l.length c, .slice B m.length d] w (SomeSk (l.length + m.length) (tot (l ++ m)) w) := by
  have hbl : Below w.heap.size w (w.alloc (.cells #[.slice A l.length c, .slice B m.length d] 25)) := (Below.refl _ _).alloc (Nat.le_refl _) _
  have hc := counts_any (some ⟨w.heap.size, 0, none⟩) 2 [(A, c, l), (B, d, m)] (w.alloc (.cells #[.slice A l.length c, .slice B m.length d] 25)) (arr_two w 25 A B c d l m _ rfl)
    (fun x hx => by simp at hx; rcases hx with rfl | rfl; exact ha.below hbl; exact hb.below hbl) (fun x hx => by simp at hx; rcases hx with rfl | rfl; exact fl; exact fm)
    (by simp [flat]; omega) (by simp)
  have e : flat [(A, c, l), (B, d, m)] = l ++ m := by simp [flat]
  rw [e] at hc
  have H := Lib.hid hc
  have HF := Lib.hid (show WfB (l ++ m) from fun x hx => by rcases List.mem_append.1 hx with h | h; exact fl x h; exact fm x h)
  have HB := Lib.hid hbl
  have HL := Lib.hid (show (l ++ m).length = l.length + m.length from List.length_append)
  clear hc e ha hb fl fm hbl
  go_enter Try.func26, Try.ntmps26
  go_wp2_with fail
  refine H.out.mono ?_
  rintro e w1 ⟨b, D, rfl, _, hown, hM, hb1⟩
  have HM := Lib.hid hM
  have HB1 := Lib.hid (HB.out.trans (hb1.mono HB.out.size))
  clear hM hb1
  go_wp2_with fail
  rw [HL.out] at hown
  refine (counted_any b _ (l ++ m) D w1 hown HM hn HF.out).mono ?_
  intro e w2 h
  obtain ⟨A', cap', m', rfl, h2⟩ := h.mono (fun _ => rfl) HB1.out
  have H2 := Lib.hid h2
  clear h h2 hown
  go_wp2_with fail
  go_ret
  exact ⟨A', cap', m', rfl, H2.out⟩

set_option maxHeartbeats 1000000 in
theorem add_any (A : Option Addr) (c : Nat) (l : Bks) (n t : Int) (w : World) (ha : Arr w benc 2 A l) (fl : WfB l) (hn : l.length < 1000000000000) (h0 : I64 n) (h1 : I64 t) :
    Calls Try.prog 24 #[.slice A l.length c, .int .i64 n, .int .i64 t] w (SomeSk (l.length + 1) (tot (l ++ [(idx n, t)])) w) := by
  have hbl : Below w.heap.size w (w.alloc (.cells #[.slice A l.length c] 25)) := (Below.refl _ _).alloc (Nat.le_refl _) _
  have hc := counts_any (some ⟨w.heap.size, 0, none⟩) 1 [(A, c, l)] (w.alloc (.cells #[.slice A l.length c] 25)) (arr_one w 25 A c l _ rfl)
    (fun x hx => by simp at hx; subst hx; exact ha.below hbl) (fun x hx => by simp at hx; subst hx; exact fl) (by simp [flat]; omega) (by simp)
  have e : flat [(A, c, l)] = l := by simp [flat]
  rw [e] at hc
  have hi := idx_range n h0.1 h0.2
  have H := Lib.hid hc
  have HF := Lib.hid (show WfB (l ++ [(idx n, t)]) from fun x hx => by
    rcases List.mem_append.1 hx with h | h
    · exact fl x h
    · simp at h; subst h; exact ⟨⟨by simp; omega, by simp; omega⟩, h1⟩)
  have HB := Lib.hid hbl
  have HI := Lib.hid (fun w => Index_any len64 n w h0.1 h0.2)
  obtain ⟨i, hi2⟩ : ∃ i, idx n = i := ⟨_, rfl⟩
  rw [hi2] at HI HF hi ⊢
  have hkey : keyOf Try.prog 3 (.int .i64 i) = some (.int .i64 i) := keyOf_int_mk Try.underlying3 (wf_i64 ⟨by omega, by omega⟩)
  clear hc e ha fl hbl h0 h1 hi2
  go_enter Try.func24, Try.ntmps24
  go_wp2_with fail
  refine H.out.mono ?_
  rintro e w1 ⟨b, D, rfl, hbb, hown, hM, hb1⟩
  have HM := Lib.hid hM
  have HB1 := Lib.hid (HB.out.trans (hb1.mono HB.out.size))
  have hbw : w.heap.size ≤ b := Nat.le_trans HB.out.size hbb
  clear hM hb1 hbb
  go_wp2_with (first
    | (go_at_call 13; refine (HI.out _).mono ?_; rintro e w2 ⟨rfl, rfl⟩)
    | (at_lookup; refine wpList_lookup_own_int _ rfl _ _ 55 rfl 3 3 .i64 law3 Try.underlying55 Try.underlying3 (zero3 _) b _ _ rfl hown _ _ rfl hkey ?_; intro c hat hwc)
    | (at_mapUpdate; refine wpList_mapUpdate_own _ rfl _ _ _ 55 rfl 3 3 law3 Try.underlying55 _ b _ _ rfl hown (by unfold maxLen; omega) _ _ _ rfl rfl hkey _ [] (plainElem_int Try.underlying3 (wrap64_wf _)) ?_; intro w3 hown2 hgrow2)
    | fail)
  have HM2 := Lib.hid (mapIs_put HM.out i t _ hat)
  have HB3 := Lib.hid (HB1.out.grown hgrow2 HB1.out.size (fun k hk => by cases hk; exact hbw))
  clear hat hwc hown hgrow2
  refine (counted_any b _ (l ++ [(i, t)]) _ w3 hown2 HM2 (by omega) HF.out).mono ?_
  intro e w4 h
  obtain ⟨A', cap', m', rfl, h2⟩ := h.mono (fun _ => rfl) HB3.out
  have H2 := Lib.hid h2
  clear h h2 hown2
  go_wp2_with fail
  go_ret
  exact ⟨A', cap', m', rfl, H2.out⟩

/-- the buckets of some integers, each once -/
def ones (l : List Int) : Bks := l.map fun n => (idx n, 1)
theorem ones_snoc {l : List Int} {k : Nat} {n : Int} (h : l[k]? = some n) : ones (l.take (k + 1)) = ones (l.take k) ++ [(idx n, 1)] := by
  rw [take_snoc h]; simp [ones]
/-- the keys of a sketch of integers -/
def Keys (m : Bks) : Prop := ∀ x ∈ m, -1888 ≤ x.1 ∧ x.1 ≤ 1887
theorem asc_length : ∀ (m : Bks) (a b : Int), m.Pairwise (fun x y => x.1 < y.1) → (∀ x ∈ m, a ≤ x.1 ∧ x.1 < b) → a ≤ b → (m.length : Int) ≤ b - a
  | [], a, b, _, _, h => by simp; omega
  | x :: t, a, b, hp, hm, hab => by
    obtain ⟨h1, h2⟩ := List.pairwise_cons.1 hp
    have hx := hm x (by simp)
    have := asc_length t (x.1 + 1) b h2 (fun y hy => ⟨by have := h1 y hy; omega, (hm y (by simp [hy])).2⟩) (by omega)
    simp only [List.length_cons]; omega
theorem keys_length {m : Bks} (h : Asc m) (hk : Keys m) : m.length ≤ 3776 := by
  have := asc_length m (-1888) 1888 h.1 (fun x hx => by have := hk x hx; omega) (by omega)
  omega
theorem keys_of_tot {m : Bks} {l : List Int} (h : Asc m) (hf : WfB m) (ht : ∀ k, tot m k = tot (ones l) k) (hl : ∀ n ∈ l, I64 n) : Keys m := fun x hx => by
  by_cases hin : ∃ y ∈ ones l, y.1 = x.1
  · obtain ⟨y, hy, e⟩ := hin
    obtain ⟨n, hn, rfl⟩ := List.mem_map.1 hy
    have := idx_range n (hl n hn).1 (hl n hn).2
    simp at e; omega
  · have h1 := tot_one h hf hx
    rw [ht, tot_none fun y hy e => hin ⟨y, hy, e⟩] at h1
    exact absurd h1.symm (h.2 x hx)

/-- the sketch of a list of integers -/
def SomeAll (l : List Int) (w : World) (e : Ending) (w' : World) : Prop :=
  ∃ (A : Option Addr) (cap : Nat) (m : Bks), e = .returned (.slice A m.length cap) ∧ Arr w' benc 2 A m ∧ Asc m ∧ WfB m ∧ Keys m ∧ (∀ k, tot m k = tot (ones l) k) ∧ Below w.heap.size w w'

theorem asc_nil : Asc [] ∧ WfB [] ∧ Keys [] ∧ ∀ k' : Int, tot [] k' = tot (ones []) k' := by
  refine ⟨⟨List.Pairwise.nil, ?_⟩, ?_, ?_, fun _ => rfl⟩ <;> (intro x hx; cases hx)

set_option maxHeartbeats 1000000 in
theorem all_any (A : Option Addr) (cap : Nat) (l : List Int) (w : World) (h : Arr w ienc 1 A l) (hf : ∀ n ∈ l, I64 n) (hl : l.length ≤ 100000000000000) :
    Calls Try.prog 22 #[.slice A l.length cap] w (SomeAll l w) := by
  have HF := Lib.hid hf
  clear hf
  go_enter Try.func22, Try.ntmps22
  go_wp2
  go_loopw [3, 4] (fun v i wr => ∃ (k : Nat) (B : Option Addr) (c : Nat) (m : Bks), k ≤ l.length ∧ i = .int .i64 k ∧ v = .slice B m.length c ∧ Arr wr benc 2 B m ∧ Hid (Asc m ∧ WfB m ∧ Keys m ∧ ∀ k', tot m k' = tot (ones (l.take k)) k') ∧ m.length ≤ 3776 ∧ Below w.heap.size w wr)
    (fun _ i _ => l.length - (intOf i).toNat)
  case atStart => exact ⟨0, none, 0, [], Nat.zero_le _, rfl, rfl, Arr.nil _ _ _ _, asc_nil, by simp, Below.refl _ _⟩
  case round =>
    obtain ⟨k, B, c, m, hk, rfl, rfl, harr, HM, hm, hb⟩ := hrel
    by_cases hlt : k < l.length
    · obtain ⟨p, off, n, rfl, _, HX, c0⟩ := (h.below hb).int_ hlt
      have hn := HF.out n (List.mem_of_getElem? HX.out)
      have HC := Lib.hid (add_any B c m n 1 wr harr HM.out.2.1 (by omega) hn ⟨by omega, by omega⟩)
      clear hn harr
      go_wp2_with fail
      refine HC.out.mono ?_
      rintro e w2 ⟨A', cap', m', rfl, ha', hs, hw, _, ht, hb2⟩
      have ht2 : ∀ k', tot m' k' = tot (ones (l.take (k + 1))) k' := fun k' => by
        rw [ht k', ones_snoc HX.out]; exact tot_append_congr (HM.out.2.2.2 k')
      have hks := keys_of_tot hs hw ht2 (fun x hx => HF.out x (List.mem_of_mem_take hx))
      have hm' := keys_length hs hks
      have HM2 := Lib.hid (show Asc m' ∧ WfB m' ∧ Keys m' ∧ ∀ k', tot m' k' = tot (ones (l.take (k + 1))) k' from ⟨hs, hw, hks, ht2⟩)
      have hb3 := hb.trans (hb2.mono hb.size)
      clear ht ht2 hks hs hw HM HC hb2 hb
      go_wp2_with fail
      go_roundw
      case rel => exact ⟨k + 1, A', cap', m', by omega, by go_num, rfl, ha', HM2, hm', hb3⟩
      case measure => simp [intOf]; omega
    · obtain rfl : k = l.length := by omega
      rw [List.take_length] at HM
      go_wp2
      go_ret
      exact ⟨B, c, m, rfl, harr, HM.out.1, HM.out.2.1, HM.out.2.2.1, HM.out.2.2.2, hb⟩
end Go.Proofs.Ythppcgafanognaa
