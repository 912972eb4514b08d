/- Own texts, part 8. -/
import Derived.Test.YtpglogahncpnoaaPart7
import Derived.Test.YtpglogahncpnoaaPart6

namespace Go.Abs
open Go.Proofs Go.RowKit
/-! sets as lists -/
section
variable {α : Type} [DecidableEq α]
def addU (x : α) (l : List α) : List α := if x ∈ l then l else l ++ [x]
theorem mem_addU {x y : α} {l : List α} : y ∈ addU x l ↔ y = x ∨ y ∈ l := by
  unfold addU
  split
  · constructor
    · exact .inr
    · rintro (rfl | h)
      · assumption
      · exact h
  · simp only [List.mem_append, List.mem_singleton]
    exact Or.comm
theorem nodup_addU {x : α} {l : List α} (h : l.Nodup) : (addU x l).Nodup := by
  unfold addU
  split
  · exact h
  · rename_i hx
    exact List.nodup_append.2 ⟨h, by simp, by simp; exact fun a ha e => hx (e ▸ ha)⟩
abbrev setA (k : α → AV) (l : List α) : List AV := l.map fun a => .tup [k a, .bool true]
theorem put_setA {k : α → AV} (hk : ∀ a b, keyEq (k a) (k b) = decide (a = b)) (x : α) : ∀ l : List α, keptPutM (setA k l) (k x) (.bool true) = setA k (addU x l)
  | [] => by simp [setA, keptPutM, addU]
  | a :: l => by
    simp only [setA, List.map_cons, keptPutM, hk]
    by_cases e : a = x
    · subst e; simp [addU]
    · rw [if_neg (by simpa using e), put_setA hk x l]
      have hne : ¬ x = a := fun h => e h.symm
      unfold addU
      by_cases hx : x ∈ l
      · simp [hx, setA]
      · simp [hx, hne, setA]
theorem look_setA {k : α → AV} (hk : ∀ a b, keyEq (k a) (k b) = decide (a = b)) (x : α) : ∀ l : List α, lookM (setA k l) (k x) = if x ∈ l then some (.bool true) else none
  | [] => rfl
  | a :: l => by
    simp only [setA, List.map_cons, lookM, hk]
    by_cases e : a = x
    · subst e; simp
    · have hne : ¬ x = a := fun h => e h.symm
      rw [if_neg (by simpa using e), look_setA hk x l]
      simp [hne]
def uniq {β : Type} (f : β → α) (L : List β) : List α := L.foldl (fun m e => addU (f e) m) []
theorem uniq_acc {β : Type} {f : β → α} : ∀ (L : List β) (m : List α), m.Nodup → (L.foldl (fun m e => addU (f e) m) m).Nodup ∧ ∀ y, y ∈ L.foldl (fun m e => addU (f e) m) m ↔ y ∈ m ∨ ∃ e ∈ L, f e = y
  | [], m, h => ⟨h, fun y => by simp⟩
  | e :: L, m, h => by
    obtain ⟨h1, h2⟩ := uniq_acc (f := f) L (addU (f e) m) (nodup_addU h)
    refine ⟨h1, fun y => ?_⟩
    simp only [List.foldl_cons]
    rw [h2, mem_addU]
    constructor
    · rintro ((rfl | hm) | ⟨e', he, rfl⟩)
      · exact .inr ⟨e, by simp, rfl⟩
      · exact .inl hm
      · exact .inr ⟨e', by simp [he], rfl⟩
    · rintro (hm | ⟨e', he, rfl⟩)
      · exact .inl (.inr hm)
      · rcases List.mem_cons.1 he with rfl | he
        · exact .inl (.inl rfl)
        · exact .inr ⟨e', he, rfl⟩
theorem uniq_mem {β : Type} {f : β → α} {L : List β} {y : α} : y ∈ uniq f L ↔ ∃ e ∈ L, f e = y := by
  unfold uniq; rw [(uniq_acc L [] List.nodup_nil).2]; simp
theorem uniq_nodup {β : Type} {f : β → α} {L : List β} : (uniq f L).Nodup := (uniq_acc L [] List.nodup_nil).1
theorem fold_setA {β : Type} {f : β → α} {k : α → AV} (hk : ∀ a b, keyEq (k a) (k b) = decide (a = b)) : ∀ (L : List β) (m : List α), L.foldl (fun m e => keptPutM m (k (f e)) (.bool true)) (setA k m) = setA k (L.foldl (fun m e => addU (f e) m) m)
  | [], m => rfl
  | e :: L, m => by
    simp only [List.foldl_cons]
    rw [put_setA hk]
    exact fold_setA hk L _
end
/-! the two maps -/
theorem key_id (a b : List UInt8 × Int) : keyEq (idA a.1 a.2) (idA b.1 b.2) = decide (a = b) := by
  obtain ⟨s, n⟩ := a
  obtain ⟨t, q⟩ := b
  simp only [keyEq, decide_true, Bool.true_and]
  by_cases h1 : s = t <;> by_cases h2 : n = q <;> simp [h1, h2]
theorem key_str (a b : List UInt8) : keyEq (.str a) (.str b) = decide (a = b) := by
  simp only [keyEq]
  by_cases h : a = b <;> simp [h]
theorem idsM_eq (L : List EnI) : idsM L = setA (fun p : List UInt8 × Int => idA p.1 p.2) (uniq (fun e : EnI => (e.f.src, e.f.seq)) L) := fold_setA (f := fun e : EnI => (e.f.src, e.f.seq)) key_id L []
theorem srcM_eq (L : List EnI) : srcM L = setA AV.str (uniq (fun e : EnI => e.f.src) L) := fold_setA (f := fun e : EnI => e.f.src) key_str L []
theorem keysM_set : ∀ l : List (List UInt8), keysM (setA AV.str l) = l
  | [] => rfl
  | a :: l => by simp only [setA, List.map_cons, keysM]; rw [show keysM (List.map (fun a => AV.tup [.str a, .bool true]) l) = l from keysM_set l]
theorem look_ids (L : List EnI) (s : List UInt8) (n : Int) : lookM (idsM L) (idA s n) = if hasId L s n = true then some (.bool true) else none := by
  rw [idsM_eq]
  have := look_setA (k := fun p : List UInt8 × Int => idA p.1 p.2) key_id (s, n) (uniq (fun e : EnI => (e.f.src, e.f.seq)) L)
  simp only at this
  rw [this]
  have e : ((s, n) ∈ uniq (fun e : EnI => (e.f.src, e.f.seq)) L) ↔ hasId L s n = true := by
    rw [uniq_mem]
    simp only [hasId, List.any_eq_true, Bool.and_eq_true, decide_eq_true_eq, Prod.mk.injEq]
  by_cases h : hasId L s n = true
  · rw [if_pos h, if_pos (e.2 h)]
  · rw [if_neg h, if_neg (fun h' => h (e.1 h'))]
theorem nmsM_eq (L : List EnI) : nmsM L = keptSort (uniq (fun e : EnI => e.f.src) L) := by
  unfold nmsM; rw [srcM_eq, keysM_set]
theorem nms_nodup (L : List EnI) : (keysM (srcM L)).Nodup := by rw [srcM_eq, keysM_set]; exact uniq_nodup
theorem mem_nmsM {L : List EnI} {s : List UInt8} : s ∈ nmsM L ↔ ∃ e ∈ L, e.f.src = s := by
  rw [nmsM_eq, (keptSort_perm _).mem_iff, uniq_mem]
theorem metL_next {tick : Int} {l : List EnI} {i : Nat} {e : EnI} (h : l[i]? = some e) : metL tick (l.take (i + 1)) = metL tick (l.take i) ++ (if relB tick e = true then [e] else []) := by
  obtain ⟨hi, rfl⟩ := List.getElem?_eq_some_iff.1 h
  unfold metL
  rw [List.take_succ_eq_append_getElem hi, List.filter_append]
  generalize l[i] = e
  congr 1
  by_cases hr : relB tick e = true
  · rw [if_pos hr, List.filter_cons_of_pos hr]; rfl
  · rw [if_neg hr, List.filter_cons_of_neg hr]; rfl
theorem metL_len (tick : Int) (l : List EnI) : (metL tick l).length ≤ l.length := List.length_filter_le ..
theorem idsM_snoc (L : List EnI) (e : EnI) : idsM (L ++ [e]) = keptPutM (idsM L) (idA e.f.src e.f.seq) (.bool true) := by simp [idsM, List.foldl_append]
theorem srcM_snoc (L : List EnI) (e : EnI) : srcM (L ++ [e]) = keptPutM (srcM L) (.str e.f.src) (.bool true) := by simp [srcM, List.foldl_append]
theorem nmsR_snoc (L : List EnI) (e : EnI) : nmsR (L ++ [e]) = insN e.f.src (nmsR L) := by simp [nmsR, List.foldl_append]
/-! the next number -/
theorem nodup_len {α : Type} [DecidableEq α] : ∀ {l m : List α}, l.Nodup → (∀ x ∈ l, x ∈ m) → l.length ≤ m.length
  | [], m, _, _ => Nat.zero_le _
  | x :: l, m, h, hs => by
    obtain ⟨h1, h2⟩ := List.nodup_cons.1 h
    have hx := hs x (by simp)
    have := nodup_len (l := l) (m := m.erase x) h2 fun y hy => (List.mem_erase_of_ne (fun e : y = x => h1 (by rw [← e]; exact hy))).2 (hs y (by simp [hy]))
    rw [List.length_erase_of_mem hx] at this
    have := List.length_pos_of_mem hx
    simp; omega
theorem pigeon {L : List EnI} {s : List UInt8} {j : Nat} (h : ∀ k : Nat, k < j → hasId L s (k + 1) = true) : j ≤ L.length := by
  have hsub : ∀ x ∈ (List.range j).map fun k : Nat => (k : Int) + 1, x ∈ L.map fun e => e.f.seq := fun x hx => by
    obtain ⟨k, hk, rfl⟩ := List.mem_map.1 hx
    have := h k (List.mem_range.1 hk)
    simp only [hasId, List.any_eq_true, Bool.and_eq_true, decide_eq_true_eq] at this
    obtain ⟨e, he, _, h2⟩ := this
    exact List.mem_map.2 ⟨e, he, h2⟩
  have hnd : ((List.range j).map fun k : Nat => (k : Int) + 1).Nodup := by
    unfold List.Nodup
    rw [List.pairwise_map]
    exact List.nodup_range.imp fun h e => h (by omega)
  have := nodup_len hnd hsub
  simpa using this
theorem nextF_go {has : Int → Bool} {k : Nat} {n : Int} (h : has n = true) : nextF has (k + 1) n = nextF has k (n + 1) := by simp [nextF, h]
theorem nextF_stop {has : Int → Bool} {k : Nat} {n : Int} (h : has n = false) : nextF has k n = n := by cases k <;> simp [nextF, h]
/-! names in their places -/
theorem insN_ok {s : List UInt8} {l : List (List UInt8)} (h : l.Pairwise (· < ·)) : (insN s l).Pairwise (· < ·) ∧ ∀ y, y ∈ insN s l ↔ y = s ∨ y ∈ l := by
  have hd : l.takeWhile (fun a => Op.bytesLess a s) ++ l.dropWhile (fun a => Op.bytesLess a s) = l := List.takeWhile_append_dropWhile
  obtain ⟨A, hA⟩ : ∃ A, l.takeWhile (fun a => Op.bytesLess a s) = A := ⟨_, rfl⟩
  obtain ⟨B, hB⟩ : ∃ B, l.dropWhile (fun a => Op.bytesLess a s) = B := ⟨_, rfl⟩
  have hAs : ∀ a ∈ A, a < s := fun a ha => by
    have : (fun a => Op.bytesLess a s) a = true := List.all_eq_true.1 (List.all_takeWhile (p := fun a => Op.bytesLess a s) (l := l)) a (hA ▸ ha)
    simpa [bytesLess_eq] using this
  have hBh : ∀ b, B.head? = some b → ¬ b < s := fun b hb => by
    have hne : l.dropWhile (fun a => Op.bytesLess a s) ≠ [] := by rw [hB]; intro e; rw [e] at hb; cases hb
    have := List.head_dropWhile_not (p := fun a => Op.bytesLess a s) (l := l) hne
    have e : (l.dropWhile (fun a => Op.bytesLess a s)).head hne = b := by
      have : (l.dropWhile (fun a => Op.bytesLess a s)).head? = some b := by rw [hB]; exact hb
      rw [List.head?_eq_some_head hne] at this
      injection this
    rw [e] at this
    simpa [bytesLess_eq] using this
  rw [hA, hB] at hd
  subst hd
  unfold insN
  simp only [hA]
  rw [List.getElem?_append_right (Nat.le_refl _), Nat.sub_self, List.take_left' rfl, List.drop_left' rfl]
  obtain ⟨p1, p2, p3⟩ := List.pairwise_append.1 h
  cases B with
  | nil =>
    simp only [List.getElem?_nil, List.append_nil]
    rw [if_neg (by simp)]
    exact ⟨List.pairwise_append.2 ⟨p1, by simp, fun a ha b hb => by simp at hb; subst hb; exact hAs a ha⟩, fun y => by simp [or_comm]⟩
  | cons b B =>
    simp only [List.getElem?_cons_zero, Option.some.injEq]
    have hb := hBh b rfl
    by_cases e : b = s
    · subst e
      rw [if_pos rfl]
      exact ⟨h, fun y => by simp; intro h; right; left; exact h⟩
    · rw [if_neg e]
      have hsb : s < b := by
        by_cases h' : s < b
        · exact h'
        · exact absurd (List.le_antisymm (List.not_lt.1 h') (List.not_lt.1 hb)) e
      obtain ⟨p4, p5⟩ := List.pairwise_cons.1 p2
      refine ⟨?_, fun y => by simp only [List.mem_append, List.mem_cons, List.not_mem_nil, or_false]; rw [@Or.comm (y ∈ A), or_assoc]⟩
      rw [List.append_assoc]
      refine List.pairwise_append.2 ⟨p1, ?_, fun a ha c hc => ?_⟩
      · simp only [List.singleton_append]
        exact List.pairwise_cons.2 ⟨fun c hc => by
          rcases List.mem_cons.1 hc with rfl | hc
          · exact hsb
          · exact List.lt_trans hsb (p4 c hc), p2⟩
      · simp only [List.singleton_append, List.mem_cons] at hc
        rcases hc with rfl | hc
        · exact hAs a ha
        · exact p3 a ha c (by simpa using hc)
theorem nmsR_acc : ∀ (L : List EnI) (m : List (List UInt8)), m.Pairwise (· < ·) → (L.foldl (fun m e => insN e.f.src m) m).Pairwise (· < ·) ∧ ∀ y, y ∈ L.foldl (fun m e => insN e.f.src m) m ↔ y ∈ m ∨ ∃ e ∈ L, e.f.src = y
  | [], m, h => ⟨h, fun y => by simp⟩
  | e :: L, m, h => by
    obtain ⟨a1, a2⟩ := insN_ok (s := e.f.src) h
    obtain ⟨h1, h2⟩ := nmsR_acc L _ a1
    refine ⟨h1, fun y => ?_⟩
    simp only [List.foldl_cons]
    rw [h2, a2]
    constructor
    · rintro ((rfl | hm) | ⟨e', he, rfl⟩)
      · exact .inr ⟨e, by simp, rfl⟩
      · exact .inl hm
      · exact .inr ⟨e', by simp [he], rfl⟩
    · rintro (hm | ⟨e', he, rfl⟩)
      · exact .inl (.inr hm)
      · rcases List.mem_cons.1 he with rfl | he
        · exact .inl (.inl rfl)
        · exact .inr ⟨e', he, rfl⟩
theorem nmsR_sorted (L : List EnI) : (nmsR L).Pairwise (· < ·) := (nmsR_acc L [] List.Pairwise.nil).1
theorem nmsR_eq (L : List EnI) : nmsR L = nmsM L := by
  have h1 := nmsR_sorted L
  have h2 : ∀ y, y ∈ nmsR L ↔ ∃ e ∈ L, e.f.src = y := fun y => by
    have := (nmsR_acc L [] List.Pairwise.nil).2 y
    simpa [nmsR] using this
  have hnd : (nmsR L).Nodup := h1.imp fun h e => by subst e; exact List.lt_irrefl _ h
  have hnd2 : (nmsM L).Nodup := by rw [nmsM_eq]; exact (keptSort_perm _).nodup_iff.2 uniq_nodup
  refine List.Perm.eq_of_pairwise (le := fun a b => leB a b = true) (fun a b _ _ h1 h2 => ?_) (h1.imp fun h => ?_) (by rw [nmsM_eq]; exact keptSort_sorted _) ((List.perm_ext_iff_of_nodup hnd hnd2).2 fun y => by rw [h2, mem_nmsM])
  · simp only [leB, decide_eq_true_eq] at h1 h2
    exact List.le_antisymm h1 h2
  · simp only [leB, decide_eq_true_eq]
    exact List.le_of_lt h
theorem nmsR_len (L : List EnI) : (nmsR L).length ≤ L.length := by
  rw [nmsR_eq, nmsM_eq, (keptSort_perm _).length_eq]
  have hsub : ∀ x ∈ uniq (fun e : EnI => e.f.src) L, x ∈ L.map fun e => e.f.src := fun x hx => by
    obtain ⟨e, he, rfl⟩ := uniq_mem.1 hx
    exact List.mem_map.2 ⟨e, he, rfl⟩
  have := nodup_len uniq_nodup hsub
  simpa using this
theorem outR_all (l : List EnI) (tick : Int) : outR l tick l.length = marksM (metL tick l) := by
  unfold outR marksM
  rw [List.take_of_length_le (Nat.le_refl _), nmsR_eq]
end Go.Abs

namespace Go.Abs
open Go.Proofs Go.RowKit Go.Sort
abbrev Arr := List (List UInt8 × Int)
/-- an inbox after what has arrived -/
structure BxS (S : Arr) (b : BxI) : Prop where
  lo : 1 ≤ b.next
  seen : ∀ k, 1 ≤ k → k < b.next → (b.src, k) ∈ S
  miss : (b.src, b.next) ∉ S
  asc : b.ahead.Pairwise (· < ·)
  mem : ∀ k, k ∈ b.ahead ↔ ((b.src, k) ∈ S ∧ b.next < k)
structure Can (S : Arr) (r : List BxI) : Prop where
  asc : r.Pairwise fun a b => a.src < b.src
  box : ∀ b ∈ r, BxS S b
  src : ∀ s, (∃ b ∈ r, b.src = s) ↔ ∃ n, (s, n) ∈ S
theorem asc_ext {l m : List Int} (hl : l.Pairwise (· < ·)) (hm : m.Pairwise (· < ·)) (h : ∀ x, x ∈ l ↔ x ∈ m) : l = m := by
  refine List.Perm.eq_of_pairwise (le := fun a b : Int => a ≤ b) (fun a b _ _ h1 h2 => by omega) (hl.imp fun h => by omega) (hm.imp fun h => by omega) ((List.perm_ext_iff_of_nodup ?_ ?_).2 h)
  · exact hl.imp fun h e => by omega
  · exact hm.imp fun h e => by omega
theorem BxS.ext {S : Arr} {b c : BxI} (hb : BxS S b) (hc : BxS S c) (h : b.src = c.src) : b = c := by
  have hn : b.next = c.next := by
    rcases Int.lt_or_gt_of_ne (a := b.next) (b := c.next) |> fun f => (Decidable.em (b.next = c.next)).elim Or.inl (fun h => Or.inr (f h)) with h' | h' | h'
    · exact h'
    · exact absurd (h ▸ hc.seen b.next hb.lo h') hb.miss
    · exact absurd (h ▸ hb.seen c.next hc.lo h') hc.miss
  have ha : b.ahead = c.ahead := asc_ext hb.asc hc.asc fun x => by rw [hb.mem, hc.mem, h, hn]
  obtain ⟨s, n, a⟩ := b
  obtain ⟨t, m, d⟩ := c
  simp only at h hn ha
  subst h; subst hn; subst ha; rfl
theorem BxS.congr {S T : Arr} {b : BxI} (h : BxS S b) (hST : ∀ k, (b.src, k) ∈ S ↔ (b.src, k) ∈ T) : BxS T b :=
  ⟨h.lo, fun k h1 h2 => (hST k).1 (h.seen k h1 h2), fun hm => h.miss ((hST _).2 hm), h.asc, fun k => by rw [h.mem, hST]⟩
theorem Can.congr {S T : Arr} {r : List BxI} (h : Can S r) (hST : ∀ p, p ∈ S ↔ p ∈ T) : Can T r :=
  ⟨h.asc, fun b hb => (h.box b hb).congr fun k => hST _, fun s => by rw [h.src]; exact exists_congr fun n => hST _⟩
/-- what a receiver holds hangs on the set alone -/
theorem Can.ext {S : Arr} {r q : List BxI} (hr : Can S r) (hq : Can S q) : r = q := by
  have hnd : ∀ {r : List BxI}, (r.Pairwise fun a b => a.src < b.src) → r.Nodup := fun h => h.imp fun h e => by subst e; exact List.lt_irrefl _ h
  have hsub : ∀ {r q : List BxI}, Can S r → Can S q → ∀ b, b ∈ r → b ∈ q := fun hr hq b hb => by
    obtain ⟨n, hn⟩ := (hr.src b.src).1 ⟨b, hb, rfl⟩
    obtain ⟨c, hc, e⟩ := (hq.src b.src).2 ⟨n, hn⟩
    rw [(hr.box b hb).ext (hq.box c hc) e.symm]; exact hc
  have hle : ∀ {r : List BxI}, (r.Pairwise fun a b => a.src < b.src) → r.Pairwise fun a b => a.src ≤ b.src := fun h => h.imp fun h => List.le_of_lt h
  refine List.Perm.eq_of_pairwise (le := fun a b : BxI => a.src ≤ b.src) (fun a b ha hb h1 h2 => ?_) (hle hr.asc) (hle hq.asc) ((List.perm_ext_iff_of_nodup (hnd hr.asc) (hnd hq.asc)).2 fun b => ⟨hsub hr hq b, hsub hq hr b⟩)
  exact (hr.box a ha).ext (hq.box b hb) (List.le_antisymm h1 h2)
theorem runS_more : ∀ {S : List Int} {x : Int}, S.Pairwise (· < ·) → (∀ y ∈ S, x ≤ y) → (∀ k, x ≤ k → k < (runS S x).1 → k ∈ S) ∧ (runS S x).1 ∉ S ∧ ∀ y ∈ S, y < (runS S x).1 ∨ y ∈ (runS S x).2
  | [], x, _, _ => by simp only [runS]; exact ⟨fun k h1 h2 => by omega, by simp, by simp⟩
  | z :: S, x, hS, hx => by
    obtain ⟨k1, k2⟩ := List.pairwise_cons.1 hS
    simp only [runS]
    split
    · rename_i hz
      subst hz
      obtain ⟨h1, h2, h3⟩ := runS_more (x := z + 1) k2 fun y hy => by have := k1 y hy; omega
      obtain ⟨g1, _⟩ := runS_facts (x := z + 1) k2 fun y hy => by have := k1 y hy; omega
      refine ⟨fun k a1 a2 => ?_, ?_, fun y hy => ?_⟩
      · by_cases e : k = z
        · subst e; simp
        · exact List.mem_cons_of_mem _ (h1 k (by omega) a2)
      · intro hm
        rcases List.mem_cons.1 hm with e | hm
        · omega
        · exact h2 hm
      · rcases List.mem_cons.1 hy with rfl | hy
        · left; omega
        · exact h3 y hy
    · rename_i hz
      refine ⟨fun k a1 a2 => by omega, ?_, fun y hy => .inr hy⟩
      intro hm
      have h0 := hx z (by simp)
      rcases List.mem_cons.1 hm with e | hm
      · omega
      · have := k1 _ hm; omega
theorem arr_S {S : Arr} {b : BxI} {n : Int} (hb : BxS S b) (h1 : b.next ≤ n) (h2 : (b.src, n) ∉ S) : BxS ((b.src, n) :: S) (arrB b n) := by
  have hna : n ∉ b.ahead := fun h => h2 ((hb.mem n).1 h).1
  have hsort := insI_sorted hb.asc hna
  have hge : ∀ y ∈ insI n b.ahead, b.next ≤ y := fun y hy => by
    rcases mem_insI.1 hy with rfl | hy
    · exact h1
    · have := ((hb.mem y).1 hy).2; omega
  obtain ⟨k1, k2, k3, k4⟩ := runS_facts hsort hge
  obtain ⟨m1, m2, m3⟩ := runS_more hsort hge
  have hlo := hb.lo
  refine ⟨?_, fun k a1 a2 => ?_, fun hm => ?_, k2, fun k => ?_⟩
  · show 1 ≤ (runS (insI n b.ahead) b.next).1
    omega
  · show (b.src, k) ∈ (b.src, n) :: S
    have a2 : k < (runS (insI n b.ahead) b.next).1 := a2
    by_cases hk : k < b.next
    · exact List.mem_cons_of_mem _ (hb.seen k a1 hk)
    · rcases mem_insI.1 (m1 k (by omega) a2) with rfl | h
      · simp
      · exact List.mem_cons_of_mem _ ((hb.mem k).1 h).1
  · have hm : (b.src, (runS (insI n b.ahead) b.next).1) ∈ (b.src, n) :: S := hm
    rcases List.mem_cons.1 hm with e | h
    · injection e with _ e
      exact m2 (by rw [e]; exact mem_insI.2 (.inl rfl))
    · by_cases e : (runS (insI n b.ahead) b.next).1 = b.next
      · rw [e] at h; exact hb.miss h
      · exact m2 (mem_insI.2 (.inr ((hb.mem _).2 ⟨h, by omega⟩)))
  · show k ∈ (runS (insI n b.ahead) b.next).2 ↔ (b.src, k) ∈ (b.src, n) :: S ∧ (runS (insI n b.ahead) b.next).1 < k
    constructor
    · intro hk
      obtain ⟨e1, e2⟩ := k3 k hk
      refine ⟨?_, e2⟩
      rcases mem_insI.1 e1 with rfl | h
      · simp
      · exact List.mem_cons_of_mem _ ((hb.mem k).1 h).1
    · rintro ⟨hk, hlt⟩
      have : k ∈ insI n b.ahead := by
        rcases List.mem_cons.1 hk with e | h
        · injection e with _ e
          exact mem_insI.2 (.inl e)
        · exact mem_insI.2 (.inr ((hb.mem k).2 ⟨h, by omega⟩))
      rcases m3 k this with h | h
      · omega
      · exact h
theorem old_of_mem {r : List BxI} {s : List UInt8} (h : r.Pairwise fun a b => a.src < b.src) {b : BxI} (hb : b ∈ r) (hs : b.src = s) : oldB r s = true := by
  cases ho : oldB r s with
  | true => rfl
  | false =>
    rw [← List.take_append_drop (lowB r s) r] at hb
    rcases List.mem_append.1 hb with hb | hb
    · exact absurd (low_take b hb) (by rw [hs]; exact List.lt_irrefl _)
    · exact absurd (low_drop h ho b hb) (by rw [hs]; exact List.lt_irrefl _)
/-- the packet of a number -/
abbrev pqN (s : List UInt8) (n : Int) : PkQ := ⟨s, false, 0, s, n⟩
theorem good_pq {s : List UInt8} {n : Int} (hs : nameR s = true) (h1 : 1 ≤ n) (h2 : n ≤ maxT) : badP (pqN s n) = false := by
  simp only [badP, hs, Bool.or_eq_false_iff, bne_self_eq_false, Bool.not_true, decide_eq_false_iff_not, and_true, true_and]
  exact ⟨by omega, by omega⟩
theorem not_src {S : Arr} {r : List BxI} (h : Can S r) {s : List UInt8} {i : Nat} {b : BxI} (hlt : i < r.length) (hsrc : (r[i]).src = s) (hb : b ∈ r.take i ∨ b ∈ r.drop (i + 1)) : b.src ≠ s := fun e => by
  have hp := List.pairwise_iff_getElem.1 h.asc
  rcases hb with hb | hb
  · obtain ⟨j, hj, rfl⟩ := List.mem_iff_getElem.1 hb
    rw [List.length_take] at hj
    rw [List.getElem_take] at e
    have := hp j i (by omega) hlt (by omega)
    rw [e, hsrc] at this
    exact List.lt_irrefl _ this
  · obtain ⟨j, hj, rfl⟩ := List.mem_iff_getElem.1 hb
    rw [List.length_drop] at hj
    rw [List.getElem_drop] at e
    have := hp i (i + 1 + j) hlt (by omega) (by omega)
    rw [e, hsrc] at this
    exact List.lt_irrefl _ this
theorem mem_other {S : Arr} {s t : List UInt8} {n k : Int} (h : t ≠ s) : (t, k) ∈ S ↔ (t, k) ∈ (s, n) :: S := by
  simp only [List.mem_cons, Prod.mk.injEq]
  exact ⟨.inr, fun h' => h'.resolve_left fun e => h e.1⟩
/-- a packet arrives -/
theorem can_step {S : Arr} {r : List BxI} {s : List UInt8} {n : Int} (h : Can S r) (hs : nameR s = true) (h1 : 1 ≤ n) (h2 : n ≤ maxT) (hg : n ≤ (bOf r s).next + 64) (hr : r.length < 16 ∨ oldB r s = true) :
    ∃ r' nx, recvP r (pqN s n) = .out r' (decide ((s, n) ∉ S)) s nx ∧ Can ((s, n) :: S) r' ∧ ∃ b ∈ r', b.src = s ∧ b.next = nx := by
  unfold recvP
  rw [if_neg (by rw [good_pq hs h1 h2]; simp)]
  have hfull : ¬ (!oldB r s && decide (16 ≤ r.length)) = true := by
    rcases hr with h | h
    · simp; intro _; omega
    · simp [h]
  simp only []
  rw [if_neg hfull, if_neg (by omega)]
  cases ho : oldB r s with
  | true =>
    obtain ⟨hlt, hsrc⟩ := old_at ho
    have hbO : bOf r s = r[lowB r s] := by
      unfold bOf
      rw [if_pos ho, List.getD_eq_getElem?_getD, List.getElem?_eq_getElem hlt]; rfl
    rw [hbO]
    obtain ⟨b, hb⟩ : ∃ b, r[lowB r s] = b := ⟨_, rfl⟩
    have hbm : b ∈ r := hb ▸ List.getElem_mem hlt
    have hB := h.box b hbm
    rw [hb] at hsrc ⊢
    subst hsrc
    split
    · rename_i hc
      have hin : (b.src, n) ∈ S := by
        rcases hc with hc | hc
        · exact hB.seen n h1 hc
        · exact ((hB.mem n).1 hc).1
      refine ⟨r, b.next, by simp [hin], h.congr fun p => ⟨fun hp => List.mem_cons_of_mem _ hp, fun hp => ?_⟩, b, hbm, rfl, rfl⟩
      rcases List.mem_cons.1 hp with rfl | hp
      · exact hin
      · exact hp
    · rename_i hc
      have hnin : (b.src, n) ∉ S := fun hin => hc (by
        by_cases e : n < b.next
        · exact .inl e
        · by_cases e2 : n = b.next
          · subst e2; exact absurd hin hB.miss
          · exact .inr ((hB.mem n).2 ⟨hin, by omega⟩))
      have hA := arr_S hB (by omega) hnin
      have hd : decide ((b.src, n) ∉ S) = true := by simp [hnin]
      rw [hd, if_pos rfl]
      refine ⟨_, nextB b n, rfl, ?_, arrB b n, by simp, rfl, rfl⟩
      have hmem : ∀ c, c ∈ r.take (lowB r b.src) ++ [arrB b n] ++ r.drop (lowB r b.src + 1) ↔ (c ∈ r.take (lowB r b.src) ∨ c ∈ r.drop (lowB r b.src + 1)) ∨ c = arrB b n := fun c => by
        simp only [List.mem_append, List.mem_singleton]; exact ⟨fun h => by rcases h with (h | h) | h <;> simp [h], fun h => by rcases h with (h | h) | h <;> simp [h]⟩
      refine ⟨pw_split (i := lowB r b.src) h.asc (arrB b n) (fun c hc => low_take c hc) (lowB r b.src + 1) (by omega) fun c hc => ?_, fun c hc => ?_, fun t => ?_⟩
      · show b.src < c.src
        obtain ⟨j, hj, rfl⟩ := List.mem_iff_getElem.1 hc
        rw [List.length_drop] at hj
        rw [List.getElem_drop]
        have hp := List.pairwise_iff_getElem.1 h.asc (lowB r b.src) (lowB r b.src + 1 + j) hlt (by omega) (by omega)
        rw [hb] at hp
        exact hp
      · rcases (hmem c).1 hc with hc | rfl
        · have hne := not_src h hlt (by rw [hb]) hc
          have hcm : c ∈ r := hc.elim List.mem_of_mem_take List.mem_of_mem_drop
          exact (h.box c hcm).congr fun k => mem_other hne
        · exact hA
      · constructor
        · rintro ⟨c, hc, rfl⟩
          rcases (hmem c).1 hc with hc | rfl
          · obtain ⟨k, hk⟩ := (h.src c.src).1 ⟨c, hc.elim List.mem_of_mem_take List.mem_of_mem_drop, rfl⟩
            exact ⟨k, List.mem_cons_of_mem _ hk⟩
          · exact ⟨n, by simp [arrB]⟩
        · rintro ⟨k, hk⟩
          by_cases e : t = b.src
          · exact ⟨arrB b n, (hmem _).2 (.inr rfl), e.symm⟩
          · obtain ⟨c, hc, hct⟩ := (h.src t).2 ⟨k, (mem_other e).2 hk⟩
            refine ⟨c, (hmem c).2 (.inl ?_), hct⟩
            have hc' := hc
            rw [← List.take_append_drop (lowB r b.src) r] at hc'
            rcases List.mem_append.1 hc' with hc' | hc'
            · exact .inl hc'
            · rw [List.drop_eq_getElem_cons hlt, hb] at hc'
              rcases List.mem_cons.1 hc' with rfl | hc'
              · exact absurd hct.symm e
              · exact .inr hc'
  | false =>
    have hbO : bOf r s = ⟨s, 1, []⟩ := by unfold bOf; rw [if_neg (by rw [ho]; simp)]
    rw [hbO]
    have hno : ∀ k, (s, k) ∉ S := fun k hk => by
      obtain ⟨b, hb, e⟩ := (h.src s).2 ⟨k, hk⟩
      rw [old_of_mem h.asc hb e] at ho; cases ho
    have hB : BxS S ⟨s, 1, []⟩ := ⟨Int.le_refl _, fun k a1 a2 => by simp only at a2; omega, hno 1, List.Pairwise.nil, fun k => by simp; intro hk; exact absurd hk (hno k)⟩
    rw [if_neg (by simp only [List.not_mem_nil, or_false]; omega)]
    have hA := arr_S hB h1 (hno n)
    have hd : decide ((s, n) ∉ S) = true := by simp [hno n]
    rw [hd, if_neg (by simp)]
    refine ⟨_, nextB ⟨s, 1, []⟩ n, rfl, ?_, arrB ⟨s, 1, []⟩ n, by simp, rfl, rfl⟩
    have hmem : ∀ c, c ∈ r.take (lowB r s) ++ [arrB ⟨s, 1, []⟩ n] ++ r.drop (lowB r s) ↔ c ∈ r ∨ c = arrB ⟨s, 1, []⟩ n := fun c => by
      conv => rhs; rw [← List.take_append_drop (lowB r s) r]
      simp only [List.mem_append, List.mem_singleton]; exact ⟨fun h => by rcases h with (h | h) | h <;> simp [h], fun h => by rcases h with (h | h) | h <;> simp [h]⟩
    have hne : ∀ c ∈ r, c.src ≠ s := fun c hc e => by rw [old_of_mem h.asc hc e] at ho; cases ho
    refine ⟨pw_split (i := lowB r s) h.asc (arrB ⟨s, 1, []⟩ n) (fun c hc => low_take c hc) (lowB r s) (Nat.le_refl _) fun c hc => low_drop h.asc ho c hc, fun c hc => ?_, fun t => ?_⟩
    · rcases (hmem c).1 hc with hc | rfl
      · exact (h.box c hc).congr fun k => mem_other (hne c hc)
      · exact hA
    · constructor
      · rintro ⟨c, hc, rfl⟩
        rcases (hmem c).1 hc with hc | rfl
        · obtain ⟨k, hk⟩ := (h.src c.src).1 ⟨c, hc, rfl⟩
          exact ⟨k, List.mem_cons_of_mem _ hk⟩
        · exact ⟨n, by simp [arrB]⟩
      · rintro ⟨k, hk⟩
        by_cases e : t = s
        · exact ⟨arrB ⟨s, 1, []⟩ n, (hmem _).2 (.inr rfl), e.symm⟩
        · obtain ⟨c, hc, hct⟩ := (h.src t).2 ⟨k, (mem_other e).2 hk⟩
          exact ⟨c, (hmem c).2 (.inl hc), hct⟩
theorem can_nil : Can [] [] := ⟨List.Pairwise.nil, fun b hb => (by cases hb), fun s => by simp⟩
end Go.Abs

namespace Go.Abs
open Go.Proofs Go.RowKit
theorem agg63 : aggA PI 63 = some true := by kernel_rfl
theorem size63 : sizeA PI 63 = some 40 := by kernel_rfl
theorem agg30 : aggA PI 30 = some true := by kernel_rfl
theorem size30 : sizeA PI 30 = some 2 := by kernel_rfl
theorem agg3i : aggA PI 3 = some false := by kernel_rfl
theorem size3i : sizeA PI 3 = some 1 := by kernel_rfl
theorem size9i : sizeA PI 9 = some 1 := by kernel_rfl
theorem take_en {l : List EnI} {i : Nat} {e : EnI} (h : l[i]? = some e) : takeAt PI 63 (ensL l) i 0 = some (enA e) := by
  simp only [takeAt, List.getElem?_map, h, Option.map_some, takeA, agg63, size63]
  rfl
theorem take_en2 {l : List EnI} {i : Nat} {e : EnI} (h : l[i]? = some e) : takeAt PI 3 (ensL l) i 2 = some (.int .i64 e.kind) := by
  simp only [takeAt, List.getElem?_map, h, Option.map_some, takeA, agg3i, size3i]
  rfl
theorem take_en1 {l : List EnI} {i : Nat} {e : EnI} (h : l[i]? = some e) : takeAt PI 3 (ensL l) i 1 = some (.int .i64 e.tick) := by
  simp only [takeAt, List.getElem?_map, h, Option.map_some, takeA, agg3i, size3i]
  rfl
theorem take_en3 {l : List EnI} {i : Nat} {e : EnI} (h : l[i]? = some e) : takeAt PI 30 (ensL l) i 3 = some (idA e.f.src e.f.seq) := by
  simp only [takeAt, List.getElem?_map, h, Option.map_some, takeA, agg30, size30]
  rfl
theorem take_en9 {l : List EnI} {i : Nat} {e : EnI} (h : l[i]? = some e) : takeAt PI 9 (ensL l) i 3 = some (.str e.f.src) := by
  simp only [takeAt, List.getElem?_map, h, Option.map_some, takeA, agg9, size9i]
  rfl
theorem take_mk9 {l : List MkI} {i : Nat} {e : MkI} (h : l[i]? = some e) : takeAt PI 9 (mksL l) i 0 = some (.str e.s) := by
  simp only [takeAt, List.getElem?_map, h, Option.map_some, takeA, agg9, size9i]
  rfl
theorem take_str9 {l : List (List UInt8)} {i : Nat} {s : List UInt8} (h : l[i]? = some s) : takeAt PI 9 (l.map AV.str) i 0 = some (.str s) := by
  simp only [takeAt, List.getElem?_map, h, Option.map_some, takeA, agg9, size9i]
  rfl
theorem unE_inv (a : AV) (x : EnI) (h : unE a = some x) : a = enA x := by
  unfold unE at h
  split at h
  · rename_i tick kind src seq k2 ref table key event sz es rest
    split at h
    · rename_i hc
      obtain ⟨rfl, hl, ho⟩ := hc
      cases hu : unL unV es with
      | none => rw [hu] at h; cases h
      | some fs =>
        rw [hu] at h
        injection h with h; subst h
        rw [unL_inv unV_inv hu]
        have : rest = List.replicate 29 .opq := List.eq_replicate_iff.2 ⟨hl, fun b hb => by
          have := List.all_eq_true.1 ho b hb
          cases b <;> simp [isOpq] at this ⊢⟩
        rw [this]
        rfl
    · cases h
  · cases h
theorem unEs_inv {es : List AV} {l : List EnI} (h : unL unE es = some l) : es = ensL l := unL_inv unE_inv h
theorem unE_ok (e : EnI) : unE (enA e) = some e := by
  show (if (3 = 3 ∧ (List.replicate 29 AV.opq).length = 29 ∧ (List.replicate 29 AV.opq).all isOpq = true) then (unL unV (vasL e.f.fs)).map (fun fs => (⟨e.tick, e.kind, ⟨e.f.src, e.f.seq, e.f.kind, e.f.ref, e.f.table, e.f.key, e.f.event, fs⟩⟩ : EnI)) else none) = some e
  rw [if_pos ⟨rfl, rfl, rfl⟩, show unL unV (vasL e.f.fs) = some e.f.fs from unL_map unV_ok e.f.fs]
  rfl
theorem unEs_ok (l : List EnI) : unL unE (ensL l) = some l := unL_map unE_ok l
theorem hasId_snoc (L : List EnI) (e : EnI) (s : List UInt8) (n : Int) : hasId (L ++ [e]) s n = (hasId L s n || (decide (e.f.src = s) && decide (e.f.seq = n))) := by simp [hasId, List.any_append]
theorem rel_no {tick : Int} {e : EnI} (h : ¬ (e.kind = 1 ∧ e.tick ≤ tick)) : relB tick e = false := by
  cases hr : relB tick e with
  | false => rfl
  | true => simp only [relB, Bool.and_eq_true, decide_eq_true_eq] at hr; exact absurd hr h
theorem rel_yes {tick : Int} {e : EnI} (h1 : e.kind = 1) (h2 : e.tick ≤ tick) : relB tick e = true := by simp [relB, h1, h2]
theorem met_skip {tick : Int} {l : List EnI} {i : Nat} {e : EnI} (h : l[i]? = some e) (hr : relB tick e = false) : metL tick (l.take (i + 1)) = metL tick (l.take i) := by
  rw [metL_next h, hr]; simp
theorem met_add {tick : Int} {l : List EnI} {i : Nat} {e : EnI} (h : l[i]? = some e) (hr : relB tick e = true) : metL tick (l.take (i + 1)) = metL tick (l.take i) ++ [e] := by
  rw [metL_next h, hr]; simp
theorem mem_met {tick : Int} {l : List EnI} {i : Nat} {e : EnI} (h : l[i]? = some e) (hr : relB tick e = true) : e ∈ metL tick l := List.mem_filter.2 ⟨List.mem_of_getElem? h, hr⟩
theorem p42 (m : Int) (l : List EnI) (tick : Int) (s : List UInt8) (x : Int) (hl : l.length ≤ 2000000) : PureOk PI (GI m) XMa (tbl []) (itbl []) (a42 l tick s x) [] 42 [.sl 40 (ensL l) .no, .int .i64 tick, .agg [.str s, .int .i64 x]] (.bool (hasId (metL tick l) s x), []) := by
  constructor
  rw [w42]
  have hll : (ensL l).length = l.length := List.length_map ..
  rw [hll]
  refine ⟨⟨0, ⟨rfl⟩, ⟨rfl⟩, ⟨Nat.zero_le _, rfl⟩, trivial⟩, fun i hi => ⟨fun hlt => ?_, fun hge => ?_⟩⟩
  · have hlt := of_decide_eq_true hlt
    have hil : i < l.length := by omega
    have he := List.getElem?_eq_getElem hil
    have hb : (0 : Int) ≤ i ∧ (i : Int) < l.length := ⟨by omega, hlt⟩
    have go : hasId (metL tick (l.take (i + 1))) s x = false → ∃ y : Nat, ValsAre [.sl 40 (ensL l) .no, .int .i64 tick, .ptr 0 0, .int .i64 (IntKind.i64.wrap ((i : Int) + 1))] [.sl 40 (ensL l) .no, .int .i64 tick, .ptr 0 0, .int .i64 y] ∧ StIs ⟨[some [.str s, .int .i64 x]], []⟩ ⟨[some [.str s, .int .i64 x]], []⟩ ∧ (y ≤ l.length ∧ hasId (metL tick (l.take y)) s x = false) ∧ l.length - y < l.length - i := fun h => ⟨i + 1, ⟨by rw [wrapN (by omega)]⟩, ⟨rfl⟩, ⟨hil, h⟩, by omega⟩
    refine ⟨hb, _, by rw [Int.toNat_natCast]; exact take_en2 he, fun h1 => ⟨hb, _, by rw [Int.toNat_natCast]; exact take_en1 he, fun h2 => ⟨hb, _, _, by rw [Int.toNat_natCast]; exact take_en3 he, fun h3 => ?_, fun h3 => ?_⟩, fun h2 => ?_⟩, fun h1 => ?_⟩
    · have hr : relB tick l[i] = true := rel_yes (by simpa using h1) (by simpa using h2)
      refine ⟨?_⟩
      have : hasId (metL tick l) s x = true := by
        simp only [hasId, List.any_eq_true, Bool.and_eq_true, decide_eq_true_eq]
        simp only [Bool.and_true, Bool.and_eq_true, beq_iff_eq] at h3
        exact ⟨l[i], mem_met he hr, h3.1, h3.2⟩
      rw [this]
    · have hr : relB tick l[i] = true := rel_yes (by simpa using h1) (by simpa using h2)
      refine go ?_
      rw [met_add he hr, hasId_snoc, hi.2]
      simp only [Bool.and_true] at h3
      have : (decide (l[i].f.src = s) && decide (l[i].f.seq = x)) = (l[i].f.src == s && l[i].f.seq == x) := by
        by_cases a : l[i].f.src = s <;> by_cases b : l[i].f.seq = x <;> simp [a, b]
      rw [this, h3]; rfl
    · exact go (by rw [met_skip he (rel_no fun h => by have := of_decide_eq_false h2; exact this h.2)]; exact hi.2)
    · exact go (by rw [met_skip he (rel_no fun h => by simp [h.1] at h1)]; exact hi.2)
  · have hge := of_decide_eq_false hge
    have := hi.2
    rw [List.take_of_length_le (by omega)] at this
    exact ⟨by rw [this]⟩
theorem o42 (m : Int) : SpecOk PI (GI m) 42 s42 := spec_of (X := XMa) (m := []) mixedI tbl_nil itbl_nil fun args r h => by
  unfold s42 at h
  split at h
  case h_2 => cases h
  split at h
  case isFalse => cases h
  rename_i hc
  obtain ⟨rfl, hl⟩ := hc
  split at h
  case h_2 => cases h
  rename_i l hu
  obtain rfl := unEs_inv hu
  injection h with h; subst h
  rw [List.length_map] at hl
  exact ⟨_, p42 m l _ _ _ hl⟩
theorem keyIs_id {s : List UInt8} {n : Int} (h1 : s.length ≤ 100000000) (h2 : -9223372036854775808 ≤ n) (h3 : n ≤ 9223372036854775807) : KeyIs PI 30 (idA s n) := by
  have hp : pairKey PI 30 = some .i64 := by kernel_rfl
  have hw : (Lit.int .i64 n).wf = true := by
    simp only [Lit.wf, IntKind.min, IntKind.max, IntKind.signed, IntKind.bits, Bool.and_eq_true, decide_eq_true_eq, if_true]
    exact ⟨by omega, by omega⟩
  refine ⟨?_⟩
  unfold keyL
  simp only [hp]
  rw [if_pos ⟨trivial, hw, by unfold maxLen; omega⟩]; rfl
theorem keyIs_str {s : List UInt8} (h1 : s.length ≤ 100000000) : KeyIs PI 9 (.str s) := by
  have hk : PI.underlying 9 = some .string := by kernel_rfl
  refine ⟨?_⟩
  simp only [keyL, hk]
  rw [if_pos (by unfold maxLen; omega)]; rfl
theorem idsOk_at {l : List EnI} (h : idsOk l = true) {e : EnI} (he : e ∈ l) : e.f.src.length ≤ 100000000 ∧ -9223372036854775808 ≤ e.f.seq ∧ e.f.seq ≤ 9223372036854775807 := by
  have := List.all_eq_true.1 h e he
  simp only [Bool.and_eq_true, decide_eq_true_eq] at this
  exact ⟨this.1.1, this.1.2, this.2⟩
theorem p15 (m : Int) (l : List EnI) (tick : Int) (hl : l.length ≤ 2000000) (hi : idsOk l = true) : LaxOk PI (GI m) XMa (tbl []) (itbl [(41, s41), (40, s40)]) (a15 l tick) [] 15 [.sl 40 (ensL l) .no, .int .i64 tick] (.sl 2 (mksL (marksM (metL tick l))) .no, []) := by
  constructor
  rw [w15]
  have hll : (ensL l).length = l.length := List.length_map ..
  have hml : ∀ n, (metL tick (l.take n)).length ≤ 2000000 := fun n => by
    have h1 := metL_len tick (l.take n)
    have h2 : (l.take n).length ≤ l.length := by rw [List.length_take]; omega
    omega
  have hmL : (metL tick l).length ≤ 2000000 := by have := metL_len tick l; omega
  refine ⟨⟨0, ⟨by rw [hll]; rfl⟩, ⟨rfl⟩, Nat.zero_le _, trivial⟩, fun i hil => ⟨fun hlt => ?_, fun hge => ?_⟩⟩
  · have hlt := of_decide_eq_true hlt
    have hil : i < l.length := by omega
    have he := List.getElem?_eq_getElem hil
    have hb : (0 : Int) ≤ i ∧ (i : Int) < (ensL l).length := ⟨by omega, by rw [hll]; exact hlt⟩
    have ho := idsOk_at hi (List.getElem_mem hil)
    refine ⟨hb, _, _, _, _, _, _, _, _, _, _, by rw [Int.toNat_natCast]; exact take_en he, fun h1 => ⟨fun h2 => ⟨trivial, keyIs_id ho.1 ho.2.1 ho.2.2, val_true, by omega, by have := hml i; omega, trivial, keyIs_str ho.1, val_true, by omega, by have := hml i; omega, ?_⟩, fun h2 => ?_⟩, fun h1 => ?_⟩
    · have hr : relB tick l[i] = true := rel_yes (by simpa using h1) (by simpa using h2)
      refine ⟨i + 1, ⟨by rw [wrapN (by omega)]⟩, ⟨?_⟩, hil, by omega⟩
      rw [met_add he hr, idsM_snoc, srcM_snoc]
      simp only [List.length_append, List.length_cons, List.length_nil, Int.natCast_add]
      rfl
    · exact ⟨i + 1, ⟨by rw [wrapN (by omega)]⟩, ⟨by rw [met_skip he (rel_no fun h => by have := of_decide_eq_false h2; exact this h.2)]⟩, hil, by omega⟩
    · exact ⟨i + 1, ⟨by rw [wrapN (by omega)]⟩, ⟨by rw [met_skip he (rel_no fun h => by simp [h.1] at h1)]⟩, hil, by omega⟩
  · have hge := of_decide_eq_false hge
    have hx : l.take i = l := List.take_of_length_le (by omega)
    rw [hx]
    have hnl : (nmsM (metL tick l)).length ≤ 2000000 := by rw [← nmsR_eq]; have := nmsR_len (metL tick l); omega
    have hmk : ∀ n, n ≤ (nmsM (metL tick l)).length → ((marksM (metL tick l)).take n).length = n := fun n hn => by simp [marksM]; omega
    have hmk2 : ∀ n, n ≤ (nmsM (metL tick l)).length → (mksL ((marksM (metL tick l)).take n)).length = n := fun n hn => by simp [marksM]; omega
    refine ⟨trivial, ⟨nms_nodup _, by omega⟩, ⟨0, ⟨by rw [List.length_map]; rfl⟩, ⟨rfl⟩, Nat.zero_le _, trivial⟩, fun x hx => ⟨fun hlt => ?_, fun hge => ?_⟩⟩
    · have hlt := of_decide_eq_true hlt
      have hxl : x < (nmsM (metL tick l)).length := by omega
      have hs := List.getElem?_eq_getElem hxl
      have hsl : ∀ s, s ∈ nmsM (metL tick l) → s.length ≤ 100000000 := fun s hs => by
        obtain ⟨e, he, rfl⟩ := mem_nmsM.1 hs
        exact (idsOk_at hi (List.mem_filter.1 he).1).1
      refine ⟨⟨by omega, by rw [List.length_map]; exact hlt⟩, _, by rw [Int.toNat_natCast]; exact take_str9 hs, ⟨⟨x, 0, _⟩, ⟨rfl⟩, ⟨rfl⟩, ⟨hs, Nat.zero_le _, fun k hk => absurd hk (Nat.not_lt_zero _), rfl⟩, rfl⟩, fun z hz hzx => ?_⟩
      obtain ⟨i, j, s⟩ := z
      simp only at hz hzx ⊢
      obtain ⟨hzs, hzj, hzh, hzn⟩ := hz
      have hix : x = i := by
        have h : (x : Int) = i := by simpa using hzx
        omega
      subst hix
      rw [hs] at hzs
      injection hzs with hzs
      have hsm : s ∈ nmsM (metL tick l) := hzs ▸ List.getElem_mem hxl
      have hjl : j ≤ 2000000 := by omega
      refine ⟨keyIs_id (hsl s hsm) (by omega) (by omega), hasId (metL tick l) s ((j : Int) + 1), ⟨by rw [look_ids]; cases hasId (metL tick l) s ((j : Int) + 1) <;> rfl⟩, fun hb => ?_, fun hb => ?_⟩
      · have hj2 : j + 1 ≤ (metL tick l).length := pigeon (s := s) fun k hk => by
          rcases Nat.lt_or_eq_of_le (Nat.lt_succ_iff.1 hk) with h | h
          · exact hzh k h
          · subst h; exact hb
        refine ⟨⟨x, j + 1, s⟩, ⟨rfl⟩, ⟨?_⟩, ⟨by rw [hs, hzs], hj2, fun k hk => ?_, ?_⟩, rfl, by show (metL tick l).length - (j + 1) < (metL tick l).length - j; omega⟩
        · rw [show (j : Int) + 1 + 1 = ((j + 1 : Nat) : Int) + 1 by omega, wrapN (by omega)]
          rfl
        · show hasId (metL tick l) s ((k : Int) + 1) = true
          rcases Nat.lt_or_eq_of_le (Nat.lt_succ_iff.1 hk) with h | h
          · exact hzh k h
          · subst h; exact hb
        · show nextF (hasId (metL tick l) s) ((metL tick l).length - (j + 1)) (((j + 1 : Nat) : Int) + 1) = nextM (metL tick l) s
          rw [← hzn, show (metL tick l).length - j = ((metL tick l).length - (j + 1)) + 1 by omega, nextF_go hb]
          rfl
      · have hnx : nextM (metL tick l) s = (j : Int) + 1 := by rw [← hzn]; exact nextF_stop hb
        have hlen : (marksM (metL tick l)).length = (nmsM (metL tick l)).length := by simp [marksM]
        have hxm : x < (marksM (metL tick l)).length := by omega
        have hmx : (marksM (metL tick l))[x] = ⟨s, (j : Int) + 1⟩ := by
          simp only [marksM, List.getElem_map, mkOf]
          rw [hzs, hnx]
        refine ⟨.inl trivial, by rw [hmk2 _ hx]; omega, by rw [hmk _ hx, hmk2 _ hx], x + 1, ⟨?_⟩, ⟨?_⟩, hxl, by omega⟩
        · rw [wrapN (by omega), List.take_succ_eq_append_getElem hxm, hmx]
          simp only [List.map_append, List.map_cons, List.map_nil]
          rfl
        · rw [hmk2 _ hx, hmk _ hxl]
    · have hge := of_decide_eq_false hge
      have hxl : x = (nmsM (metL tick l)).length := by omega
      have : (marksM (metL tick l)).take x = marksM (metL tick l) := List.take_of_length_le (by simp [marksM]; omega)
      rw [this]
      exact ⟨⟨rfl, rfl, .inl rfl⟩, rfl, rfl⟩
theorem o15 (m : Int) : SpecOk PI (GI m) 15 s15 := lax_of (X := XMa) (m := []) mixedI tbl_nil (itbl_cons (o41 m) (itbl_cons (o40 m) itbl_nil)) fun args r h => by
  unfold s15 at h
  split at h
  case h_2 => cases h
  split at h
  case isFalse => cases h
  rename_i hc
  obtain ⟨rfl, hl⟩ := hc
  split at h
  case h_2 => cases h
  rename_i l hu
  obtain rfl := unEs_inv hu
  split at h
  case isFalse => cases h
  rename_i hi
  injection h with h; subst h
  rw [List.length_map] at hl
  exact ⟨_, p15 m l _ hl hi⟩
end Go.Abs

namespace Go.Abs
open Go.Proofs Go.RowKit
theorem tw_end {α : Type} {p : α → Bool} : ∀ {l : List α} (h : (l.takeWhile p).length < l.length), p l[(l.takeWhile p).length] = false
  | [], h => by simp at h
  | x :: l, h => by
    by_cases h0 : p x = true
    · have e : (x :: l).takeWhile p = x :: l.takeWhile p := List.takeWhile_cons_of_pos h0
      have h2 : (l.takeWhile p).length < l.length := by rw [e] at h; simpa using h
      have := tw_end h2
      simp only [e, List.length_cons, List.getElem_cons_succ]
      exact this
    · have e : (x :: l).takeWhile p = [] := List.takeWhile_cons_of_neg h0
      simp only [e, List.length_nil, List.getElem_cons_zero]
      simpa using h0
theorem outR_len (l : List EnI) (tick : Int) (i : Nat) : (outR l tick i).length = (nmsR (metL tick (l.take i))).length := by simp [outR]
theorem outR_at {l : List EnI} {tick : Int} {i a : Nat} (h : a < (nmsR (metL tick (l.take i))).length) : (outR l tick i)[a]? = some (mkOf (metL tick l) (nmsR (metL tick (l.take i)))[a]) := by
  simp [outR, h]
theorem outR_skip {l : List EnI} {tick : Int} {i : Nat} {e : EnI} (h : l[i]? = some e) (hr : relB tick e = false) : outR l tick (i + 1) = outR l tick i := by
  unfold outR; rw [met_skip h hr]
theorem outR_old {l : List EnI} {tick : Int} {i : Nat} {e : EnI} (h : l[i]? = some e) (hr : relB tick e = true) (ho : (nmsR (metL tick (l.take i)))[((nmsR (metL tick (l.take i))).takeWhile fun a => Op.bytesLess a e.f.src).length]? = some e.f.src) : outR l tick (i + 1) = outR l tick i := by
  unfold outR; rw [met_add h hr, nmsR_snoc]
  congr 1
  unfold insN
  rw [if_pos ho]
theorem outR_new {l : List EnI} {tick : Int} {i k : Nat} {e : EnI} (h : l[i]? = some e) (hr : relB tick e = true) (hk : k = ((nmsR (metL tick (l.take i))).takeWhile fun a => Op.bytesLess a e.f.src).length) (ho : (nmsR (metL tick (l.take i)))[k]? ≠ some e.f.src) :
    outR l tick (i + 1) = (outR l tick i).take k ++ [mkOf (metL tick l) e.f.src] ++ (outR l tick i).drop k := by
  subst hk
  unfold outR; rw [met_add h hr, nmsR_snoc]
  unfold insN
  rw [if_neg ho]
  simp [List.map_append, List.map_take, List.map_drop]
theorem c42 {l : List EnI} {tick : Int} {s : List UInt8} {n : Int} (hl : l.length ≤ 2000000) : tbl [(42, s42)] 42 [.sl 40 (ensL l) .no, .int .i64 tick, .agg [.str s, .int .i64 n]] = some (.bool (hasId (metL tick l) s n), []) := by
  rw [tbl_hit]
  simp only [s42, unEs_ok]
  rw [if_pos ⟨trivial, by rw [List.length_map]; exact hl⟩]
theorem natI {a b : Nat} (h : some (AV.int .i64 (a : Int)) = some (.int .i64 (b : Int))) : a = b := by
  have h : (a : Int) = b := by simpa using h
  omega
theorem p16 (m : Int) (l : List EnI) (tick : Int) (hl : l.length ≤ 2000000) : LaxOk PI (GI m) XMa (tbl [(42, s42)]) (itbl []) (a16 l tick) [] 16 [.sl 40 (ensL l) .no, .int .i64 tick] (.sl 2 (mksL (marksM (metL tick l))) .no, []) := by
  constructor
  rw [w16]
  have hll : (ensL l).length = l.length := List.length_map ..
  have hmL : (metL tick l).length ≤ 2000000 := by have := metL_len tick l; omega
  have hol : ∀ i, (outR l tick i).length ≤ 2000000 := fun i => by
    have h1 := nmsR_len (metL tick (l.take i))
    have h2 := metL_len tick (l.take i)
    have h3 : (l.take i).length ≤ l.length := by rw [List.length_take]; omega
    rw [outR_len]; omega
  have hml : ∀ i, (mksL (outR l tick i)).length = (outR l tick i).length := fun i => List.length_map ..
  rw [hll]
  refine ⟨⟨0, ⟨rfl⟩, ⟨rfl⟩, Nat.zero_le _, trivial⟩, fun x hx => ⟨fun hlt => ?_, fun hge => ?_⟩⟩
  · have hlt := of_decide_eq_true hlt
    have hxl : x < l.length := by omega
    have he := List.getElem?_eq_getElem hxl
    have hb : (0 : Int) ≤ x ∧ (x : Int) < l.length := ⟨by omega, hlt⟩
    have skip : relB tick l[x] = false → ∃ y : Nat, ValsAre [.sl 40 (ensL l) .no, .int .i64 tick, .sl 2 (mksL (outR l tick x)) .no, .int .i64 (IntKind.i64.wrap ((x : Int) + 1))] [.sl 40 (ensL l) .no, .int .i64 tick, .sl 2 (mksL (outR l tick y)) .no, .int .i64 y] ∧ StIs ⟨[], []⟩ ⟨[], []⟩ ∧ y ≤ l.length ∧ l.length - y < l.length - x := fun hr => ⟨x + 1, ⟨by rw [wrapN (by omega), outR_skip he hr]⟩, ⟨rfl⟩, hxl, by omega⟩
    refine ⟨hb, _, by rw [Int.toNat_natCast]; exact take_en2 he, fun h1 => skip (rel_no fun h => by simp [h.1] at h1), fun h1 => ⟨hb, _, by rw [Int.toNat_natCast]; exact take_en1 he, fun h2 => skip (rel_no fun h => by have := of_decide_eq_true h2; omega), fun h2 => ⟨hb, _, by rw [Int.toNat_natCast]; exact take_en9 he, ?_⟩⟩⟩
    have hr : relB tick l[x] = true := rel_yes (by simpa using h1) (by have := of_decide_eq_false h2; omega)
    refine ⟨⟨⟨⟨x, 0, l[x].f.src, 0⟩, ⟨rfl⟩, ⟨rfl⟩, ⟨hxl, ⟨_, he, hr, rfl⟩, Nat.zero_le _⟩, rfl⟩, fun x1 hx1 hlk1 => ?_⟩, fun x1 hx1 hlk1 => ?_⟩
    · -- the scan
      obtain ⟨i, a, s, j⟩ := x1
      simp only at hx1 hlk1 ⊢
      obtain ⟨hi, hes, hak⟩ := hx1
      have hix := natI hlk1
      obtain ⟨T, hT⟩ : ∃ T, nmsR (metL tick (l.take i)) = T := ⟨_, rfl⟩
      have hTl : (outR l tick i).length = T.length := by rw [outR_len, hT]
      rw [hml, hTl]
      have hTs := hol i
      rw [hTl] at hTs
      have hkT : (T.takeWhile fun a => Op.bytesLess a s).length ≤ T.length := (List.takeWhile_prefix _).length_le
      rw [hT] at hak
      have out : a = (T.takeWhile fun a => Op.bytesLess a s).length → ∃ y : St16, ValsAre [.sl 40 (ensL l) .no, .int .i64 tick, .sl 2 (mksL (outR l tick i)) .no, .int .i64 i, .ptr 0 0, .int .i64 a] [.sl 40 (ensL l) .no, .int .i64 tick, .sl 2 (mksL (outR l tick y.i)) .no, .int .i64 y.i, .ptr 0 0, .int .i64 y.at_] ∧ StIs ⟨[some [.str s, .int .i64 1]], []⟩ ⟨[some [.str y.s, .int .i64 1]], []⟩ ∧ (y.i < l.length ∧ (∃ e, l[y.i]? = some e ∧ relB tick e = true ∧ e.f.src = y.s) ∧ y.at_ = ((nmsR (metL tick (l.take y.i))).takeWhile fun a => Op.bytesLess a y.s).length) ∧ some (AV.int .i64 (x : Int)) = some (.int .i64 (y.i : Int)) := fun ha => ⟨⟨i, a, s, 0⟩, ⟨rfl⟩, ⟨rfl⟩, ⟨hi, hes, by show a = _; rw [hT]; exact ha⟩, hlk1⟩
      refine ⟨fun hlt1 => ?_, fun hge1 => ?_⟩
      · have hlt1 := of_decide_eq_true hlt1
        have haT : a < T.length := by omega
        have hat : (outR l tick i)[a]? = some (mkOf (metL tick l) T[a]) := by subst hT; exact outR_at haT
        refine ⟨⟨by omega, hlt1⟩, T[a], by rw [Int.toNat_natCast]; exact take_mk9 hat, fun hbl => ?_, fun hbl => out ?_⟩
        · have hne : a ≠ (T.takeWhile fun a => Op.bytesLess a s).length := fun h => by
            have hkl : (T.takeWhile fun a => Op.bytesLess a s).length < T.length := by omega
            have := tw_end hkl
            have e : T[a] = T[(T.takeWhile fun a => Op.bytesLess a s).length] := by congr 1
            rw [e] at hbl
            rw [hbl] at this; cases this
          refine ⟨⟨i, a + 1, s, 0⟩, ⟨by rw [wrapN (by omega)]⟩, ⟨rfl⟩, ⟨hi, hes, by show a + 1 ≤ ((nmsR (metL tick (l.take i))).takeWhile fun a => Op.bytesLess a s).length; rw [hT]; omega⟩, hlk1, by show (outR l tick i).length - (a + 1) < _; omega⟩
        · rcases Nat.lt_or_eq_of_le hak with h | h
          · obtain ⟨_, hp⟩ := tw_at h
            have hp : Op.bytesLess T[a] s = true := hp
            rw [hp] at hbl; cases hbl
          · exact h
      · have hge1 := of_decide_eq_false hge1
        exact out (by omega)
    · -- behind the scan
      obtain ⟨i, a, s, j⟩ := x1
      simp only at hx1 hlk1 ⊢
      obtain ⟨hi, ⟨e, hei, her, hes⟩, hak⟩ := hx1
      have hix := natI hlk1
      subst hix
      obtain ⟨T, hT⟩ : ∃ T, nmsR (metL tick (l.take x)) = T := ⟨_, rfl⟩
      have hTl : (outR l tick x).length = T.length := by rw [outR_len, hT]
      have hTs := hol x
      rw [hTl] at hTs
      rw [hml, hTl]
      refine ⟨⟨fun hlt1 => ?_, fun hge1 => ?_⟩, fun x2 hx2 hlk2 => ?_⟩
      · have hlt1 := of_decide_eq_true hlt1
        have haT : a < T.length := by omega
        have hat : (outR l tick x)[a]? = some (mkOf (metL tick l) T[a]) := by subst hT; exact outR_at haT
        refine ⟨⟨by omega, hlt1⟩, T[a], by rw [Int.toNat_natCast]; exact take_mk9 hat, fun hb => ?_, fun hb => ?_⟩
        · have hb : T[a] = s := by simpa using hb
          refine ⟨x + 1, ⟨?_⟩, ⟨rfl⟩, hi, by omega⟩
          rw [wrapN (by omega), outR_old hei her (by rw [hes, ← hak, hT, List.getElem?_eq_getElem haT, hb])]
        · have hb : ¬ T[a] = s := by simpa using hb
          exact ⟨⟨x, a, s, 0⟩, ⟨rfl⟩, ⟨rfl⟩, ⟨hi, ⟨e, hei, her, hes⟩, hak, by show (nmsR (metL tick (l.take x)))[a]? ≠ some s; rw [hT, List.getElem?_eq_getElem haT]; simpa using hb⟩, rfl⟩
      · have hge1 := of_decide_eq_false hge1
        exact ⟨⟨x, a, s, 0⟩, ⟨rfl⟩, ⟨rfl⟩, ⟨hi, ⟨e, hei, her, hes⟩, hak, by show (nmsR (metL tick (l.take x)))[a]? ≠ some s; rw [hT, List.getElem?_eq_none (by omega)]; simp⟩, rfl⟩
      · clear hTl hTs hT T hak hes her hei e
        obtain ⟨i, a, s, j⟩ := x2
        simp only at hx2 hlk2 ⊢
        obtain ⟨hi, hes, hak, hno⟩ := hx2
        have hix := natI hlk2
        subst hix
        refine ⟨⟨⟨x, a, s, 0⟩, ⟨rfl⟩, ⟨rfl⟩, ⟨hi, hes, hak, hno, Nat.zero_le _, fun k hk => absurd hk (Nat.not_lt_zero _), rfl⟩, rfl⟩, fun x3 hx3 hlk3 => ?_⟩
        clear hak hno hes
        obtain ⟨i, a, s, j⟩ := x3
        simp only at hx3 hlk3 ⊢
        obtain ⟨hi, ⟨e, hei, her, hes⟩, hak, hno, hzj, hzh, hzn⟩ := hx3
        have hix := natI hlk3
        subst hix
        refine ⟨_, ⟨c42 hl⟩, fun hb => ?_, fun hb => ?_⟩
        · have hj2 : j + 1 ≤ (metL tick l).length := pigeon (s := s) fun k hk => by
            rcases Nat.lt_or_eq_of_le (Nat.lt_succ_iff.1 hk) with h | h
            · exact hzh k h
            · subst h; exact hb
          refine ⟨⟨x, a, s, j + 1⟩, ⟨rfl⟩, ⟨?_⟩, ⟨hi, ⟨e, hei, her, hes⟩, hak, hno, hj2, fun k hk => ?_, ?_⟩, rfl, by show (metL tick l).length - (j + 1) < (metL tick l).length - j; omega⟩
          · rw [show (j : Int) + 1 + 1 = ((j + 1 : Nat) : Int) + 1 by omega, wrapN (by omega)]
            rfl
          · show hasId (metL tick l) s ((k : Int) + 1) = true
            rcases Nat.lt_or_eq_of_le (Nat.lt_succ_iff.1 hk) with h | h
            · exact hzh k h
            · subst h; exact hb
          · show nextF (hasId (metL tick l) s) ((metL tick l).length - (j + 1)) (((j + 1 : Nat) : Int) + 1) = nextM (metL tick l) s
            rw [← hzn, show (metL tick l).length - j = ((metL tick l).length - (j + 1)) + 1 by omega, nextF_go hb]
            rfl
        · have hnx : nextM (metL tick l) s = (j : Int) + 1 := by rw [← hzn]; exact nextF_stop hb
          have hal : a ≤ (outR l tick x).length := by rw [outR_len, hak]; exact (List.takeWhile_prefix _).length_le
          have hox := hol x
          have hnew := outR_new (k := a) hei her (by rw [hes]; exact hak) (by rw [hes]; exact hno)
          rw [hes] at hnew
          have hmm : mkA (mkOf (metL tick l) s) = .agg [.str s, .int .i64 ((j : Int) + 1)] := by simp only [mkA, mkOf, hnx]
          have hnewA : mksL (outR l tick (x + 1)) = mksL ((outR l tick x).take a) ++ ([.agg [.str s, .int .i64 ((j : Int) + 1)]] ++ mksL ((outR l tick x).drop a)) := by
            rw [hnew, ← hmm]; simp [mksL]
          have hDR : List.drop a (List.take (mksL (outR l tick x)).length (mksL (outR l tick x))) = mksL ((outR l tick x).drop a) := by rw [List.take_length, ← List.map_drop]
          have hTK : List.drop 0 (List.take a (mksL (outR l tick x))) = mksL ((outR l tick x).take a) := by rw [List.drop_zero, ← List.map_take]
          rw [Int.toNat_natCast, hDR, hTK]
          have hdl : (mksL ((outR l tick x).drop a)).length ≤ 2000000 := by rw [List.length_map, List.length_drop]; omega
          have htl : (mksL ((outR l tick x).take a)).length ≤ 2000000 := by rw [List.length_map, List.length_take]; omega
          have hml' := hml x
          have fin : ∀ r, r = mksL (outR l tick (x + 1)) → ∃ y : Nat, ValsAre [.sl 40 (ensL l) .no, .int .i64 tick, .sl 2 r .no, .int .i64 (IntKind.i64.wrap ((x : Int) + 1))] [.sl 40 (ensL l) .no, .int .i64 tick, .sl 2 (mksL (outR l tick y)) .no, .int .i64 y] ∧ StIs ⟨[], []⟩ ⟨[], []⟩ ∧ y ≤ l.length ∧ l.length - y < l.length - x := fun r hr => ⟨x + 1, ⟨by rw [wrapN (by omega), hr]⟩, ⟨rfl⟩, hi, by omega⟩
          refine ⟨by omega, ⟨by omega, Nat.le_refl _⟩, .inl trivial, .inl trivial, by omega, fun hd => ⟨by omega, ⟨Nat.zero_le _, by omega⟩, .inl trivial, .inl trivial, by omega, fun ht => ⟨.inl trivial, by omega, fin _ ?_⟩, fun ht => ⟨.inl trivial, by simp only [List.nil_append]; omega, by simp, fin _ ?_⟩⟩, fun hd => ⟨by omega, ⟨Nat.zero_le _, by omega⟩, .inl trivial, .inl trivial, by omega, fun ht => ⟨.inl trivial, by simp only [List.length_append, List.length_cons, List.length_nil]; omega, fun h => by simp at h, fun _ => fin _ ?_⟩, fun ht => ⟨.inl trivial, by simp only [List.nil_append, List.length_append, List.length_cons, List.length_nil]; omega, by simp, fin _ ?_⟩⟩⟩
          · rw [hnewA, hd, ht]; rfl
          · rw [hnewA, hd]; simp
          · rw [hnewA, ht]
          · rw [hnewA]; simp
  · have hge := of_decide_eq_false hge
    obtain rfl : x = l.length := by omega
    rw [outR_all]
    exact ⟨⟨rfl, rfl, .inl rfl⟩, rfl, rfl⟩
/-- both Marks answer alike -/
theorem o16 (m : Int) : SpecOk PI (GI m) 16 s15 := lax_of (X := XMa) (m := []) mixedI (tbl_cons (o42 m) tbl_nil) itbl_nil fun args r h => by
  unfold s15 at h
  split at h
  case h_2 => cases h
  split at h
  case isFalse => cases h
  rename_i hc
  obtain ⟨rfl, hl⟩ := hc
  split at h
  case h_2 => cases h
  rename_i l hu
  obtain rfl := unEs_inv hu
  split at h
  case isFalse => cases h
  injection h with h; subst h
  rw [List.length_map] at hl
  exact ⟨_, p16 m l _ hl⟩
end Go.Abs

namespace Go.Abs
open Go.Proofs Go.RowKit
/-- arguments told of less -/
theorem SpecOk.wkG {P : Program} {G : Glob} {f : FuncId} {s : Spec} (hs : SpecOk P G f s) {g : AV → AV} (hr : ∀ {E : Env} {w : World} {a : AV} {v : Value}, Rep E w a v → Rep E w (g a) v) (hc : ∀ {a : AV}, a.closed1 = true → (g a).closed1 = true) : SpecOk P G f fun args => s (args.map g) := by
  intro f' args r lv hrr E w vs hI hG hn hv hcl
  refine hs f' (args.map g) r lv hrr E w vs hI hG (by simpa using hn) (fun i c v hi hv' => ?_) fun c hc' => ?_
  · rw [List.getElem?_map] at hi
    cases ha : args[i]? with
    | none => rw [ha] at hi; cases hi
    | some a =>
      rw [ha] at hi
      injection hi with hi; subst hi
      exact hr (hv i a v ha hv')
  · obtain ⟨a, ha, rfl⟩ := List.mem_map.1 hc'
    exact hc (hcl a ha)
def wkN : AV → AV
  | .sl sz es _ => .sl sz es .no
  | a => a
theorem wkN_rep {E : Env} {w : World} {a : AV} {v : Value} (h : Rep E w a v) : Rep E w (wkN a) v := by
  unfold wkN
  split
  · cases h with
    | sl _ _ _ A cap u hcap hmax hA hsz hcl ho hr h1 => exact .sl _ _ .no A cap u hcap hmax hA hsz hcl trivial hr h1
  · exact h
theorem wkN_closed {a : AV} (h : a.closed1 = true) : (wkN a).closed1 = true := by
  unfold wkN
  split
  · rfl
  · exact h
/-- an entry: all cells but those that are looked at are let go -/
def wkCs : List AV → List AV
  | _ :: a :: b :: c :: d :: e :: f :: g :: h :: i :: j :: l => .opq :: a :: b :: c :: d :: e :: f :: g :: h :: i :: wk0 j :: l.map fun _ => .opq
  | l => l
def wkEn : AV → AV
  | .agg cs => .agg (wkCs cs)
  | a => a
def wkEs : AV → AV
  | .sl sz es _ => .sl sz (es.map wkEn) .no
  | a => a
theorem wkCs_len (cs : List AV) : (wkCs cs).length = cs.length := by
  unfold wkCs
  split
  · simp
  · rfl
theorem wkCs_at {cs : List AV} {i : Nat} {c : AV} (h : (wkCs cs)[i]? = some c) : ∃ d, cs[i]? = some d ∧ (c = d ∨ c = .opq ∨ c = wk0 d) := by
  unfold wkCs at h
  split at h
  · match i, h with
    | 0, h => simp at h; subst h; exact ⟨_, rfl, .inr (.inl rfl)⟩
    | 1, h => simp at h; subst h; exact ⟨_, rfl, .inl rfl⟩
    | 2, h => simp at h; subst h; exact ⟨_, rfl, .inl rfl⟩
    | 3, h => simp at h; subst h; exact ⟨_, rfl, .inl rfl⟩
    | 4, h => simp at h; subst h; exact ⟨_, rfl, .inl rfl⟩
    | 5, h => simp at h; subst h; exact ⟨_, rfl, .inl rfl⟩
    | 6, h => simp at h; subst h; exact ⟨_, rfl, .inl rfl⟩
    | 7, h => simp at h; subst h; exact ⟨_, rfl, .inl rfl⟩
    | 8, h => simp at h; subst h; exact ⟨_, rfl, .inl rfl⟩
    | 9, h => simp at h; subst h; exact ⟨_, rfl, .inl rfl⟩
    | 10, h => simp at h; subst h; exact ⟨_, rfl, .inr (.inr rfl)⟩
    | i + 11, h =>
      simp only [List.getElem?_cons_succ, List.getElem?_map, Option.map_eq_some_iff] at h
      obtain ⟨d, h1, h2⟩ := h
      exact ⟨d, by simpa using h1, .inr (.inl h2.symm)⟩
  · exact ⟨c, h, .inl rfl⟩
theorem wkEn_cells {a : AV} {j : Nat} {c : AV} (h : (wkEn a).cells[j]? = some c) : ∃ d, a.cells[j]? = some d ∧ (c = d ∨ c = .opq ∨ c = wk0 d) := by
  unfold wkEn at h
  split at h
  · exact wkCs_at h
  · exact ⟨c, h, .inl rfl⟩
theorem wkEn_len (a : AV) : (wkEn a).cells.length = a.cells.length := by
  unfold wkEn
  split
  · exact wkCs_len _
  · rfl
theorem wkEn_closed {a : AV} (h : a.closed1 = true) : (wkEn a).closed1 = true := by
  unfold wkEn
  split
  · rename_i cs
    simp only [AV.closed1, List.all_eq_true] at h ⊢
    intro c hc
    obtain ⟨i, hi⟩ := List.mem_iff_getElem?.1 hc
    obtain ⟨d, h1, h2⟩ := wkCs_at hi
    have hd := h d (List.mem_of_getElem? h1)
    rcases h2 with rfl | rfl | rfl
    · exact hd
    · rfl
    · exact wk0_closed hd
  · exact h
theorem wkEs_rep {E : Env} {w : World} {a : AV} {v : Value} (h : Rep E w a v) : Rep E w (wkEs a) v := by
  unfold wkEs
  split
  · cases h with
    | sl sz' es' _ A cap u hcap hmax hA hsz hcl ho hr h1 =>
      rename_i sz es o
      have hel : ∀ (i : Nat) (e : AV), (es.map wkEn)[i]? = some e → ∃ e0, es[i]? = some e0 ∧ e = wkEn e0 := fun i e he => by
        rw [List.getElem?_map] at he
        cases h0 : es[i]? with
        | none => rw [h0] at he; cases he
        | some e0 => rw [h0] at he; injection he with he; exact ⟨e0, rfl, he.symm⟩
      have hlen : (es.map wkEn).length = es.length := List.length_map ..
      rw [← hlen]
      refine .sl sz _ .no A cap u (by rw [hlen]; exact hcap) hmax ?_ ?_ ?_ trivial ?_ h1
      · rcases hA with rfl | ⟨b, off, rfl, hA⟩
        · exact .inl rfl
        · refine .inr ⟨b, off, rfl, fun i e j c hi hj => ?_⟩
          obtain ⟨e0, h0, rfl⟩ := hel i e hi
          obtain ⟨d, h2, _⟩ := wkEn_cells hj
          exact hA i e0 j d h0 h2
      · intro e he
        obtain ⟨e0, h0, rfl⟩ := List.mem_map.1 he
        rw [wkEn_len]; exact hsz e0 h0
      · intro e he
        obtain ⟨e0, h0, rfl⟩ := List.mem_map.1 he
        exact wkEn_closed (hcl e0 h0)
      · intro i e j c hi hj
        obtain ⟨e0, h0, rfl⟩ := hel i e hi
        obtain ⟨d, h2, h3⟩ := wkEn_cells hj
        have hd := hr i e0 j d h0 h2
        rcases h3 with rfl | rfl | rfl
        · exact hd
        · exact .opq _ (h1 i j)
        · exact wk0_rep hd
  · exact h
theorem wkEs_closed {a : AV} (h : a.closed1 = true) : (wkEs a).closed1 = true := by
  unfold wkEs
  split
  · rfl
  · exact h
def s15x : Spec := fun args => s15 (args.map wkEs)
theorem o15x (m : Int) : SpecOk PI (GI m) 15 s15x := (o15 m).wkG (g := wkEs) wkEs_rep wkEs_closed
def s14x : Spec := fun args => s14 (args.map wkN)
theorem o14x (m : Int) : SpecOk PI (GI m) 14 s14x := (o14 m).wkG (g := wkN) wkN_rep wkN_closed
def s21x : Spec := fun args => s21 (args.map wk1)
theorem o21x (m : Int) : SpecOk PI (GI m) 21 s21x := (o21 m).wk
def s23x : Spec := fun args => s23 (args.map wk1)
theorem o23x (m : Int) : SpecOk PI (GI m) 23 s23x := (o23 m).wk
noncomputable abbrev tEx : List (FuncId × Spec) := [(10, s10w), (12, s12w), (14, s14x), (15, s15x), (20, s20), (21, s21x), (22, s22), (23, s23x), (24, s24)]
theorem tEx_ok (m : Int) : CalleeOk PI (GI m) (tbl tEx) := tbl_cons (o10w m) (tbl_cons (o12w m) (tbl_cons (o14x m) (tbl_cons (o15x m) (tbl_cons (o20 m) (tbl_cons (o21x m) (tbl_cons (o22 m) (tbl_cons (o23x m) (tbl_cons (o24 m) tbl_nil))))))))
end Go.Abs

namespace Go.Abs
open Go.Proofs Go.RowKit
theorem run25 (m : Int) : (evs PI (GI m) (tbl tEx) (fun _ => []) 8).1 25 [.sl 1 [.int .i64 2, .int .i64 1, .int .i64 2] .no, .sl 1 [.int .i64 1, .int .i64 3, .int .i64 3] .no, .bool false] = some (.bool true, []) := by kernel_rfl
theorem run7 (m : Int) : (evs PI (GI m) (tbl tEx) (fun _ => []) 9).1 7 [] = some (.bool true, []) := by kernel_rfl
theorem o7 (m : Int) : SpecOk PI (GI m) 7 s7 := spec_run mixedI (tEx_ok m) fun args r h => by
  unfold s7 at h
  split at h
  case h_2 => cases h
  injection h with h; subst h
  exact ⟨9, run7 m⟩
end Go.Abs

namespace Go.Abs
open Go.Proofs
def a4 (l : List EnI) (tick : Int) : Anns := ⟨fun k => if k = 4 then some { α := Nat, slots := [0, 1, 5], nb := 0, vals := fun n => [.sl 40 (ensL l) .no, .int .i64 tick, .int .i64 n], sS := fun _ => ⟨[], []⟩, I := fun n => n ≤ l.length, μ := fun n => l.length - n } else none, nA⟩
abbrev t4 : List (FuncId × Spec) := [(7, s7), (9, s9), (15, s15), (16, s15), (14, s14)]
end Go.Abs

namespace Go.Abs
open Go.Proofs
theorem w4 (m : Int) (l : List EnI) (tick : Int) : (pureW PI (GI m) XMa (tbl t4) (itbl []) (a4 l tick) [] 4 [.sl 40 (ensL l) .no, .int .i64 tick] (.bool true, [])) =
(∃ (b : Bool),
  CallIs (some (AV.bool true, [])) (AV.bool b) [] ∧
    (b = true →
        (∃ (y : Nat),
 ValsAre [AV.sl ((40 : Nat)) (ensL l) Own.no, AV.int IntKind.i64 tick, AV.int IntKind.i64 (0 : Int)]
 [AV.sl ((40 : Nat)) (ensL l) Own.no, AV.int IntKind.i64 tick, AV.int IntKind.i64 (↑y : Int)] ∧
 StIs { boxes := [], live := [] } { boxes := [], live := [] } ∧ y ≤ l.length ∧ True) ∧
 ∀ (x : Nat),
 x ≤ l.length →
 (decide ((↑x : Int) < (↑(ensL l).length : Int)) = true →
 (decide ((↑x : Int) < (61 : Int)) = true →
 ((0 : Int) ≤ (↑x : Int) ∧ (↑x : Int) < (↑(ensL l).length : Int)) ∧
 ∃ (s : List UInt8),
 ∃ (n : Int),
 ∃ (n_1 : Int),
 ∃ (n_2 : Int),
 ∃ (s_1 : List UInt8),
 ∃ (s_2 : List UInt8),
 ∃ (n_3 : Int),
 ∃ (es : List AV),
 takeAt PI ((33 : Nat)) (ensL l) (↑x : Int).toNat ((3 : Nat)) =
 some
 (AV.agg
 [AV.str s, AV.int IntKind.i64 n, AV.int IntKind.i64 n_1, AV.int IntKind.i64 n_2, AV.str s_1, AV.str s_2,
 AV.int IntKind.i64 n_3, AV.sl ((3 : Nat)) es Own.no]) ∧
 ∃ (b : Bool),
 CallIs
 (tbl [((7 : Nat), s7), ((9 : Nat), s9), ((15 : Nat), s15), ((16 : Nat), s15), ((14 : Nat), s14)] ((9 : Nat))
 [AV.agg
 [AV.str s, AV.int IntKind.i64 n, AV.int IntKind.i64 n_1, AV.int IntKind.i64 n_2, AV.str s_1, AV.str s_2,
 AV.int IntKind.i64 n_3, AV.sl ((3 : Nat)) es Own.no]])
 (AV.bool b) [] ∧
 (b = true →
 ∃ (y : Nat),
 ValsAre
 [AV.sl ((40 : Nat)) (ensL l) Own.no, AV.int IntKind.i64 tick,
 AV.int IntKind.i64 (IntKind.i64.wrap ((↑x : Int) + (1 : Int)))]
 [AV.sl ((40 : Nat)) (ensL l) Own.no, AV.int IntKind.i64 tick, AV.int IntKind.i64 (↑y : Int)] ∧
 StIs { boxes := [], live := [] } { boxes := [], live := [] } ∧
 y ≤ l.length ∧ l.length - y < l.length - x) ∧
 (b = false → RetIs (AV.bool true) [] (AV.bool true, []))) ∧
 (decide ((↑x : Int) < (61 : Int)) = false →
 (decide ((↑(ensL l).length : Int) > (60 : Int)) = true → RetIs (AV.bool true) [] (AV.bool true, [])) ∧
 (decide ((↑(ensL l).length : Int) > (60 : Int)) = false →
 ∃ (es : List AV),
 CallIs
 (tbl [((7 : Nat), s7), ((9 : Nat), s9), ((15 : Nat), s15), ((16 : Nat), s15), ((14 : Nat), s14)] ((15 : Nat))
 [AV.sl ((40 : Nat)) (ensL l) Own.no, AV.int IntKind.i64 tick])
 (AV.sl ((2 : Nat)) es Own.no) [] ∧
 ∃ (es_1 : List AV),
 CallIs
 (tbl [((7 : Nat), s7), ((9 : Nat), s9), ((15 : Nat), s15), ((16 : Nat), s15), ((14 : Nat), s14)] ((16 : Nat))
 [AV.sl ((40 : Nat)) (ensL l) Own.no, AV.int IntKind.i64 tick])
 (AV.sl ((2 : Nat)) es_1 Own.no) [] ∧
 ∃ (b : Bool),
 CallIs
 (tbl [((7 : Nat), s7), ((9 : Nat), s9), ((15 : Nat), s15), ((16 : Nat), s15), ((14 : Nat), s14)] ((14 : Nat))
 [AV.sl ((2 : Nat)) es Own.no, AV.sl ((2 : Nat)) es_1 Own.no])
 (AV.bool b) [] ∧
 (b = true → RetIs (AV.bool true) [] (AV.bool true, [])) ∧ (b = false → RetIs (AV.bool false) [] (AV.bool true, []))))) ∧
 (decide ((↑x : Int) < (↑(ensL l).length : Int)) = false →
 (decide ((↑(ensL l).length : Int) > (60 : Int)) = true → RetIs (AV.bool true) [] (AV.bool true, [])) ∧
 (decide ((↑(ensL l).length : Int) > (60 : Int)) = false →
 ∃ (es : List AV),
 CallIs
 (tbl [((7 : Nat), s7), ((9 : Nat), s9), ((15 : Nat), s15), ((16 : Nat), s15), ((14 : Nat), s14)] ((15 : Nat))
 [AV.sl ((40 : Nat)) (ensL l) Own.no, AV.int IntKind.i64 tick])
 (AV.sl ((2 : Nat)) es Own.no) [] ∧
 ∃ (es_1 : List AV),
 CallIs
 (tbl [((7 : Nat), s7), ((9 : Nat), s9), ((15 : Nat), s15), ((16 : Nat), s15), ((14 : Nat), s14)] ((16 : Nat))
 [AV.sl ((40 : Nat)) (ensL l) Own.no, AV.int IntKind.i64 tick])
 (AV.sl ((2 : Nat)) es_1 Own.no) [] ∧
 ∃ (b : Bool),
 CallIs
 (tbl [((7 : Nat), s7), ((9 : Nat), s9), ((15 : Nat), s15), ((16 : Nat), s15), ((14 : Nat), s14)] ((14 : Nat))
 [AV.sl ((2 : Nat)) es Own.no, AV.sl ((2 : Nat)) es_1 Own.no])
 (AV.bool b) [] ∧
 (b = true → RetIs (AV.bool true) [] (AV.bool true, [])) ∧ (b = false → RetIs (AV.bool false) [] (AV.bool true, []))))) ∧
      (b = false → RetIs (AV.bool false) [] (AV.bool true, []))) := by kernel_rfl
end Go.Abs

namespace Go.Abs
open Go.Proofs Go.RowKit
/-- entries of a length that can be counted -/
def enOk (e : EnI) : Prop := e.f.src.length ≤ 100000000 ∧ e.f.table.length ≤ 100000000 ∧ e.f.key.length ≤ 100000000 ∧ e.f.fs.length ≤ 100000000 ∧ -9223372036854775808 ≤ e.f.seq ∧ e.f.seq ≤ 9223372036854775807
theorem take_enf {l : List EnI} {i : Nat} {e : EnI} (h : l[i]? = some e) : takeAt PI 33 (ensL l) i 3 = some (fcA e.f) := by
  simp only [takeAt, List.getElem?_map, h, Option.map_some, takeA, agg33, size33]
  rfl
theorem c9m {f : FcI} (h : f.src.length ≤ 100000000 ∧ f.table.length ≤ 100000000 ∧ f.key.length ≤ 100000000 ∧ f.fs.length ≤ 100000000) : tbl t4 9 [fcA f] = some (.bool (smallB f), []) := by
  rw [tbl_miss (by decide), tbl_hit]
  unfold fcA s9
  simp only [if_true]
  rw [show unL unV (vasL f.fs) = some f.fs from unL_map unV_ok f.fs]
  simp only
  rw [if_pos h]
theorem c15m {l : List EnI} {tick : Int} (hl : l.length ≤ 60) (hi : idsOk l = true) : s15 [.sl 40 (ensL l) .no, .int .i64 tick] = some (.sl 2 (mksL (marksM (metL tick l))) .no, []) := by
  simp only [s15, unEs_ok]
  rw [if_pos ⟨trivial, by rw [List.length_map]; omega⟩, if_pos hi]
theorem p4 (m : Int) (l : List EnI) (tick : Int) (he : ∀ e ∈ l, enOk e) : PureOk PI (GI m) XMa (tbl t4) (itbl []) (a4 l tick) [] 4 [.sl 40 (ensL l) .no, .int .i64 tick] (.bool true, []) := by
  constructor
  rw [w4]
  have hll : (ensL l).length = l.length := List.length_map ..
  rw [hll]
  have hi : idsOk l = true := List.all_eq_true.2 fun e h => by
    obtain ⟨h1, _, _, _, h2, h3⟩ := he e h
    simp [h1, h2, h3]
  have fin : (decide ((l.length : Int) > 60) = true → RetIs (.bool true) [] (.bool true, [])) ∧ (decide ((l.length : Int) > 60) = false → ∃ es : List AV, CallIs (tbl t4 15 [.sl 40 (ensL l) .no, .int .i64 tick]) (.sl 2 es .no) [] ∧ ∃ es_1 : List AV, CallIs (tbl t4 16 [.sl 40 (ensL l) .no, .int .i64 tick]) (.sl 2 es_1 .no) [] ∧ ∃ b : Bool, CallIs (tbl t4 14 [.sl 2 es .no, .sl 2 es_1 .no]) (.bool b) [] ∧ (b = true → RetIs (.bool true) [] (.bool true, [])) ∧ (b = false → RetIs (.bool false) [] (.bool true, []))) := by
    refine ⟨fun _ => ⟨rfl⟩, fun h60 => ?_⟩
    have h60 := of_decide_eq_false h60
    have hl : l.length ≤ 60 := by omega
    have hk : (marksM (metL tick l)).length ≤ 2000000 := by
      have h1 := nmsR_len (metL tick l)
      have h2 := metL_len tick l
      simp only [marksM, List.length_map]
      rw [← nmsR_eq]; omega
    refine ⟨_, ⟨by rw [tbl_miss (by decide), tbl_miss (by decide), tbl_hit]; exact c15m hl hi⟩, _, ⟨by rw [tbl_miss (by decide), tbl_miss (by decide), tbl_miss (by decide), tbl_hit]; exact c15m hl hi⟩, true, ⟨?_⟩, fun _ => ⟨rfl⟩, fun h => (by cases h)⟩
    rw [tbl_miss (by decide), tbl_miss (by decide), tbl_miss (by decide), tbl_miss (by decide), tbl_hit]
    simp only [s14, and_self, if_true]
    rw [show unL unM (mksL (marksM (metL tick l))) = some (marksM (metL tick l)) from unL_map (f := unM) (g := mkA) (fun x => rfl) _]
    simp only
    rw [if_pos hk]; simp
  refine ⟨true, ⟨rfl⟩, fun _ => ⟨⟨0, ⟨rfl⟩, ⟨rfl⟩, Nat.zero_le _, trivial⟩, fun x hx => ⟨fun hlt => ⟨fun h61 => ?_, fun _ => fin⟩, fun _ => fin⟩⟩, fun h => (by cases h)⟩
  have h61 := of_decide_eq_true h61
  have hlt := of_decide_eq_true hlt
  have hxl : x < l.length := by omega
  have hg := List.getElem?_eq_getElem hxl
  obtain ⟨h1, h2, h3, h4, _⟩ := he _ (List.getElem_mem hxl)
  exact ⟨⟨by omega, hlt⟩, _, _, _, _, _, _, _, _, by rw [Int.toNat_natCast]; exact take_enf hg, _, ⟨c9m ⟨h1, h2, h3, h4⟩⟩, fun _ => ⟨x + 1, ⟨by rw [wrapN (by omega)]⟩, ⟨rfl⟩, hxl, by omega⟩, fun _ => ⟨rfl⟩⟩
/-- the law -/
def en4 (l : List EnI) : Bool := l.all fun e => decide (e.f.src.length ≤ 100000000) && decide (e.f.table.length ≤ 100000000) && decide (e.f.key.length ≤ 100000000) && decide (e.f.fs.length ≤ 100000000) && decide (-9223372036854775808 ≤ e.f.seq) && decide (e.f.seq ≤ 9223372036854775807)
theorem en4_iff {l : List EnI} : en4 l = true ↔ ∀ e ∈ l, enOk e := by
  simp only [en4, List.all_eq_true, Bool.and_eq_true, decide_eq_true_eq, enOk, and_assoc]
def s4m : Spec := fun args => match args with
  | [.sl sz es .no, .int .i64 _tick] => if sz = 40 then (match unL unE es with
    | some l => if en4 l = true then some (.bool true, []) else none
    | none => none) else none
  | _ => none
theorem t4_ok (m : Int) : CalleeOk PI (GI m) (tbl t4) := tbl_cons (o7 m) (tbl_cons (o9 m) (tbl_cons (o15 m) (tbl_cons (o16 m) (tbl_cons (o14 m) tbl_nil))))
theorem o4m (m : Int) : SpecOk PI (GI m) 4 s4m := spec_of (X := XMa) (m := []) mixedI (t4_ok m) itbl_nil fun args r h => by
  unfold s4m at h
  split at h
  case h_2 => cases h
  split at h
  case isFalse => cases h
  rename_i hz
  subst hz
  split at h
  case h_2 => cases h
  rename_i l hu
  obtain rfl := unEs_inv hu
  split at h
  case isFalse => cases h
  rename_i hk
  injection h with h; subst h
  exact ⟨_, p4 m l _ (en4_iff.1 hk)⟩
theorem s4m_true (l : List EnI) (tick : Int) (h : ∀ e ∈ l, enOk e) : s4m [.sl 40 (ensL l) .no, .int .i64 tick] = some (.bool true, []) := by
  simp only [s4m, if_true, unEs_ok]
  rw [if_pos (en4_iff.2 h)]
/-! IngestReceives -/
def rc3 (r : List BxI) : Bool := r.all fun b => decide (b.src.length ≤ 2000000) && decide (b.ahead.length ≤ 2000000)
def pk3 (p : List PkI) : Bool := p.all fun p => decide (p.f.src.length ≤ 100000000) && decide (p.f.table.length ≤ 100000000) && decide (p.f.key.length ≤ 100000000) && decide (p.f.fs.length ≤ 100000000)
/-- packets as they are told -/
def unQ : AV → Option PkI
  | .agg [.str src, .bool ack, .int .i64 next, .str fsrc, .int .i64 seq, .int .i64 kind, .int .i64 ref, .str table, .str key, .int .i64 event, .sl sz es .no] => if sz = 3 then (unL unV es).map fun fs => ⟨src, ack, next, ⟨fsrc, seq, kind, ref, table, key, event, fs⟩⟩ else none
  | _ => none
theorem unQ_inv (a : AV) (x : PkI) (h : unQ a = some x) : a = pkA x := by
  unfold unQ at h
  split at h
  · rename_i sz es
    split at h
    · rename_i hz
      subst hz
      cases hu : unL unV es with
      | none => rw [hu] at h; cases h
      | some fs =>
        rw [hu] at h
        injection h with h; subst h
        rw [unL_inv unV_inv hu]
        rfl
    · cases h
  · cases h
theorem unQ_ok (p : PkI) : unQ (pkA p) = some p := by
  unfold pkA unQ
  simp only [if_true]
  rw [show unL unV (vasL p.f.fs) = some p.f.fs from unL_map unV_ok p.f.fs]
  rfl
end Go.Abs

namespace Go.Abs
open Go.Proofs Go.RowKit
abbrev appN : List UInt8 := [97, 112, 112]
abbrev webN : List UInt8 := [119, 101, 98]
def zF (s : List UInt8) (n : Int) : FcI := ⟨s, n, 0, 0, [], [], 0, []⟩
/-- the packet of a number, its list of fields told as an empty one -/
def sentP (p : List UInt8 × Int) : PkI := ⟨p.1, false, 0, zF p.1 p.2⟩
def ackP2 (s : List UInt8) (n : Int) : PkI := ⟨s, true, n, zF [] 0⟩
def s24w : Spec := fun args => match args with
  | [.str s, .int .i64 n] => some (pkA (sentP (s, n)), [])
  | _ => none
theorem o24w (m : Int) : SpecOk PI (GI m) 24 s24w := (o24 m).lax fun args r' h => by
  unfold s24w at h
  split at h
  case h_2 => cases h
  rename_i s n
  injection h with h; subst h
  refine ⟨sentA s n, rfl, ?_, rfl⟩
  simp [sentA, pkA, sentP, zF, Lax2, Lax1, Lax0, all2]
def numN (x : Int) : Int := 1 + (x.tmod 60 + 60).tmod 60
def numP (l : List Int) : Arr := l.map fun x => (appN, numN x)
abbrev seL (l : Arr) : List PkI := l.map sentP
/-- numbers -/
def s17 : Spec := fun args => match args with
  | [.sl sz es .no] => if sz = 1 ∧ es.length ≤ 2000000 then (match unL unIn es with
    | some l => some (.sl 11 (pksL (seL (numP l))) (.tok 0), [(l.length, 35)])
    | none => none) else none
  | _ => none
/-- all -/
def rStep (r : List BxI) (p : List UInt8 × Int) : List BxI := match recvP r (pqN p.1 p.2) with
  | .out r' _ _ _ => r'
  | .err _ => r
def allS (ps : Arr) : List BxI := ps.foldl rStep []
def cntS (ps : Arr) : Nat := (uniq id ps).length
def unS (a : AV) : Option (List UInt8 × Int) := match unQ a with
  | some p => if p = sentP (p.src, p.f.seq) then some (p.src, p.f.seq) else none
  | none => none
def okPs (ps : Arr) : Bool := decide (ps.length ≤ 200) && ps.all fun p => (decide (p.1 = appN) || decide (p.1 = webN)) && decide (1 ≤ p.2) && decide (p.2 ≤ 60)
def s18 : Spec := fun args => match args with
  | [.agg [.sl sz0 [] .no], .sl sz es .no] => if sz0 = 3 ∧ (sz = 11 ∨ (es = [] ∧ sz = 3)) then (match unL unS es with
    | some ps => if okPs ps = true then some (.tup [rcA (allS ps), .int .i64 (cntS ps), .bool true], []) else none
    | none => none) else none
  | _ => none
/-- facts.Same of facts that are zero -/
def s61 : Spec := fun args => match args with
  | [.agg [.str [], .int .i64 a, .int .i64 b, .int .i64 c, .str [], .str [], .int .i64 d, .sl sz [] .no], .agg [.str [], .int .i64 a', .int .i64 b', .int .i64 c', .str [], .str [], .int .i64 d', .sl sz2 [] .nil]] =>
    if a = 0 ∧ b = 0 ∧ c = 0 ∧ d = 0 ∧ a' = 0 ∧ b' = 0 ∧ c' = 0 ∧ d' = 0 ∧ sz = 3 ∧ sz2 = 0 then some (.bool true, []) else none
  | _ => none
/-- channel.formed, of the packet of a number and of an acknowledgement -/
def s43 : Spec := fun args => match args with
  | [.agg [.str s, .bool k, .int .i64 nx, .str fs, .int .i64 q, .int .i64 b, .int .i64 c, .str [], .str [], .int .i64 d, .sl sz [] .no]] =>
    if sz = 3 ∧ s.length ≤ 2000000 ∧ b = 0 ∧ c = 0 ∧ d = 0 then
      (if k = true then (if fs = [] ∧ q = 0 then some (.bool (nameR s && (decide (1 ≤ nx) && decide (nx ≤ 1099511627777))), []) else none)
       else some (.bool (nameR s && (decide (nx = 0) && decide (fs = s))), []))
    else none
  | _ => none
def fmP (p : PkI) : Bool := if p.ack then nameR p.src && (decide (1 ≤ p.next) && decide (p.next ≤ 1099511627777)) else nameR p.src && (decide (p.next = 0) && decide (p.f.src = p.src))
/-- a packet of a number or an acknowledgement -/
def smP (p : PkI) : Bool := decide (p.src.length ≤ 2000000) && (if p.ack then decide (p.f = zF [] 0) else decide (p.f = zF p.f.src p.f.seq))
/-- channel.Check -/
def s19 : Spec := fun args => match args with
  | [.agg [.sl sz es .no]] => if sz = 11 ∧ es.length ≤ 2000000 then (match unL unQ es with
    | some ps => if ps.all smP = true then some (.int .i64 (if ps.length ≤ 1024 ∧ ps.all fmP = true then 0 else 1), []) else none
    | none => none) else none
  | _ => none
abbrev shP : Sh × Option TypeId := (.val (.agg [.str, .bool, .int .i64, .str, .int .i64, .int .i64, .int .i64, .str, .str, .int .i64, .sl 3 .no]), none)
def XO : Shapes := fun f => match f with
  | 7 | 13 | 27 | 43 | 61 => some shB
  | 10 => some shRc
  | 17 => some (.val (.one (.sl 11 (.tok 0))), some 35)
  | 18 => some (.tup [.agg [.sl 3 .no], .one (.int .i64), .one .bool], none)
  | 19 => some shI
  | 24 => some shP
  | _ => none
def a17 (l : List Int) : Anns := ⟨fun k => if k = 3 then some { α := Nat, slots := [0, 3, 4], nb := 0, vals := fun n => [.sl 1 (intsA l) .no, .sl 11 (pksL (seL (numP (l.take n)))) (.tok 0), .int .i64 n], sS := fun n => ⟨[], [((numP (l.take n)).length, 35)]⟩, I := fun n => n ≤ l.length, μ := fun n => l.length - n, mint := [(3, 35)] } else none, nA⟩
def a18 (ps : Arr) : Anns := ⟨fun k => if k = 3 then some { α := Nat, slots := [1, 2, 4, 7, 8], nb := 2, vals := fun n => [.sl 11 (pksL (seL ps)) .no, .ptr 0 0, .ptr 1 0, .int .i64 (cntS (ps.take n)), .int .i64 n], sS := fun n => ⟨[some [.sl 3 (bxsL (allS (ps.take n))) .no], some [.sl 0 [] .nil]], []⟩, I := fun n => n ≤ ps.length, μ := fun n => ps.length - n } else none, nA⟩
def a18e : Anns := ⟨fun k => if k = 3 then some { α := Unit, slots := [1, 2, 4, 7, 8], nb := 2, vals := fun _ => [.sl 3 [] .no, .ptr 0 0, .ptr 1 0, .int .i64 0, .int .i64 0], sS := fun _ => ⟨[some [.sl 3 [] .no], some [.sl 0 [] .nil]], []⟩, I := fun _ => True, μ := fun _ => 0 } else none, nA⟩
def a19 (ps : List PkI) : Anns := ⟨fun k => if k = 4 then some { α := Nat, slots := [1, 10, 11, 12], nb := 1, vals := fun n => [.ptr 0 0, .sl 11 (pksL ps) .no, .int .i64 ps.length, .int .i64 n], sS := fun _ => ⟨[some [.sl 11 (pksL ps) .no]], []⟩, I := fun n => n ≤ ps.length ∧ (ps.take n).all fmP = true, μ := fun n => ps.length - n } else none, nA⟩
end Go.Abs

namespace Go.Abs
open Go.Proofs
theorem w17 (m : Int) (l : List Int) : (pureW PI (GI m) XO (tbl [(24, s24w)]) (itbl []) (a17 l) [] 17 [.sl 1 (intsA l) .no] (.sl 11 (pksL (seL (numP l))) (.tok 0), [(l.length, 35)])) =
((∃ (y : Nat),
    ValsAre [AV.sl ((1 : Nat)) (intsA l) Own.no, AV.sl ((11 : Nat)) [] (Own.tok ((0 : Nat))), AV.int IntKind.i64 (0 : Int)]
        [AV.sl ((1 : Nat)) (intsA l) Own.no, AV.sl ((11 : Nat)) (pksL (seL (numP (List.take y l)))) (Own.tok ((0 : Nat))), AV.int IntKind.i64 (↑y : Int)] ∧
      StIs { boxes := [], live := [((0 : Nat), (35 : Nat))] } { boxes := [], live := [(List.length (numP (List.take y l)), (35 : Nat))] } ∧
        y ≤ l.length ∧ True) ∧
  ∀ (x : Nat),
    x ≤ l.length →
      (decide ((↑x : Int) < (↑(intsA l).length : Int)) = true →
 ((0 : Int) ≤ (↑x : Int) ∧ (↑x : Int) < (↑(intsA l).length : Int)) ∧
 ∃ (n : Int),
 takeAt PI ((3 : Nat)) (intsA l) (↑x : Int).toNat ((0 : Nat)) = some (AV.int IntKind.i64 n) ∧
 (60 : Int) ≠ (0 : Int) ∧
 (60 : Int) ≠ (0 : Int) ∧
 ∃ (s : List UInt8),
 ∃ (b : Bool),
 ∃ (n_1 : Int),
 ∃ (s_1 : List UInt8),
 ∃ (n_2 : Int),
 ∃ (n_3 : Int),
 ∃ (n_4 : Int),
 ∃ (s_2 : List UInt8),
 ∃ (s_3 : List UInt8),
 ∃ (n_5 : Int),
 ∃ (es : List AV),
 CallIs
 (some
 (AV.agg
 [AV.str [(97 : UInt8), (112 : UInt8), (112 : UInt8)],
 AV.bool
 (sentP
 ((ByteArray.mk #[(97 : UInt8), (112 : UInt8), (112 : UInt8)]).data.toList,
 IntKind.i64.wrap
 ((1 : Int) + (IntKind.i64.wrap (n.tmod (60 : Int) + (60 : Int))).tmod (60 : Int)))).ack,
 AV.int IntKind.i64
 (sentP
 ((ByteArray.mk #[(97 : UInt8), (112 : UInt8), (112 : UInt8)]).data.toList,
 IntKind.i64.wrap
 ((1 : Int) + (IntKind.i64.wrap (n.tmod (60 : Int) + (60 : Int))).tmod (60 : Int)))).next,
 AV.str [(97 : UInt8), (112 : UInt8), (112 : UInt8)],
 AV.int IntKind.i64
 (sentP
 ((ByteArray.mk #[(97 : UInt8), (112 : UInt8), (112 : UInt8)]).data.toList,
 IntKind.i64.wrap
 ((1 : Int) + (IntKind.i64.wrap (n.tmod (60 : Int) + (60 : Int))).tmod (60 : Int)))).f.seq,
 AV.int IntKind.i64
 (sentP
 ((ByteArray.mk #[(97 : UInt8), (112 : UInt8), (112 : UInt8)]).data.toList,
 IntKind.i64.wrap
 ((1 : Int) + (IntKind.i64.wrap (n.tmod (60 : Int) + (60 : Int))).tmod (60 : Int)))).f.kind,
 AV.int IntKind.i64
 (sentP
 ((ByteArray.mk #[(97 : UInt8), (112 : UInt8), (112 : UInt8)]).data.toList,
 IntKind.i64.wrap
 ((1 : Int) + (IntKind.i64.wrap (n.tmod (60 : Int) + (60 : Int))).tmod (60 : Int)))).f.ref,
 AV.str [], AV.str [],
 AV.int IntKind.i64
 (sentP
 ((ByteArray.mk #[(97 : UInt8), (112 : UInt8), (112 : UInt8)]).data.toList,
 IntKind.i64.wrap
 ((1 : Int) + (IntKind.i64.wrap (n.tmod (60 : Int) + (60 : Int))).tmod (60 : Int)))).f.event,
 AV.sl ((3 : Nat)) [] Own.no],
 []))
 (AV.agg
 [AV.str s, AV.bool b, AV.int IntKind.i64 n_1, AV.str s_1, AV.int IntKind.i64 n_2, AV.int IntKind.i64 n_3,
 AV.int IntKind.i64 n_4, AV.str s_2, AV.str s_3, AV.int IntKind.i64 n_5, AV.sl ((3 : Nat)) es Own.no])
 [] ∧
 ((11 : Nat) = (11 : Nat) ∨ pksL (seL (numP (List.take x l))) = []) ∧
 ((pksL (seL (numP (List.take x l)))).length + (1 : Nat)) * (137 : Nat) ≤ (70368744177664 : Nat) ∧
 List.length (numP (List.take x l)) = (pksL (seL (numP (List.take x l)))).length ∧
 ∃ (y : Nat),
 ValsAre
 [AV.sl ((1 : Nat)) (intsA l) Own.no,
 AV.sl ((11 : Nat))
 (pksL (seL (numP (List.take x l))) ++
 [AV.agg
 [AV.str s, AV.bool b, AV.int IntKind.i64 n_1, AV.str s_1, AV.int IntKind.i64 n_2,
 AV.int IntKind.i64 n_3, AV.int IntKind.i64 n_4, AV.str s_2, AV.str s_3,
 AV.int IntKind.i64 n_5, AV.sl ((3 : Nat)) es Own.no]])
 (Own.tok ((0 : Nat))),
 AV.int IntKind.i64 (IntKind.i64.wrap ((↑x : Int) + (1 : Int)))]
 [AV.sl ((1 : Nat)) (intsA l) Own.no,
 AV.sl ((11 : Nat)) (pksL (seL (numP (List.take y l)))) (Own.tok ((0 : Nat))),
 AV.int IntKind.i64 (↑y : Int)] ∧
 StIs { boxes := [], live := [((pksL (seL (numP (List.take x l)))).length + (1 : Nat), (35 : Nat))] }
 { boxes := [], live := [(List.length (numP (List.take y l)), (35 : Nat))] } ∧
 y ≤ l.length ∧ l.length - y < l.length - x) ∧
        (decide ((↑x : Int) < (↑(intsA l).length : Int)) = false →
 (List.length (numP (List.take x l)), (35 : Nat)).fst = (pksL (seL (numP (List.take x l)))).length ∧
 RetIs (AV.sl ((11 : Nat)) (pksL (seL (numP (List.take x l)))) (Own.tok ((0 : Nat)))) [(List.length (numP (List.take x l)), (35 : Nat))]
 (AV.sl ((11 : Nat)) (pksL (seL (numP l))) (Own.tok ((0 : Nat))), [(l.length, (35 : Nat))]))) := by kernel_rfl
theorem w18 (m : Int) (ps : Arr) : (laxW PI (GI m) XO (tbl [(10, s10w)]) (itbl []) (a18 ps) [] 18 [.agg [.sl 3 [] .no], .sl 11 (pksL (seL ps)) .no] (.tup [rcA (allS ps), .int .i64 (cntS ps), .bool true], [])) =
((∃ (y : Nat),
    ValsAre
        [AV.sl ((11 : Nat)) (pksL (seL ps)) Own.no, AV.ptr ((0 : Nat)) ((0 : Nat)), AV.ptr ((1 : Nat)) ((0 : Nat)), AV.int IntKind.i64 (0 : Int),
 AV.int IntKind.i64 (0 : Int)]
        [AV.sl ((11 : Nat)) (pksL (seL ps)) Own.no, AV.ptr ((0 : Nat)) ((0 : Nat)), AV.ptr ((1 : Nat)) ((0 : Nat)),
 AV.int IntKind.i64 (↑(cntS (List.take y ps)) : Int), AV.int IntKind.i64 (↑y : Int)] ∧
      StIs { boxes := [some [AV.sl ((3 : Nat)) [] Own.no], some [AV.sl ((0 : Nat)) [] Own.nil]], live := [] }
 { boxes := [some [AV.sl ((3 : Nat)) (bxsL (allS (List.take y ps))) Own.no], some [AV.sl ((0 : Nat)) [] Own.nil]], live := [] } ∧
        y ≤ List.length ps ∧ True) ∧
  ∀ (x : Nat),
    x ≤ List.length ps →
      (decide ((↑x : Int) < (↑(pksL (seL ps)).length : Int)) = true →
 ((0 : Int) ≤ (↑x : Int) ∧ (↑x : Int) < (↑(pksL (seL ps)).length : Int)) ∧
 ∃ (s : List UInt8),
 ∃ (b : Bool),
 ∃ (n : Int),
 ∃ (s_1 : List UInt8),
 ∃ (n_1 : Int),
 ∃ (n_2 : Int),
 ∃ (n_3 : Int),
 ∃ (s_2 : List UInt8),
 ∃ (s_3 : List UInt8),
 ∃ (n_4 : Int),
 ∃ (es : List AV),
 takeAt PI ((35 : Nat)) (pksL (seL ps)) (↑x : Int).toNat ((0 : Nat)) =
 some
 (AV.agg
 [AV.str s, AV.bool b, AV.int IntKind.i64 n, AV.str s_1, AV.int IntKind.i64 n_1, AV.int IntKind.i64 n_2,
 AV.int IntKind.i64 n_3, AV.str s_2, AV.str s_3, AV.int IntKind.i64 n_4, AV.sl ((3 : Nat)) es Own.no]) ∧
 ∃ (es_1 : List AV),
 ∃ (b_1 : Bool),
 ∃ (s_4 : List UInt8),
 ∃ (b_2 : Bool),
 ∃ (n_5 : Int),
 ∃ (n_6 : Int),
 CallIs
 (tbl [((10 : Nat), s10w)] ((10 : Nat))
 [AV.agg [AV.sl ((3 : Nat)) (bxsL (allS (List.take x ps))) Own.no],
 AV.agg
 [AV.str s, AV.bool b, AV.int IntKind.i64 n, AV.str s_1, AV.int IntKind.i64 n_1,
 AV.int IntKind.i64 n_2, AV.int IntKind.i64 n_3, AV.str s_2, AV.str s_3, AV.int IntKind.i64 n_4,
 AV.sl ((3 : Nat)) es Own.no]])
 (AV.tup
 [AV.agg [AV.sl ((3 : Nat)) es_1 Own.no], AV.bool b_1,
 AV.agg
 [AV.str s_4, AV.bool b_2, AV.int IntKind.i64 n_5, AV.str [], AV.int IntKind.i64 (0 : Int),
 AV.int IntKind.i64 (0 : Int), AV.int IntKind.i64 (0 : Int), AV.str [], AV.str [],
 AV.int IntKind.i64 (0 : Int), AV.sl ((3 : Nat)) [] Own.no],
 AV.int IntKind.i64 n_6])
 [] ∧
 (b_1 = true →
 ((n_6 != (0 : Int)) = true →
 RetLax
 (AV.tup
 [AV.agg [AV.sl ((3 : Nat)) (bxsL (allS (List.take x ps))) Own.no], AV.int IntKind.i64 (0 : Int),
 AV.bool false])
 (AV.tup
 [AV.agg [AV.sl ((3 : Nat)) (bxsL (allS ps)) Own.no], AV.int IntKind.i64 (↑(cntS ps) : Int),
 AV.bool true],
 [])) ∧
 ((n_6 != (0 : Int)) = false →
 ∃ (y : Nat),
 ValsAre
 [AV.sl ((11 : Nat)) (pksL (seL ps)) Own.no, AV.ptr ((0 : Nat)) ((0 : Nat)),
 AV.ptr ((1 : Nat)) ((0 : Nat)),
 AV.int IntKind.i64 (IntKind.i64.wrap ((↑(cntS (List.take x ps)) : Int) + (1 : Int))),
 AV.int IntKind.i64 (IntKind.i64.wrap ((↑x : Int) + (1 : Int)))]
 [AV.sl ((11 : Nat)) (pksL (seL ps)) Own.no, AV.ptr ((0 : Nat)) ((0 : Nat)),
 AV.ptr ((1 : Nat)) ((0 : Nat)), AV.int IntKind.i64 (↑(cntS (List.take y ps)) : Int),
 AV.int IntKind.i64 (↑y : Int)] ∧
 StIs
 { boxes := [some [AV.sl ((3 : Nat)) es_1 Own.no], some [AV.sl ((0 : Nat)) [] Own.nil]], live := [] }
 { boxes := [some [AV.sl ((3 : Nat)) (bxsL (allS (List.take y ps))) Own.no], some [AV.sl ((0 : Nat)) [] Own.nil]], live := [] } ∧
 y ≤ List.length ps ∧ List.length ps - y < List.length ps - x)) ∧
 (b_1 = false →
 ((n_6 != (0 : Int)) = true →
 RetLax
 (AV.tup
 [AV.agg [AV.sl ((3 : Nat)) (bxsL (allS (List.take x ps))) Own.no], AV.int IntKind.i64 (0 : Int),
 AV.bool false])
 (AV.tup
 [AV.agg [AV.sl ((3 : Nat)) (bxsL (allS ps)) Own.no], AV.int IntKind.i64 (↑(cntS ps) : Int),
 AV.bool true],
 [])) ∧
 ((n_6 != (0 : Int)) = false →
 ∃ (y : Nat),
 ValsAre
 [AV.sl ((11 : Nat)) (pksL (seL ps)) Own.no, AV.ptr ((0 : Nat)) ((0 : Nat)),
 AV.ptr ((1 : Nat)) ((0 : Nat)), AV.int IntKind.i64 (↑(cntS (List.take x ps)) : Int),
 AV.int IntKind.i64 (IntKind.i64.wrap ((↑x : Int) + (1 : Int)))]
 [AV.sl ((11 : Nat)) (pksL (seL ps)) Own.no, AV.ptr ((0 : Nat)) ((0 : Nat)),
 AV.ptr ((1 : Nat)) ((0 : Nat)), AV.int IntKind.i64 (↑(cntS (List.take y ps)) : Int),
 AV.int IntKind.i64 (↑y : Int)] ∧
 StIs
 { boxes := [some [AV.sl ((3 : Nat)) es_1 Own.no], some [AV.sl ((0 : Nat)) [] Own.nil]], live := [] }
 { boxes := [some [AV.sl ((3 : Nat)) (bxsL (allS (List.take y ps))) Own.no], some [AV.sl ((0 : Nat)) [] Own.nil]], live := [] } ∧
 y ≤ List.length ps ∧ List.length ps - y < List.length ps - x))) ∧
        (decide ((↑x : Int) < (↑(pksL (seL ps)).length : Int)) = false →
 RetLax (AV.tup [AV.agg [AV.sl ((3 : Nat)) (bxsL (allS (List.take x ps))) Own.no], AV.int IntKind.i64 (↑(cntS (List.take x ps)) : Int), AV.bool true])
 (AV.tup [AV.agg [AV.sl ((3 : Nat)) (bxsL (allS ps)) Own.no], AV.int IntKind.i64 (↑(cntS ps) : Int), AV.bool true], []))) := by kernel_rfl
theorem w18e (m : Int) : (laxW PI (GI m) XO (tbl [(10, s10w)]) (itbl []) a18e [] 18 [.agg [.sl 3 [] .no], .sl 3 [] .no] (.tup [.agg [.sl 3 [] .no], .int .i64 0, .bool true], [])) =
((∃ (_y : Unit),
    ValsAre
        [AV.sl ((3 : Nat)) [] Own.no, AV.ptr ((0 : Nat)) ((0 : Nat)), AV.ptr ((1 : Nat)) ((0 : Nat)), AV.int IntKind.i64 (0 : Int),
 AV.int IntKind.i64 (0 : Int)]
        [AV.sl ((3 : Nat)) [] Own.no, AV.ptr ((0 : Nat)) ((0 : Nat)), AV.ptr ((1 : Nat)) ((0 : Nat)), AV.int IntKind.i64 (0 : Int),
 AV.int IntKind.i64 (0 : Int)] ∧
      StIs { boxes := [some [AV.sl ((3 : Nat)) [] Own.no], some [AV.sl ((0 : Nat)) [] Own.nil]], live := [] }
 { boxes := [some [AV.sl ((3 : Nat)) [] Own.no], some [AV.sl ((0 : Nat)) [] Own.nil]], live := [] } ∧
        True ∧ True) ∧
  ∀ (_x : Unit),
    True →
      (false = true → ((0 : Int) ≤ (0 : Int) ∧ (0 : Int) < (0 : Int)) ∧ False) ∧
        (false = false →
 RetLax (AV.tup [AV.agg [AV.sl ((3 : Nat)) [] Own.no], AV.int IntKind.i64 (0 : Int), AV.bool true])
 (AV.tup [AV.agg [AV.sl ((3 : Nat)) [] Own.no], AV.int IntKind.i64 (0 : Int), AV.bool true], []))) := by kernel_rfl
theorem w43 (m : Int) (s fs : List UInt8) (k : Bool) (nx q : Int) : (pureW PI (GI m) XO (tbl [(27, s27), (61, s61)]) (itbl []) nAn [] 43 [.agg [.str s, .bool k, .int .i64 nx, .str fs, .int .i64 q, .int .i64 0, .int .i64 0, .str [], .str [], .int .i64 0, .sl 3 [] .no]] (.bool (if k then nameR s && (decide (1 ≤ nx) && decide (nx ≤ 1099511627777)) else nameR s && (decide (nx = 0) && decide (fs = s))), [])) =
(∃ (b : Bool),
  CallIs (tbl [((27 : Nat), s27), ((61 : Nat), s61)] ((27 : Nat)) [AV.str s]) (AV.bool b) [] ∧
    (b = true →
        (k = true →
 (decide (nx ≥ (1 : Int)) = true →
 (decide (nx ≤ (1099511627777 : Int)) = true →
 ∃ (b : Bool),
 CallIs
 (tbl [((27 : Nat), s27), ((61 : Nat), s61)] ((61 : Nat))
 [AV.agg
 [AV.str fs, AV.int IntKind.i64 q, AV.int IntKind.i64 (0 : Int), AV.int IntKind.i64 (0 : Int), AV.str [], AV.str [],
 AV.int IntKind.i64 (0 : Int), AV.sl ((3 : Nat)) [] Own.no],
 AV.agg
 [AV.str [], AV.int IntKind.i64 (0 : Int), AV.int IntKind.i64 (0 : Int), AV.int IntKind.i64 (0 : Int), AV.str [], AV.str [],
 AV.int IntKind.i64 (0 : Int), AV.sl ((0 : Nat)) [] Own.nil]])
 (AV.bool b) [] ∧
 (b = true →
 RetIs (AV.bool true) []
 (AV.bool
 (if k = true then nameR s && (decide ((1 : Int) ≤ nx) && decide (nx ≤ (1099511627777 : Int)))
 else nameR s && (decide (nx = (0 : Int)) && decide (fs = s))),
 [])) ∧
 (b = false →
 RetIs (AV.bool false) []
 (AV.bool
 (if k = true then nameR s && (decide ((1 : Int) ≤ nx) && decide (nx ≤ (1099511627777 : Int)))
 else nameR s && (decide (nx = (0 : Int)) && decide (fs = s))),
 []))) ∧
 (decide (nx ≤ (1099511627777 : Int)) = false →
 RetIs (AV.bool false) []
 (AV.bool
 (if k = true then nameR s && (decide ((1 : Int) ≤ nx) && decide (nx ≤ (1099511627777 : Int)))
 else nameR s && (decide (nx = (0 : Int)) && decide (fs = s))),
 []))) ∧
 (decide (nx ≥ (1 : Int)) = false →
 RetIs (AV.bool false) []
 (AV.bool
 (if k = true then nameR s && (decide ((1 : Int) ≤ nx) && decide (nx ≤ (1099511627777 : Int)))
 else nameR s && (decide (nx = (0 : Int)) && decide (fs = s))),
 []))) ∧
 (k = false →
 ((nx == (0 : Int)) = true →
 ((fs == s) = true →
 RetIs (AV.bool true) []
 (AV.bool
 (if k = true then nameR s && (decide ((1 : Int) ≤ nx) && decide (nx ≤ (1099511627777 : Int)))
 else nameR s && (decide (nx = (0 : Int)) && decide (fs = s))),
 [])) ∧
 ((fs == s) = false →
 RetIs (AV.bool false) []
 (AV.bool
 (if k = true then nameR s && (decide ((1 : Int) ≤ nx) && decide (nx ≤ (1099511627777 : Int)))
 else nameR s && (decide (nx = (0 : Int)) && decide (fs = s))),
 []))) ∧
 ((nx == (0 : Int)) = false →
 RetIs (AV.bool false) []
 (AV.bool
 (if k = true then nameR s && (decide ((1 : Int) ≤ nx) && decide (nx ≤ (1099511627777 : Int)))
 else nameR s && (decide (nx = (0 : Int)) && decide (fs = s))),
 [])))) ∧
      (b = false →
        RetIs (AV.bool false) []
 (AV.bool
 (if k = true then nameR s && (decide ((1 : Int) ≤ nx) && decide (nx ≤ (1099511627777 : Int)))
 else nameR s && (decide (nx = (0 : Int)) && decide (fs = s))),
 []))) := by kernel_rfl
theorem w19 (m : Int) (ps : List PkI) : (pureW PI (GI m) XO (tbl [(43, s43)]) (itbl []) (a19 ps) [] 19 [.agg [.sl 11 (pksL ps) .no]] (.int .i64 (if ps.length ≤ 1024 ∧ ps.all fmP = true then 0 else 1), [])) =
((decide ((↑(pksL ps).length : Int) > (1024 : Int)) = true →
    RetIs (AV.int IntKind.i64 (1 : Int)) [] (AV.int IntKind.i64 (if ps.length ≤ (1024 : Nat) ∧ ps.all fmP = true then (0 : Int) else (1 : Int)), [])) ∧
  (decide ((↑(pksL ps).length : Int) > (1024 : Int)) = false →
    (∃ (y : Nat),
        ValsAre
 [AV.ptr ((0 : Nat)) ((0 : Nat)), AV.sl ((11 : Nat)) (pksL ps) Own.no, AV.int IntKind.i64 (↑(pksL ps).length : Int), AV.int IntKind.i64 (0 : Int)]
 [AV.ptr ((0 : Nat)) ((0 : Nat)), AV.sl ((11 : Nat)) (pksL ps) Own.no, AV.int IntKind.i64 (↑ps.length : Int), AV.int IntKind.i64 (↑y : Int)] ∧
 StIs { boxes := [some [AV.sl ((11 : Nat)) (pksL ps) Own.no]], live := [] } { boxes := [some [AV.sl ((11 : Nat)) (pksL ps) Own.no]], live := [] } ∧
 (y ≤ ps.length ∧ (List.take y ps).all fmP = true) ∧ True) ∧
      ∀ (x : Nat),
        x ≤ ps.length ∧ (List.take x ps).all fmP = true →
 (decide ((↑x : Int) < (↑ps.length : Int)) = true →
 ((0 : Int) ≤ (↑x : Int) ∧ (↑x : Int) < (↑(pksL ps).length : Int)) ∧
 ∃ (s : List UInt8),
 ∃ (b : Bool),
 ∃ (n : Int),
 ∃ (s_1 : List UInt8),
 ∃ (n_1 : Int),
 ∃ (n_2 : Int),
 ∃ (n_3 : Int),
 ∃ (s_2 : List UInt8),
 ∃ (s_3 : List UInt8),
 ∃ (n_4 : Int),
 ∃ (es : List AV),
 takeAt PI ((35 : Nat)) (pksL ps) (↑x : Int).toNat ((0 : Nat)) =
 some
 (AV.agg
 [AV.str s, AV.bool b, AV.int IntKind.i64 n, AV.str s_1, AV.int IntKind.i64 n_1, AV.int IntKind.i64 n_2,
 AV.int IntKind.i64 n_3, AV.str s_2, AV.str s_3, AV.int IntKind.i64 n_4, AV.sl ((3 : Nat)) es Own.no]) ∧
 ∃ (b_1 : Bool),
 CallIs
 (tbl [((43 : Nat), s43)] ((43 : Nat))
 [AV.agg
 [AV.str s, AV.bool b, AV.int IntKind.i64 n, AV.str s_1, AV.int IntKind.i64 n_1, AV.int IntKind.i64 n_2,
 AV.int IntKind.i64 n_3, AV.str s_2, AV.str s_3, AV.int IntKind.i64 n_4, AV.sl ((3 : Nat)) es Own.no]])
 (AV.bool b_1) [] ∧
 (b_1 = true →
 ∃ (y : Nat),
 ValsAre
 [AV.ptr ((0 : Nat)) ((0 : Nat)), AV.sl ((11 : Nat)) (pksL ps) Own.no,
 AV.int IntKind.i64 (↑ps.length : Int), AV.int IntKind.i64 (IntKind.i64.wrap ((↑x : Int) + (1 : Int)))]
 [AV.ptr ((0 : Nat)) ((0 : Nat)), AV.sl ((11 : Nat)) (pksL ps) Own.no,
 AV.int IntKind.i64 (↑ps.length : Int), AV.int IntKind.i64 (↑y : Int)] ∧
 StIs { boxes := [some [AV.sl ((11 : Nat)) (pksL ps) Own.no]], live := [] }
 { boxes := [some [AV.sl ((11 : Nat)) (pksL ps) Own.no]], live := [] } ∧
 (y ≤ ps.length ∧ (List.take y ps).all fmP = true) ∧ ps.length - y < ps.length - x) ∧
 (b_1 = false →
 RetIs (AV.int IntKind.i64 (1 : Int)) []
 (AV.int IntKind.i64 (if ps.length ≤ (1024 : Nat) ∧ ps.all fmP = true then (0 : Int) else (1 : Int)), []))) ∧
 (decide ((↑x : Int) < (↑ps.length : Int)) = false →
 RetIs (AV.int IntKind.i64 (0 : Int)) [] (AV.int IntKind.i64 (if ps.length ≤ (1024 : Nat) ∧ ps.all fmP = true then (0 : Int) else (1 : Int)), [])))) := by kernel_rfl
end Go.Abs

namespace Go.Abs
open Go.Proofs Go.RowKit
theorem numN_rng (x : Int) : 1 ≤ numN x ∧ numN x ≤ 60 := by
  unfold numN
  have h1 : x.tmod 60 < 60 := Int.tmod_lt_of_pos x (by omega)
  have h2 : -60 < x.tmod 60 := by
    have := Int.lt_tmod_of_pos x (b := 60) (by omega)
    omega
  have h3 : (x.tmod 60 + 60).tmod 60 < 60 := Int.tmod_lt_of_pos _ (by omega)
  have h4 : 0 ≤ (x.tmod 60 + 60).tmod 60 := Int.tmod_nonneg _ (by omega)
  omega
theorem tmod_rng (x : Int) : -60 < x.tmod 60 ∧ x.tmod 60 < 60 := by
  have h1 : x.tmod 60 < 60 := Int.tmod_lt_of_pos x (by omega)
  have := Int.lt_tmod_of_pos x (b := 60) (by omega)
  exact ⟨by omega, h1⟩
theorem num_wrap (x : Int) : IntKind.i64.wrap (1 + (IntKind.i64.wrap (x.tmod 60 + 60)).tmod 60) = numN x := by
  have h := tmod_rng x
  rw [wrap64_in (n := x.tmod 60 + 60) (by omega) (by omega)]
  have h2 := numN_rng x
  unfold numN at *
  exact wrap64_in (by omega) (by omega)
theorem take_int {l : List Int} {i : Nat} {x : Int} (h : l[i]? = some x) : takeAt PI 3 (intsA l) i 0 = some (.int .i64 x) := by
  simp only [takeAt, List.getElem?_map, h, Option.map_some, takeA, agg3i, size3i]
  rfl
theorem numP_len (l : List Int) : (numP l).length = l.length := List.length_map ..
theorem seL_len (l : Arr) : (seL l).length = l.length := List.length_map ..
theorem pksL_len (l : List PkI) : (pksL l).length = l.length := List.length_map ..
theorem p17 (m : Int) (l : List Int) (hl : l.length ≤ 2000000) : PureOk PI (GI m) XO (tbl [(24, s24w)]) (itbl []) (a17 l) [] 17 [.sl 1 (intsA l) .no] (.sl 11 (pksL (seL (numP l))) (.tok 0), [(l.length, 35)]) := by
  constructor
  rw [w17]
  have hll : (intsA l).length = l.length := List.length_map ..
  have hpl : ∀ n, n ≤ l.length → (pksL (seL (numP (l.take n)))).length = n := fun n hn => by rw [pksL_len, seL_len, numP_len, List.length_take]; omega
  have hnl : ∀ n, n ≤ l.length → (numP (l.take n)).length = n := fun n hn => by rw [numP_len, List.length_take]; omega
  rw [hll]
  refine ⟨⟨0, ⟨rfl⟩, ⟨rfl⟩, Nat.zero_le _, trivial⟩, fun x hx => ⟨fun hlt => ?_, fun hge => ?_⟩⟩
  · have hlt := of_decide_eq_true hlt
    have hxl : x < l.length := by omega
    refine ⟨⟨by omega, hlt⟩, _, by rw [Int.toNat_natCast]; exact take_int (List.getElem?_eq_getElem hxl), by omega, by omega, _, _, _, _, _, _, _, _, _, _, _, ⟨rfl⟩, .inl rfl, by rw [hpl _ hx]; omega, by rw [hpl _ hx, hnl _ hx], x + 1, ⟨?_⟩, ⟨?_⟩, hxl, by omega⟩
    · rw [wrapN (by omega), List.take_succ_eq_append_getElem hxl]
      simp only [numP, List.map_append, List.map_cons, List.map_nil, seL, pksL]
      have e : numN l[x] = IntKind.i64.wrap (1 + (IntKind.i64.wrap (l[x].tmod 60 + 60)).tmod 60) := (num_wrap _).symm
      rw [e]
      rfl
    · rw [hpl _ hx, hnl _ hxl]
  · have hge := of_decide_eq_false hge
    have hxl : x = l.length := by omega
    subst hxl
    rw [hpl _ (Nat.le_refl _), hnl _ (Nat.le_refl _)]
    exact ⟨rfl, ⟨by rw [List.take_of_length_le (Nat.le_refl _)]⟩⟩
theorem o17 (m : Int) : SpecOk PI (GI m) 17 s17 := spec_of (X := XO) (m := []) mixedI (tbl_cons (o24w m) tbl_nil) itbl_nil fun args r h => by
  unfold s17 at h
  split at h
  case h_2 => cases h
  split at h
  case isFalse => cases h
  rename_i hc
  obtain ⟨rfl, hl⟩ := hc
  split at h
  case h_2 => cases h
  rename_i l hu
  obtain rfl : _ = intsA l := unL_inv unIn_inv hu
  injection h with h; subst h
  rw [List.length_map] at hl
  exact ⟨_, p17 m l hl⟩
/-! the receiver behind a list of packets -/
theorem allS_snoc (ps : Arr) (p : List UInt8 × Int) : allS (ps ++ [p]) = rStep (allS ps) p := by simp [allS, List.foldl_append]
theorem allS_ok : ∀ (ps : Arr) (r : List BxI), RcvP r → RcvP (ps.foldl rStep r)
  | [], r, h => h
  | p :: ps, r, h => allS_ok ps _ (by
    unfold rStep
    cases hr : recvP r (pqN p.1 p.2) with
    | err c => exact h
    | out r' f s n => exact recv_ok h hr)
theorem rcv_nil : RcvP [] := ⟨fun b hb => (by cases hb), List.Pairwise.nil, Nat.zero_le _⟩
theorem name_app : nameR appN = true := by kernel_rfl
theorem name_web : nameR webN = true := by kernel_rfl
structure OkPs (ps : Arr) : Prop where
  len : ps.length ≤ 200
  all : ∀ p ∈ ps, (p.1 = appN ∨ p.1 = webN) ∧ 1 ≤ p.2 ∧ p.2 ≤ 60
theorem okPs_iff {ps : Arr} : okPs ps = true ↔ OkPs ps := by
  simp only [okPs, Bool.and_eq_true, decide_eq_true_eq, List.all_eq_true, Bool.or_eq_true]
  exact ⟨fun ⟨h1, h2⟩ => ⟨h1, fun p hp => ⟨(h2 p hp).1.1, (h2 p hp).1.2, (h2 p hp).2⟩⟩, fun h => ⟨h.len, fun p hp => ⟨⟨(h.all p hp).1, (h.all p hp).2.1⟩, (h.all p hp).2.2⟩⟩⟩
theorem can_len {S : Arr} {r : List BxI} (h : Can S r) (hs : ∀ p ∈ S, p.1 = appN ∨ p.1 = webN) : r.length ≤ 2 := by
  have hnd : (r.map (·.src)).Nodup := by
    unfold List.Nodup
    rw [List.pairwise_map]
    exact h.asc.imp fun h e => by rw [e] at h; exact List.lt_irrefl _ h
  have := nodup_len (m := [appN, webN]) hnd fun s hm => by
    obtain ⟨b, hb, rfl⟩ := List.mem_map.1 hm
    obtain ⟨n, hn⟩ := (h.src b.src).1 ⟨b, hb, rfl⟩
    rcases hs _ hn with h | h
    · simp only at h; rw [h]; simp
    · simp only at h; rw [h]; simp
  simpa using this
theorem bOf_lo {S : Arr} {r : List BxI} (h : Can S r) (s : List UInt8) : 1 ≤ (bOf r s).next := by
  unfold bOf
  split
  · rename_i ho
    obtain ⟨hlt, _⟩ := old_at ho
    rw [List.getD_eq_getElem?_getD, List.getElem?_eq_getElem hlt]
    exact (h.box _ (List.getElem_mem hlt)).lo
  · exact Int.le_refl _
theorem all_can (ps : Arr) (h : OkPs ps) : ∀ i, i ≤ ps.length → Can (ps.take i) (allS (ps.take i))
  | 0, _ => can_nil
  | i + 1, hi => by
    have ih := all_can ps h i (by omega)
    have hp := h.all _ (List.getElem_mem (show i < ps.length by omega))
    rw [List.take_succ_eq_append_getElem (by omega), allS_snoc]
    obtain ⟨r', nx, h1, h2, _⟩ := can_step (s := (ps[i]).1) (n := (ps[i]).2) ih (by rcases hp.1 with e | e <;> rw [e]; exact name_app; exact name_web) hp.2.1 (by unfold maxT; omega) (by have := bOf_lo ih (ps[i]).1; omega) (.inl (by
      have := can_len ih fun p hp => (h.all p (List.mem_of_mem_take hp)).1
      omega))
    unfold rStep
    rw [h1]
    exact h2.congr fun p => by
      simp only [List.mem_append, List.mem_cons, List.not_mem_nil, or_false]
      exact Or.comm
theorem can_all {ps : Arr} (h : OkPs ps) : Can ps (allS ps) := by
  have := all_can ps h ps.length (Nat.le_refl _)
  rwa [List.take_of_length_le (Nat.le_refl _)] at this
theorem all_step {ps : Arr} (h : OkPs ps) {i : Nat} (hi : i < ps.length) : ∃ nx, recvP (allS (ps.take i)) (pqN (ps[i]).1 (ps[i]).2) = .out (allS (ps.take (i + 1))) (decide (ps[i] ∉ ps.take i)) (ps[i]).1 nx ∧ ∃ b ∈ allS (ps.take (i + 1)), b.src = (ps[i]).1 ∧ b.next = nx := by
  have ih := all_can ps h i (by omega)
  have hp := h.all _ (List.getElem_mem hi)
  obtain ⟨r', nx, h1, h2, h3⟩ := can_step (s := (ps[i]).1) (n := (ps[i]).2) ih (by rcases hp.1 with e | e <;> rw [e]; exact name_app; exact name_web) hp.2.1 (by unfold maxT; omega) (by have := bOf_lo ih (ps[i]).1; omega) (.inl (by
      have := can_len ih fun p hp => (h.all p (List.mem_of_mem_take hp)).1
      omega))
  have e : allS (ps.take (i + 1)) = r' := by
    rw [List.take_succ_eq_append_getElem hi, allS_snoc]
    unfold rStep
    rw [h1]
  exact ⟨nx, by rw [e, h1], by rw [e]; exact h3⟩
theorem uniq_snoc (ps : Arr) (p : List UInt8 × Int) : uniq id (ps ++ [p]) = addU p (uniq id ps) := by simp [uniq, List.foldl_append]
theorem cnt_step {ps : Arr} {i : Nat} (hi : i < ps.length) : cntS (ps.take (i + 1)) = cntS (ps.take i) + (if ps[i] ∉ ps.take i then 1 else 0) := by
  unfold cntS
  rw [List.take_succ_eq_append_getElem hi, uniq_snoc]
  unfold addU
  have e : ps[i] ∈ uniq id (ps.take i) ↔ ps[i] ∈ ps.take i := by rw [uniq_mem]; simp
  by_cases h : ps[i] ∈ ps.take i
  · rw [if_pos (e.2 h)]; simp [h]
  · rw [if_neg (fun h' => h (e.1 h'))]; simp [h]
theorem cnt_le (ps : Arr) : cntS ps ≤ ps.length := nodup_len uniq_nodup fun x hx => by
  obtain ⟨e, he, rfl⟩ := uniq_mem.1 hx
  exact he
theorem cnt_congr {ps qs : Arr} (h : ∀ p, p ∈ ps ↔ p ∈ qs) : cntS ps = cntS qs := by
  refine Nat.le_antisymm (nodup_len uniq_nodup fun x hx => ?_) (nodup_len uniq_nodup fun x hx => ?_)
  · obtain ⟨e, he, rfl⟩ := uniq_mem.1 hx
    exact uniq_mem.2 ⟨e, (h e).1 he, rfl⟩
  · obtain ⟨e, he, rfl⟩ := uniq_mem.1 hx
    exact uniq_mem.2 ⟨e, (h e).2 he, rfl⟩
theorem c10o {q : List BxI} {p : List UInt8 × Int} {l : List (FuncId × Spec)} (hq : RcvP q) (hp : p.1.length ≤ 2000000) : tbl ((10, s10w) :: l) 10 [.agg [.sl 3 (bxsL q) .no], pkA (sentP p)] = some (rcvWA (recvW (recvP q (pqN p.1 p.2))), []) := by
  rw [tbl_hit]
  unfold pkA s10w
  simp only [rcvOf, if_true, unBs_ok]
  rw [if_pos (show (sentP p).src.length ≤ 2000000 from hp), if_pos (rcvOk_iff.2 hq)]; rfl
theorem take_se {l : Arr} {i : Nat} {p : List UInt8 × Int} (h : l[i]? = some p) : takeAt PI 35 (pksL (seL l)) i 0 = some (pkA (sentP p)) := by
  simp only [takeAt, List.getElem?_map, h, Option.map_some, takeA, agg35, size35]
  rfl
theorem p18 (m : Int) (ps : Arr) (h : OkPs ps) : LaxOk PI (GI m) XO (tbl [(10, s10w)]) (itbl []) (a18 ps) [] 18 [.agg [.sl 3 [] .no], .sl 11 (pksL (seL ps)) .no] (.tup [rcA (allS ps), .int .i64 (cntS ps), .bool true], []) := by
  constructor
  rw [w18]
  have hll : (pksL (seL ps)).length = ps.length := by rw [pksL_len, seL_len]
  have h200 := h.len
  rw [hll]
  refine ⟨⟨0, ⟨rfl⟩, ⟨rfl⟩, Nat.zero_le _, trivial⟩, fun x hx => ⟨fun hlt => ?_, fun hge => ?_⟩⟩
  · have hlt := of_decide_eq_true hlt
    have hxl : x < ps.length := by omega
    have hp := h.all _ (List.getElem_mem hxl)
    obtain ⟨nx, hr, _⟩ := all_step h hxl
    have hR : RcvP (allS (ps.take x)) := allS_ok _ _ rcv_nil
    have hpl : (ps[x]).1.length ≤ 2000000 := by rcases hp.1 with e | e <;> rw [e] <;> simp
    have hc := c10o (l := []) hR hpl
    rw [hr] at hc
    have hcl : cntS (ps.take x) ≤ 200 := by have := cnt_le (ps.take x); have : (ps.take x).length ≤ ps.length := by rw [List.length_take]; omega
                                            omega
    have hcs := cnt_step hxl
    refine ⟨⟨by omega, hlt⟩, _, _, _, _, _, _, _, _, _, _, _, by rw [Int.toNat_natCast]; exact take_se (List.getElem?_eq_getElem hxl), _, _, _, _, _, _, ⟨hc⟩, fun hb => ⟨fun h0 => absurd (show ((0 : Int) != 0) = true from h0) (by decide), fun _ => ⟨x + 1, ⟨?_⟩, ⟨rfl⟩, hxl, by omega⟩⟩, fun hb => ⟨fun h0 => absurd (show ((0 : Int) != 0) = true from h0) (by decide), fun _ => ⟨x + 1, ⟨?_⟩, ⟨rfl⟩, hxl, by omega⟩⟩⟩
    · have hb : decide (ps[x] ∉ ps.take x) = true := hb
      rw [hcs, if_pos (of_decide_eq_true hb), wrapN (by omega), wrapN (by omega)]
    · have hb : decide (ps[x] ∉ ps.take x) = false := hb
      rw [hcs, if_neg (of_decide_eq_false hb), wrapN (by omega)]
      rfl
  · have hge := of_decide_eq_false hge
    have hxl : x = ps.length := by omega
    subst hxl
    rw [List.take_of_length_le (Nat.le_refl _)]
    exact ⟨⟨⟨⟨rfl, rfl, .inl rfl⟩, trivial⟩, rfl, rfl, trivial⟩, rfl, rfl⟩
theorem unS_inv (a : AV) (x : List UInt8 × Int) (h : unS a = some x) : a = pkA (sentP x) := by
  unfold unS at h
  split at h
  · rename_i p hp
    split at h
    · rename_i he
      injection h with h; subst h
      rw [unQ_inv _ _ hp]
      conv => lhs; rw [he]
    · cases h
  · cases h
theorem unS_ok (p : List UInt8 × Int) : unS (pkA (sentP p)) = some p := by
  unfold unS
  rw [unQ_ok]
  simp only
  rw [if_pos (by rfl)]
  rfl
theorem o18 (m : Int) : SpecOk PI (GI m) 18 s18 := lax_of (X := XO) (m := []) mixedI (tbl_cons (o10w m) tbl_nil) itbl_nil fun args r h => by
  unfold s18 at h
  split at h
  case h_2 => cases h
  rename_i sz0 sz es
  split at h
  case isFalse => cases h
  rename_i hz
  split at h
  case h_2 => cases h
  rename_i ps hu
  split at h
  case isFalse => cases h
  rename_i hk
  injection h with h; subst h
  have hk := okPs_iff.1 hk
  obtain rfl : es = pksL (seL ps) := by
    have := unL_inv unS_inv hu
    rw [this, pksL, seL, List.map_map]; rfl
  obtain ⟨rfl, rfl | ⟨he, rfl⟩⟩ := hz
  · exact ⟨_, p18 m ps hk⟩
  · have hp : ps = [] := by
      have := congrArg List.length he
      rw [pksL_len, seL_len] at this
      exact List.eq_nil_of_length_eq_zero this
    subst hp
    refine ⟨a18e, ⟨?_⟩⟩
    show laxW PI (GI m) XO (tbl [(10, s10w)]) (itbl []) a18e [] 18 [.agg [.sl 3 [] .no], .sl 3 [] .no] (.tup [.agg [.sl 3 [] .no], .int .i64 0, .bool true], [])
    rw [w18e]
    exact ⟨⟨(), ⟨rfl⟩, ⟨rfl⟩, trivial, trivial⟩, fun _ _ => ⟨fun h => (by cases h), fun _ => ⟨⟨⟨⟨rfl, rfl, .inl rfl⟩, trivial⟩, rfl, rfl, trivial⟩, rfl, rfl⟩⟩⟩
theorem o61 (m : Int) : SpecOk PI (GI m) 61 s61 := spec_run mixedI tbl_nil fun args r h => by
  unfold s61 at h
  split at h
  case h_2 => cases h
  split at h
  case isFalse => cases h
  rename_i hc
  obtain ⟨rfl, rfl, rfl, rfl, rfl, rfl, rfl, rfl, rfl, rfl⟩ := hc
  injection h with h; subst h
  exact ⟨3, by kernel_rfl⟩
theorem p43 (m : Int) (s fs : List UInt8) (k : Bool) (nx q : Int) (hs : s.length ≤ 2000000) (hk : k = true → fs = [] ∧ q = 0) : PureOk PI (GI m) XO (tbl [(27, s27), (61, s61)]) (itbl []) nAn [] 43 [.agg [.str s, .bool k, .int .i64 nx, .str fs, .int .i64 q, .int .i64 0, .int .i64 0, .str [], .str [], .int .i64 0, .sl 3 [] .no]] (.bool (if k then nameR s && (decide (1 ≤ nx) && decide (nx ≤ 1099511627777)) else nameR s && (decide (nx = 0) && decide (fs = s))), []) := by
  constructor
  rw [w43]
  refine ⟨nameR s, ⟨c27 hs⟩, fun hn => ⟨fun hk' => ⟨fun h1 => ⟨fun h2 => ?_, fun h2 => ⟨?_⟩⟩, fun h1 => ⟨?_⟩⟩, fun hk' => ⟨fun h1 => ⟨fun h2 => ⟨?_⟩, fun h2 => ⟨?_⟩⟩, fun h1 => ⟨?_⟩⟩⟩, fun hn => ⟨?_⟩⟩
  · obtain ⟨rfl, rfl⟩ := hk hk'
    have h1 := of_decide_eq_true h1
    have h2 := of_decide_eq_true h2
    refine ⟨true, ⟨by rw [tbl_miss (by decide), tbl_hit]; rfl⟩, fun _ => ⟨?_⟩, fun h => (by cases h)⟩
    have h1' : (1 : Int) ≤ nx := h1
    rw [if_pos hk', hn]
    simp [h1', h2]
  · have h2 := of_decide_eq_false h2
    rw [if_pos hk']; simp [h2]
  · have h1 := of_decide_eq_false h1
    have h1' : ¬ (1 : Int) ≤ nx := h1
    rw [if_pos hk']; simp [h1']
  · have h1 : nx = 0 := by simpa using h1
    have h2 : fs = s := by simpa using h2
    rw [if_neg (by rw [hk']; simp), hn]; simp [h1, h2]
  · have h2 : ¬ fs = s := by simpa using h2
    rw [if_neg (by rw [hk']; simp)]; simp [h2]
  · have h1 : ¬ nx = 0 := by simpa using h1
    rw [if_neg (by rw [hk']; simp)]; simp [h1]
  · split <;> rw [hn] <;> rfl
theorem o43 (m : Int) : SpecOk PI (GI m) 43 s43 := spec_of (X := XO) (m := []) mixedI (tbl_cons (o27 m) (tbl_cons (o61 m) tbl_nil)) itbl_nil fun args r h => by
  unfold s43 at h
  split at h
  case h_2 => cases h
  split at h
  case isFalse => cases h
  rename_i hc
  obtain ⟨rfl, hs, rfl, rfl, rfl⟩ := hc
  split at h
  · rename_i hk
    split at h
    case isFalse => cases h
    rename_i hz
    injection h with h; subst h
    subst hk
    exact ⟨nAn, p43 m _ _ true _ _ hs fun _ => hz⟩
  · rename_i hk
    injection h with h; subst h
    obtain rfl : _ = false := by simpa using hk
    exact ⟨nAn, p43 m _ _ false _ _ hs fun h => (by cases h)⟩
theorem c43 {p : PkI} {l : List (FuncId × Spec)} (h : smP p = true) : tbl ((43, s43) :: l) 43 [pkA p] = some (.bool (fmP p), []) := by
  rw [tbl_hit]
  simp only [smP, Bool.and_eq_true, decide_eq_true_eq] at h
  obtain ⟨h1, h2⟩ := h
  obtain ⟨src, ack, next, f⟩ := p
  simp only at h1 h2
  cases ack with
  | true =>
    simp only [if_true, decide_eq_true_eq] at h2
    subst h2
    simp only [pkA, zF, s43, fmP]
    simp [h1]
  | false =>
    simp only [Bool.false_eq_true, if_false, decide_eq_true_eq] at h2
    obtain ⟨fs, q, kd, rf, tb, ky, ev, vs⟩ := f
    simp only [zF, FcI.mk.injEq, true_and] at h2
    obtain ⟨rfl, rfl, rfl, rfl, rfl, rfl⟩ := h2
    simp only [pkA, s43, fmP]
    simp [h1]
theorem take_pkA {l : List PkI} {i : Nat} {p : PkI} (h : l[i]? = some p) : takeAt PI 35 (pksL l) i 0 = some (pkA p) := by
  simp only [takeAt, List.getElem?_map, h, Option.map_some, takeA, agg35, size35]
  rfl
theorem p19 (m : Int) (ps : List PkI) (hl : ps.length ≤ 2000000) (h : ps.all smP = true) : PureOk PI (GI m) XO (tbl [(43, s43)]) (itbl []) (a19 ps) [] 19 [.agg [.sl 11 (pksL ps) .no]] (.int .i64 (if ps.length ≤ 1024 ∧ ps.all fmP = true then 0 else 1), []) := by
  constructor
  rw [w19]
  rw [pksL_len]
  refine ⟨fun h1 => ⟨?_⟩, fun h1 => ⟨⟨0, ⟨rfl⟩, ⟨rfl⟩, ⟨Nat.zero_le _, rfl⟩, trivial⟩, fun x hx => ⟨fun hlt => ?_, fun hge => ?_⟩⟩⟩
  · have h1 := of_decide_eq_true h1
    rw [if_neg (by omega)]
  · have hlt := of_decide_eq_true hlt
    have hxl : x < ps.length := by omega
    have hs := List.all_eq_true.1 h _ (List.getElem_mem hxl)
    refine ⟨⟨by omega, hlt⟩, _, _, _, _, _, _, _, _, _, _, _, by rw [Int.toNat_natCast]; exact take_pkA (List.getElem?_eq_getElem hxl), _, ⟨c43 hs⟩, fun hb => ⟨x + 1, ⟨by rw [wrapN (by omega)]⟩, ⟨rfl⟩, ⟨hxl, ?_⟩, by omega⟩, fun hb => ⟨?_⟩⟩
    · rw [List.take_succ_eq_append_getElem hxl, List.all_append, hx.2]
      simp [hb]
    · rw [if_neg]
      intro hf
      have := List.all_eq_true.1 hf.2 _ (List.getElem_mem hxl)
      rw [hb] at this; cases this
  · have hge := of_decide_eq_false hge
    have h1 := of_decide_eq_false h1
    have := hx.2
    rw [List.take_of_length_le (by omega)] at this
    exact ⟨by rw [if_pos ⟨by omega, this⟩]⟩
theorem o19 (m : Int) : SpecOk PI (GI m) 19 s19 := spec_of (X := XO) (m := []) mixedI (tbl_cons (o43 m) tbl_nil) itbl_nil fun args r h => by
  unfold s19 at h
  split at h
  case h_2 => cases h
  split at h
  case isFalse => cases h
  rename_i hc
  obtain ⟨rfl, hl⟩ := hc
  split at h
  case h_2 => cases h
  rename_i ps hu
  obtain rfl : _ = pksL ps := unL_inv unQ_inv hu
  split at h
  case isFalse => cases h
  rename_i hk
  injection h with h; subst h
  rw [List.length_map] at hl
  exact ⟨_, p19 m ps hl hk⟩
end Go.Abs

namespace Go.Abs
open Go.Proofs Go.RowKit
def rotA (P : Arr) (k : Nat) : Arr := P.drop k ++ P.take k
abbrev t6 : List (FuncId × Spec) := [(7, s7), (17, s17), (18, fun args => s18 (args.map wk1)), (10, s10w), (13, s13), (19, fun args => s19 (args.map wk1))]
abbrev pksT (P : Arr) (o : Own) : AV := .sl 11 (pksL (seL P)) o
abbrev rcB (P : Arr) : Option (List AV) := some [.sl 3 (bxsL (allS P)) .no]
abbrev shT : Sh × Option TypeId := (.val (.one (.is (.bool true))), none)
/-- what the calls answer is told as far as it is known -/
def XO6 (l : List Int) : Shapes := fun f => match f with
  | 7 | 13 => some shT
  | 17 => some (.val (.one (.sl 11 (.tok 0))), some 35)
  | 18 => some (.tup [.agg [.is (.sl 3 (bxsL (allS (numP l))) .no)], .one (.is (.int .i64 (cntS (numP l)))), .one (.is (.bool true))], none)
  | 10 => some (.tup [.agg [.is (.sl 3 (bxsL (allS (numP l))) .no)], .one (.is (.bool false)), .agg [.is (.str appN), .is (.bool true), .int .i64, .is (.str []), .is (.int .i64 0), .is (.int .i64 0), .is (.int .i64 0), .is (.str []), .is (.str []), .is (.int .i64 0), .is (.sl 3 [] .no)], .one (.is (.int .i64 0))], none)
  | 19 => some (.val (.one (.is (.int .i64 0))), none)
  | _ => none
def XO5 : Shapes := fun f => match f with
  | 7 | 13 => some shT
  | 18 => some (.tup [.agg [.sl 3 .no], .one (.int .i64), .one (.is (.bool true))], none)
  | _ => none
def a6 (l : List Int) (turn : Int) : Anns := ⟨fun k => match k with
  | 8 => some { α := Nat, slots := [0, 1, 5, 6, 7], nb := 0, vals := fun n => [.sl 1 (intsA l) .no, .int .i64 turn, pksT (numP l) (.tok 0), pksT ((numP l).reverse.take n) (.tok 1), .int .i64 ((l.length : Int) - 1 - n)], sS := fun n => ⟨[], [(l.length, 35), (((numP l).reverse.take n).length, 35)]⟩, I := fun n => n ≤ l.length, μ := fun n => l.length - n, mint := [(6, 35)] }
  | 1000013 => some { α := Unit, slots := [1, 5, 6, 8, 9, 10, 11, 12, 13], nb := 2, vals := fun _ => [.int .i64 turn, pksT (numP l) (.tok 0), pksT (numP l).reverse (.tok 1), .ptr 0 0, .int .i64 (cntS (numP l)), .bool true, .ptr 1 0, .int .i64 (cntS (numP l)), .bool true], sS := fun _ => ⟨[rcB (numP l), rcB (numP l)], [(l.length, 35), (l.length, 35)]⟩, I := fun _ => True, μ := fun _ => 0, keep := some 2 }
  | 1000014 => some { α := Unit, slots := [1, 5, 8, 9, 10, 11, 12, 13, 14, 15, 16], nb := 3, vals := fun _ => [.int .i64 turn, pksT (numP l) (.tok 0), .ptr 0 0, .int .i64 (cntS (numP l)), .bool true, .ptr 1 0, .int .i64 (cntS (numP l)), .bool true, .ptr 2 0, .int .i64 (cntS (numP l)), .bool true], sS := fun _ => ⟨[rcB (numP l), rcB (numP l), rcB (numP l)], [(l.length, 35), (l.length + l.length, 35)]⟩, I := fun _ => True, μ := fun _ => 0, keep := some 2 }
  | _ => none, nA⟩
end Go.Abs

namespace Go.Abs
open Go.Proofs Go.RowKit
theorem numP_ok {l : List Int} (h : l.length ≤ 60) : OkPs (numP l) := ⟨by rw [numP_len]; omega, fun p hp => by
  obtain ⟨x, _, rfl⟩ := List.mem_map.1 hp
  exact ⟨.inl rfl, numN_rng x⟩⟩
theorem allS_congr {ps qs : Arr} (hp : OkPs ps) (hq : OkPs qs) (h : ∀ p, p ∈ ps ↔ p ∈ qs) : allS ps = allS qs := ((can_all hp).congr h).ext (can_all hq)
theorem ok_congr {ps qs : Arr} (hp : OkPs ps) (h : ∀ p, p ∈ ps ↔ p ∈ qs) (hl : qs.length ≤ 200) : OkPs qs := ⟨hl, fun p hq => hp.all p ((h p).2 hq)⟩
theorem mem_rot (P : Arr) (k : Nat) (p : List UInt8 × Int) : p ∈ P ↔ p ∈ rotA P k := by
  unfold rotA
  rw [List.mem_append]
  conv => lhs; rw [← List.take_append_drop k P, List.mem_append]
  exact Or.comm
theorem c18x {P ps : Arr} (hP : OkPs P) (h : ∀ p, p ∈ P ↔ p ∈ ps) (hl : ps.length ≤ 200) {o : Own} {l : List (FuncId × Spec)} : tbl ((18, fun args => s18 (args.map wk1)) :: l) 18 [.agg [.sl 0 [] o], .sl 11 (pksL (seL ps)) .no] = some (.tup [.agg [.sl 3 (bxsL (allS P)) .no], .int .i64 (cntS P), .bool true], []) := by
  have hk := ok_congr hP h hl
  rw [tbl_hit, allS_congr hP hk h, cnt_congr h]
  have hu : unL unS (pksL (seL ps)) = some ps := by
    rw [pksL, seL, List.map_map]
    exact unL_map (g := fun p => pkA (sentP p)) unS_ok ps
  cases ps with
  | nil => rfl
  | cons p ps =>
    show s18 [.agg [.sl 3 [] .no], .sl 11 (pksL (seL (p :: ps))) .no] = _
    have h2 := okPs_iff.2 hk
    simp only [s18, hu, h2, true_or, and_self, if_true]
theorem c13x {r : List BxI} (h : RcvP r) {l : List (FuncId × Spec)} : tbl ((13, s13) :: l) 13 [.agg [.sl 3 (bxsL r) .no], .agg [.sl 3 (bxsL r) .no]] = some (.bool true, []) := by
  rw [tbl_hit]
  have h1 : r.length ≤ 2000000 := by have := h.len; omega
  have h2 : (r.all fun b => decide (b.ahead.length ≤ 2000000)) = true := List.all_eq_true.2 fun b hb => by
    have := (h.box b hb).len
    simp; omega
  simp only [s13, and_self, if_true, unBs_ok]
  rw [if_pos ⟨h1, h2⟩]; simp
/-- the one inbox -/
theorem one_box {P : Arr} (h : OkPs P) (ha : ∀ p ∈ P, p.1 = appN) (hne : P ≠ []) : ∃ b, allS P = [b] ∧ b.src = appN ∧ 1 ≤ b.next ∧ b.next ≤ 61 := by
  have hc := can_all h
  have hsrc : ∀ b ∈ allS P, b.src = appN := fun b hb => by
    obtain ⟨n, hn⟩ := (hc.src b.src).1 ⟨b, hb, rfl⟩
    exact ha _ hn
  obtain ⟨p, hp⟩ := List.exists_mem_of_ne_nil P hne
  obtain ⟨b, hb, _⟩ := (hc.src p.1).2 ⟨p.2, hp⟩
  have hone : allS P = [b] := by
    cases hr : allS P with
    | nil => rw [hr] at hb; cases hb
    | cons c r =>
      cases r with
      | nil =>
        rw [hr] at hb
        have : b = c := by simpa using hb
        rw [this]
      | cons d r =>
        have hp2 := hc.asc
        rw [hr] at hp2 hsrc
        have hlt : c.src < d.src := (List.pairwise_cons.1 hp2).1 d (by simp)
        rw [hsrc c (by simp), hsrc d (by simp)] at hlt
        exact absurd hlt (List.lt_irrefl _)
  refine ⟨b, hone, hsrc b hb, (hc.box b hb).lo, ?_⟩
  have hB := hc.box b hb
  by_cases h61 : b.next ≤ 61
  · exact h61
  · have := hB.seen 61 (by omega) (by omega)
    have := (h.all _ this).2.2
    simp only at this
    omega
theorem c10x {P : Arr} (h : OkPs P) {i : Nat} (hi : i < P.length) (ha : ∀ p ∈ P, p.1 = appN) {b : BxI} (hb : allS P = [b]) {l : List (FuncId × Spec)} :
    tbl ((10, s10w) :: l) 10 [.agg [.sl 3 (bxsL (allS P)) .no], pkA (sentP P[i])] = some (.tup [.agg [.sl 3 (bxsL (allS P)) .no], .bool false, .agg [.str appN, .bool true, .int .i64 b.next, .str [], .int .i64 0, .int .i64 0, .int .i64 0, .str [], .str [], .int .i64 0, .sl 3 [] .no], .int .i64 0], []) := by
  have hp := h.all _ (List.getElem_mem hi)
  have hsrc := ha _ (List.getElem_mem hi)
  have hmem : P[i] ∈ P := List.getElem_mem hi
  have hc := can_all h
  have hR : RcvP (allS P) := allS_ok _ _ rcv_nil
  obtain ⟨r', nx, h1, h2, b', hb', hs', hn'⟩ := can_step (s := (P[i]).1) (n := (P[i]).2) hc (by rw [hsrc]; exact name_app) hp.2.1 (by unfold maxT; omega) (by have := bOf_lo hc (P[i]).1; omega) (.inl (by
      have := can_len hc fun p hp => (h.all p hp).1
      omega))
  have hr : r' = allS P := (h2.congr fun p => ⟨fun hp => by
    rcases List.mem_cons.1 hp with e | hp
    · rw [e]; exact hmem
    · exact hp, fun hp => List.mem_cons_of_mem _ hp⟩).ext hc
  have hd : decide (((P[i]).1, (P[i]).2) ∉ P) = false := by simp [hmem]
  rw [hd, hr] at h1
  rw [hr, hb] at hb'
  have e : b' = b := by simpa using hb'
  subst e
  rw [c10o hR (by rw [hsrc]; simp), h1, ← hn', hsrc]
  rfl
theorem c19x {P : Arr} (h : OkPs P) (ha : ∀ p ∈ P, p.1 = appN) {n : Int} (h1 : 1 ≤ n) (h2 : n ≤ 61) {l : List (FuncId × Spec)} : tbl ((19, fun args => s19 (args.map wk1)) :: l) 19 [.agg [.sl 11 (pksL (seL P) ++ [.agg [.str appN, .bool true, .int .i64 n, .str [], .int .i64 0, .int .i64 0, .int .i64 0, .str [], .str [], .int .i64 0, .sl 3 [] .no]]) .no]] = some (.int .i64 0, []) := by
  rw [tbl_hit]
  have e : pksL (seL P) ++ [.agg [.str appN, .bool true, .int .i64 n, .str [], .int .i64 0, .int .i64 0, .int .i64 0, .str [], .str [], .int .i64 0, .sl 3 [] .no]] = pksL (seL P ++ [ackP2 appN n]) := by simp only [pksL, List.map_append, List.map_cons, List.map_nil]; rfl
  rw [e]
  have hw : ([AV.agg [AV.sl 11 (pksL (seL P ++ [ackP2 appN n])) .no]]).map wk1 = [.agg [.sl 11 (pksL (seL P ++ [ackP2 appN n])) .no]] := by
    cases P with
    | nil => rfl
    | cons p P => rfl
  show s19 (([AV.agg [AV.sl 11 (pksL (seL P ++ [ackP2 appN n])) .no]]).map wk1) = _
  rw [hw]
  have hl := h.len
  have hlen : (seL P ++ [ackP2 appN n]).length ≤ 1024 := by simp [seL]; omega
  have hsm : (seL P ++ [ackP2 appN n]).all smP = true := by
    rw [List.all_append, Bool.and_eq_true]
    refine ⟨List.all_eq_true.2 fun q hq => ?_, ?_⟩
    · obtain ⟨p, hp, rfl⟩ := List.mem_map.1 hq
      have := ha p hp
      obtain ⟨s, k⟩ := p
      simp only at this
      subst this
      simp [smP, sentP, zF]
    · simp [smP, ackP2, zF]
  have hfm : (seL P ++ [ackP2 appN n]).all fmP = true := by
    rw [List.all_append, Bool.and_eq_true]
    refine ⟨List.all_eq_true.2 fun q hq => ?_, ?_⟩
    · obtain ⟨p, hp, rfl⟩ := List.mem_map.1 hq
      have := ha p hp
      obtain ⟨s, k⟩ := p
      simp only at this
      subst this
      have := name_app
      simp [fmP, sentP, zF, this]
    · have := name_app
      simp [fmP, ackP2, zF, this]
      omega
  simp only [s19]
  rw [if_pos ⟨trivial, by rw [pksL_len]; omega⟩, show unL unQ (pksL (seL P ++ [ackP2 appN n])) = some (seL P ++ [ackP2 appN n]) from unL_map unQ_ok _]
  simp only
  rw [if_pos hsm, if_pos ⟨hlen, hfm⟩]
end Go.Abs
