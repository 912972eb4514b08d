/-
  append, make: slices that may be appended to.
-/
import Derived.Test.YtooobfhjklcnjaaDoorAbsI
namespace Go.Abs
open Go.RowKit

section
variable {P : Program} {E : Env} {w w' : World} {G : Glob} {N0 : Nat} {w0 : World} {I0 : Nat → Nat → Prop} {S : St}

/-- the slice number k has got a new header, whose cells are promised -/
theorem SR.tok (h : SR P G N0 w0 I0 S E w) (k g n' sz : Nat) (e : TypeId) (v' : Value) (xs' : List Value) (l' : List (Nat × TypeId))
    (hos : w'.os = w.os) (htape : w'.tape = w.tape) (hout : w'.output = w.output) (hsize : w.heap.size ≤ w'.heap.size)
    (hw : ∀ b, b < w.heap.size → b ≠ g → w'.heap[b]? = w.heap[b]?) (hcell : ∀ o, E.I g o → w'.cell? ⟨g, o, none⟩ = w.cell? ⟨g, o, none⟩) (hg0 : N0 ≤ g) (hgs : g < w'.heap.size)
    (hgB : ∀ id, E.B id ≠ some g) (hgK : ∀ t' n'' v'', E.K t' n'' v'' → v''.ownBlock = some g → t' = k) (hgI : ∀ o, E.I g o → o < n' * sz)
    (hkey : ∀ n v, E.K k n v → n < n') (hl : l'[k]? = some (n', e)) (hl' : ∀ t, t ≠ k → l'[t]? = S.live[t]?)
    (hs : sizeA P e = some sz) (hown : w'.ownsRow N0 e sz v' n' xs') (hv : v'.ownBlock = some g) :
    SR P G N0 w0 I0 { S with live := l' } ⟨fun b o => E.I b o ∨ (b = g ∧ o < n' * sz), E.B, fun t n v => E.K t n v ∨ (t = k ∧ n = n' ∧ v = v')⟩ w' ∧
      Env.Le E ⟨fun b o => E.I b o ∨ (b = g ∧ o < n' * sz), E.B, fun t n v => E.K t n v ∨ (t = k ∧ n = n' ∧ v = v')⟩ w w' := by
  have hle : Env.Le E ⟨fun b o => E.I b o ∨ (b = g ∧ o < n' * sz), E.B, fun t n v => E.K t n v ∨ (t = k ∧ n = n' ∧ v = v')⟩ w w' := by
    refine ⟨fun b o hi => ⟨.inl hi, ?_⟩, fun _ _ h => h, fun _ _ _ h => .inl h⟩
    by_cases hb : b = g
    · subst hb; exact hcell o hi
    · exact World.cell?_of_block (a := ⟨b, o, none⟩) (hw b (h.Ilt b o hi) hb)
  refine ⟨⟨h.below.trans ⟨hos, htape, hout, hsize, fun b hb => hw b (Nat.lt_of_lt_of_le hb h.n0) (by omega)⟩, Nat.le_trans h.n0 hsize, fun b o hi => ?_, fun b o hi hlt => hi.elim (fun h' => h.Iold b o h' hlt) (fun h' => absurd hlt (by omega)), fun id b he => ?_, h.Binj, fun id cs hi => ?_, h.glob.le hle, h.hole, fun t n v ht => ?_, fun t n v hk => ?_, fun t n e' ht => ?_⟩, hle⟩
  · rcases hi with hi | ⟨rfl, _⟩
    · exact Nat.lt_of_lt_of_le (h.Ilt b o hi) hsize
    · exact hgs
  · obtain ⟨a1, a2, a3, a4⟩ := h.Blt id b he
    refine ⟨a1, a2, Nat.lt_of_lt_of_le a3 hsize, fun o ho => ?_⟩
    rcases ho with ho | ⟨rfl, _⟩
    · exact a4 o ho
    · exact hgB id he
  · obtain ⟨blk, arr, ty, hB, hh, hn, hc⟩ := h.box id cs hi
    exact ⟨blk, arr, ty, hB, by rw [hw blk (h.Blt id blk hB).2.2.1 (fun e => hgB id (e ▸ hB))]; exact hh, hn, fun i c v hi hv => ⟨(hc i c v hi hv).1.le hle, (hc i c v hi hv).2⟩⟩
  · rcases ht with ht | ⟨rfl, rfl, rfl⟩
    · by_cases hk : t = k
      · subst hk
        exact ⟨n', e, hl, Nat.le_of_lt (hkey n v ht)⟩
      · obtain ⟨m, e', hm, hle'⟩ := h.Klt t n v ht
        exact ⟨m, e', by rw [hl' t hk]; exact hm, hle'⟩
    · exact ⟨n, e, hl, Nat.le_refl _⟩
  · rcases hk with hk | ⟨_, _, rfl⟩
    · exact fun g2 hg2 => Nat.lt_of_lt_of_le (h.Kblk t n v hk g2 hg2) hsize
    · intro g2 hg2; rw [hv] at hg2; injection hg2 with hg2; subst hg2; exact hgs
  · have ht0 : l'[t]? = some (n, e') := ht
    by_cases hk : t = k
    · subst hk
      rw [hl] at ht0
      injection ht0 with ht0
      obtain ⟨rfl, rfl⟩ : n' = n ∧ e = e' := by injection ht0; constructor <;> assumption
      refine ⟨v', xs', sz, hs, hown, fun v'' hk'' => ?_, .inr ⟨rfl, rfl, rfl⟩, fun g' hg' => ?_⟩
      · rcases hk'' with hk'' | ⟨_, _, e⟩
        · have := hkey _ _ hk''; omega
        · exact e
      · rw [hv] at hg'; injection hg' with hg'; subst hg'
        refine ⟨fun o ho => ?_, hgB, fun t' n'' v'' hk'' ho => ?_⟩
        · rcases ho with ho | ⟨_, ho⟩
          · exact hgI o ho
          · exact ho
        · rcases hk'' with hk'' | ⟨e, _, _⟩
          · exact hgK _ _ _ hk'' ho
          · exact e
    · rw [hl' t hk] at ht0
      obtain ⟨v, xs, sz2, hsz, hown2, hu, hK, hgg⟩ := h.live t n e' ht0
      have hne : ∀ g2, v.ownBlock = some g2 → g2 ≠ g := fun g2 h2 e => hk (hgK t n v hK (e ▸ h2))
      refine ⟨v, xs, sz2, hsz, hown2.kept (row := some g) ⟨hos, htape, hout, hsize, fun b hb hne => hw b hb (fun e => hne (by rw [e]))⟩ (by
        cases hvb : v.ownBlock with
        | none => exact .inl rfl
        | some g2 => exact .inr (fun e => hne g2 hvb (by injection e))), fun v'' hk'' => ?_, .inl hK, fun g2 hg2 => ?_⟩
      · rcases hk'' with hk'' | ⟨e, _, _⟩
        · exact hu _ hk''
        · exact absurd e hk
      · obtain ⟨a1, a2, a3⟩ := hgg g2 hg2
        refine ⟨fun o ho => ?_, a2, fun t' n'' v'' hk'' ho => ?_⟩
        · rcases ho with ho | ⟨e, _⟩
          · exact a1 o ho
          · exact absurd e (hne g2 hg2)
        · rcases hk'' with hk'' | ⟨_, _, e⟩
          · exact a3 _ _ _ hk'' ho
          · subst e; rw [hv] at ho; injection ho with ho; exact absurd ho.symm (hne g2 hg2)

theorem run_append_zero {t tx ty e : TypeId} {i : TypeInfo} (ht : P.underlying t = some (.slice e)) (hi : P.info? e = some i) (A : Option Addr) (n cap : Nat) (x : Value) (hn : n ≤ cap) (hs : Src P i.size tx x 0 [] w) :
    (Builtin.append_ #[t, tx] ty #[.slice A n cap, x]).run P w = .ok (.slice A n cap) w := by
  rcases hs.kind with ⟨e', hk⟩ | hk <;> cases A <;> simp [Builtin.append_, run_underlying ht, run_underlying hk, sizeOf, typeInfo, hi, hs.len, hn, hs.cells, storeCells]

theorem run_append_room_row {t tx ty e : TypeId} {i : TypeInfo} (ht : P.underlying t = some (.slice e)) (hi : P.info? e = some i) (g sLen sCap : Nat) (cur : Array Value) (hg : w.heap[g]? = some (.cells cur e (0, 0)))
    (x : Value) (m : Nat) (news : List Value) (hs : Src P i.size tx x m news w) (hroom : sLen + m ≤ sCap) (hfit : sLen * i.size + news.length ≤ cur.size) :
    (Builtin.append_ #[t, tx] ty #[.slice (some ⟨g, 0, none⟩) sLen sCap, x]).run P w =
      .ok (.slice (some ⟨g, 0, none⟩) (sLen + m) sCap) (w.setRow g (cur.toList.take (sLen * i.size) ++ news ++ cur.toList.drop (sLen * i.size + news.length)).toArray) := by
  have hst := run_storeCells_at P g (sLen * i.size) e news 0 cur w hg (by simpa using hfit) hs.one
  simp only [Nat.add_zero] at hst
  rcases hs.kind with ⟨e', hk⟩ | hk <;> simp [Builtin.append_, run_underlying ht, run_underlying hk, sizeOf, typeInfo, hi, hs.len, hroom, hs.cells, Addr.add_lit, hst]

theorem srcA_run {tx : TypeId} {s : Nat} {y : AV} {ys : List AV} {vy : Value} (h : srcA P tx s y = some ys) (hy : Rep E w y vy) (hs : 0 < s) : ∃ news, Src P s tx vy ys.length news w ∧ Vals E w s ys news := by
  unfold srcA at h
  split at h
  · rename_i e' sz es o hu
    split at h
    · rename_i hc
      simp at h; subst h
      obtain ⟨A, cap, rfl, hcap⟩ := rep_slice_shape hy
      by_cases he : es = []
      · subst he
        refine ⟨[], ⟨.inl ⟨e', hu⟩, fun _ => rfl, ?_, ?_, by simp, by simp⟩, Vals.nil s⟩ <;> (cases A <;> simp [Builtin.firstCells, loadCells, loadCellsFrom])
      · obtain rfl : sz = s := hc.resolve_right he
        obtain ⟨vals, hv, hf, _⟩ := rep_vals hy hs
        exact ⟨vals, ⟨.inl ⟨e', hu⟩, fun _ => rfl, hf w fun _ => rfl, hf w.drew fun _ => rfl, hv.1, hv.2.2.2.1⟩, hv⟩
    · cases h
  · rename_i l hu
    split at h
    · rename_i hc
      subst hc
      simp at h; subst h
      cases hy with | str _ bs hb =>
      subst hb
      have h0 := Src.ofString (P := P) w hu bs
      have hl : (bs.data.toList.map fun c => AV.int .u8 c.toNat).length = bs.size := by rw [List.length_map, size_data]
      refine ⟨byteCells bs, by rw [hl]; exact h0, by rw [byteCells_length, hl, Nat.mul_one], fun e he => ?_, fun e he => ?_, h0.one, fun i e j c hi hj => ?_⟩
      · obtain ⟨_, _, rfl⟩ := List.mem_map.1 he; rfl
      · obtain ⟨_, _, rfl⟩ := List.mem_map.1 he; rfl
      · rw [List.getElem?_map] at hi
        cases hk : bs.data.toList[i]? with
        | none => simp [hk] at hi
        | some b =>
          simp only [hk, Option.map_some, Option.some.injEq] at hi
          subst hi
          match j, hj with
          | 0, hj =>
            simp only [AV.cells, List.getElem?_cons_zero, Option.some.injEq] at hj
            subst hj
            refine ⟨.int .u8 b.toNat, ?_, .int _ _⟩
            simp [byteCells] at hk ⊢
            exact ⟨b, hk, rfl⟩
          | j + 1, hj => simp [AV.cells] at hj
    · cases h
  · cases h

theorem I_lt_size (h : SR P G N0 w0 I0 S E w) (o : Nat) : ¬ E.I w.heap.size o := fun hi => by have := h.Ilt _ _ hi; omega

theorem owns_new {w : World} {e : TypeId} {sz n cap N0 : Nat} {xs : List Value} {rest : Array Value} {o : World} (ho : o.heap = w.heap) (h0 : N0 ≤ w.heap.size) (hl : xs.length = n * sz) (hc : n ≤ cap) (hm : cap ≤ maxLen) (hr : rest.size = (cap - n) * sz) :
    (o.alloc (.cells (xs.toArray ++ rest) e)).ownsRow N0 e sz (.slice (some ⟨w.heap.size, 0, none⟩) n cap) n xs := by
  refine ⟨hl, .inr ⟨w.heap.size, cap, _, rfl, h0, by rw [← ho]; exact heap_alloc_new o _, hc, hm, ?_, ?_⟩⟩
  · simp only [Array.size_append, List.size_toArray, hl, hr, ← Nat.add_mul]
    congr 1; omega
  · simp only [Array.toList_append]
    rw [← hl]; exact List.take_left

theorem rep_weak {sz : Nat} {es : List AV} {o : Own} {v : Value} (h : Rep E w (.sl sz es o) v) : Rep E w (.sl sz es o.weak) v := by
  cases h with | sl _ _ _ A cap u hcap hmax hA hsz hcl ho hr h1 =>
  refine .sl sz es o.weak A cap u hcap hmax hA hsz hcl ?_ hr h1
  cases o with
  | nil => simp only [OwnOk] at ho; injection ho with _ h2 h3; simp only [Own.weak, OwnOk]; omega
  | full => exact ho
  | no => trivial
  | tok t => exact ho

/-- nothing may be appended to, too -/
theorem SR.mint (h : SR P G N0 w0 I0 S E w) {e : TypeId} {sz : Nat} (hs : sizeA P e = some sz) :
    SR P G N0 w0 I0 { S with live := S.live ++ [(0, e)] } ⟨E.I, E.B, fun t n v => E.K t n v ∨ (t = S.live.length ∧ n = 0 ∧ v = .slice none 0 0)⟩ w ∧
      Env.Le E ⟨E.I, E.B, fun t n v => E.K t n v ∨ (t = S.live.length ∧ n = 0 ∧ v = .slice none 0 0)⟩ w w := by
  have hle : Env.Le E ⟨E.I, E.B, fun t n v => E.K t n v ∨ (t = S.live.length ∧ n = 0 ∧ v = .slice none 0 0)⟩ w w := ⟨fun _ _ h => ⟨h, rfl⟩, fun _ _ h => h, fun _ _ _ h => .inl h⟩
  have hlt : ∀ t n v, E.K t n v → t < S.live.length := fun t n v hk => by
    obtain ⟨m, e', hm, _⟩ := h.Klt t n v hk
    exact (List.getElem?_eq_some_iff.1 hm).1
  refine ⟨⟨h.below, h.n0, h.Ilt, h.Iold, h.Blt, h.Binj, fun id cs hi => ?_, h.glob.le hle, h.hole, fun t n v hk => ?_, fun t n v hk g hg => ?_, fun t n e' ht => ?_⟩, hle⟩
  · obtain ⟨blk, arr, ty, hB, hh, hn, hc⟩ := h.box id cs hi
    exact ⟨blk, arr, ty, hB, hh, hn, fun i c v hi hv => ⟨(hc i c v hi hv).1.le hle, (hc i c v hi hv).2⟩⟩
  · rcases hk with hk | ⟨rfl, rfl, rfl⟩
    · obtain ⟨m, e', hm, hle'⟩ := h.Klt t n v hk
      exact ⟨m, e', by rw [List.getElem?_append_left (hlt t n v hk)]; exact hm, hle'⟩
    · exact ⟨0, e, by simp, Nat.le_refl _⟩
  · rcases hk with hk | ⟨rfl, rfl, rfl⟩
    · exact h.Kblk t n v hk g hg
    · simp [Value.ownBlock] at hg
  · by_cases htl : t < S.live.length
    · simp only [] at ht
      rw [List.getElem?_append_left htl] at ht
      obtain ⟨v, xs, sz', h1, h2, h3, h4, h5⟩ := h.live t n e' ht
      refine ⟨v, xs, sz', h1, h2, fun v' hk => ?_, .inl h4, fun g hg => ⟨(h5 g hg).1, (h5 g hg).2.1, fun t' n' v' hk hg' => ?_⟩⟩
      · rcases hk with hk | ⟨rfl, _, _⟩
        · exact h3 v' hk
        · omega
      · rcases hk with hk | ⟨_, _, rfl⟩
        · exact (h5 g hg).2.2 t' n' v' hk hg'
        · simp [Value.ownBlock] at hg'
    · have ht1 : t = S.live.length := by
        have := (List.getElem?_eq_some_iff.1 ht).1
        simp at this; omega
      subst ht1
      simp at ht
      obtain ⟨rfl, rfl⟩ := ht
      refine ⟨.slice none 0 0, [], sz, hs, ⟨by simp, .inl ⟨rfl, rfl⟩⟩, fun v' hk => ?_, .inr ⟨rfl, rfl, rfl⟩, fun g hg => ?_⟩
      · rcases hk with hk | ⟨_, _, rfl⟩
        · exact absurd (hlt _ _ _ hk) (by omega)
        · rfl
      · simp [Value.ownBlock] at hg

theorem appendA_run (hS : SR P G N0 w0 I0 S E w) {t tx ty : TypeId} {x y r : AV} {S' : St} {vx vy : Value} (h : appendA P S t tx x y = some (r, S')) (hx : Rep E w x vx) (hy : Rep E w y vy) :
    ∃ v w' E', (Builtin.append_ #[t, tx] ty #[vx, vy]).run P w = .ok v w' ∧ SR P G N0 w0 I0 S' E' w' ∧ Env.Le E E' w w' ∧ Rep E' w' r v := by
  unfold appendA at h
  split at h
  · rename_i e hu
    split at h
    · rename_i i sz es o hi
      split at h
      · rename_i hc
        obtain ⟨hsz, hs, hz⟩ := hc
        obtain ⟨A, cap, rfl, hcap⟩ := rep_slice_shape hx
        cases hz0 : i.zero with
        | none => simp [hz0] at hz
        | some z =>
        simp only [hz0, Option.map_some, Option.some.injEq] at hz
        split at h
        · rename_i ys hys
          obtain ⟨news, hsrc, hvn⟩ := srcA_run hys hy hs
          split at h
          · rename_i hroom
            have hroom' : (es.length + ys.length) * i.bytes + (es.length + ys.length) ≤ 70368744177664 := by
              have : (es.length + ys.length) * (i.bytes + 1) ≤ 70368744177664 := hroom
              rw [Nat.mul_add] at this; omega
            split at h
            · rename_i hnil
              subst hnil
              simp at h
              obtain ⟨rfl, rfl⟩ := h
              have hn : news = [] := List.eq_nil_of_length_eq_zero (by have := hvn.1; simpa using this)
              subst hn
              exact ⟨_, w, E, run_append_zero hu hi A es.length cap vy hcap hsrc, hS, Env.Le.refl E w, hx⟩
            · rename_i hne
              have hpos : 0 < ys.length := List.length_pos_iff.2 hne
              -- the old cells
              have hold : ∃ vals, Vals E w i.size es vals ∧ (Builtin.firstCells i.size es.length (.slice A es.length cap)).run P w.drew = .ok vals.toArray w.drew ∧
                  ∀ b off, A = some ⟨b, off, none⟩ → ∀ j u, vals[j]? = some u → E.I b (off + j) ∧ w.cell? ⟨b, off + j, none⟩ = some u := by
                by_cases he : es = []
                · subst he
                  refine ⟨[], Vals.nil _, ?_, by simp⟩
                  cases A <;> simp [Builtin.firstCells, loadCells, loadCellsFrom]
                · obtain rfl : sz = i.size := hsz.resolve_right he
                  obtain ⟨vals, hv, hf, hat⟩ := rep_vals hx hs
                  exact ⟨vals, hv, hf w.drew fun _ => rfl, hat⟩
              obtain ⟨olds, hvo, hfo, hat⟩ := hold
              have happ : Vals E w i.size (es ++ ys) (olds ++ news) := hvo.append hvn
              have hlen : (es ++ ys).length = es.length + ys.length := List.length_append
              -- a new row
              have grow : ∀ (k : Nat) (l' : List (Nat × TypeId)), cap < es.length + ys.length → (∀ n v, E.K k n v → n < es.length + ys.length) → l'[k]? = some (es.length + ys.length, e) → (∀ t, t ≠ k → l'[t]? = S.live[t]?) →
                  ∃ v w' E', (Builtin.append_ #[t, tx] ty #[.slice A es.length cap, vy]).run P w = .ok v w' ∧ SR P G N0 w0 I0 { S with live := l' } E' w' ∧ Env.Le E E' w w' ∧ Rep E' w' (.sl i.size (es ++ ys) (.tok k)) v := by
                intro k l' hgt hkey hl hl'
                have hfit := growslice_fits (need := es.length + ys.length) (old := cap) (bytes := i.bytes) hgt (by omega)
                have hrun := run_append_grow_src (P := P) w t tx ty e i z hu hi hz0 A es.length cap olds hfo vy ys.length news hsrc hgt (by omega) hfit
                have hge := grownCap_ge w (es.length + ys.length) cap e
                have hle := grownCap_le_maxLen w (es.length + ys.length) cap e (by simp only [maxLen]; omega)
                obtain ⟨hS', hL⟩ := hS.tok (w' := w.drew.alloc (.cells ((olds ++ news).toArray ++ Builtin.zeroCells z.cells (grownCap w (es.length + ys.length) cap e - (es.length + ys.length))) e)) k w.heap.size (es.length + ys.length) i.size e
                  (.slice (some ⟨w.heap.size, 0, none⟩) (es.length + ys.length) (grownCap w (es.length + ys.length) cap e)) (olds ++ news) l' rfl rfl rfl (by simp) (fun b hb _ => heap_alloc_old w.drew _ b hb)
                  (fun o ho => absurd ho (I_lt_size hS o)) hS.n0 (by simp) (fun id hid => by have := (hS.Blt id _ hid).2.2.1; omega) (fun t' n'' v'' hk hb => by have := hS.Kb hk hb; omega)
                  (fun o ho => absurd ho (I_lt_size hS o)) hkey hl hl' (by simp [sizeA, hi]) (owns_new rfl hS.n0 (by rw [happ.1, hlen]) hge hle (by rw [size_zeroCells, hz])) rfl
                refine ⟨_, _, _, hrun, hS', hL, ?_⟩
                have := (happ.le hL).rep w.heap.size 0 (grownCap w (es.length + ys.length) cap e) (.tok k) (by rw [hlen]; exact hge) hle (fun j u hj => by
                  have hj' : j < (es.length + ys.length) * i.size := by
                    have := (List.getElem?_eq_some_iff.1 hj).1
                    rw [happ.1, hlen] at this; exact this
                  refine ⟨.inr ⟨rfl, by omega⟩, ?_⟩
                  rw [Nat.zero_add]
                  show (w.drew.alloc _).cell? ⟨w.drew.heap.size, j, none⟩ = _
                  rw [World.cell?_alloc_new, Array.getElem?_append_left (by simpa using (List.getElem?_eq_some_iff.1 hj).1)]
                  simpa using hj) (by rw [hlen]; exact .inr ⟨rfl, rfl, rfl⟩)
                rw [hlen] at this
                exact this
              split at h
              · -- full
                rename_i hw'
                simp at h
                obtain ⟨rfl, rfl⟩ := h
                have hcf : cap = es.length := by cases rep_weak hx with | sl _ _ _ _ _ u _ _ _ _ _ ho => rw [hw'] at ho; exact ho
                exact grow S.live.length _ (by omega) (fun n v hk => by
                  obtain ⟨m, e', hm, _⟩ := hS.Klt _ _ _ hk
                  rw [List.getElem?_eq_none (Nat.le_refl _)] at hm; cases hm) (by simp) (fun t' ht' => by
                  by_cases hlt : t' < S.live.length
                  · rw [List.getElem?_append_left hlt]
                  · rw [List.getElem?_eq_none (by simp; omega), List.getElem?_eq_none (by omega)])
              · -- owned
                rename_i k hw'
                split at h
                · rename_i n e' hlive
                  split at h
                  · rename_i hh
                    obtain ⟨rfl, rfl⟩ := hh
                    simp at h
                    obtain ⟨rfl, rfl⟩ := h
                    have hklt : k < S.live.length := (List.getElem?_eq_some_iff.1 hlive).1
                    have hkey : ∀ n v, E.K k n v → n < es.length + ys.length := fun n v hk => by
                      obtain ⟨m, e', hm, hle⟩ := hS.Klt _ _ _ hk
                      rw [hlive] at hm; injection hm with hm; injection hm with hm _
                      omega
                    have hl : (S.live.set k (es.length + ys.length, e'))[k]? = some (es.length + ys.length, e') := by simp [hklt]
                    have hl' : ∀ t', t' ≠ k → (S.live.set k (es.length + ys.length, e'))[t']? = S.live[t']? := fun t' ht' => by rw [List.getElem?_set_ne (Ne.symm ht')]
                    by_cases hgt : cap < es.length + ys.length
                    · exact grow k _ hgt hkey hl hl'
                    · obtain ⟨v0, xs, sz0, hsz0, hown, hu0, hK0, hg0⟩ := hS.live k es.length e' hlive
                      have hsz1 : sz0 = i.size := by simp [sizeA, hi] at hsz0; omega
                      subst hsz1
                      have hKx : E.K k es.length (.slice A es.length cap) := by cases rep_weak hx with | sl _ _ _ _ _ u _ _ _ _ _ ho => rw [hw'] at ho; exact ho
                      have hv0 := hu0 _ hKx
                      subst hv0
                      rcases hown.2 with ⟨he0, _⟩ | ⟨g, cap', cur, hv, hbg, hh, hnc, hcm, hcs, htake⟩
                      · injection he0 with _ _ he0; omega
                      · injection hv with hvA _ hvc
                        subst hvc
                        subst hvA
                        obtain ⟨hgI, hgB, hgK⟩ := hg0 g rfl
                        have hglt : g < w.heap.size := (Array.getElem?_eq_some_iff.1 hh).1
                        have hxs : xs.length = es.length * i.size := hown.1
                        have hfit : es.length * i.size + news.length ≤ cur.size := by rw [hvn.1, hcs, ← Nat.add_mul]; exact Nat.mul_le_mul_right _ (by omega)
                        have hrun := run_append_room_row (P := P) (ty := ty) hu hi g es.length cap cur hh vy ys.length news hsrc (by omega) hfit
                        have hcell : ∀ o, o < es.length * i.size → (w.setRow g (cur.toList.take (es.length * i.size) ++ news ++ cur.toList.drop (es.length * i.size + news.length)).toArray).cell? ⟨g, o, none⟩ = w.cell? ⟨g, o, none⟩ := fun o ho => by
                          rw [cell_setRow_same w g o cur _ e' _ hh, cell_of_row w g o cur e' _ hh]
                          simp only [List.append_assoc, List.getElem?_toArray]
                          rw [List.getElem?_append_left (by rw [List.length_take, Array.length_toList (xs := cur)]; omega), List.getElem?_take_of_lt ho]
                          simp
                        obtain ⟨hS', hL⟩ := hS.tok (w' := w.setRow g (cur.toList.take (es.length * i.size) ++ news ++ cur.toList.drop (es.length * i.size + news.length)).toArray) k g (es.length + ys.length) i.size e'
                          (.slice (some ⟨g, 0, none⟩) (es.length + ys.length) cap) (xs ++ news) _ rfl rfl rfl (by simp) (fun b _ hb => setRow_other w g b _ hb)
                          (fun o ho => hcell o (hgI o ho)) hbg (by simpa using hglt) hgB hgK
                          (fun o ho => by have h9 : o < es.length * i.size := hgI o ho
                                          rw [Nat.add_mul]; omega) hkey hl hl' hsz0
                          ⟨by rw [List.length_append, hxs, hvn.1, Nat.add_mul], .inr ⟨g, cap, _, rfl, hbg, setRow_heap w g cur _ e' _ hh, by omega, hcm, by
                            simp only [List.size_toArray, List.length_append, List.length_take, List.length_drop, Array.length_toList]; omega, by
                            rw [htake, Nat.add_mul, ← hxs, ← hvn.1, ← List.length_append]; exact List.take_left⟩⟩ rfl
                        refine ⟨_, _, _, hrun, hS', hL, ?_⟩
                        have holds : olds = xs := by
                          apply List.ext_getElem?
                          intro j
                          by_cases hj : j < es.length * i.size
                          · have h1 : j < olds.length := by rw [hvo.1]; exact hj
                            have h2 : j < xs.length := by rw [hxs]; exact hj
                            have h3 := (hat g 0 rfl j olds[j] (List.getElem?_eq_getElem h1)).2
                            have h4 := hown.cells (g := g) rfl j xs[j] (List.getElem?_eq_getElem h2)
                            rw [add_plain] at h4
                            rw [h3] at h4
                            rw [List.getElem?_eq_getElem h1, List.getElem?_eq_getElem h2]
                            exact h4
                          · rw [List.getElem?_eq_none (by rw [hvo.1]; omega), List.getElem?_eq_none (by rw [hxs]; omega)]
                        have := (happ.le hL).rep g 0 cap (.tok k) (by rw [hlen]; omega) hcm (fun j u hj => by
                          have hj' : j < (es.length + ys.length) * i.size := by
                            have := (List.getElem?_eq_some_iff.1 hj).1
                            rw [happ.1, hlen] at this; exact this
                          refine ⟨.inr ⟨rfl, by omega⟩, ?_⟩
                          rw [Nat.zero_add, cell_setRow_same w g j cur _ e' _ hh, htake, ← holds]
                          simp only [List.getElem?_toArray]
                          rw [List.getElem?_append_left (List.getElem?_eq_some_iff.1 hj).1]
                          exact hj) (by rw [hlen]; exact .inr ⟨rfl, rfl, rfl⟩)
                        rw [hlen] at this
                        exact this
                  · cases h
                · cases h
              · cases h
              · cases h
          · cases h
        · cases h
      · cases h
    · cases h
  · cases h
end
end Go.Abs
