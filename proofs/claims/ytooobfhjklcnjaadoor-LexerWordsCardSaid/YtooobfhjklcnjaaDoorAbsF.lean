/-
  Indexes, loads, slices, lengths, conversions that read.
-/
import Derived.Test.YtooobfhjklcnjaaDoorAbsE
namespace Go.Abs
open Go.RowKit

section
variable {P : Program} {E : Env} {w : World}

theorem rep_slice_shape {sz : Nat} {es : List AV} {o : Own} {v : Value} (h : Rep E w (.sl sz es o) v) : ∃ A cap, v = .slice A es.length cap ∧ es.length ≤ cap := by
  cases h with | sl _ _ _ A cap u hcap => exact ⟨A, cap, rfl, hcap⟩

theorem indexAddrA_run {t : TypeId} {x i r : AV} {vx vi : Value} (h : indexAddrA P t x i = some r) (hx : Rep E w x vx) (hi : Rep E w i vi) : ∃ v, (Instr.indexAt t vx vi).run P w = .ok v w ∧ Rep E w r v := by
  unfold indexAddrA at h
  split at h
  · rename_i e k n hu
    cases hi
    split at h
    · rename_i sz es o
      split at h
      · rename_i hc
        obtain ⟨h0, hlt, hs⟩ := hc
        simp at h; subst h
        cases hx with | sl _ _ _ A cap u hcap hmax hA hsz hcl ho hr h1 =>
        have hne : es ≠ [] := fun e => by subst e; simp at hlt; omega
        obtain ⟨b, off, rfl, hA'⟩ := hA.resolve_left hne
        refine ⟨.pointer (some ⟨b, off + n.toNat * sz, none⟩), ?_, ?_⟩
        · simp [Instr.indexAt, run_underlying hu, asIntOf, h0, hlt, run_sizeOf' hs, add_plain]
        · have := Rep.elt (E := E) (w := w) sz es n.toNat 0 b off u hcl hA' hr h1
          simpa using this
      · cases h
    · cases h
  · rename_i len e k n hu
    cases hi
    split at h
    · rename_i hc
      obtain ⟨h0, hlt⟩ := hc
      split at h
      · rename_i s b o hs
        simp at h; subst h
        cases hx with | ptr _ _ blk hb =>
        refine ⟨.pointer (some ⟨blk, o + n.toNat * s, none⟩), ?_, .ptr _ _ _ hb⟩
        simp [Instr.indexAt, run_underlying hu, asIntOf, Instr.sureAddr, h0, hlt, run_sizeOf' hs, add_plain]
      · rename_i s sz es i j hs
        simp at h; subst h
        cases hx with | elt _ _ _ _ b off u hcl hA hr h1 =>
        refine ⟨.pointer (some ⟨b, off + i * sz + (j + n.toNat * s), none⟩), ?_, .elt _ _ _ _ b off u hcl hA hr h1⟩
        simp [Instr.indexAt, run_underlying hu, asIntOf, Instr.sureAddr, h0, hlt, run_sizeOf' hs, add_plain, Nat.add_assoc]
      · cases h
    · cases h
  · cases h

theorem takeA_run {t : TypeId} {cs : List AV} {o : Nat} {r : AV} {b base : Nat} (val : Nat → Value) (hv : ∀ (k : Nat) (c : AV), cs[k]? = some c → w.cell? ⟨b, base + k, none⟩ = some (val k) ∧ Rep E w c (val k) ∧ (val k).oneCell' = true)
    (h : takeA (aggA P t) (sizeA P t) cs o = some r) : ∃ v, (loadVar t ⟨b, base + o, none⟩).run P w = .ok v w ∧ Rep E w r v := by
  unfold takeA at h
  split at h
  · rename_i s ha hs
    split at h
    · rename_i hle
      simp at h; subst h
      have hl : (loadCells ⟨b, base + o, none⟩ s).run P w = .ok ((List.range s).map fun k => val (o + k)).toArray w := by
        have := run_loadCells_list (P := P) w ⟨b, base + o, none⟩ ((List.range s).map fun k => val (o + k)) (fun j v hj => by
          rw [List.getElem?_map] at hj
          by_cases hjs : j < s
          · rw [List.getElem?_range hjs] at hj
            simp at hj; subst hj
            rw [add_plain, Nat.add_assoc]
            exact (hv (o + j) cs[o + j] (List.getElem?_eq_getElem (by omega))).1
          · rw [List.getElem?_eq_none (by simpa using hjs)] at hj; cases hj)
        simpa using this
      refine ⟨.agg ((List.range s).map fun k => val (o + k)).toArray, by simp [loadVar, run_isAgg ha, run_sizeOf' hs, hl], ?_⟩
      refine .agg _ _ (by simp; omega) (fun i v hi => ?_) (fun i c v hc hi => ?_)
      · simp only [List.getElem?_toArray, List.getElem?_map] at hi
        by_cases his : i < s
        · rw [List.getElem?_range his] at hi
          simp at hi; subst hi
          exact (hv (o + i) cs[o + i] (List.getElem?_eq_getElem (by omega))).2.2
        · rw [List.getElem?_eq_none (by simpa using his)] at hi; cases hi
      · simp only [List.getElem?_toArray, List.getElem?_map] at hi
        rw [List.getElem?_take] at hc
        split at hc
        · rename_i his
          rw [List.getElem?_range his] at hi
          simp at hi; subst hi
          rw [List.getElem?_drop] at hc
          exact (hv (o + i) c hc).2.1
        · cases hc
    · cases h
  · rename_i s ha _
    obtain ⟨h1, h2, _⟩ := hv o r h
    exact ⟨val o, by simp [loadVar, run_isAgg ha, run_load, h1], h2⟩
  · cases h

theorem loadA_run {G : Glob} {N0 : Nat} {w0 : World} {I0 : Nat → Nat → Prop} {S : St} {t : TypeId} {x r : AV} {vx : Value} (hS : SR P G N0 w0 I0 S E w) (h : loadA P S t x = some r) (hx : Rep E w x vx) : ∃ v, (Instr.loadAt t vx).run P w = .ok v w ∧ Rep E w r v := by
  unfold loadA at h
  split at h
  · rename_i b o
    split at h
    · rename_i cs hb
      cases hx with | ptr _ _ blk hB =>
      obtain ⟨blk', arr, ty, hB', hh, hn, hc⟩ := hS.box b cs hb
      obtain rfl : blk = blk' := by rw [hB] at hB'; injection hB'
      have := takeA_run (P := P) (E := E) (w := w) (b := blk) (base := 0) (fun k => arr.getD k undef) (fun k c hk => by
        have hlt : k < arr.size := by
          have := (List.getElem?_eq_some_iff.1 hk).1
          omega
        have h2 := hc k c arr[k] hk (Array.getElem?_eq_getElem hlt)
        have e : arr.getD k undef = arr[k] := by simp [hlt]
        rw [e]
        exact ⟨by simp [World.cell?, hh, hlt], h2⟩) h
      simpa [Instr.loadAt, Instr.sureAddr] using this
    · cases h
  · rename_i sz es i j
    split at h
    · rename_i e he
      cases hx with | elt _ _ _ _ b off u hcl hA hr h1 =>
      have := takeA_run (P := P) (E := E) (w := w) (b := b) (base := off + i * sz) (fun k => u i k) (fun k c hk => ⟨(hA i e k c he hk).2, hr i e k c he hk, h1 i k⟩) h
      simpa [Instr.loadAt, Instr.sureAddr] using this
    · cases h
  · cases h

theorem indexA_run {t : TypeId} {x i r : AV} {vx vi : Value} (h : indexA P t x i = some r) (hx : Rep E w x vx) (hi : Rep E w i vi) : ∃ v, (Instr.index t vx vi).run P w = .ok v w ∧ Rep E w r v := by
  unfold indexA at h
  split at h
  · rename_i s k n hu
    cases hi
    cases hx with | str _ bs hs =>
    split at h
    · rename_i h0
      cases hg : s[n.toNat]? with
      | none => simp [hg] at h
      | some c =>
        simp [hg] at h; subst h
        refine ⟨.int .u8 c.toNat, ?_, .int _ _⟩
        have hb : bs[n.toNat]? = some c := by
          subst hs
          obtain ⟨hlt, e⟩ := List.getElem?_eq_some_iff.1 hg
          have hlt' : n.toNat < bs.size := by rw [size_data]; exact hlt
          rw [getElem?_pos bs n.toNat hlt']
          have : bs[n.toNat] = bs.data[n.toNat] := rfl
          rw [this]
          simpa using e
        simp [Instr.index, asIntOf, run_underlying hu, h0, hb]
    · cases h
  · cases h

theorem lenA_run {t ty : TypeId} {x r : AV} {vx : Value} (h : lenA P t x = some r) (hx : Rep E w x vx) : ∃ v, (Builtin.len_ #[t] ty #[vx]).run P w = .ok v w ∧ Rep E w r v := by
  unfold lenA at h
  split at h
  · rename_i s hu
    cases hx with | str _ bs hs =>
    simp at h; subst h; subst hs
    exact ⟨.int .i64 bs.size, by simp [Builtin.len_, run_underlying hu, goInt], by rw [size_data]; exact .int _ _⟩
  · rename_i sz es o hu
    obtain ⟨A, cap, rfl, _⟩ := rep_slice_shape hx
    simp at h; subst h
    exact ⟨.int .i64 es.length, by simp [Builtin.len_, run_underlying hu, goInt], .int _ _⟩
  · rename_i n _ hu
    simp at h; subst h
    exact ⟨.int .i64 n, by simp [Builtin.len_, run_underlying hu, goInt], .int _ _⟩
  · cases h

theorem bound_run {a : AV} {v : Value} {d l y : Nat} {code : BoundsCode} (h : boundA (some a) d = some l) (hr : Rep E w a v) (hl : l ≤ y) :
    (Instr.sliceBound v y code).run P w = .ok l w := by
  unfold boundA at h
  split at h
  · rename_i e; cases e
  · rename_i k n e
    cases e
    cases hr
    split at h
    · rename_i h0
      simp at h; subst h
      have h2 : n ≤ (y : Int) := by omega
      simp [Instr.sliceBound, asIntOf, h0, h2]
    · cases h
  · cases h

theorem str_take_drop {bs : ByteArray} {l h : Nat} : (bs.extract l h).data.toList = (bs.data.toList.take h).drop l := by
  rw [ByteArray.data_extract, Array.toList_extract, List.extract_eq_take_drop, List.drop_take]

/-- the bounds of a slice expression -/
theorem bounds_run {isS : Bool} {len cap : Nat} {lo hi mx : Option AV} {vlo vhi vmx : Option Value} {l h m : Nat}
    (rlo : ∀ a, lo = some a → ∃ v, vlo = some v ∧ Rep E w a v) (nlo : lo = none → vlo = none) (rhi : ∀ a, hi = some a → ∃ v, vhi = some v ∧ Rep E w a v) (nhi : hi = none → vhi = none)
    (rmx : ∀ a, mx = some a → ∃ v, vmx = some v ∧ Rep E w a v) (nmx : mx = none → vmx = none)
    (hl : boundA lo 0 = some l) (hh : boundA hi len = some h) (hm : boundA mx cap = some m) (h1 : l ≤ h) (h2 : h ≤ m) (h3 : m ≤ cap) (hsome : mx.isSome = true → hi.isSome = true) :
    (Instr.sliceBounds isS len cap vlo vhi vmx).run P w = .ok (l, h, m) w := by
  unfold Instr.sliceBounds
  cases mx with
  | none =>
    obtain rfl := nmx rfl
    obtain rfl : cap = m := by simpa [boundA] using hm
    cases hi with
    | none =>
      obtain rfl := nhi rfl
      obtain rfl : len = h := by simpa [boundA] using hh
      cases lo with
      | none =>
        obtain rfl := nlo rfl
        obtain rfl : 0 = l := by simpa [boundA] using hl
        simp
      | some a =>
        obtain ⟨v, rfl, hr⟩ := rlo a rfl
        simp [bound_run hl hr h1]
    | some b =>
      obtain ⟨u, rfl, hu⟩ := rhi b rfl
      cases lo with
      | none =>
        obtain rfl := nlo rfl
        obtain rfl : 0 = l := by simpa [boundA] using hl
        simp [bound_run hh hu h2]
      | some a =>
        obtain ⟨v, rfl, hr⟩ := rlo a rfl
        simp [bound_run hh hu h2, bound_run hl hr h1]
  | some c =>
    obtain ⟨x, rfl, hx⟩ := rmx c rfl
    cases hi with
    | none => cases hsome rfl
    | some b =>
      obtain ⟨u, rfl, hu⟩ := rhi b rfl
      cases lo with
      | none =>
        obtain rfl := nlo rfl
        obtain rfl : 0 = l := by simpa [boundA] using hl
        simp [bound_run hm hx h3, bound_run hh hu h2]
      | some a =>
        obtain ⟨v, rfl, hr⟩ := rlo a rfl
        simp [bound_run hm hx h3, bound_run hh hu h2, bound_run hl hr h1]

theorem sub_at {es : List AV} {l h i : Nat} {e : AV} (hi : ((es.take h).drop l)[i]? = some e) : es[l + i]? = some e := by
  rw [List.getElem?_drop, List.getElem?_take] at hi
  split at hi
  · exact hi
  · cases hi
theorem sub_length {es : List AV} {l h : Nat} (h2 : h ≤ es.length) : ((es.take h).drop l).length = h - l := by
  rw [List.length_drop, List.length_take]; omega
theorem sub_full {es : List AV} : ((es.take es.length).drop 0) = es := by simp

theorem rep_sub {sz : Nat} {es : List AV} {o o' : Own} {A : Option Addr} {cap l h m : Nat} (hr : Rep E w (.sl sz es o) (.slice A es.length cap)) (h1 : l ≤ h) (h2 : h ≤ es.length) (hm : h ≤ m) (hmc : m ≤ cap)
    (ho : OwnOk E.K o' (h - l) (m - l) (.slice (if m = l then A else A.map (·.add (l * sz))) (h - l) (m - l))) :
    Rep E w (.sl sz ((es.take h).drop l) o') (.slice (if m = l then A else A.map (·.add (l * sz))) (h - l) (m - l)) := by
  cases hr with | sl _ _ _ _ _ u hcap hmax hA hsz hcl ho' hr hone =>
  have hlen := sub_length (l := l) h2
  have := Rep.sl (E := E) (w := w) sz ((es.take h).drop l) o' (if m = l then A else A.map (·.add (l * sz))) (m - l) (fun i j => u (l + i) j) (by rw [hlen]; omega) (by omega) ?_ (fun e he => hsz e (by
      exact List.mem_of_mem_take (List.mem_of_mem_drop he))) (fun e he => hcl e (List.mem_of_mem_take (List.mem_of_mem_drop he))) (by rw [hlen]; exact ho) (fun i e j c hi hj => hr _ e j c (sub_at hi) hj) (fun i j => hone _ _)
  · rw [hlen] at this; exact this
  · by_cases hne : (es.take h).drop l = []
    · exact .inl hne
    · right
      have hlt : l < h := by
        rcases Nat.lt_or_ge l h with h' | h'
        · exact h'
        · exact absurd (List.eq_nil_of_length_eq_zero (by rw [hlen]; omega)) hne
      have hml : m ≠ l := by omega
      have hes : es ≠ [] := fun e => by subst e; simp at h2; omega
      obtain ⟨b, off, rfl, hA'⟩ := hA.resolve_left hes
      refine ⟨b, off + l * sz, by simp [hml, add_plain], fun i e j c hi hj => ?_⟩
      have := hA' _ e j c (sub_at hi) hj
      rw [Nat.add_mul, ← Nat.add_assoc] at this
      exact this

theorem sliceA_run {t : TypeId} {x r : AV} {vx : Value} {lo hi mx : Option AV} {vlo vhi vmx : Option Value}
    (rlo : ∀ a, lo = some a → ∃ v, vlo = some v ∧ Rep E w a v) (nlo : lo = none → vlo = none) (rhi : ∀ a, hi = some a → ∃ v, vhi = some v ∧ Rep E w a v) (nhi : hi = none → vhi = none)
    (rmx : ∀ a, mx = some a → ∃ v, vmx = some v ∧ Rep E w a v) (nmx : mx = none → vmx = none)
    (h : sliceA P t x lo hi mx = some r) (hx : Rep E w x vx) : ∃ v, (Instr.sliceAt t vx vlo vhi vmx).run P w = .ok v w ∧ Rep E w r v := by
  unfold sliceA at h
  split at h
  · rename_i s hu
    cases hx with | str _ bs hs =>
    subst hs
    split at h
    · rename_i l h' hl hh
      split at h
      · rename_i hc
        simp at h; subst h
        obtain rfl := nmx rfl
        have hb := bounds_run (P := P) (E := E) (w := w) (isS := false) (len := bs.size) (cap := bs.size) (mx := none) rlo nlo rhi nhi rmx nmx hl (by rw [size_data]; exact hh) rfl hc.1 (by rw [size_data]; exact hc.2) (Nat.le_refl _) (by simp)
        refine ⟨.string (bs.extract l h'), ?_, .str _ _ str_take_drop⟩
        simp [Instr.sliceAt, run_underlying hu, Instr.slice, hb]
      · cases h
    · cases h
  · rename_i e sz es o hu
    obtain ⟨A, cap, rfl, hcap⟩ := rep_slice_shape hx
    split at h
    · rename_i l h' s hl hh hs
      split at h
      · rename_i hc
        obtain ⟨h1, h2, hsz⟩ := hc
        have addr : ∀ m, h' ≤ m → (if m = l then A else A.map (·.add (l * s))) = (if m = l then A else A.map (·.add (l * sz))) := fun m hm => by
          rcases hsz with rfl | rfl
          · rfl
          · have : l = 0 := by simp at h2; omega
            subst this; simp
        split at h
        · simp at h; subst h
          obtain rfl := nmx rfl
          have hb := bounds_run (P := P) (E := E) (w := w) (isS := true) (len := es.length) (cap := cap) (mx := none) rlo nlo rhi nhi rmx nmx hl hh rfl h1 (by omega) (Nat.le_refl _) (by simp)
          refine ⟨_, by simp only [Instr.sliceAt, Sem.run_bind, run_underlying hu, Result.andThen_ok, Instr.slice, hb, run_sizeOf' hs, Sem.run_pure]; rfl, ?_⟩
          show Rep E w _ (.slice (if cap = l then A else A.map (·.add (l * s))) (h' - l) (cap - l))
          rw [addr cap (by omega)]
          refine rep_sub hx h1 h2 (by omega) (Nat.le_refl _) ?_
          unfold ownAfter
          cases hx with | sl _ _ _ _ _ u _ hmax hA hsz' _ ho hr hone =>
          cases o with
          | no => trivial
          | nil => trivial
          | full =>
            simp only [OwnOk] at ho
            simp only
            split
            · subst h'; simp [OwnOk, ho]
            · trivial
          | tok k =>
            simp only
            split
            · rename_i hh'
              obtain ⟨rfl, rfl⟩ := hh'
              simp only [OwnOk, Nat.sub_zero, Nat.zero_mul] at ho ⊢
              have : (if cap = 0 then A else A.map (·.add 0)) = A := by
                split
                · rfl
                · cases A <;> simp [Addr.add]
              rw [this]; exact ho
            · trivial
        · rename_i k m
          split at h
          · rename_i hc
            obtain ⟨hs', hm1, hm2⟩ := hc
            simp at h; subst h
            have hm' : boundA (some (.int k m)) cap = some m.toNat := by simp only [boundA]; rw [if_pos (by omega)]
            have hb := bounds_run (P := P) (E := E) (w := w) (isS := true) (len := es.length) (cap := cap) (mx := some (.int k m)) rlo nlo rhi nhi rmx nmx hl hh hm' h1 (by omega) (by omega) (fun _ => hs')
            refine ⟨_, by simp only [Instr.sliceAt, Sem.run_bind, run_underlying hu, Result.andThen_ok, Instr.slice, hb, run_sizeOf' hs, Sem.run_pure]; rfl, ?_⟩
            show Rep E w _ (.slice (if m.toNat = l then A else A.map (·.add (l * s))) (h' - l) (m.toNat - l))
            rw [addr m.toNat (by omega)]
            refine rep_sub hx h1 h2 (by omega) (by omega) ?_
            unfold ownAfter
            simp only
            split
            · rename_i e'; simp [OwnOk, e']
            · trivial
          · cases h
        · cases h
      · cases h
    · cases h
  · cases h
end
end Go.Abs
