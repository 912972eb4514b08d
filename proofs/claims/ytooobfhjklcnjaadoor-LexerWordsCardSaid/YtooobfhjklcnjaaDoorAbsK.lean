/-
  make, conversions, variables: the model's runs; one operation.
-/
import Derived.Test.YtooobfhjklcnjaaDoorAbsJ
import Derived.Laws.MakeOwn
namespace Go.Abs
open Go.RowKit

section
variable {P : Program} {E : Env} {w w' : World} {G : Glob} {N0 : Nat} {w0 : World} {I0 : Nat → Nat → Prop} {S : St}

theorem rep_int {k : IntKind} {n : Int} {v : Value} (h : Rep E w (.int k n) v) : v = .int k n := by cases h; rfl
theorem getElem!_lt {z : Array Value} {k : Nat} (h : k < z.size) : z[k]! = z[k] := by simp [h]

theorem makeSliceA_run (hS : SR P G N0 w0 I0 S E w) {t : TypeId} {l c r : AV} {S' : St} {vl vc : Value} (h : makeSliceA P S t l c = some (r, S')) (hl : Rep E w l vl) (hc : Rep E w c vc) :
    ∃ v w' E', (Instr.makeSlice t vl vc).run P w = .ok v w' ∧ SR P G N0 w0 I0 S' E' w' ∧ Env.Le E E' w w' ∧ Rep E' w' r v := by
  unfold makeSliceA at h
  split at h
  · rename_i e n m hu
    cases hl; cases hc
    split at h
    · rename_i i hi
      split at h
      · rename_i z hz
        split at h
        · rename_i hh
          obtain ⟨h0, hnm, hb, hzs, hs, hcl, hcells, hone⟩ := hh
          simp at h
          obtain ⟨rfl, rfl⟩ := h
          obtain ⟨n, rfl⟩ := Int.eq_ofNat_of_zero_le h0
          obtain ⟨m, rfl⟩ := Int.eq_ofNat_of_zero_le (show 0 ≤ m by omega)
          simp only [Int.toNat_natCast] at *
          have hnm' : n ≤ m := by omega
          have hb' : m * i.bytes + m ≤ 70368744177664 := by
            have : (m : Int) * ((i.bytes : Int) + 1) ≤ (70368744177664 : Nat) := hb
            rw [Int.mul_add] at this
            have e1 : (m : Int) * (i.bytes : Int) = ((m * i.bytes : Nat) : Int) := by simp
            omega
          have hb2 : (i.bytes : Int) * (m : Int) ≤ 281474976710656 := by
            have e1 : (i.bytes : Int) * (m : Int) = ((m * i.bytes : Nat) : Int) := by rw [Int.mul_comm]; simp
            omega
          have hrun := run_make (P := P) w t e i z hu hi hz .i64 .i64 n m h0 hnm hb2 (by omega)
          simp only [Int.toNat_natCast] at hrun
          rw [List.all_eq_true] at hone
          have hrow : ∀ k, k < m * i.size → (madeCells z.cells (m * i.size))[k]? = some (z.cells[k % i.size]!) := fun k hk => by
            simp [madeCells, hk, hzs]
          have hcr := (absV_rep (E := E) (w := w) z).cr (closed1_plain hcl)
          have hmod : ∀ k, k % i.size < z.cells.size := fun k => by rw [hzs]; exact Nat.mod_lt _ hs
          have hone' : ∀ k, (z.cells[k % i.size]!).oneCell' = true := fun k => by
            rw [getElem!_lt (hmod k)]
            exact hone _ (by simp)
          have hvals : Vals E w i.size (List.replicate n (absV z)) ((List.range (n * i.size)).map fun k => z.cells[k % i.size]!) := by
            refine ⟨by simp, fun a ha => by rw [(List.mem_replicate.1 ha).2]; exact hcells, fun a ha => by rw [(List.mem_replicate.1 ha).2]; exact hcl, fun u hu => ?_, fun k a j c' hk hj => ?_⟩
            · obtain ⟨k, _, rfl⟩ := List.mem_map.1 hu
              exact hone' k
            · have hk' : k < n := by have := (List.getElem?_eq_some_iff.1 hk).1; simpa using this
              rw [List.getElem?_replicate, if_pos hk'] at hk
              injection hk with hk; subst hk
              have hj' : j < i.size := by
                have := (List.getElem?_eq_some_iff.1 hj).1
                rw [hcells] at this; exact this
              have hlt : k * i.size + j < n * i.size := by
                have : (k + 1) * i.size ≤ n * i.size := Nat.mul_le_mul_right _ hk'
                rw [Nat.add_mul] at this; omega
              have e2 : (k * i.size + j) % i.size = j := by rw [Nat.mul_comm, Nat.mul_add_mod, Nat.mod_eq_of_lt hj']
              have hjz : j < z.cells.size := by omega
              refine ⟨z.cells[j], ?_, (hcr.2 j c' _ hj (Array.getElem?_eq_getElem hjz)).1⟩
              rw [List.getElem?_map, List.getElem?_range hlt]
              simp only [Option.map_some, e2, getElem!_lt hjz]
          have hown : (w.alloc (.cells (madeCells z.cells (m * i.size)) e)).ownsRow N0 e i.size (.slice (some ⟨w.heap.size, 0, none⟩) n m) n ((List.range (n * i.size)).map fun k => z.cells[k % i.size]!) := by
            refine ⟨by simp, .inr ⟨w.heap.size, m, _, rfl, hS.n0, heap_alloc_new w _, hnm', by simp only [maxLen]; omega, size_madeCells _ _, ?_⟩⟩
            apply List.ext_getElem?
            intro k
            by_cases hk : k < n * i.size
            · have hk2 : k < m * i.size := Nat.lt_of_lt_of_le hk (Nat.mul_le_mul_right _ hnm')
              rw [List.getElem?_take_of_lt hk, Array.getElem?_toList, hrow k hk2, List.getElem?_map, List.getElem?_range hk]
              rfl
            · rw [List.getElem?_eq_none (by rw [List.length_take]; omega), List.getElem?_eq_none (by simp; omega)]
          obtain ⟨hS', hL⟩ := hS.tok (w' := w.alloc (.cells (madeCells z.cells (m * i.size)) e)) S.live.length w.heap.size n i.size e (.slice (some ⟨w.heap.size, 0, none⟩) n m) _ (S.live ++ [(n, e)]) rfl rfl rfl (by simp)
            (fun b hb _ => heap_alloc_old w _ b hb) (fun o ho => absurd ho (I_lt_size hS o)) hS.n0 (by simp) (fun id hid => by have := (hS.Blt id _ hid).2.2.1; omega) (fun t' n'' v'' hk hb => by have := hS.Kb hk hb; omega)
            (fun o ho => absurd ho (I_lt_size hS o)) (fun n v hk => by
              obtain ⟨m, e', hm, _⟩ := hS.Klt _ _ _ hk
              rw [List.getElem?_eq_none (Nat.le_refl _)] at hm; cases hm) (by simp) (fun t' ht' => by
              by_cases hlt : t' < S.live.length
              · rw [List.getElem?_append_left hlt]
              · rw [List.getElem?_eq_none (by simp; omega), List.getElem?_eq_none (by omega)]) (by simp [sizeA, hi]) hown rfl
          refine ⟨_, _, _, hrun, hS', hL, ?_⟩
          have := (hvals.le hL).rep w.heap.size 0 m (.tok S.live.length) (by simpa using hnm') (by simp only [maxLen]; omega) (fun j u hj => by
            have hj' : j < n * i.size := by have := (List.getElem?_eq_some_iff.1 hj).1; simpa using this
            refine ⟨.inr ⟨rfl, by omega⟩, ?_⟩
            rw [List.getElem?_map, List.getElem?_range hj'] at hj
            simp only [Option.map_some, Option.some.injEq] at hj
            subst hj
            rw [Nat.zero_add, World.cell?_alloc_new]
            exact hrow j (Nat.lt_of_lt_of_le hj' (Nat.mul_le_mul_right _ hnm'))) (by simp only [List.length_replicate]; exact .inr ⟨rfl, rfl, rfl⟩)
          rw [List.length_replicate] at this
          exact this
        · cases h
      · cases h
    · cases h
  · cases h

theorem mapM_bytes : ∀ (es : List AV) (l : List UInt8), es.mapM byteOf = some l → l.length = es.length ∧ ∀ (i : Nat) (e : AV), es[i]? = some e → ∃ n, e = .int .u8 n ∧ l[i]? = some (UInt8.ofNat n.toNat)
  | [], l, h => by simp at h; subst h; simp
  | e :: es, l, h => by
    rw [List.mapM_cons] at h
    cases he : byteOf e with
    | none => simp [he] at h
    | some b =>
      cases hr : es.mapM byteOf with
      | none => simp [he, hr] at h
      | some l' =>
        simp [he, hr] at h
        subst h
        obtain ⟨h1, h2⟩ := mapM_bytes es l' hr
        refine ⟨by simp [h1], fun i e' hi => ?_⟩
        match i, hi with
        | 0, hi =>
          simp at hi; subst hi
          unfold byteOf at he
          split at he
          · simp at he; subst he; exact ⟨_, rfl, by simp⟩
          · cases he
        | i + 1, hi => simpa using h2 i e' (by simpa using hi)

theorem foldl_push : ∀ (l : List UInt8) (r : ByteArray), l.foldl (fun r b => r.push b) r = ⟨r.data ++ l.toArray⟩
  | [], r => by simp
  | b :: l, r => by simp only [List.foldl_cons]; rw [foldl_push l]; simp [ByteArray.push]

theorem bytes_of_cells {src dst e : TypeId} {A : Option Addr} {sz cap : Nat} {es : List AV} {o : Own} {l : List UInt8} (hs : P.underlying src = some (.slice e)) (he : P.underlying e = some (.int .u8)) (hd : P.underlying dst = some .string)
    (hx : Rep E w (.sl sz es o) (.slice A es.length cap)) (hz : sz = 1 ∨ es = []) (h : es.mapM byteOf = some l) : (convert src dst (.slice A es.length cap)).run P w = .ok (.string ⟨l.toArray⟩) w := by
  obtain ⟨hl, hb⟩ := mapM_bytes es l h
  rw [run_convert_bytes_string w src dst e A es.length cap hs he hd]
  cases hx with | sl _ _ _ _ _ u hcap hmax hA hsz hcl ho hr hone =>
  cases A with
  | none =>
    have he : es = [] := by
      rcases hA with hA | ⟨b, off, e, _⟩
      · exact hA
      · cases e
    subst he
    have : l = [] := List.eq_nil_of_length_eq_zero (by simpa using hl)
    subst this
    simp [Conv.bytesToString]
    rfl
  | some a =>
    let ns : List Int := es.map fun e => match e with | .int _ n => n | _ => 0
    have hns : (loadCells a es.length).run P w = .ok (ns.map (Value.int .u8)).toArray w := by
      have := run_loadCells_list (P := P) w a (ns.map (Value.int .u8)) (fun j v hj => by
        have hjl : j < es.length := by have := (List.getElem?_eq_some_iff.1 hj).1; simpa [ns] using this
        have hne : es ≠ [] := fun e => by subst e; simp at hjl
        obtain rfl := hz.resolve_right hne
        obtain ⟨b, off, e, hA'⟩ := hA.resolve_left hne
        injection e with e; subst e
        obtain ⟨n, hn, _⟩ := hb j _ (List.getElem?_eq_getElem hjl)
        have h1 := hA' j _ 0 _ (List.getElem?_eq_getElem hjl) (show es[j].cells[0]? = some es[j] by rw [hn]; rfl)
        have h2 := hr j _ 0 _ (List.getElem?_eq_getElem hjl) (show es[j].cells[0]? = some es[j] by rw [hn]; rfl)
        rw [hn] at h2
        have h3 : u j 0 = .int .u8 n := rep_int h2
        rw [add_plain]
        have h4 := h1.2
        simp only [Nat.mul_one, Nat.add_zero] at h4
        rw [h4, h3]
        rw [List.getElem?_map, List.getElem?_map, List.getElem?_eq_getElem hjl] at hj
        simp only [Option.map_some, Option.some.injEq, hn] at hj
        rw [hj])
      simpa [ns] using this
    rw [run_bytesToString w a es.length cap ns hns]
    have e1 : ns.foldl (fun r n => r.push (UInt8.ofNat n.toNat)) ByteArray.empty = l.foldl (fun r b => r.push b) ByteArray.empty := by
      have : l = ns.map fun n => UInt8.ofNat n.toNat := by
        apply List.ext_getElem?
        intro i
        rw [List.getElem?_map, List.getElem?_map]
        cases hi : es[i]? with
        | none =>
          have : ¬ i < l.length := by rw [hl]; intro h'; rw [List.getElem?_eq_getElem h'] at hi; cases hi
          rw [List.getElem?_eq_none (by omega)]; rfl
        | some e =>
          obtain ⟨n, hn, h3⟩ := hb i e hi
          subst hn
          rw [h3]; rfl
      rw [this]; exact (List.foldl_map ..).symm
    rw [e1, foldl_push]
    have he0 : ByteArray.empty.data = #[] := rfl
    rw [he0]
    simp

theorem convertA_run (hS : SR P G N0 w0 I0 S E w) {src dst : TypeId} {x r : AV} {vx : Value} (h : convertA P src dst x = some r) (hx : Rep E w x vx) :
    ∃ v w' E', (convert src dst vx).run P w = .ok v w' ∧ SR P G N0 w0 I0 S E' w' ∧ Env.Le E E' w w' ∧ Rep E' w' r v := by
  unfold convertA at h
  split at h
  · rename_i d k k' n hs hd
    cases hx
    simp at h; subst h
    exact ⟨_, w, E, by simp [convert, run_underlying hs, run_underlying hd, Conv.intToInt], hS, Env.Le.refl _ _, .int _ _⟩
  · cases h
  · rename_i s hs hd
    cases hx with | str _ bs hb =>
    simp at h; subst h
    exact ⟨_, w, E, by simp [convert, run_underlying hs, run_underlying hd], hS, Env.Le.refl _ _, .str _ _ hb⟩
  · rename_i e s hs hd
    split at h
    · rename_i he
      split at h
      case isFalse => cases h
      rename_i hroom
      simp at h; subst h
      cases hx with | str _ bs hb =>
      subst hb
      have hmx : grownCap w bs.size 0 e ≤ maxLen := grownCap_le_maxLen w bs.size 0 e (by rw [size_data]; simp only [maxLen]; omega)
      have hrun := run_bytes_of_string (P := P) w src dst e bs hs hd he
      obtain ⟨hS', hL⟩ := hS.ext (w' := w.drew.alloc (.cells (bytesRow bs (grownCap w bs.size 0 e)) e ((bytesRow bs (grownCap w bs.size 0 e)).size, (bytesRow bs (grownCap w bs.size 0 e)).size + 1)))
        ((below_drew w).trans ((below_alloc w.drew _).mono (Nat.le_refl _))) (I' := fun b o => E.I b o ∨ b = w.heap.size) (fun b o h => .inl h) (fun b o h => h.imp id fun e => by subst e; simp)
      have hl : (bs.data.toList.map fun c => AV.int .u8 c.toNat).length = bs.size := by rw [List.length_map, size_data]
      have hv : Vals ⟨fun b o => E.I b o ∨ b = w.heap.size, E.B, E.K⟩ (w.drew.alloc (.cells (bytesRow bs (grownCap w bs.size 0 e)) e ((bytesRow bs (grownCap w bs.size 0 e)).size, (bytesRow bs (grownCap w bs.size 0 e)).size + 1))) 1 (bs.data.toList.map fun c => AV.int .u8 c.toNat) (byteCells bs) := by
        refine ⟨by rw [byteCells_length, hl, Nat.mul_one], fun e he => ?_, fun e he => ?_, fun u hu => ?_, fun i e j c hi hj => ?_⟩
        · obtain ⟨_, _, rfl⟩ := List.mem_map.1 he; rfl
        · obtain ⟨_, _, rfl⟩ := List.mem_map.1 he; rfl
        · obtain ⟨_, _, rfl⟩ := List.mem_map.1 hu; rfl
        · rw [List.getElem?_map] at hi
          cases hk : bs.data.toList[i]? with
          | none => simp [hk] at hi
          | some b =>
            simp only [hk, Option.map_some, Option.some.injEq] at hi
            subst hi
            match j, hj with
            | 0, hj =>
              simp only [AV.cells, List.getElem?_cons_zero, Option.some.injEq] at hj
              subst hj
              refine ⟨.int .u8 b.toNat, ?_, .int _ _⟩
              simp [byteCells] at hk ⊢
              exact ⟨b, hk, rfl⟩
            | j + 1, hj => simp [AV.cells] at hj
      have hge := grownCap_ge w bs.size 0 e
      refine ⟨_, _, _, hrun, hS', hL, ?_⟩
      have := hv.rep w.heap.size 0 (grownCap w bs.size 0 e) .no (by rw [hl]; exact hge) hmx (fun j u hj => by
        refine ⟨.inr rfl, ?_⟩
        rw [Nat.zero_add, cell_of_row _ w.heap.size j _ e _ (heap_alloc_new w.drew _)]
        unfold bytesRow
        unfold byteCells at hj
        have hj' : j < bs.data.size := by have := (List.getElem?_eq_some_iff.1 hj).1; simpa using this
        rw [Array.getElem?_append_left (by simpa using hj')]
        simpa using hj) trivial
      rw [hl] at this
      exact this
    · cases h
  · rename_i e sz es o hs hd
    split at h
    · rename_i he
      split at h
      · rename_i hz
        cases hm : es.mapM byteOf with
        | none => simp [hm] at h
        | some l =>
          simp [hm] at h; subst h
          obtain ⟨A, cap, rfl, _⟩ := rep_slice_shape hx
          exact ⟨_, w, E, bytes_of_cells hs he hd hx hz hm, hS, Env.Le.refl _ _, .str _ _ (by simp)⟩
      · cases h
    · cases h
  · cases h
end
end Go.Abs
