/- Own texts, part 6. -/
import Derived.Test.YtpijifiekgbjnaaGreatDoorPart5
import Derived.Test.YtpijifiekgbjnaaGreatDoorPart4
import Derived.Lib.IndexBytes

namespace Go.Abs
open Go.Proofs Go.RowKit Go.Wire
theorem s86_at {bs : List UInt8} {c : Int} {o : Own} (h : strOk bs) (hn : u32Ok c) : s86 [.int .u32 c, .sl 1 (bytesL bs) o] = some (.int .u32 (extC c bs), []) := by
  simp only [s86, onBytes, unBytes_mk, true_or, if_true, h, hn, and_self]
theorem s57_at {bs : List UInt8} {o : Own} (h : strOk bs) : s57 [.sl 1 (bytesL bs) o] = some (.int .u32 (extC 0 bs), []) := by
  simp only [s57, onBytes, unBytes_mk, true_or, if_true, h]
theorem p57 (m : Int) (bs : List UInt8) (hs : strOk bs) : PureOk PZ (GZ m) XC (tbl [(86, s86)]) (itbl []) nAn [] 57 [bytesA bs] (.int .u32 (extC 0 bs), []) := by
  constructor
  rw [w57, tbl_hit, s86_at hs (by decide)]
  exact ⟨_, ⟨rfl⟩, ⟨rfl⟩⟩
theorem byteU (n : Int) : IntKind.u8.wrap n = ((UInt8.ofNat (IntKind.u8.wrap n).toNat).toNat : Int) := byteOf_int n
theorem p25 (m : Int) (bs cs : List UInt8) (hs : strOk bs) (hc : strOk cs) : PureOk PZ (GZ m) XC (tbl [(56, s56), (57, s57)]) (itbl []) nAn [] 25 [bytesA bs, bytesA cs] (ownR (bs ++ frameL cs)) := by
  have h1 : bs.length ≤ 1000000 := hs
  have h2 : cs.length ≤ 1000000 := hc
  have h3 := uintL_len10 (n := cs.length) (by omega)
  constructor
  generalize hr : bs ++ frameL cs = r
  rw [w25, bytesL_length, wrapu64_len hc, tbl_hit, s56_at hs (u64Ok_nat (by omega)), Int.toNat_natCast]
  refine ⟨bytesL (bs ++ uintL cs.length), own_call rfl, .inl rfl, ?_, rfl, _, by rw [tbl_miss (by decide), tbl_hit, s57_at hc]; exact ⟨rfl⟩, by omega, by omega, by omega, .inl rfl, ?_, ?_, ?_, ?_⟩
  · simp only [bytesL_length, List.length_append]; omega
  · simp only [bytesL_length, List.length_append]; omega
  · simp only [bytesL_length, List.length_append]
  · simp only [bytesL_length, List.length_append, List.length_cons, List.length_nil]
  · have he : bytesL (bs ++ uintL cs.length) ++ bytesL cs ++ [AV.int IntKind.u8 (IntKind.u8.wrap (extC 0 cs)), AV.int IntKind.u8 (IntKind.u8.wrap ((extC 0 cs).fdiv 256)), AV.int IntKind.u8 (IntKind.u8.wrap ((extC 0 cs).fdiv 65536)), AV.int IntKind.u8 (IntKind.u8.wrap ((extC 0 cs).fdiv 16777216))] = bytesL r := by
      rw [← hr, frameL, show bs ++ (uintL cs.length ++ (cs ++ le4 (extC 0 cs))) = ((bs ++ uintL cs.length) ++ cs) ++ le4 (extC 0 cs) by simp, bytesL_append ((bs ++ uintL cs.length) ++ cs), bytesL_append (bs ++ uintL cs.length) cs]
      congr 1
      unfold le4 bytesL
      simp only [List.map_cons, List.map_nil, ← byteU]
    rw [he]
    refine ⟨?_⟩
    have hl : (bytesL (bs ++ uintL cs.length) ++ bytesL cs).length + 4 = r.length := by
      rw [← hr]; simp [bytesL, frameL, le4]; omega
    rw [hl]
theorem o86 (m : Int) : SpecOk PZ (GZ m) 86 s86 := spec_ofW (X := XC) (m := []) [0, 1] mixedZ (tbl_cons (o104 m) tbl_nil) itbl_nil fun args r h' => by
  unfold s86 onBytes at h'
  split at h'
  · split at h'
    · rename_i hz
      split at h'
      · rename_i bs hb
        dsimp only at h'
        split at h'
        · rename_i hp
          injection h' with h'; subst h'
          simp only [wkL, wk1 hz hb]
          exact ⟨_, p86 m _ _ hp.1⟩
        · cases h'
      · cases h'
    · cases h'
  · cases h'
theorem o57 (m : Int) : SpecOk PZ (GZ m) 57 s57 := spec_ofW (X := XC) (m := []) [1] mixedZ (tbl_cons (o86 m) tbl_nil) itbl_nil fun args r h' => by
  unfold s57 onBytes at h'
  split at h'
  · split at h'
    · rename_i hz
      split at h'
      · rename_i bs hb
        dsimp only at h'
        split at h'
        · rename_i hp
          injection h' with h'; subst h'
          simp only [wkL, wk1 hz hb]
          exact ⟨_, p57 m _ hp⟩
        · cases h'
      · cases h'
    · cases h'
  · cases h'
theorem o25 (m : Int) : SpecOk PZ (GZ m) 25 s25 := spec_ofW (X := XC) (m := []) [1, 1] mixedZ (tbl_cons (o56 m) (tbl_cons (o57 m) tbl_nil)) itbl_nil fun args r h' => by
  unfold s25 onBytes at h'
  split at h'
  · split at h'
    · rename_i hz
      split at h'
      · rename_i bs hb
        dsimp only at h'
        split at h'
        · rename_i cs hb'
          split at h'
          · rename_i hp
            injection h' with h'; subst h'
            simp only [wkL, wk1 hz.1 hb, wk1 hz.2 hb']
            exact ⟨_, p25 m _ _ hp.1 hp.2⟩
          · cases h'
        · cases h'
      · cases h'
    · cases h'
  · cases h'
end Go.Abs

namespace Go.Abs
open Go.Proofs Go.RowKit Go.Wire Go.Proofs.Z05
theorem mk_bytes {E : Env} {w : World} {bb o v cap : Nat} {cs : List UInt8} (hl : cs.length = v) (hcap : v ≤ cap) (hmax : cap ≤ maxLen) (h : ∀ j, j < v → E.I bb (o + j) ∧ w.cell? ⟨bb, o + j, none⟩ = some (.int .u8 (cs.getD j 0).toNat)) :
    Rep E w (.sl 1 (bytesL cs) .no) (.slice (some ⟨bb, o, none⟩) v cap) := by
  have hlen : (bytesL cs).length = v := by rw [bytesL_length]; exact hl
  rw [← hlen]
  have hget : ∀ (i : Nat) (e : AV) (j : Nat) (c : AV), (bytesL cs)[i]? = some e → e.cells[j]? = some c → i < v ∧ j = 0 ∧ e = .int .u8 (cs.getD i 0).toNat ∧ c = e := by
    intro i e j c h1 h2
    have hi : i < (bytesL cs).length := (List.getElem?_eq_some_iff.1 h1).1
    unfold bytesL at h1
    rw [List.getElem?_map] at h1
    have hi' : i < cs.length := by omega
    rw [List.getElem?_eq_getElem hi', Option.map_some, Option.some.injEq] at h1
    subst h1
    match j, h2 with
    | 0, h2 => simp [AV.cells] at h2; subst h2; exact ⟨by omega, rfl, by simp [hi'], rfl⟩
    | j + 1, h2 => simp [AV.cells] at h2
  refine .sl 1 (bytesL cs) .no (some ⟨bb, o, none⟩) cap (fun i _ => .int .u8 (cs.getD i 0).toNat) (by omega) hmax (.inr ⟨bb, o, rfl, fun i e j c h1 h2 => ?_⟩) (fun e he => ?_) (fun e he => ?_) trivial (fun i e j c h1 h2 => ?_) fun i j => rfl
  · obtain ⟨hi, rfl, _, _⟩ := hget i e j c h1 h2
    simpa using h i hi
  · unfold bytesL at he; simp at he; obtain ⟨b, _, rfl⟩ := he; rfl
  · unfold bytesL at he; simp at he; obtain ⟨b, _, rfl⟩ := he; rfl
  · obtain ⟨hi, rfl, rfl, rfl⟩ := hget i e j c h1 h2
    exact .int _ _
theorem sum_calls (m : Int) {E : Env} {w : World} {bb o v cap : Nat} {cs : List UInt8} (hl : cs.length = v) (hcap : v ≤ cap) (hmax : cap ≤ maxLen) (hs : strOk cs) (hI : ∀ b o, E.I b o → b < w.heap.size) (hG : GlobOk (GZ m) E w)
    (h : ∀ j, j < v → E.I bb (o + j) ∧ w.cell? ⟨bb, o + j, none⟩ = some (.int .u8 (cs.getD j 0).toNat)) :
    Calls PZ 57 #[.slice (some ⟨bb, o, none⟩) v cap] w fun e w' => e = .returned (.int .u32 (extC 0 cs)) ∧ Below w.heap.size w w' := by
  refine (spec_calls (E := E) (o57 m) (goodZ (by kernel_rfl)) (s57_at (o := .no) hs) hI hG rfl (one_arg (mk_bytes hl hcap hmax h)) (by simp [AV.closed1, AV.closed])).mono ?_
  rintro e w1 ⟨v, rfl, hb1, I', hr⟩
  obtain rfl := rep_int (hr (fun _ => none) (fun _ _ _ => False))
  exact ⟨rfl, hb1⟩
set_option maxHeartbeats 4000000 in
set_option maxRecDepth 100000 in
theorem frame_in (m : Int) {E : Env} (bb off c a : Nat) (bs pre cs : List UInt8) (w : World) (he : bs = pre ++ frameL cs) (ha : a = pre.length) (hn : (bs.length : Int) ≤ 1000000000000) (h8 : cs.length ≤ 8192) (hnc : bs.length ≤ c) (hcm : c ≤ maxLen) (hbb : bb < w.heap.size)
    (hI : ∀ b o, E.I b o → b < w.heap.size) (hG : GlobOk (GZ m) E w)
    (hc : ∀ j, j < bs.length → E.I bb (off + j) ∧ w.cell? ⟨bb, off + j, none⟩ = some (.int .u8 (bs.getD j 0).toNat)) :
    Calls PZ 26 #[.slice (some ⟨bb, off, none⟩) bs.length c, .int .i64 (a : Int)] w fun e w' => e = .returned (.tuple #[.slice (some ⟨bb, off + (a + (uintL cs.length).length), none⟩) cs.length cs.length, .int .i64 bs.length, .int .i64 0]) ∧ Below w.heap.size w w' := by
  have hlen : bs.length = a + (uintL cs.length).length + cs.length + 4 := by rw [he, ha]; simp [frameL, le4]; omega
  have hdrop : bs.drop a = uintL cs.length ++ (cs ++ le4 (extC 0 cs)) := by rw [he, ha, List.drop_left]; rfl
  have hU : uintP 10 (bs.drop a) = .ok (cs.length, (uintL cs.length).length) := by
    rw [hdrop]; exact uintP_uintL 9 cs.length _ (Nat.lt_of_le_of_lt h8 (by decide)) (fun h => absurd h (by decide))
  have hget1 : ∀ j, j < cs.length → bs.getD (a + (uintL cs.length).length + j) 0 = cs.getD j 0 := fun j hj => by
    rw [he, ha, frameL]
    simp only [List.getD_eq_getElem?_getD]
    rw [List.getElem?_append_right (by omega), List.getElem?_append_right (by omega), List.getElem?_append_left (by omega)]
    congr 2
    omega
  have hget2 : ∀ j, j < 4 → bs.getD (a + (uintL cs.length).length + cs.length + j) 0 = (le4 (extC 0 cs)).getD j 0 := fun j hj => by
    rw [he, ha, frameL]
    simp only [List.getD_eq_getElem?_getD]
    rw [List.getElem?_append_right (by omega), List.getElem?_append_right (by omega), List.getElem?_append_right (by omega)]
    congr 2
    omega
  clear he ha hdrop
  generalize hul : (uintL cs.length).length = ul at *
  clear hul
  obtain ⟨n, hlb⟩ : ∃ n, bs.length = n := ⟨_, rfl⟩
  obtain ⟨v, hlv⟩ : ∃ v, cs.length = v := ⟨_, rfl⟩
  rw [hlv] at hget1 hget2 hU h8 hlen ⊢
  rw [hlb] at hlen hn hnc hc ⊢
  have hle1 : n ≤ a + ul + v + 4 := by omega
  have hle2 : a + ul + v + 4 ≤ n := by omega
  clear hlen
  have hmf : ∀ (fn : Fn) (first cap : Array Value) (w : World), (Instr.makeFunc fn first cap).run PZ w = .ok (.func fn first cap) w := fun _ _ _ _ => rfl
  go_enter_defers Tryz.func26, Tryz.ntmps26
  go_wp2_with fail
  refine (open_ok (some ⟨bb, off, none⟩) n c a (by omega) (by omega) _).mono ?_
  rintro e w1 ⟨rfl, rfl⟩
  go_wp2_with fail
  have hbl : Below w.heap.size w (((w.alloc (Obj.cells #[Value.int IntKind.i64 0] 3)).alloc (Obj.cells #[Value.int IntKind.i64 0] 29)).alloc (Obj.cells #[Value.slice (some { block := bb, off := off }) n c, Value.int IntKind.i64 (a : Int)] 88)) :=
    (((Below.refl w.heap.size w).alloc (Nat.le_refl _) _).alloc (by simp [go_sem]) _).alloc (by simp [go_sem]; omega) _
  have hp : (((w.alloc (Obj.cells #[Value.int IntKind.i64 0] 3)).alloc (Obj.cells #[Value.int IntKind.i64 0] 29)).alloc (Obj.cells #[Value.slice (some { block := bb, off := off }) n c, Value.int IntKind.i64 (a : Int)] 88)).cell? ⟨w.heap.size, 0, none⟩ = some (.int .i64 0) := by simp [go_sem]
  have hq : (((w.alloc (Obj.cells #[Value.int IntKind.i64 0] 3)).alloc (Obj.cells #[Value.int IntKind.i64 0] 29)).alloc (Obj.cells #[Value.slice (some { block := bb, off := off }) n c, Value.int IntKind.i64 (a : Int)] 88)).cell? ⟨w.heap.size + 1, 0, none⟩ = some (.int .i64 0) := by simp [go_sem]
  have fp : (((w.alloc (Obj.cells #[Value.int IntKind.i64 0] 3)).alloc (Obj.cells #[Value.int IntKind.i64 0] 29)).alloc (Obj.cells #[Value.slice (some { block := bb, off := off }) n c, Value.int IntKind.i64 (a : Int)] 88)).frozen? ⟨w.heap.size, 0, none⟩ = false := by simp [go_sem]
  have fq : (((w.alloc (Obj.cells #[Value.int IntKind.i64 0] 3)).alloc (Obj.cells #[Value.int IntKind.i64 0] 29)).alloc (Obj.cells #[Value.slice (some { block := bb, off := off }) n c, Value.int IntKind.i64 (a : Int)] 88)).frozen? ⟨w.heap.size + 1, 0, none⟩ = false := by simp [go_sem]
  have hrd : Rdr (w.heap.size + 1 + 1) bb off n c a (((w.alloc (Obj.cells #[Value.int IntKind.i64 0] 3)).alloc (Obj.cells #[Value.int IntKind.i64 0] 29)).alloc (Obj.cells #[Value.slice (some { block := bb, off := off }) n c, Value.int IntKind.i64 (a : Int)] 88)) := ⟨by simp [go_sem], by simp [go_sem], by simp [go_sem]⟩
  have hsz3 : (((w.alloc (Obj.cells #[Value.int IntKind.i64 0] 3)).alloc (Obj.cells #[Value.int IntKind.i64 0] 29)).alloc (Obj.cells #[Value.slice (some { block := bb, off := off }) n c, Value.int IntKind.i64 (a : Int)] 88)).heap.size = w.heap.size + 1 + 1 + 1 := by simp [go_sem]
  generalize (((w.alloc (Obj.cells #[Value.int IntKind.i64 0] 3)).alloc (Obj.cells #[Value.int IntKind.i64 0] 29)).alloc (Obj.cells #[Value.slice (some { block := bb, off := off }) n c, Value.int IntKind.i64 (a : Int)] 88)) = w3 at *
  have hcc : ∀ j, j < n → w3.cell? ⟨bb, off + j, none⟩ = some (.int .u8 (bs.getD j 0).toNat) := fun j hj => (hbl.cell (by exact hbb)).trans (hc j hj).2
  refine (number_rd (w.heap.size + 1 + 1) bb off n c a bs w3 (by omega) hn hnc hlb (by omega) hcc hrd).mono ?_
  rintro e w4 ⟨hb4, he4⟩
  have hp4 := (hb4.cell (p := ⟨w.heap.size, 0, none⟩) (by show w.heap.size < _; omega)).trans hp
  have hq4 := (hb4.cell (p := ⟨w.heap.size + 1, 0, none⟩) (by show w.heap.size + 1 < _; omega)).trans hq
  have fp4 := (hb4.frozen (p := ⟨w.heap.size, 0, none⟩) (by show w.heap.size < _; omega)).trans fp
  have fq4 := (hb4.frozen (p := ⟨w.heap.size + 1, 0, none⟩) (by show w.heap.size + 1 < _; omega)).trans fq
  have hc4 : ∀ j, j < n → w4.cell? ⟨bb, off + j, none⟩ = some (.int .u8 (bs.getD j 0).toNat) := fun j hj => (hb4.cell (p := ⟨bb, off + j, none⟩) (by show bb < _; omega)).trans (hcc j hj)
  have hb5 := hbl.trans (hb4.mono (by omega))
  have hsz4 := hb4.size
  clear hbl hp hq fp fq hrd hcc hb4
  rw [num_in, hU] at he4
  obtain ⟨rfl, hr4⟩ := he4
  go_wp2_with fail
  refine (take_rd (w.heap.size + 1 + 1) bb off n c ((a + ul : Nat) : Int) ((v : Int) + 4) w4 (by omega) (by omega) hn hnc (by omega) (by omega) hr4).mono ?_
  rintro e w5 ⟨o, hs, rfl, hr5, hb45⟩
  have ho : o = off + (a + ul) := by
    rcases hs with hs | hs <;> omega
  subst ho
  have hk : ((v : Int) + 4).toNat = v + 4 := by omega
  rw [hk]
  have hp5 := (hb45.cell (p := ⟨w.heap.size, 0, none⟩) (by show w.heap.size < _; omega)).trans hp4
  have hq5 := (hb45.cell (p := ⟨w.heap.size + 1, 0, none⟩) (by show w.heap.size + 1 < _; omega)).trans hq4
  have fp5 := (hb45.frozen (p := ⟨w.heap.size, 0, none⟩) (by show w.heap.size < _; omega)).trans fp4
  have fq5 := (hb45.frozen (p := ⟨w.heap.size + 1, 0, none⟩) (by show w.heap.size + 1 < _; omega)).trans fq4
  have hc5 : ∀ j, j < n → w5.cell? ⟨bb, off + j, none⟩ = some (.int .u8 (bs.getD j 0).toNat) := fun j hj => (hb45.cell (p := ⟨bb, off + j, none⟩) (by show bb < _; omega)).trans (hc4 j hj)
  have hb6 := hb5.trans (hb45.mono (by omega))
  have hsz5 := hb45.size
  have hG5 := hG.le (le_below hb6 hI)
  clear hp4 hq4 fp4 fq4 hc4 hb45 hs hr4 hb5 hG hk
  go_wp2_with fail
  refine (sum_calls m (E := E) (bb := bb) (o := off + (a + ul)) (v := v) (cap := v + 4) (cs := cs) hlv (by omega) (by omega) (by show cs.length ≤ 1000000; omega) (fun b o h => by have := hI b o h; omega) hG5 (fun j hj => ?_)).mono ?_
  · have h1 := hc (a + ul + j) (by omega)
    have h2 := hc5 (a + ul + j) (by omega)
    rw [hget1 j hj] at h2
    rw [show off + (a + ul) + j = off + (a + ul + j) by omega]
    exact ⟨h1.1, h2⟩
  rintro e w6 ⟨rfl, hb56⟩
  have hp6 := (hb56.cell (p := ⟨w.heap.size, 0, none⟩) (by show w.heap.size < _; omega)).trans hp5
  have hq6 := (hb56.cell (p := ⟨w.heap.size + 1, 0, none⟩) (by show w.heap.size + 1 < _; omega)).trans hq5
  have fp6 := (hb56.frozen (p := ⟨w.heap.size, 0, none⟩) (by show w.heap.size < _; omega)).trans fp5
  have fq6 := (hb56.frozen (p := ⟨w.heap.size + 1, 0, none⟩) (by show w.heap.size + 1 < _; omega)).trans fq5
  have hx6 : w6.cell? ⟨w.heap.size + 1 + 1, 1, none⟩ = some (.int .i64 n) := by
    rw [hb56.cell (p := ⟨w.heap.size + 1 + 1, 1, none⟩) (by show w.heap.size + 1 + 1 < _; omega), hr5.at_]
    congr 2; omega
  have hb7 := hb6.trans (hb56.mono (by omega))
  have hcell : ∀ j, j < 4 → w6.cell? ⟨bb, off + (a + ul) + (v + j), none⟩ = some (.int .u8 ((le4 (extC 0 cs)).getD j 0).toNat) := fun j hj => by
    rw [hb56.cell (p := ⟨bb, off + (a + ul) + (v + j), none⟩) (by show bb < _; omega), show off + (a + ul) + (v + j) = off + (a + ul + v + j) by omega, hc5 _ (by omega), hget2 j hj]
  have hx0 : 0 ≤ extC 0 cs ∧ extC 0 cs < 4294967296 := by
    have : ∀ y, 0 ≤ notC y ∧ notC y < 4294967296 := fun y => by
      have : notC y = IntKind.u32.wrap (notC y) := by unfold notC bits; simp [IntKind.wrap, IntKind.signed, IntKind.bits]
      rw [this]; simp [IntKind.wrap, IntKind.signed, IntKind.bits]; omega
    exact this _
  have hv0 := hcell 0 (by omega)
  have hv1 := hcell 1 (by omega)
  have hv2 := hcell 2 (by omega)
  have hv3 := hcell 3 (by omega)
  clear hcell hc5 hp5 hq5 fp5 fq5 hb56 hr5 hb6 hG5 hc hget1 hget2 hU
  simp only [le4, List.getD_cons_zero, List.getD_cons_succ, ← byteU, Nat.add_zero] at hv0 hv1 hv2 hv3
  rw [Int.fdiv_eq_ediv_of_nonneg _ (by omega)] at hv1 hv2 hv3
  generalize extC 0 cs = x at *
  go_wp2_with fail
  all_goals first
    | (exfalso; rename_i hbad; simp at hbad; omega)
    | skip
  go_region
  go_wp2_with fail
  refine leaves_cons (f := 58) (args := #[.pointer (some ⟨w.heap.size, 0, none⟩), .pointer (some ⟨w.heap.size + 1, 0, none⟩)]) (by simp) (by simp [go_sem]) ?_
  refine (caught_idle ⟨w.heap.size, 0, none⟩ ⟨w.heap.size + 1, 0, none⟩ _).mono ?_
  rintro e u' w'' ⟨rfl, rfl, rfl⟩
  simp [Leaves, settle, results, Tryz.results26, go_sem, hp6, hq6]
  exact (((hb7.setCell (Nat.le_refl _) _).setCell (by simp) _).drew)
/-- the payload of a frame that is whole and ends the bytes -/
def frR (bs : List UInt8) (a : Nat) : Option (List UInt8) := match uintP 10 (bs.drop a) with
  | .ok (v, mm) => if v ≤ 8192 ∧ a ≤ bs.length ∧ bs = bs.take a ++ frameL ((bs.drop (a + mm)).take v) then some ((bs.drop (a + mm)).take v) else none
  | .error _ => none
def s26 : Spec := fun args => match args with
  | [.sl sz es _, .int .i64 at_] => if sz = 1 ∨ es = [] then onBytes es fun bs => if strOk bs ∧ 0 ≤ at_ then (frR bs at_.toNat).map fun cs => (.tup [bytesA cs, .int .i64 bs.length, .int .i64 0], []) else none else none
  | _ => none
theorem frR_back (pre cs : List UInt8) (h8 : cs.length ≤ 8192) : frR (pre ++ frameL cs) pre.length = some cs := by
  unfold frR
  have hU : uintP 10 (frameL cs) = .ok (cs.length, (uintL cs.length).length) := uintP_uintL 9 cs.length _ (Nat.lt_of_le_of_lt h8 (by decide)) (fun h => absurd h (by decide))
  have hcs : (((pre ++ frameL cs).drop (pre.length + (uintL cs.length).length)).take cs.length) = cs := by
    rw [← List.drop_drop, List.drop_left, frameL, List.drop_left, List.take_left]
  rw [List.drop_left, hU]
  simp only [hcs]
  rw [if_pos ⟨h8, by simp, by rw [List.take_left]⟩]
theorem cap_max {E : Env} {w : World} {sz : Nat} {es : List AV} {o : Own} {v : Value} (h : Rep E w (.sl sz es o) v) : ∀ A n cap, v = .slice A n cap → cap ≤ maxLen := by
  cases h with | sl _ _ _ A cap u hcap hmax =>
    intro A' n cap' e
    injection e with _ _ e
    omega
theorem o26 (m : Int) : SpecOk PZ (GZ m) 26 s26 := by
  intro g args r lv h E w vs hI hG hn' hv hcl
  simp only at h
  split at h
  · rename_i e
    subst e
    unfold s26 onBytes at h
    split at h
    · rename_i sz es o at_
      split at h
      · rename_i hsz
        split at h
        · rename_i bs hu
          dsimp only at h
          split at h
          · rename_i hb
            obtain ⟨hb1, hb2⟩ := hb
            have hb1' : bs.length ≤ 1000000 := hb1
            cases hF : frR bs at_.toNat with
            | none => rw [hF] at h; cases h
            | some cs =>
              rw [hF] at h
              simp only [Option.map_some, Option.some.injEq, Prod.mk.injEq] at h
              obtain ⟨rfl, rfl⟩ := h
              obtain ⟨a, b, rfl⟩ := vs_two hn'
              obtain ⟨A, cap, rfl, hcap, hc⟩ := bytes_arg (hv 0 _ _ rfl rfl) hsz hu
              have hmax : cap ≤ maxLen := cap_max (hv 0 _ _ rfl rfl) _ _ _ rfl
              obtain rfl := rep_int (hv 1 _ _ rfl rfl)
              refine .inl ⟨goodZ (by kernel_rfl), ?_⟩
              obtain ⟨n, rfl⟩ : ∃ n : Nat, at_ = n := ⟨at_.toNat, by omega⟩
              simp only [Int.toNat_natCast] at hF
              unfold frR at hF
              split at hF
              · rename_i v mm hU
                split at hF
                · rename_i hc3
                  obtain ⟨h8, hna, heq⟩ := hc3
                  injection hF with hF
                  rw [hF] at heq
                  have h9 : cs.length ≤ 8192 := by rw [← hF]; exact Nat.le_trans (List.length_take_le _ _) h8
                  have hlen : bs.length = n + (uintL cs.length).length + cs.length + 4 := by
                    have := congrArg List.length heq
                    simp [frameL, le4] at this
                    omega
                  rcases hc with rfl | ⟨bb, off, rfl, hbb, hIn, hcells⟩
                  · simp at hlen
                  · refine (frame_in m (E := E) bb off cap n bs (bs.take n) cs w heq (by simp; omega) (by omega) h9 hcap hmax hbb hI hG fun j hj => ⟨hIn j hj, hcells j hj⟩).mono fun e w' ⟨he, hb⟩ => ?_
                    refine ⟨_, he, res_below hb fun B K => rep_tup3 (mk_bytes rfl (Nat.le_refl _) (by omega) fun j hj => ⟨?_, ?_⟩) (.int _ _) (.int _ _)⟩
                    · rw [show off + (n + (uintL cs.length).length) + j = off + (n + (uintL cs.length).length + j) by omega]; exact hIn _ (by omega)
                    · rw [hb.cell (p := ⟨bb, _, none⟩) hbb, show off + (n + (uintL cs.length).length) + j = off + (n + (uintL cs.length).length + j) by omega, hcells _ (by omega)]
                      have : bs.getD (n + (uintL cs.length).length + j) 0 = cs.getD j 0 := by
                        have hnl : (bs.take n).length = n := by simp; omega
                        generalize bs.take n = pre at heq hnl
                        subst heq
                        rw [frameL]
                        simp only [List.getD_eq_getElem?_getD]
                        rw [List.getElem?_append_right (by omega), List.getElem?_append_right (by omega), List.getElem?_append_left (by omega)]
                        congr 2
                        omega
                      rw [this]
                · cases hF
              · cases hF
          · cases h
        · cases h
      · cases h
    · cases h
  · cases h
end Go.Abs

namespace Go.Abs
open Go.Proofs L8
def hasPfx (s p : List UInt8) : Bool := decide (s.take p.length = p)
def trL (c : UInt8) (s : List UInt8) : List UInt8 := s.dropWhile (· == c)
def trR (c : UInt8) (s : List UInt8) : List UInt8 := (s.reverse.dropWhile (· == c)).reverse
def s42 : Spec := fun args => match args with
  | [.str s, .str p] => some (.bool (hasPfx s p), [])
  | _ => none
def sTrim (f : UInt8 → List UInt8 → List UInt8) : Spec := fun args => match args with
  | [.str s, .int .u8 c] => if strOk s ∧ 0 ≤ c ∧ c < 256 then some (.str (f (UInt8.ofNat c.toNat) s), []) else none
  | _ => none
def s71 : Spec := sTrim trL
def s72 : Spec := sTrim trR
def s43 : Spec := fun args => match args with
  | [.str s, .str [34]] => if strOk s then some (.str (trL 34 (trR 34 s)), []) else none
  | _ => none
def a71 (s : List UInt8) (c : UInt8) : Anns := ⟨fun q => if q = 1 then some { α := Nat, slots := [0, 1], nb := 0, vals := fun k => [.str (s.drop k), .int .u8 c.toNat], sS := fun _ => ⟨[], []⟩, I := fun k => k ≤ s.length ∧ trL c (s.drop k) = trL c s, μ := fun k => s.length - k } else none, nA⟩
def a72 (s : List UInt8) (c : UInt8) : Anns := ⟨fun q => if q = 1 then some { α := Nat, slots := [0, 1], nb := 0, vals := fun k => [.str (s.take k), .int .u8 c.toNat], sS := fun _ => ⟨[], []⟩, I := fun k => k ≤ s.length ∧ trR c (s.take k) = trR c s, μ := fun k => k } else none, nA⟩
def nullV : V3 := ⟨0, 0, []⟩
abbrev trueT : List UInt8 := [116, 114, 117, 101]
abbrev falseT : List UInt8 := [102, 97, 108, 115, 101]
abbrev nullT : List UInt8 := [110, 117, 108, 108]
/-- what the program guesses -/
def gP (s : List UInt8) : V3 :=
  if s = nullT then nullV else if s = trueT ∨ s = falseT then ⟨1, if s = trueT then 1 else 0, []⟩
  else if hasPfx s [64] = true then ⟨5, 0, s.drop 1⟩ else if hasPfx s [34] = true then ⟨4, 0, trL 34 (trR 34 s)⟩
  else if Lib.contains s [46] = true then ⟨3, (decP s).1, []⟩ else if atoiB s = true then ⟨2, atoiV s, []⟩ else nullV
def wholeB (r : List UInt8) : Prop := r ≠ [] ∧ r.all digitB = true ∧ ∀ j, j < r.length → valL (r.take j) ≤ 115292150460684697
instance (r : List UInt8) : Decidable (wholeB r) := inferInstanceAs (Decidable (_ ∧ _ ∧ _))
def wholeV (s : List UInt8) : V3 := if wholeB (restB s) then ⟨2, if negB s then -(valL (restB s) : Int) else valL (restB s), []⟩ else nullV
/-- what the reference guesses -/
def gR (s : List UInt8) : V3 :=
  if s = trueT then ⟨1, 1, []⟩ else if s = falseT then ⟨1, 0, []⟩
  else if 2 ≤ s.length ∧ s.getD 0 0 = 34 ∧ s.getD (s.length - 1) 0 = 34 then ⟨4, 0, (s.take (s.length - 1)).drop 1⟩
  else if 1 ≤ s.length ∧ s.getD 0 0 = 64 then ⟨5, 0, s.drop 1⟩
  else if 46 ∈ s then ⟨3, (decP s).1, []⟩ else wholeV s
def endP (g : V3) (s : List UInt8) : V3 × Int := if s ≠ [] ∧ fmtL g.k g.n g.s = s then (g, 0) else (nullV, 3)
def parseV (s : List UInt8) : V3 × Int := endP (gP s) s
def aV (x : V3) : AV := vA x.k x.n x.s
def s20 : Spec := fun args => match args with
  | [.str s] => if strOk s then some (.tup [aV (parseV s).1, .int .i64 (parseV s).2], []) else none
  | _ => none
def s47 : Spec := fun args => match args with
  | [.str s] => if strOk s then some (aV (gR s), []) else none
  | _ => none
def s82 : Spec := fun args => match args with
  | [.str s] => if strOk s then some (aV (wholeV s), []) else none
  | _ => none
def b0 : List AV := [.int .i64 0, .int .i64 0, .str []]
structure I82 (s : List UInt8) (i : Nat) : Prop where
  lo : dAt s ≤ i
  hi : i ≤ s.length
  d : ((s.take i).drop (dAt s)).all digitB = true
  b : ∀ j, j < i - dAt s → valL ((restB s).take j) ≤ 115292150460684697
  ne : dAt s < s.length
def a82 (s : List UInt8) : Anns := ⟨fun q => match q with
  | 8 => some { α := Nat, slots := [0, 2, 3, 4, 5], nb := 1, vals := fun i => [.str s, .ptr 0 0, .int .i64 (dAt s), .int .i64 (valL ((s.take i).drop (dAt s))), .int .i64 i], sS := fun _ => ⟨[some b0], []⟩, I := I82 s, μ := fun i => s.length - i }
  | 1000004 => some { α := Unit, slots := [0, 2, 3], nb := 1, vals := fun _ => [.str s, .ptr 0 0, .int .i64 (dAt s)], sS := fun _ => ⟨[some b0], []⟩, I := fun _ => True, μ := fun _ => 0 }
  | _ => none, nA⟩
def a47 (s : List UInt8) : Anns := ⟨fun q => match q with
  | 11 => some { α := Nat, slots := [0, 2, 3, 4], nb := 1, vals := fun i => [.str s, .ptr 0 0, .int .i64 s.length, .int .i64 i], sS := fun _ => ⟨[some b0], []⟩, I := fun i => i ≤ s.length ∧ ∀ j, j < i → s.getD j 0 ≠ 46, μ := fun i => s.length - i }
  | 1000010 => some { α := Unit, slots := [0, 2, 3], nb := 1, vals := fun _ => [.str s, .ptr 0 0, .int .i64 s.length], sS := fun _ => ⟨[some b0], []⟩, I := fun _ => gR s = if 46 ∈ s then ⟨3, (decP s).1, []⟩ else wholeV s, μ := fun _ => 0 }
  | _ => none, nA⟩
def a20 (s : List UInt8) : Anns := ⟨fun q => match q with
  | 1000017 => some { α := V3, slots := [0, 2, 3], nb := 1, vals := fun _ => [.str s, .ptr 0 0, .int .i64 0], sS := fun x => ⟨[some (vC x)], []⟩, I := fun x => x = gP s, μ := fun _ => 0 }
  | _ => none, nA⟩
end Go.Abs

namespace Go.Abs
open Go.Proofs L8
theorem w70 (m : Int) (s p : List UInt8) (r : AV) : (pureW PZ (GZ m) XT (tbl []) (itbl []) nAn [] 70 [.str s, .str p] (r, [])) =
((decide ((↑s.length : Int) ≥ (↑p.length : Int)) = true →
    (0 : Int) ≤ (↑p.length : Int) ∧
      (nat_lit 0 ≤ (↑p.length : Int).toNat ∧ (↑p.length : Int).toNat ≤ s.length) ∧
        ((List.drop (nat_lit 0) (List.take (↑p.length : Int).toNat s) == p) = true → RetIs (AV.bool true) [] (r, [])) ∧
 ((List.drop (nat_lit 0) (List.take (↑p.length : Int).toNat s) == p) = false → RetIs (AV.bool false) [] (r, []))) ∧
  (decide ((↑s.length : Int) ≥ (↑p.length : Int)) = false → RetIs (AV.bool false) [] (r, []))) := by kernel_rfl
theorem w42 (m : Int) (s p : List UInt8) (r : AV) : (pureW PZ (GZ m) XT (tbl [(70, s42)]) (itbl []) nAn [] 42 [.str s, .str p] (r, [])) =
(∃ (b : Bool),
  CallIs (some (AV.bool (hasPfx s p), [])) (AV.bool b) [] ∧ (b = true → RetIs (AV.bool true) [] (r, [])) ∧ (b = false → RetIs (AV.bool false) [] (r, []))) := by kernel_rfl
theorem w71 (m : Int) (s : List UInt8) (c : UInt8) (r : AV) : (pureW PZ (GZ m) XT (tbl []) (itbl []) (a71 s c) [] 71 [.str s, .int .u8 c.toNat] (r, [])) =
((∃ (y : Nat),
    ValsAre [AV.str s, AV.int IntKind.u8 (↑c.toNat : Int)] [AV.str (List.drop y s), AV.int IntKind.u8 (↑c.toNat : Int)] ∧
      StIs { boxes := [], live := [] } { boxes := [], live := [] } ∧ (y ≤ s.length ∧ trL c (List.drop y s) = trL c s) ∧ True) ∧
  ∀ (x : Nat),
    x ≤ s.length ∧ trL c (List.drop x s) = trL c s →
      (decide ((↑(List.drop x s).length : Int) > (0 : Int)) = true →
 (0 : Int) ≤ (0 : Int) ∧
 ∃ (c_1 : UInt8),
 (List.drop x s)[nat_lit 0]? = some c_1 ∧
 (((↑c_1.toNat : Int) == (↑c.toNat : Int)) = true →
 (0 : Int) ≤ (1 : Int) ∧
 (nat_lit 1 ≤ (List.drop x s).length ∧ (List.drop x s).length ≤ (List.drop x s).length) ∧
 ∃ (y : Nat),
 ValsAre [AV.str (List.drop (nat_lit 1) (List.take (List.drop x s).length (List.drop x s))), AV.int IntKind.u8 (↑c.toNat : Int)]
 [AV.str (List.drop y s), AV.int IntKind.u8 (↑c.toNat : Int)] ∧
 StIs { boxes := [], live := [] } { boxes := [], live := [] } ∧
 (y ≤ s.length ∧ trL c (List.drop y s) = trL c s) ∧ s.length - y < s.length - x) ∧
 (((↑c_1.toNat : Int) == (↑c.toNat : Int)) = false → RetIs (AV.str (List.drop x s)) [] (r, []))) ∧
        (decide ((↑(List.drop x s).length : Int) > (0 : Int)) = false → RetIs (AV.str (List.drop x s)) [] (r, []))) := by kernel_rfl
theorem w72 (m : Int) (s : List UInt8) (c : UInt8) (r : AV) : (pureW PZ (GZ m) XT (tbl []) (itbl []) (a72 s c) [] 72 [.str s, .int .u8 c.toNat] (r, [])) =
((∃ (y : Nat),
    ValsAre [AV.str s, AV.int IntKind.u8 (↑c.toNat : Int)] [AV.str (List.take y s), AV.int IntKind.u8 (↑c.toNat : Int)] ∧
      StIs { boxes := [], live := [] } { boxes := [], live := [] } ∧ (y ≤ s.length ∧ trR c (List.take y s) = trR c s) ∧ True) ∧
  ∀ (x : Nat),
    x ≤ s.length ∧ trR c (List.take x s) = trR c s →
      (decide ((↑(List.take x s).length : Int) > (0 : Int)) = true →
 (0 : Int) ≤ IntKind.i64.wrap ((↑(List.take x s).length : Int) - (1 : Int)) ∧
 ∃ (c_1 : UInt8),
 (List.take x s)[(IntKind.i64.wrap ((↑(List.take x s).length : Int) - (1 : Int))).toNat]? = some c_1 ∧
 (((↑c_1.toNat : Int) == (↑c.toNat : Int)) = true →
 (0 : Int) ≤ IntKind.i64.wrap ((↑(List.take x s).length : Int) - (1 : Int)) ∧
 (nat_lit 0 ≤ (IntKind.i64.wrap ((↑(List.take x s).length : Int) - (1 : Int))).toNat ∧
 (IntKind.i64.wrap ((↑(List.take x s).length : Int) - (1 : Int))).toNat ≤ (List.take x s).length) ∧
 ∃ (y : Nat),
 ValsAre
 [AV.str
 (List.drop (nat_lit 0) (List.take (IntKind.i64.wrap ((↑(List.take x s).length : Int) - (1 : Int))).toNat (List.take x s))),
 AV.int IntKind.u8 (↑c.toNat : Int)]
 [AV.str (List.take y s), AV.int IntKind.u8 (↑c.toNat : Int)] ∧
 StIs { boxes := [], live := [] } { boxes := [], live := [] } ∧ (y ≤ s.length ∧ trR c (List.take y s) = trR c s) ∧ y < x) ∧
 (((↑c_1.toNat : Int) == (↑c.toNat : Int)) = false → RetIs (AV.str (List.take x s)) [] (r, []))) ∧
        (decide ((↑(List.take x s).length : Int) > (0 : Int)) = false → RetIs (AV.str (List.take x s)) [] (r, []))) := by kernel_rfl
theorem w43 (m : Int) (s : List UInt8) (r : AV) : (pureW PZ (GZ m) XT (tbl [(71, s71), (72, s72)]) (itbl []) nAn [] 43 [.str s, .str [34]] (r, [])) =
(((s == []) = true → RetIs (AV.str s) [] (r, [])) ∧
  ((s == []) = false →
    (false = true → RetIs (AV.str s) [] (r, [])) ∧
      (false = false →
        (true = true →
 (0 : Int) ≤ (0 : Int) ∧
 ∃ (c : UInt8),
 some (34 : UInt8) = some c ∧
 (decide ((↑c.toNat : Int) < (128 : Int)) = true →
 (0 : Int) ≤ (0 : Int) ∧
 ∃ (c : UInt8),
 some (34 : UInt8) = some c ∧
 ∃ (s_1 : List UInt8),
 CallIs (tbl [(nat_lit 71, s71), (nat_lit 72, s72)] (nat_lit 72) [AV.str s, AV.int IntKind.u8 (↑c.toNat : Int)]) (AV.str s_1) [] ∧
 (0 : Int) ≤ (0 : Int) ∧
 ∃ (c : UInt8),
 some (34 : UInt8) = some c ∧
 ∃ (s : List UInt8),
 CallIs (tbl [(nat_lit 71, s71), (nat_lit 72, s72)] (nat_lit 71) [AV.str s_1, AV.int IntKind.u8 (↑c.toNat : Int)])
 (AV.str s) [] ∧
 RetIs (AV.str s) [] (r, [])) ∧
 (decide ((↑c.toNat : Int) < (128 : Int)) = false → False)) ∧
 (true = false → False)))) := by kernel_rfl
theorem w82 (m : Int) (s : List UInt8) (r : AV) : (pureW PZ (GZ m) XT (tbl []) (itbl []) (a82 s) [] 82 [.str s] (r, [])) =
((((!s == []) = true →
      (0 : Int) ≤ (0 : Int) ∧
        ∃ (c : UInt8),
 s[nat_lit 0]? = some c ∧
 (((↑c.toNat : Int) == (45 : Int)) = true →
 ∃ (_y : Unit),
 ValsAre [AV.str s, AV.ptr (nat_lit 0) (nat_lit 0), AV.int IntKind.i64 (1 : Int)]
 [AV.str s, AV.ptr (nat_lit 0) (nat_lit 0), AV.int IntKind.i64 (↑(dAt s) : Int)] ∧
 StIs { boxes := [some [AV.int IntKind.i64 (0 : Int), AV.int IntKind.i64 (0 : Int), AV.str []]], live := [] }
 { boxes := [some [AV.int IntKind.i64 (0 : Int), AV.int IntKind.i64 (0 : Int), AV.str []]], live := [] } ∧
 True ∧ True) ∧
 (((↑c.toNat : Int) == (45 : Int)) = false →
 ∃ (_y : Unit),
 ValsAre [AV.str s, AV.ptr (nat_lit 0) (nat_lit 0), AV.int IntKind.i64 (0 : Int)]
 [AV.str s, AV.ptr (nat_lit 0) (nat_lit 0), AV.int IntKind.i64 (↑(dAt s) : Int)] ∧
 StIs { boxes := [some [AV.int IntKind.i64 (0 : Int), AV.int IntKind.i64 (0 : Int), AV.str []]], live := [] }
 { boxes := [some [AV.int IntKind.i64 (0 : Int), AV.int IntKind.i64 (0 : Int), AV.str []]], live := [] } ∧
 True ∧ True)) ∧
    ((!s == []) = false →
      ∃ (_y : Unit),
        ValsAre [AV.str s, AV.ptr (nat_lit 0) (nat_lit 0), AV.int IntKind.i64 (0 : Int)]
 [AV.str s, AV.ptr (nat_lit 0) (nat_lit 0), AV.int IntKind.i64 (↑(dAt s) : Int)] ∧
 StIs { boxes := [some [AV.int IntKind.i64 (0 : Int), AV.int IntKind.i64 (0 : Int), AV.str []]], live := [] }
 { boxes := [some [AV.int IntKind.i64 (0 : Int), AV.int IntKind.i64 (0 : Int), AV.str []]], live := [] } ∧
 True ∧ True)) ∧
  ∀ (_x : Unit),
    True →
      True →
        (((↑(dAt s) : Int) == (↑s.length : Int)) = true → RetIs (AV.agg [AV.int IntKind.i64 (0 : Int), AV.int IntKind.i64 (0 : Int), AV.str []]) [] (r, [])) ∧
 (((↑(dAt s) : Int) == (↑s.length : Int)) = false →
 (∃ (y : Nat),
 ValsAre
 [AV.str s, AV.ptr (nat_lit 0) (nat_lit 0), AV.int IntKind.i64 (↑(dAt s) : Int), AV.int IntKind.i64 (0 : Int),
 AV.int IntKind.i64 (↑(dAt s) : Int)]
 [AV.str s, AV.ptr (nat_lit 0) (nat_lit 0), AV.int IntKind.i64 (↑(dAt s) : Int),
 AV.int IntKind.i64 (↑(valL (List.drop (dAt s) (List.take y s))) : Int), AV.int IntKind.i64 (↑y : Int)] ∧
 StIs { boxes := [some [AV.int IntKind.i64 (0 : Int), AV.int IntKind.i64 (0 : Int), AV.str []]], live := [] }
 { boxes := [some [AV.int IntKind.i64 (0 : Int), AV.int IntKind.i64 (0 : Int), AV.str []]], live := [] } ∧
 I82 s y ∧ True) ∧
 ∀ (x : Nat),
 I82 s x →
 (decide ((↑x : Int) < (↑s.length : Int)) = true →
 (0 : Int) ≤ (↑x : Int) ∧
 ∃ (c : UInt8),
 s[(↑x : Int).toNat]? = some c ∧
 (decide ((↑c.toNat : Int) < (48 : Int)) = true →
 RetIs (AV.agg [AV.int IntKind.i64 (0 : Int), AV.int IntKind.i64 (0 : Int), AV.str []]) [] (r, [])) ∧
 (decide ((↑c.toNat : Int) < (48 : Int)) = false →
 (0 : Int) ≤ (↑x : Int) ∧
 ∃ (c : UInt8),
 s[(↑x : Int).toNat]? = some c ∧
 (decide ((↑c.toNat : Int) > (57 : Int)) = true →
 RetIs (AV.agg [AV.int IntKind.i64 (0 : Int), AV.int IntKind.i64 (0 : Int), AV.str []]) [] (r, [])) ∧
 (decide ((↑c.toNat : Int) > (57 : Int)) = false →
 (decide ((↑(valL (List.drop (dAt s) (List.take x s))) : Int) > (115292150460684697 : Int)) = true →
 RetIs (AV.agg [AV.int IntKind.i64 (0 : Int), AV.int IntKind.i64 (0 : Int), AV.str []]) [] (r, [])) ∧
 (decide ((↑(valL (List.drop (dAt s) (List.take x s))) : Int) > (115292150460684697 : Int)) = false →
 (0 : Int) ≤ (↑x : Int) ∧
 ∃ (c : UInt8),
 s[(↑x : Int).toNat]? = some c ∧
 ∃ (y : Nat),
 ValsAre
 [AV.str s, AV.ptr (nat_lit 0) (nat_lit 0), AV.int IntKind.i64 (↑(dAt s) : Int),
 AV.int IntKind.i64
 (IntKind.i64.wrap
 (IntKind.i64.wrap ((10 : Int) * (↑(valL (List.drop (dAt s) (List.take x s))) : Int)) +
 IntKind.i64.wrap (IntKind.u8.wrap ((↑c.toNat : Int) - (48 : Int))))),
 AV.int IntKind.i64 (IntKind.i64.wrap ((↑x : Int) + (1 : Int)))]
 [AV.str s, AV.ptr (nat_lit 0) (nat_lit 0), AV.int IntKind.i64 (↑(dAt s) : Int),
 AV.int IntKind.i64 (↑(valL (List.drop (dAt s) (List.take y s))) : Int),
 AV.int IntKind.i64 (↑y : Int)] ∧
 StIs
 { boxes := [some [AV.int IntKind.i64 (0 : Int), AV.int IntKind.i64 (0 : Int), AV.str []]], live := [] }
 { boxes := [some [AV.int IntKind.i64 (0 : Int), AV.int IntKind.i64 (0 : Int), AV.str []]], live := [] } ∧
 I82 s y ∧ s.length - y < s.length - x)))) ∧
 (decide ((↑x : Int) < (↑s.length : Int)) = false →
 (((↑(dAt s) : Int) == (1 : Int)) = true →
 RetIs
 (AV.agg
 [AV.int IntKind.i64 (2 : Int),
 AV.int IntKind.i64 (IntKind.i64.wrap ((0 : Int) - (↑(valL (List.drop (dAt s) (List.take x s))) : Int))), AV.str []])
 [] (r, [])) ∧
 (((↑(dAt s) : Int) == (1 : Int)) = false →
 RetIs (AV.agg [AV.int IntKind.i64 (2 : Int), AV.int IntKind.i64 (↑(valL (List.drop (dAt s) (List.take x s))) : Int), AV.str []]) []
 (r, []))))) := by kernel_rfl
theorem w47 (m : Int) (s : List UInt8) (r : AV) : (pureW PZ (GZ m) XT (tbl [(81, s45), (82, s82)]) (itbl []) (a47 s) [] 47 [.str s] (r, [])) =
((((s == [(116 : UInt8), (114 : UInt8), (117 : UInt8), (101 : UInt8)]) = true →
      RetIs (AV.agg [AV.int IntKind.i64 (1 : Int), AV.int IntKind.i64 (1 : Int), AV.str []]) [] (r, [])) ∧
    ((s == [(116 : UInt8), (114 : UInt8), (117 : UInt8), (101 : UInt8)]) = false →
      ((s == [(102 : UInt8), (97 : UInt8), (108 : UInt8), (115 : UInt8), (101 : UInt8)]) = true →
 RetIs (AV.agg [AV.int IntKind.i64 (1 : Int), AV.int IntKind.i64 (0 : Int), AV.str []]) [] (r, [])) ∧
        ((s == [(102 : UInt8), (97 : UInt8), (108 : UInt8), (115 : UInt8), (101 : UInt8)]) = false →
 (decide ((↑s.length : Int) ≥ (2 : Int)) = true →
 (0 : Int) ≤ (0 : Int) ∧
 ∃ (c : UInt8),
 s[nat_lit 0]? = some c ∧
 (((↑c.toNat : Int) == (34 : Int)) = true →
 (0 : Int) ≤ IntKind.i64.wrap ((↑s.length : Int) - (1 : Int)) ∧
 ∃ (c : UInt8),
 s[(IntKind.i64.wrap ((↑s.length : Int) - (1 : Int))).toNat]? = some c ∧
 (((↑c.toNat : Int) == (34 : Int)) = true →
 (0 : Int) ≤ (1 : Int) ∧
 (0 : Int) ≤ IntKind.i64.wrap ((↑s.length : Int) - (1 : Int)) ∧
 (nat_lit 1 ≤ (IntKind.i64.wrap ((↑s.length : Int) - (1 : Int))).toNat ∧
 (IntKind.i64.wrap ((↑s.length : Int) - (1 : Int))).toNat ≤ s.length) ∧
 RetIs
 (AV.agg
 [AV.int IntKind.i64 (4 : Int), AV.int IntKind.i64 (0 : Int),
 AV.str (List.drop (nat_lit 1) (List.take (IntKind.i64.wrap ((↑s.length : Int) - (1 : Int))).toNat s))])
 [] (r, [])) ∧
 (((↑c.toNat : Int) == (34 : Int)) = false →
 (decide ((↑s.length : Int) ≥ (1 : Int)) = true →
 (0 : Int) ≤ (0 : Int) ∧
 ∃ (c : UInt8),
 s[nat_lit 0]? = some c ∧
 (((↑c.toNat : Int) == (64 : Int)) = true →
 (0 : Int) ≤ (1 : Int) ∧
 (nat_lit 1 ≤ s.length ∧ s.length ≤ s.length) ∧
 RetIs
 (AV.agg
 [AV.int IntKind.i64 (5 : Int), AV.int IntKind.i64 (0 : Int),
 AV.str (List.drop (nat_lit 1) (List.take s.length s))])
 [] (r, [])) ∧
 (((↑c.toNat : Int) == (64 : Int)) = false →
 ∃ (_y : Unit),
 ValsAre [AV.str s, AV.ptr (nat_lit 0) (nat_lit 0), AV.int IntKind.i64 (↑s.length : Int)]
 [AV.str s, AV.ptr (nat_lit 0) (nat_lit 0), AV.int IntKind.i64 (↑s.length : Int)] ∧
 StIs { boxes := [some [AV.int IntKind.i64 (0 : Int), AV.int IntKind.i64 (0 : Int), AV.str []]], live := [] }
 { boxes := [some [AV.int IntKind.i64 (0 : Int), AV.int IntKind.i64 (0 : Int), AV.str []]], live := [] } ∧
 (gR s = if (46 : UInt8) ∈ s then { k := (3 : Int), n := (decP s).fst, s := [] } else wholeV s) ∧ True)) ∧
 (decide ((↑s.length : Int) ≥ (1 : Int)) = false →
 ∃ (_y : Unit),
 ValsAre [AV.str s, AV.ptr (nat_lit 0) (nat_lit 0), AV.int IntKind.i64 (↑s.length : Int)]
 [AV.str s, AV.ptr (nat_lit 0) (nat_lit 0), AV.int IntKind.i64 (↑s.length : Int)] ∧
 StIs { boxes := [some [AV.int IntKind.i64 (0 : Int), AV.int IntKind.i64 (0 : Int), AV.str []]], live := [] }
 { boxes := [some [AV.int IntKind.i64 (0 : Int), AV.int IntKind.i64 (0 : Int), AV.str []]], live := [] } ∧
 (gR s = if (46 : UInt8) ∈ s then { k := (3 : Int), n := (decP s).fst, s := [] } else wholeV s) ∧ True))) ∧
 (((↑c.toNat : Int) == (34 : Int)) = false →
 (decide ((↑s.length : Int) ≥ (1 : Int)) = true →
 (0 : Int) ≤ (0 : Int) ∧
 ∃ (c : UInt8),
 s[nat_lit 0]? = some c ∧
 (((↑c.toNat : Int) == (64 : Int)) = true →
 (0 : Int) ≤ (1 : Int) ∧
 (nat_lit 1 ≤ s.length ∧ s.length ≤ s.length) ∧
 RetIs
 (AV.agg
 [AV.int IntKind.i64 (5 : Int), AV.int IntKind.i64 (0 : Int),
 AV.str (List.drop (nat_lit 1) (List.take s.length s))])
 [] (r, [])) ∧
 (((↑c.toNat : Int) == (64 : Int)) = false →
 ∃ (_y : Unit),
 ValsAre [AV.str s, AV.ptr (nat_lit 0) (nat_lit 0), AV.int IntKind.i64 (↑s.length : Int)]
 [AV.str s, AV.ptr (nat_lit 0) (nat_lit 0), AV.int IntKind.i64 (↑s.length : Int)] ∧
 StIs { boxes := [some [AV.int IntKind.i64 (0 : Int), AV.int IntKind.i64 (0 : Int), AV.str []]], live := [] }
 { boxes := [some [AV.int IntKind.i64 (0 : Int), AV.int IntKind.i64 (0 : Int), AV.str []]], live := [] } ∧
 (gR s = if (46 : UInt8) ∈ s then { k := (3 : Int), n := (decP s).fst, s := [] } else wholeV s) ∧ True)) ∧
 (decide ((↑s.length : Int) ≥ (1 : Int)) = false →
 ∃ (_y : Unit),
 ValsAre [AV.str s, AV.ptr (nat_lit 0) (nat_lit 0), AV.int IntKind.i64 (↑s.length : Int)]
 [AV.str s, AV.ptr (nat_lit 0) (nat_lit 0), AV.int IntKind.i64 (↑s.length : Int)] ∧
 StIs { boxes := [some [AV.int IntKind.i64 (0 : Int), AV.int IntKind.i64 (0 : Int), AV.str []]], live := [] }
 { boxes := [some [AV.int IntKind.i64 (0 : Int), AV.int IntKind.i64 (0 : Int), AV.str []]], live := [] } ∧
 (gR s = if (46 : UInt8) ∈ s then { k := (3 : Int), n := (decP s).fst, s := [] } else wholeV s) ∧ True))) ∧
 (decide ((↑s.length : Int) ≥ (2 : Int)) = false →
 (decide ((↑s.length : Int) ≥ (1 : Int)) = true →
 (0 : Int) ≤ (0 : Int) ∧
 ∃ (c : UInt8),
 s[nat_lit 0]? = some c ∧
 (((↑c.toNat : Int) == (64 : Int)) = true →
 (0 : Int) ≤ (1 : Int) ∧
 (nat_lit 1 ≤ s.length ∧ s.length ≤ s.length) ∧
 RetIs
 (AV.agg [AV.int IntKind.i64 (5 : Int), AV.int IntKind.i64 (0 : Int), AV.str (List.drop (nat_lit 1) (List.take s.length s))])
 [] (r, [])) ∧
 (((↑c.toNat : Int) == (64 : Int)) = false →
 ∃ (_y : Unit),
 ValsAre [AV.str s, AV.ptr (nat_lit 0) (nat_lit 0), AV.int IntKind.i64 (↑s.length : Int)]
 [AV.str s, AV.ptr (nat_lit 0) (nat_lit 0), AV.int IntKind.i64 (↑s.length : Int)] ∧
 StIs { boxes := [some [AV.int IntKind.i64 (0 : Int), AV.int IntKind.i64 (0 : Int), AV.str []]], live := [] }
 { boxes := [some [AV.int IntKind.i64 (0 : Int), AV.int IntKind.i64 (0 : Int), AV.str []]], live := [] } ∧
 (gR s = if (46 : UInt8) ∈ s then { k := (3 : Int), n := (decP s).fst, s := [] } else wholeV s) ∧ True)) ∧
 (decide ((↑s.length : Int) ≥ (1 : Int)) = false →
 ∃ (_y : Unit),
 ValsAre [AV.str s, AV.ptr (nat_lit 0) (nat_lit 0), AV.int IntKind.i64 (↑s.length : Int)]
 [AV.str s, AV.ptr (nat_lit 0) (nat_lit 0), AV.int IntKind.i64 (↑s.length : Int)] ∧
 StIs { boxes := [some [AV.int IntKind.i64 (0 : Int), AV.int IntKind.i64 (0 : Int), AV.str []]], live := [] }
 { boxes := [some [AV.int IntKind.i64 (0 : Int), AV.int IntKind.i64 (0 : Int), AV.str []]], live := [] } ∧
 (gR s = if (46 : UInt8) ∈ s then { k := (3 : Int), n := (decP s).fst, s := [] } else wholeV s) ∧ True))))) ∧
  ∀ (_x : Unit),
    (gR s = if (46 : UInt8) ∈ s then { k := (3 : Int), n := (decP s).fst, s := [] } else wholeV s) →
      True →
        (∃ (y : Nat),
 ValsAre [AV.str s, AV.ptr (nat_lit 0) (nat_lit 0), AV.int IntKind.i64 (↑s.length : Int), AV.int IntKind.i64 (0 : Int)]
 [AV.str s, AV.ptr (nat_lit 0) (nat_lit 0), AV.int IntKind.i64 (↑s.length : Int), AV.int IntKind.i64 (↑y : Int)] ∧
 StIs { boxes := [some [AV.int IntKind.i64 (0 : Int), AV.int IntKind.i64 (0 : Int), AV.str []]], live := [] }
 { boxes := [some [AV.int IntKind.i64 (0 : Int), AV.int IntKind.i64 (0 : Int), AV.str []]], live := [] } ∧
 (y ≤ s.length ∧ ∀ (j : Nat), j < y → s.getD j (0 : UInt8) ≠ (46 : UInt8)) ∧ True) ∧
 ∀ (x : Nat),
 (x ≤ s.length ∧ ∀ (j : Nat), j < x → s.getD j (0 : UInt8) ≠ (46 : UInt8)) →
 (decide ((↑x : Int) < (↑s.length : Int)) = true →
 (0 : Int) ≤ (↑x : Int) ∧
 ∃ (c : UInt8),
 s[(↑x : Int).toNat]? = some c ∧
 (((↑c.toNat : Int) == (46 : Int)) = true →
 ∃ (n : Int),
 ∃ (n_1 : Int),
 CallIs (tbl [(nat_lit 81, s45), (nat_lit 82, s82)] (nat_lit 81) [AV.str s])
 (AV.tup [AV.int IntKind.i64 n, AV.int IntKind.i64 n_1]) [] ∧
 RetIs (AV.agg [AV.int IntKind.i64 (3 : Int), AV.int IntKind.i64 n, AV.str []]) [] (r, [])) ∧
 (((↑c.toNat : Int) == (46 : Int)) = false →
 ∃ (y : Nat),
 ValsAre
 [AV.str s, AV.ptr (nat_lit 0) (nat_lit 0), AV.int IntKind.i64 (↑s.length : Int),
 AV.int IntKind.i64 (IntKind.i64.wrap ((↑x : Int) + (1 : Int)))]
 [AV.str s, AV.ptr (nat_lit 0) (nat_lit 0), AV.int IntKind.i64 (↑s.length : Int), AV.int IntKind.i64 (↑y : Int)] ∧
 StIs { boxes := [some [AV.int IntKind.i64 (0 : Int), AV.int IntKind.i64 (0 : Int), AV.str []]], live := [] }
 { boxes := [some [AV.int IntKind.i64 (0 : Int), AV.int IntKind.i64 (0 : Int), AV.str []]], live := [] } ∧
 (y ≤ s.length ∧ ∀ (j : Nat), j < y → s.getD j (0 : UInt8) ≠ (46 : UInt8)) ∧ s.length - y < s.length - x)) ∧
 (decide ((↑x : Int) < (↑s.length : Int)) = false →
 ∃ (n : Int),
 ∃ (n_1 : Int),
 ∃ (s_1 : List UInt8),
 CallIs (tbl [(nat_lit 81, s45), (nat_lit 82, s82)] (nat_lit 82) [AV.str s])
 (AV.agg [AV.int IntKind.i64 n, AV.int IntKind.i64 n_1, AV.str s_1]) [] ∧
 RetIs (AV.agg [AV.int IntKind.i64 n, AV.int IntKind.i64 n_1, AV.str s_1]) [] (r, []))) := by kernel_rfl
theorem w21 (m : Int) (s : List UInt8) (r : AV) : (pureW PZ (GZ m) XT (tbl [(47, s47), (24, s24), (23, s22)]) (itbl []) nAn [] 21 [.str s] (r, [])) =
(∃ (n : Int),
  ∃ (n_1 : Int),
    ∃ (s_1 : List UInt8),
      CallIs (tbl [(nat_lit 47, s47), (nat_lit 24, s24), (nat_lit 23, s22)] (nat_lit 47) [AV.str s])
 (AV.agg [AV.int IntKind.i64 n, AV.int IntKind.i64 n_1, AV.str s_1]) [] ∧
        ∃ (b : Bool),
 CallIs
 (tbl [(nat_lit 47, s47), (nat_lit 24, s24), (nat_lit 23, s22)] (nat_lit 24) [AV.agg [AV.int IntKind.i64 n, AV.int IntKind.i64 n_1, AV.str s_1]])
 (AV.bool b) [] ∧
 (b = true →
 ∃ (s_2 : List UInt8),
 CallIs
 (tbl [(nat_lit 47, s47), (nat_lit 24, s24), (nat_lit 23, s22)] (nat_lit 23)
 [AV.agg [AV.int IntKind.i64 n, AV.int IntKind.i64 n_1, AV.str s_1]])
 (AV.str s_2) [] ∧
 ((!s_2 == s) = true →
 RetIs (AV.tup [AV.agg [AV.int IntKind.i64 (0 : Int), AV.int IntKind.i64 (0 : Int), AV.str []], AV.int IntKind.i64 (3 : Int)]) []
 (r, [])) ∧
 ((!s_2 == s) = false →
 RetIs (AV.tup [AV.agg [AV.int IntKind.i64 n, AV.int IntKind.i64 n_1, AV.str s_1], AV.int IntKind.i64 (0 : Int)]) [] (r, []))) ∧
 (b = false →
 RetIs (AV.tup [AV.agg [AV.int IntKind.i64 (0 : Int), AV.int IntKind.i64 (0 : Int), AV.str []], AV.int IntKind.i64 (3 : Int)]) [] (r, []))) := by kernel_rfl
theorem w20 (m : Int) (s : List UInt8) (r : AV) : (pureW PZ (GZ m) XT (tbl [(42, s42), (43, s43), (44, sContains), (45, s45), (46, s46), (22, s22)]) (itbl []) (a20 s) [] 20 [.str s] (r, [])) =
((((s == [(110 : UInt8), (117 : UInt8), (108 : UInt8), (108 : UInt8)]) = true →
      ∃ (y : V3),
        ValsAre [AV.str s, AV.ptr (nat_lit 0) (nat_lit 0), AV.int IntKind.i64 (0 : Int)]
 [AV.str s, AV.ptr (nat_lit 0) (nat_lit 0), AV.int IntKind.i64 (0 : Int)] ∧
 StIs { boxes := [some [AV.int IntKind.i64 (0 : Int), AV.int IntKind.i64 (0 : Int), AV.str []]], live := [] }
 { boxes := [some [AV.int IntKind.i64 y.k, AV.int IntKind.i64 y.n, AV.str y.s]], live := [] } ∧
 y = gP s ∧ True) ∧
    ((s == [(110 : UInt8), (117 : UInt8), (108 : UInt8), (108 : UInt8)]) = false →
      ((s == [(116 : UInt8), (114 : UInt8), (117 : UInt8), (101 : UInt8)]) = true →
 ((s == [(116 : UInt8), (114 : UInt8), (117 : UInt8), (101 : UInt8)]) = true →
 ∃ (y : V3),
 ValsAre [AV.str s, AV.ptr (nat_lit 0) (nat_lit 0), AV.int IntKind.i64 (0 : Int)]
 [AV.str s, AV.ptr (nat_lit 0) (nat_lit 0), AV.int IntKind.i64 (0 : Int)] ∧
 StIs { boxes := [some [AV.int IntKind.i64 (1 : Int), AV.int IntKind.i64 (1 : Int), AV.str []]], live := [] }
 { boxes := [some [AV.int IntKind.i64 y.k, AV.int IntKind.i64 y.n, AV.str y.s]], live := [] } ∧
 y = gP s ∧ True) ∧
 ((s == [(116 : UInt8), (114 : UInt8), (117 : UInt8), (101 : UInt8)]) = false →
 ∃ (y : V3),
 ValsAre [AV.str s, AV.ptr (nat_lit 0) (nat_lit 0), AV.int IntKind.i64 (0 : Int)]
 [AV.str s, AV.ptr (nat_lit 0) (nat_lit 0), AV.int IntKind.i64 (0 : Int)] ∧
 StIs { boxes := [some [AV.int IntKind.i64 (1 : Int), AV.int IntKind.i64 (0 : Int), AV.str []]], live := [] }
 { boxes := [some [AV.int IntKind.i64 y.k, AV.int IntKind.i64 y.n, AV.str y.s]], live := [] } ∧
 y = gP s ∧ True)) ∧
        ((s == [(116 : UInt8), (114 : UInt8), (117 : UInt8), (101 : UInt8)]) = false →
 ((s == [(102 : UInt8), (97 : UInt8), (108 : UInt8), (115 : UInt8), (101 : UInt8)]) = true →
 ((s == [(116 : UInt8), (114 : UInt8), (117 : UInt8), (101 : UInt8)]) = true →
 ∃ (y : V3),
 ValsAre [AV.str s, AV.ptr (nat_lit 0) (nat_lit 0), AV.int IntKind.i64 (0 : Int)]
 [AV.str s, AV.ptr (nat_lit 0) (nat_lit 0), AV.int IntKind.i64 (0 : Int)] ∧
 StIs { boxes := [some [AV.int IntKind.i64 (1 : Int), AV.int IntKind.i64 (1 : Int), AV.str []]], live := [] }
 { boxes := [some [AV.int IntKind.i64 y.k, AV.int IntKind.i64 y.n, AV.str y.s]], live := [] } ∧
 y = gP s ∧ True) ∧
 ((s == [(116 : UInt8), (114 : UInt8), (117 : UInt8), (101 : UInt8)]) = false →
 ∃ (y : V3),
 ValsAre [AV.str s, AV.ptr (nat_lit 0) (nat_lit 0), AV.int IntKind.i64 (0 : Int)]
 [AV.str s, AV.ptr (nat_lit 0) (nat_lit 0), AV.int IntKind.i64 (0 : Int)] ∧
 StIs { boxes := [some [AV.int IntKind.i64 (1 : Int), AV.int IntKind.i64 (0 : Int), AV.str []]], live := [] }
 { boxes := [some [AV.int IntKind.i64 y.k, AV.int IntKind.i64 y.n, AV.str y.s]], live := [] } ∧
 y = gP s ∧ True)) ∧
 ((s == [(102 : UInt8), (97 : UInt8), (108 : UInt8), (115 : UInt8), (101 : UInt8)]) = false →
 ∃ (b : Bool),
 CallIs (some (AV.bool (hasPfx s [(64 : UInt8)]), [])) (AV.bool b) [] ∧
 (b = true →
 (0 : Int) ≤ (1 : Int) ∧
 (nat_lit 1 ≤ s.length ∧ s.length ≤ s.length) ∧
 ∃ (y : V3),
 ValsAre [AV.str s, AV.ptr (nat_lit 0) (nat_lit 0), AV.int IntKind.i64 (0 : Int)]
 [AV.str s, AV.ptr (nat_lit 0) (nat_lit 0), AV.int IntKind.i64 (0 : Int)] ∧
 StIs
 { boxes := [some [AV.int IntKind.i64 (5 : Int), AV.int IntKind.i64 (0 : Int), AV.str (List.drop (nat_lit 1) (List.take s.length s))]], live := [] }
 { boxes := [some [AV.int IntKind.i64 y.k, AV.int IntKind.i64 y.n, AV.str y.s]], live := [] } ∧
 y = gP s ∧ True) ∧
 (b = false →
 ∃ (b : Bool),
 CallIs (some (AV.bool (hasPfx s [(34 : UInt8)]), [])) (AV.bool b) [] ∧
 (b = true →
 ∃ (s_1 : List UInt8),
 CallIs
 (tbl
 [(nat_lit 42, s42), (nat_lit 43, s43), (nat_lit 44, sContains), (nat_lit 45, s45), (nat_lit 46, s46), (nat_lit 22, s22)]
 (nat_lit 43) [AV.str s, AV.str [(34 : UInt8)]])
 (AV.str s_1) [] ∧
 ∃ (y : V3),
 ValsAre [AV.str s, AV.ptr (nat_lit 0) (nat_lit 0), AV.int IntKind.i64 (0 : Int)]
 [AV.str s, AV.ptr (nat_lit 0) (nat_lit 0), AV.int IntKind.i64 (0 : Int)] ∧
 StIs { boxes := [some [AV.int IntKind.i64 (4 : Int), AV.int IntKind.i64 (0 : Int), AV.str s_1]], live := [] }
 { boxes := [some [AV.int IntKind.i64 y.k, AV.int IntKind.i64 y.n, AV.str y.s]], live := [] } ∧
 y = gP s ∧ True) ∧
 (b = false →
 ∃ (b : Bool),
 CallIs
 (tbl
 [(nat_lit 42, s42), (nat_lit 43, s43), (nat_lit 44, sContains), (nat_lit 45, s45), (nat_lit 46, s46), (nat_lit 22, s22)]
 (nat_lit 44) [AV.str s, AV.str [(46 : UInt8)]])
 (AV.bool b) [] ∧
 (b = true →
 ∃ (n : Int),
 ∃ (n_1 : Int),
 CallIs
 (tbl
 [(nat_lit 42, s42), (nat_lit 43, s43), (nat_lit 44, sContains), (nat_lit 45, s45), (nat_lit 46, s46),
 (nat_lit 22, s22)]
 (nat_lit 45) [AV.str s])
 (AV.tup [AV.int IntKind.i64 n, AV.int IntKind.i64 n_1]) [] ∧
 ∃ (y : V3),
 ValsAre [AV.str s, AV.ptr (nat_lit 0) (nat_lit 0), AV.int IntKind.i64 (0 : Int)]
 [AV.str s, AV.ptr (nat_lit 0) (nat_lit 0), AV.int IntKind.i64 (0 : Int)] ∧
 StIs { boxes := [some [AV.int IntKind.i64 (3 : Int), AV.int IntKind.i64 n, AV.str []]], live := [] }
 { boxes := [some [AV.int IntKind.i64 y.k, AV.int IntKind.i64 y.n, AV.str y.s]], live := [] } ∧
 y = gP s ∧ True) ∧
 (b = false →
 ∃ (n : Int),
 CallIs
 (tbl
 [(nat_lit 42, s42), (nat_lit 43, s43), (nat_lit 44, sContains), (nat_lit 45, s45), (nat_lit 46, s46),
 (nat_lit 22, s22)]
 (nat_lit 46) [AV.str s])
 (AV.tup [AV.int IntKind.i64 n, AV.ifc]) [] ∧
 (true = true →
 RetIs
 (AV.tup
 [AV.agg [AV.int IntKind.i64 (0 : Int), AV.int IntKind.i64 (0 : Int), AV.str []],
 AV.int IntKind.i64 (3 : Int)])
 [] (r, [])) ∧
 (true = false →
 ∃ (y : V3),
 ValsAre [AV.str s, AV.ptr (nat_lit 0) (nat_lit 0), AV.int IntKind.i64 (0 : Int)]
 [AV.str s, AV.ptr (nat_lit 0) (nat_lit 0), AV.int IntKind.i64 (0 : Int)] ∧
 StIs { boxes := [some [AV.int IntKind.i64 (2 : Int), AV.int IntKind.i64 n, AV.str []]], live := [] }
 { boxes := [some [AV.int IntKind.i64 y.k, AV.int IntKind.i64 y.n, AV.str y.s]], live := [] } ∧
 y = gP s ∧ True) ∨
 CallIs
 (tbl
 [(nat_lit 42, s42), (nat_lit 43, s43), (nat_lit 44, sContains), (nat_lit 45, s45), (nat_lit 46, s46),
 (nat_lit 22, s22)]
 (nat_lit 46) [AV.str s])
 (AV.tup [AV.int IntKind.i64 n, AV.lit Value.nilIface]) [] ∧
 (false = true →
 RetIs
 (AV.tup
 [AV.agg [AV.int IntKind.i64 (0 : Int), AV.int IntKind.i64 (0 : Int), AV.str []],
 AV.int IntKind.i64 (3 : Int)])
 [] (r, [])) ∧
 (false = false →
 ∃ (y : V3),
 ValsAre [AV.str s, AV.ptr (nat_lit 0) (nat_lit 0), AV.int IntKind.i64 (0 : Int)]
 [AV.str s, AV.ptr (nat_lit 0) (nat_lit 0), AV.int IntKind.i64 (0 : Int)] ∧
 StIs { boxes := [some [AV.int IntKind.i64 (2 : Int), AV.int IntKind.i64 n, AV.str []]], live := [] }
 { boxes := [some [AV.int IntKind.i64 y.k, AV.int IntKind.i64 y.n, AV.str y.s]], live := [] } ∧
 y = gP s ∧ True)))))))) ∧
  ∀ (x : V3),
    x = gP s →
      True →
        ∃ (s_1 : List UInt8),
 CallIs
 (tbl [(nat_lit 42, s42), (nat_lit 43, s43), (nat_lit 44, sContains), (nat_lit 45, s45), (nat_lit 46, s46), (nat_lit 22, s22)] (nat_lit 22)
 [AV.agg [AV.int IntKind.i64 x.k, AV.int IntKind.i64 x.n, AV.str x.s]])
 (AV.str s_1) [] ∧
 ((!s_1 == s) = true →
 RetIs (AV.tup [AV.agg [AV.int IntKind.i64 (0 : Int), AV.int IntKind.i64 (0 : Int), AV.str []], AV.int IntKind.i64 (3 : Int)]) [] (r, [])) ∧
 ((!s_1 == s) = false →
 ((s == []) = true →
 RetIs (AV.tup [AV.agg [AV.int IntKind.i64 (0 : Int), AV.int IntKind.i64 (0 : Int), AV.str []], AV.int IntKind.i64 (3 : Int)]) [] (r, [])) ∧
 ((s == []) = false →
 RetIs (AV.tup [AV.agg [AV.int IntKind.i64 x.k, AV.int IntKind.i64 x.n, AV.str x.s], AV.int IntKind.i64 (0 : Int)]) [] (r, [])))) := by kernel_rfl
end Go.Abs

namespace Go.Abs
open Go.Proofs L8
theorem p70 (m : Int) (s p : List UInt8) : PureOk PZ (GZ m) XT (tbl []) (itbl []) nAn [] 70 [.str s, .str p] (.bool (hasPfx s p), []) := by
  constructor
  generalize hr : AV.bool (hasPfx s p) = r
  rw [w70]
  simp only [retIs_iff, Prod.mk.injEq, and_true, beq_iff_eq, beq_eq_false_iff_ne, ne_eq, decide_eq_true_eq, decide_eq_false_iff_not, ge_iff_le, List.drop_zero, Int.toNat_natCast]
  unfold hasPfx at hr
  refine ⟨fun h => ⟨by omega, by omega, fun h1 => ?_, fun h1 => ?_⟩, fun h => ?_⟩
  · rw [← hr, decide_eq_true h1]
  · rw [← hr, decide_eq_false h1]
  · rw [← hr, decide_eq_false]
    intro h1
    have := congrArg List.length h1
    rw [List.length_take] at this
    omega
theorem o70 (m : Int) : SpecOk PZ (GZ m) 70 s42 := spec_of (X := XT) (m := []) mixedZ tbl_nil itbl_nil fun args r h => by
  unfold s42 at h
  split at h
  · injection h with h; subst h; exact ⟨nAn, p70 m _ _⟩
  · cases h
theorem o42 (m : Int) : SpecOk PZ (GZ m) 42 s42 := spec_of (X := XT) (m := []) mixedZ (tbl_cons (o70 m) tbl_nil) itbl_nil fun args r h => by
  unfold s42 at h
  split at h
  · injection h with h; subst h
    rename_i s p
    refine ⟨nAn, ⟨?_⟩⟩
    rw [w42]
    exact ⟨_, ⟨rfl⟩, fun hb => ⟨by rw [hb]⟩, fun hb => ⟨by rw [hb]⟩⟩
  · cases h
theorem trR_snoc_eq (c : UInt8) (l : List UInt8) : trR c (l ++ [c]) = trR c l := by unfold trR; simp
theorem trR_snoc_ne {c d : UInt8} (l : List UInt8) (h : d ≠ c) : trR c (l ++ [d]) = l ++ [d] := by
  unfold trR
  rw [List.reverse_append, List.reverse_singleton, List.singleton_append, List.dropWhile_cons, if_neg (by simpa using h)]
  simp
theorem take_snoc {s : List UInt8} {x : Nat} (h : x + 1 ≤ s.length) : s.take (x + 1) = s.take x ++ [s.getD x 0] := by
  rw [List.take_succ_eq_append_getElem (by omega), List.getD_eq_getElem?_getD, List.getElem?_eq_getElem (by omega)]; rfl
theorem u8c {a b : UInt8} : ((a.toNat : Int) = (b.toNat : Int)) ↔ a = b := by
  rw [Int.natCast_inj]; exact UInt8.toNat_inj
theorem p71 (m : Int) (s : List UInt8) (c : UInt8) (hs : strOk s) : PureOk PZ (GZ m) XT (tbl []) (itbl []) (a71 s c) [] 71 [.str s, .int .u8 c.toNat] (.str (trL c s), []) := by
  have hs' : s.length ≤ 1000000 := hs
  constructor
  generalize hr : AV.str (trL c s) = r
  rw [w71]
  simp only [valsAre_iff, stIs_iff, retIs_iff, Prod.mk.injEq, AV.str.injEq, List.cons.injEq, and_true, true_and, beq_iff_eq, beq_eq_false_iff_ne, ne_eq, decide_eq_true_eq, decide_eq_false_iff_not, gt_iff_lt, u8c]
  refine ⟨⟨0, by simp, by omega, by simp⟩, fun x ⟨hx, hI⟩ => ?_⟩
  by_cases hlt : x < s.length
  · have hd : s.drop x = s.getD x 0 :: s.drop (x + 1) := drop_cons hlt
    have htl : ((s.drop x).drop 1) = s.drop (x + 1) := by rw [List.drop_drop]
    refine ⟨fun h => ⟨by omega, s.getD x 0, by rw [hd]; rfl, fun he => ⟨by omega, by rw [hd]; simp, x + 1, by rw [List.take_length, htl], ⟨by omega, ?_⟩, by omega⟩, fun hne => ?_⟩, fun h => ?_⟩
    · rw [← hI, hd]; unfold trL; rw [List.dropWhile_cons, if_pos (by rw [he]; simp)]
    · rw [← hr, ← hI, hd]; unfold trL; rw [List.dropWhile_cons, if_neg (by simpa using hne)]
    · rw [List.length_drop] at h; omega
  · have hd : s.drop x = [] := List.drop_eq_nil_of_le (by omega)
    rw [hd] at hI ⊢
    refine ⟨fun h => by simp at h, fun h => ?_⟩
    rw [← hr, ← hI]; rfl
theorem p72 (m : Int) (s : List UInt8) (c : UInt8) (hs : strOk s) : PureOk PZ (GZ m) XT (tbl []) (itbl []) (a72 s c) [] 72 [.str s, .int .u8 c.toNat] (.str (trR c s), []) := by
  have hs' : s.length ≤ 1000000 := hs
  constructor
  generalize hr : AV.str (trR c s) = r
  rw [w72]
  simp only [valsAre_iff, stIs_iff, retIs_iff, Prod.mk.injEq, AV.str.injEq, List.cons.injEq, and_true, true_and, beq_iff_eq, beq_eq_false_iff_ne, ne_eq, decide_eq_true_eq, decide_eq_false_iff_not, gt_iff_lt, u8c]
  refine ⟨⟨s.length, by simp, by omega, by simp⟩, fun x ⟨hx, hI⟩ => ?_⟩
  have hlen : (s.take x).length = x := by rw [List.length_take]; omega
  rw [hlen]
  match x, hx, hI, hlen with
  | 0, hx, hI, hlen =>
    refine ⟨fun h => by omega, fun h => ?_⟩
    rw [← hr, ← hI]; simp [trR]
  | x + 1, hx, hI, hlen =>
    have ht := take_snoc hx
    have hw : IntKind.i64.wrap (((x + 1 : Nat) : Int) - 1) = (x : Int) := by rw [wrap64_in (by omega) (by omega)]; omega
    rw [hw, Int.toNat_natCast, ht]
    refine ⟨fun h => ⟨by omega, s.getD x 0, ?_, fun he => ⟨by omega, by omega, x, ?_, ⟨by omega, ?_⟩, by omega⟩, fun hne => ?_⟩, fun h => by omega⟩
    · rw [List.getElem?_append_right (by rw [List.length_take]; omega), List.length_take, Nat.min_eq_left (by omega), Nat.sub_self]; rfl
    · rw [List.drop_zero, List.take_append_of_le_length (by rw [List.length_take]; omega), List.take_take, Nat.min_self]
    · rw [← hI, ht, he, trR_snoc_eq]
    · rw [← hr, ← hI, ht, trR_snoc_ne _ hne]
theorem sTrim_of {X : Shapes} {R : Callee} {C : CCallee} {m : Int} {g : FuncId} {f : UInt8 → List UInt8 → List UInt8} (hR : CalleeOk PZ (GZ m) R) (hC : ICalleeOk PZ (GZ m) (lowC C))
    (h : ∀ s c, strOk s → ∃ A, PureOk PZ (GZ m) X R C A [] g [.str s, .int .u8 (c : UInt8).toNat] (.str (f c s), [])) : SpecOk PZ (GZ m) g (sTrim f) := spec_of (X := X) (m := []) mixedZ hR hC fun args r h' => by
  unfold sTrim at h'
  split at h'
  · split at h'
    · rename_i s c hc
      injection h' with h'; subst h'
      have hn : c = ((UInt8.ofNat c.toNat).toNat : Int) := by rw [UInt8.toNat_ofNat']; omega
      have := h s (UInt8.ofNat c.toNat) hc.1
      rw [← hn] at this
      exact this
    · cases h'
  · cases h'
theorem o71 (m : Int) : SpecOk PZ (GZ m) 71 s71 := sTrim_of (X := XT) tbl_nil itbl_nil fun s c hs => ⟨a71 s c, p71 m s c hs⟩
theorem o72 (m : Int) : SpecOk PZ (GZ m) 72 s72 := sTrim_of (X := XT) tbl_nil itbl_nil fun s c hs => ⟨a72 s c, p72 m s c hs⟩
theorem trR_len (c : UInt8) (s : List UInt8) : (trR c s).length ≤ s.length := by
  unfold trR
  rw [List.length_reverse]
  have := (List.dropWhile_sublist (fun x => x == c) (l := s.reverse)).length_le
  simpa using this
theorem trL_len (c : UInt8) (s : List UInt8) : (trL c s).length ≤ s.length := (List.dropWhile_sublist (fun x => x == c) (l := s)).length_le
theorem p43 (m : Int) (s : List UInt8) (hs : strOk s) : PureOk PZ (GZ m) XT (tbl [(71, s71), (72, s72)]) (itbl []) nAn [] 43 [.str s, .str [34]] (.str (trL 34 (trR 34 s)), []) := by
  have hs2 : strOk (trR 34 s) := Nat.le_trans (trR_len 34 s) hs
  constructor
  generalize hr : AV.str (trL 34 (trR 34 s)) = r
  have t1 : tbl [(71, s71), (72, s72)] 72 [.str s, .int .u8 ((34 : UInt8).toNat : Int)] = some (.str (trR 34 s), []) := by
    rw [tbl_miss (by decide), tbl_hit]; simp only [s72, sTrim]; rw [if_pos ⟨hs, by decide, by decide⟩]; rfl
  have t2 : tbl [(71, s71), (72, s72)] 71 [.str (trR 34 s), .int .u8 ((34 : UInt8).toNat : Int)] = some (.str (trL 34 (trR 34 s)), []) := by
    rw [tbl_hit]; simp only [s71, sTrim]; rw [if_pos ⟨hs2, by decide, by decide⟩]; rfl
  rw [w43]
  simp only [beq_iff_eq, beq_eq_false_iff_ne, ne_eq]
  refine ⟨fun h => ⟨by rw [← hr, h]; rfl⟩, fun h => ⟨fun h => (nomatch h), fun _ => ⟨fun _ => ⟨by omega, 34, rfl, fun _ => ⟨by omega, 34, rfl, trR 34 s, ⟨t1⟩, by omega, 34, rfl, _, ⟨t2⟩, ⟨by rw [← hr]⟩⟩, fun h => ?_⟩, fun h => (nomatch h)⟩⟩⟩
  exact absurd h (by decide)
theorem o43 (m : Int) : SpecOk PZ (GZ m) 43 s43 := spec_of (X := XT) (m := []) mixedZ (tbl_cons (o71 m) (tbl_cons (o72 m) tbl_nil)) itbl_nil fun args r h => by
  unfold s43 at h
  split at h
  · split at h
    · rename_i hs
      injection h with h; subst h
      exact ⟨nAn, p43 m _ hs⟩
    · cases h
  · cases h
end Go.Abs

namespace Go.Abs
open Go.Proofs L8
theorem restB_eq (s : List UInt8) : restB s = s.drop (dAt s) := by
  unfold restB dAt; split <;> rfl
theorem negB_iff {s : List UInt8} : negB s = true ↔ s ≠ [] ∧ s.getD 0 0 = 45 := by
  cases s with
  | nil => simp [negB]
  | cons c t => simp [negB]
theorem dAt_le (s : List UInt8) : dAt s ≤ s.length := by
  unfold dAt
  split
  · rename_i h
    have := (negB_iff.1 h).1
    cases s with
    | nil => exact absurd rfl this
    | cons c t => simp
  · omega
theorem eqU {c : UInt8} {k : Nat} (hk : k < 256) : ((c.toNat : Int) = (k : Int)) ↔ c = UInt8.ofNat k := nat_eq_u8 hk
theorem I82.next {s : List UInt8} {x : Nat} (h : I82 s x) (hx : x < s.length) (hd : digitB (s.getD x 0) = true) (hv : valL ((s.take x).drop (dAt s)) ≤ 115292150460684697) :
    I82 s (x + 1) ∧ valL ((s.take (x + 1)).drop (dAt s)) = 10 * valL ((s.take x).drop (dAt s)) + ((s.getD x 0).toNat - 48) := by
  have hlen : dAt s ≤ (s.take x).length := by rw [List.length_take]; have := h.lo; omega
  have ht : (s.take (x + 1)).drop (dAt s) = (s.take x).drop (dAt s) ++ [s.getD x 0] := by
    rw [take_snoc (by omega), List.drop_append_of_le_length hlen]
  refine ⟨⟨by have := h.lo; omega, by omega, ?_, fun j hj => ?_, h.ne⟩, ?_⟩
  · rw [ht, List.all_append, h.d, List.all_cons, hd]; rfl
  · by_cases hj2 : j < x - dAt s
    · exact h.b j hj2
    · have : j = x - dAt s := by have := h.lo; omega
      subst this
      rw [restB_eq, ← List.drop_take]
      exact hv
  · rw [ht, valL_snoc]
theorem p82 (m : Int) (s : List UInt8) (hs : strOk s) : PureOk PZ (GZ m) XT (tbl []) (itbl []) (a82 s) [] 82 [.str s] (aV (wholeV s), []) := by
  have hs' : s.length ≤ 1000000 := hs
  constructor
  generalize hr : aV (wholeV s) = r
  rw [w82]
  simp only [valsAre_iff, stIs_iff, retIs_iff, Prod.mk.injEq, AV.int.injEq, List.cons.injEq, and_true, true_and, beq_iff_eq, beq_eq_false_iff_ne, ne_eq, decide_eq_true_eq, decide_eq_false_iff_not, gt_iff_lt, Bool.not_eq_true', Bool.not_eq_false', true_imp_iff, Int.toNat_natCast, exists_const]
  have hz : ¬ wholeB (restB s) → AV.agg [.int .i64 0, .int .i64 0, .str []] = r := fun h => by
    rw [← hr]; unfold wholeV; rw [if_neg h]; rfl
  have hrl : (restB s).length = s.length - dAt s := by rw [restB_eq, List.length_drop]
  have hdl := dAt_le s
  have hat : ∀ x, dAt s ≤ x → x < s.length → (restB s).getD (x - dAt s) 0 = s.getD x 0 := fun x h1 h2 => by
    rw [restB_eq, getD_drop']; congr 1; omega
  refine ⟨⟨fun h => ?_, fun h => ?_⟩, fun _ => ⟨fun h => ?_, fun h => ?_⟩⟩
  · have hne : s ≠ [] := h
    have hl : 0 < s.length := List.length_pos_iff.2 hne
    refine ⟨by omega, s.getD 0 0, sAtOpt hl, fun hc => ?_, fun hc => ?_⟩
    · unfold dAt; rw [if_pos (negB_iff.2 ⟨hne, (eqU (k := 45) (by omega)).1 hc⟩)]; rfl
    · unfold dAt; rw [if_neg (fun h => hc ((eqU (k := 45) (by omega)).2 (negB_iff.1 h).2))]; rfl
  · unfold dAt; rw [if_neg (fun h2 => (negB_iff.1 h2).1 h)]; rfl
  · refine hz fun hb => hb.1 ?_
    rw [restB_eq, List.drop_eq_nil_of_le (by omega)]
  · have h0 : (s.take (dAt s)).drop (dAt s) = [] := by rw [List.drop_eq_nil_of_le]; rw [List.length_take]; omega
    refine ⟨⟨dAt s, ⟨by rw [h0]; rfl, rfl⟩, ⟨Nat.le_refl _, hdl, by rw [h0]; rfl, fun j hj => by omega, by omega⟩⟩, fun x hx => ⟨fun hlt => ?_, fun hge => ?_⟩⟩
    · have hx2 := hx.lo
      have hc := (s.getD x 0).toNat_lt
      have hnd : digitB (s.getD x 0) = false → AV.agg [.int .i64 0, .int .i64 0, .str []] = r := fun h => hz fun hb => by
        have h1 : (restB s).getD (x - dAt s) 0 ∈ restB s := by
          rw [List.getD_eq_getElem?_getD, List.getElem?_eq_getElem (by omega)]; exact List.getElem_mem _
        have := List.all_eq_true.1 hb.2.1 _ h1
        rw [hat x hx2 (by omega), h] at this
        cases this
      refine ⟨by omega, s.getD x 0, sAtOpt (by omega), fun h1 => hnd ?_, fun h1 => ⟨by omega, s.getD x 0, sAtOpt (by omega), fun h2 => hnd ?_, fun h2 => ⟨fun h3 => hz fun hb => ?_, fun h3 => ⟨by omega, s.getD x 0, sAtOpt (by omega), x + 1, ⟨?_, ?_⟩, ?_, by omega⟩⟩⟩⟩
      · rw [← Bool.not_eq_true, digitB_iff]; omega
      · rw [← Bool.not_eq_true, digitB_iff]; omega
      · have := hb.2.2 (x - dAt s) (by omega)
        rw [restB_eq, ← List.drop_take] at this
        omega
      all_goals have hd : digitB (s.getD x 0) = true := by rw [digitB_iff]; omega
      all_goals obtain ⟨hn, hv⟩ := hx.next (by omega) hd (by omega)
      · rw [digitB_iff] at hd
        rw [hv, wrapu8, wrap64_in (n := ((s.getD x 0).toNat - 48 : Int) % 256) (by omega) (by omega), wrap64_in (n := 10 * (valL ((s.take x).drop (dAt s)) : Int)) (by omega) (by omega), wrap64_in (by omega) (by omega)]
        omega
      · rw [wrap64_in (by omega) (by omega)]; omega
      · exact hn
    · have hxl : x = s.length := by have := hx.hi; omega
      subst hxl
      have hd := hx.d
      have hb := hx.b
      rw [List.take_length, ← restB_eq] at hd ⊢
      have hW : wholeB (restB s) := ⟨fun e => by rw [e] at hrl; simp at hrl; have := hx.ne; omega, hd, fun j hj => hb j (by omega)⟩
      have hv : (valL (restB s) : Int) ≤ 1152921504606846979 := by
        have hne := hW.1
        obtain ⟨l, c, e⟩ : ∃ l c, restB s = l ++ [c] := ⟨(restB s).dropLast, (restB s).getLast hne, (List.dropLast_concat_getLast hne).symm⟩
        have := hW.2.2 l.length (by rw [e]; simp)
        have hdc : digitB c = true := List.all_eq_true.1 hW.2.1 c (by rw [e]; simp)
        rw [e, List.take_left] at this
        rw [e, valL_snoc]
        rw [digitB_iff] at hdc
        omega
      have hw : wholeV s = ⟨2, if negB s then -(valL (restB s) : Int) else valL (restB s), []⟩ := by unfold wholeV; rw [if_pos hW]
      refine ⟨fun h1 => ?_, fun h1 => ?_⟩
      · have hn : negB s = true := by
          cases hq : negB s with
          | true => rfl
          | false => unfold dAt at h1; rw [hq] at h1; simp at h1
        rw [← hr, hw, hn, wrap64_in (by omega) (by omega)]
        simp [aV]
      · have hn : negB s = false := by
          cases hq : negB s with
          | false => rfl
          | true => unfold dAt at h1; rw [hq] at h1; simp at h1
        rw [← hr, hw, hn]
        simp [aV]
theorem o82 (m : Int) : SpecOk PZ (GZ m) 82 s82 := spec_of (X := XT) (m := []) mixedZ tbl_nil itbl_nil fun args r h => by
  unfold s82 at h
  split at h
  · split at h
    · rename_i hs
      injection h with h; subst h; exact ⟨a82 _, p82 m _ hs⟩
    · cases h
  · cases h
theorem p47 (m : Int) (s : List UInt8) (hs : strOk s) : PureOk PZ (GZ m) XT (tbl [(81, s45), (82, s82)]) (itbl []) (a47 s) [] 47 [.str s] (aV (gR s), []) := by
  have hs' : s.length ≤ 1000000 := hs
  have t1 : tbl [(81, s45), (82, s82)] 81 [.str s] = some (.tup [.int .i64 (decP s).1, .int .i64 (decP s).2], []) := by rw [tbl_hit]; simp only [s45]; rw [if_pos hs']
  have t2 : tbl [(81, s45), (82, s82)] 82 [.str s] = some (aV (wholeV s), []) := by rw [tbl_miss (by decide), tbl_hit]; simp only [s82, hs, if_true]
  constructor
  generalize hr : aV (gR s) = r
  rw [w47]
  simp only [t1, t2, callIs_iff, Option.some.injEq, valsAre_iff, stIs_iff, retIs_iff, Prod.mk.injEq, AV.int.injEq, AV.tup.injEq, List.cons.injEq, and_true, true_and, beq_iff_eq, beq_eq_false_iff_ne, ne_eq, decide_eq_true_eq, decide_eq_false_iff_not, ge_iff_le, true_imp_iff, Int.toNat_natCast, exists_const]
  have key : s ≠ trueT → s ≠ falseT → ¬ (2 ≤ s.length ∧ s.getD 0 0 = 34 ∧ s.getD (s.length - 1) 0 = 34) →
      (1 ≤ (s.length : Int) → (0 : Int) ≤ 0 ∧ ∃ c : UInt8, s[0]? = some c ∧ ((c.toNat : Int) = 64 → (0 : Int) ≤ 1 ∧ (1 ≤ s.length ∧ s.length ≤ s.length) ∧ AV.agg [.int .i64 5, .int .i64 0, .str (List.drop 1 (List.take s.length s))] = r) ∧
        (¬ (c.toNat : Int) = 64 → gR s = if 46 ∈ s then ⟨3, (decP s).1, []⟩ else wholeV s)) ∧
      (¬ 1 ≤ (s.length : Int) → gR s = if 46 ∈ s then ⟨3, (decP s).1, []⟩ else wholeV s) := fun h1 h2 h3 => by
    have hg : gR s = if 1 ≤ s.length ∧ s.getD 0 0 = 64 then ⟨5, 0, s.drop 1⟩ else if 46 ∈ s then ⟨3, (decP s).1, []⟩ else wholeV s := by
      unfold gR; rw [if_neg h1, if_neg h2, if_neg h3]
    refine ⟨fun h4 => ⟨by omega, s.getD 0 0, sAtOpt (by omega), fun h5 => ⟨by omega, by omega, ?_⟩, fun h5 => ?_⟩, fun h4 => ?_⟩
    · rw [if_pos ⟨by omega, (eqU (k := 64) (by omega)).1 h5⟩] at hg
      rw [← hr, hg, List.take_length]; rfl
    · rw [hg, if_neg (fun h => h5 ((eqU (k := 64) (by omega)).2 h.2))]
    · rw [hg, if_neg (fun h => h4 (by omega))]
  have e34 : ∀ c : UInt8, (c.toNat : Int) = 34 ↔ c = 34 := fun c => eqU (k := 34) (by omega)
  refine ⟨⟨fun h1 => ?_, fun h1 => ⟨fun h2 => ?_, fun h2 => ⟨fun h3 => ?_, fun h3 => key h1 h2 (fun h => h3 (by omega))⟩⟩⟩, fun _ hg => ⟨⟨0, rfl, by omega, fun j hj => by omega⟩, fun x ⟨hx, hno⟩ => ⟨fun h => ?_, fun h => ?_⟩⟩⟩
  · rw [← hr]; unfold gR; rw [if_pos h1]; rfl
  · rw [← hr]; unfold gR; rw [if_neg h1, if_pos h2]; rfl
  · have w1 : IntKind.i64.wrap ((s.length : Int) - 1) = ((s.length - 1 : Nat) : Int) := by rw [wrap64_in (by omega) (by omega)]; omega
    rw [w1, Int.toNat_natCast]
    refine ⟨by omega, s.getD 0 0, sAtOpt (by omega), fun h4 => ⟨by omega, s.getD (s.length - 1) 0, sAtOpt (by omega), fun h5 => ⟨by omega, by omega, by omega, ?_⟩, fun h5 => ?_⟩, fun h4 => ?_⟩
    · rw [e34] at h4 h5
      rw [← hr]; unfold gR; rw [if_neg h1, if_neg h2, if_pos ⟨by omega, h4, h5⟩]; rfl
    · rw [e34] at h5
      exact key h1 h2 fun h => h5 h.2.2
    · rw [e34] at h4
      exact key h1 h2 fun h => h4 h.2.1
  · refine ⟨by omega, s.getD x 0, sAtOpt (by omega), fun h1 => ⟨_, _, ⟨rfl, rfl⟩, ?_⟩, fun h1 => ⟨x + 1, ?_, ⟨by omega, fun j hj => ?_⟩, by omega⟩⟩
    · have h2 : s.getD x 0 = 46 := (eqU (k := 46) (by omega)).1 h1
      have h3 : (46 : UInt8) ∈ s := by
        rw [← h2, List.getD_eq_getElem?_getD, List.getElem?_eq_getElem (by omega)]; exact List.getElem_mem _
      rw [if_pos h3] at hg
      rw [← hr, hg]; rfl
    · rw [wrap64_in (by omega) (by omega)]; rfl
    · by_cases hjx : j = x
      · subst hjx
        intro h2
        exact h1 ((eqU (k := 46) (by omega)).2 h2)
      · exact hno j (by omega)
  · refine ⟨_, _, _, rfl, ?_⟩
    have h3 : ¬ (46 : UInt8) ∈ s := fun hm => by
      obtain ⟨j, hj, he⟩ := List.mem_iff_getElem.1 hm
      refine hno j (by omega) ?_
      rw [List.getD_eq_getElem?_getD, List.getElem?_eq_getElem hj]; exact he
    rw [if_neg h3] at hg
    rw [← hr, hg]; rfl
theorem o47 (m : Int) (h81 : SpecOk PZ (GZ m) 81 s45) : SpecOk PZ (GZ m) 47 s47 := spec_of (X := XT) (m := []) mixedZ (tbl_cons h81 (tbl_cons (o82 m) tbl_nil)) itbl_nil fun args r h => by
  unfold s47 at h
  split at h
  · split at h
    · rename_i hs
      injection h with h; subst h; exact ⟨a47 _, p47 m _ hs⟩
    · cases h
  · cases h
end Go.Abs

namespace Go.Abs
open Go.Proofs L8
theorem valF_ge : ∀ (l : List UInt8) (n : Nat), n ≤ valF n l
  | [], n => Nat.le_refl _
  | c :: l, n => by
    have := valF_ge l (10 * n + (c.toNat - 48))
    simp only [valF, List.foldl_cons] at this ⊢
    omega
theorem parse_digits : ∀ (l : List UInt8) (n : Nat), l.all digitB = true → n < 18446744073709551616 →
    Lib.parseUint10 n l = if valF n l < 18446744073709551616 then .ok (valF n l) else .range
  | [], n, _, hn => by simp [Lib.parseUint10, valF, hn]
  | c :: l, n, hd, hn => by
    simp only [List.all_cons, Bool.and_eq_true, digitB_iff] at hd
    have hv : valF n (c :: l) = valF (10 * n + (c.toNat - 48)) l := rfl
    have hge := valF_ge l (10 * n + (c.toNat - 48))
    simp only [Lib.parseUint10]
    rw [if_pos hd.1, hv]
    by_cases h1 : 1844674407370955162 ≤ n
    · rw [if_pos h1, if_neg (by omega)]
    · rw [if_neg h1]
      by_cases h2 : 18446744073709551616 ≤ n * 10 + (c.toNat - 48)
      · rw [if_pos h2, if_neg (by omega)]
      · rw [if_neg h2, Nat.mul_comm n 10]
        exact parse_digits l _ hd.2 (by omega)
theorem dig_ofNat {d : Nat} (h : d < 10) : digitB (UInt8.ofNat (48 + d)) = true ∧ (UInt8.ofNat (48 + d)).toNat = 48 + d := by
  have : (UInt8.ofNat (48 + d)).toNat = 48 + d := by rw [UInt8.toNat_ofNat']; omega
  exact ⟨by rw [digitB_iff, this]; omega, this⟩
theorem decD_all (n : Nat) : (Lib.decDigits n).all digitB = true := by
  induction n using Nat.strongRecOn with
  | ind n ih =>
    rw [decD_step]
    by_cases h : n < 10
    · rw [if_pos h, List.nil_append, List.all_cons, (dig_ofNat (d := n % 10) (by omega)).1]; rfl
    · rw [if_neg h, List.all_append, ih _ (by omega), List.all_cons, (dig_ofNat (d := n % 10) (by omega)).1]; rfl
theorem decD_val (n : Nat) : valL (Lib.decDigits n) = n := by
  induction n using Nat.strongRecOn with
  | ind n ih =>
    rw [decD_step, valL_snoc, (dig_ofNat (d := n % 10) (by omega)).2]
    by_cases h : n < 10
    · rw [if_pos h]; simp [valL]; omega
    · rw [if_neg h, ih _ (by omega)]; omega
theorem decD_ne (n : Nat) : Lib.decDigits n ≠ [] := by rw [decD_step]; simp
theorem lowD_all : ∀ k n, (lowD k n).all digitB = true
  | 0, _ => rfl
  | k + 1, n => by rw [lowD, List.all_append, lowD_all k, List.all_cons, (dig_ofNat (d := n % 10) (by omega)).1]; rfl
theorem lowD_val : ∀ k n, n < 10 ^ k → valL (lowD k n) = n
  | 0, n, h => by simp at h; subst h; rfl
  | k + 1, n, h => by
    rw [Nat.pow_succ] at h
    rw [lowD, valL_snoc, lowD_val k _ (by omega), (dig_ofNat (d := n % 10) (by omega)).2]; omega
theorem padD_all (n : Nat) : (padD n).all digitB = true := by
  unfold padD restD; split
  · exact lowD_all _ _
  · exact decD_all _
theorem padD_val (n : Nat) : valL (padD n) = n := by
  unfold padD restD; split
  · rename_i h; exact lowD_val _ _ h
  · exact decD_val _
/-- parts of a decimal's text -/
theorem point_parts {N : Nat} (h : N < 10 ^ 20) : ∃ a b, pointL (padD N) = a ++ 46 :: b ∧ a ++ b = padD N ∧ a ≠ [] ∧ b.length = 6 ∧ a.all digitB = true ∧ b.all digitB = true := by
  have hl := padD_len h
  have ha := padD_all N
  refine ⟨(padD N).take ((padD N).length - 6), (padD N).drop ((padD N).length - 6), rfl, List.take_append_drop _ _, fun e => ?_, by simp; omega, ?_, ?_⟩
  · have := congrArg List.length e; rw [List.length_take] at this; simp at this; omega
  · exact List.all_eq_true.2 fun x hx => List.all_eq_true.1 ha x (List.mem_of_mem_take hx)
  · exact List.all_eq_true.2 fun x hx => List.all_eq_true.1 ha x (List.mem_of_mem_drop hx)
theorem head_dig {l : List UInt8} (h : l.all digitB = true) (hne : l ≠ []) : ∃ c t, l = c :: t ∧ digitB c = true := by
  cases l with
  | nil => exact absurd rfl hne
  | cons c t => simp at h; exact ⟨c, t, rfl, h.1⟩
def numOk (n : Int) : Prop := -1152921504606846976 ≤ n ∧ n ≤ 1152921504606846976
theorem numOk.i64 {n : Int} (h : numOk n) : i64Ok n := ⟨by have := h.1; omega, by have := h.2; omega⟩
theorem negB_sign {n : Int} {c : UInt8} {t : List UInt8} (hc : digitB c = true) : negB (signL n ++ c :: t) = decide (n < 0) := by
  unfold signL negB
  by_cases h : n < 0
  · rw [if_pos h, decide_eq_true h]; rfl
  · rw [if_neg h, decide_eq_false h]
    rw [digitB_iff] at hc
    have : c ≠ 45 := by rintro rfl; simp at hc
    simp [this]
theorem drop_sign {n : Int} {l : List UInt8} : (if decide (n < 0) = true then (signL n ++ l).drop 1 else signL n ++ l) = l := by
  unfold signL
  by_cases h : n < 0
  · rw [if_pos (decide_eq_true h), if_pos h]; rfl
  · rw [if_neg (by simpa using h), if_neg h]; rfl
theorem decP_decF {n : Int} (h : numOk n) : decP (decF n) = (n, 0) := by
  obtain ⟨a, b, he, hab, hne, hb, hda, hdb⟩ := point_parts (natAbs20 h.i64)
  obtain ⟨c, t, hc, hd⟩ := head_dig hda hne
  have hN : negB (decF n) = decide (n < 0) := by
    unfold decF; rw [he, hc]; exact negB_sign hd
  unfold decP
  rw [hN]
  have hr : (if decide (n < 0) = true then (decF n).drop 1 else decF n) = a ++ 46 :: b := by
    unfold decF; rw [drop_sign, he]
  rw [hr]
  unfold decR
  have hf : dfold (a ++ 46 :: b) = some (a ++ b, some 6) := by
    unfold dfold
    rw [List.foldl_append, dfold_digits a [] none hda, List.foldl_cons]
    have : dstep (some ([] ++ a, Option.map (· + a.length) none)) 46 = some (a, some 0) := by
      simp only [dstep, List.nil_append]; rw [if_pos ⟨trivial, rfl, hne⟩]
    rw [this, dfold_digits b a (some 0) hdb, hb]
    rfl
  rw [hf]
  simp only [Option.getD_some]
  have hno : ¬ (a ++ b = [] ∨ some 6 = some 0 ∨ 6 < 6) := by
    rintro (h | h | h)
    · exact hne (List.append_eq_nil_iff.1 h).1
    · simp at h
    · omega
  rw [if_neg hno, hab, padD_val]
  unfold decFin
  obtain ⟨h1, h2⟩ := h
  rw [Nat.sub_self, Nat.pow_zero, Nat.mul_one, if_neg (by have : (2 : Nat) ^ 60 = 1152921504606846976 := by decide
                                                          omega)]
  by_cases hn : n < 0
  · rw [if_pos (decide_eq_true hn)]; congr 1; omega
  · rw [if_neg (by simpa using hn)]; congr 1; omega
theorem atoi_itoa {n : Int} (h : numOk n) : Lib.atoiAll (Lib.itoa n) = .ok n := by
  obtain ⟨h1, h2⟩ := h
  have hp : Lib.parseMag (Lib.decDigits n.natAbs) = .ok n.natAbs := by
    unfold Lib.parseMag
    have hv : valF 0 (Lib.decDigits n.natAbs) = n.natAbs := by rw [← valL_eq, decD_val]
    rw [if_neg (decD_ne _), parse_digits _ 0 (decD_all _) (by omega), hv, if_pos (by omega)]
  obtain ⟨c, t, hc, hd⟩ := head_dig (decD_all n.natAbs) (decD_ne _)
  rw [digitB_iff] at hd
  rw [itoa_eq]
  unfold signL
  by_cases hn : n < 0
  · rw [if_pos hn]
    show Lib.atoiAll (45 :: Lib.decDigits n.natAbs) = _
    simp only [Lib.atoiAll]
    rw [if_pos (by decide), hp]
    simp only
    rw [if_neg (by simp), if_neg (by simp; omega), if_pos (by decide)]
    congr 1; omega
  · rw [if_neg hn, List.nil_append]
    rw [hc] at hp ⊢
    simp only [Lib.atoiAll]
    rw [if_neg (by omega), hp]
    simp only
    rw [if_neg (by omega), if_neg (by omega), if_neg (by omega)]
    congr 1; omega
theorem whole_itoa {n : Int} (h : numOk n) : wholeV (Lib.itoa n) = ⟨2, n, []⟩ := by
  obtain ⟨h1, h2⟩ := h
  obtain ⟨c, t, hc, hd⟩ := head_dig (decD_all n.natAbs) (decD_ne _)
  have hN : negB (Lib.itoa n) = decide (n < 0) := by rw [itoa_eq, hc]; exact negB_sign hd
  have hr : restB (Lib.itoa n) = Lib.decDigits n.natAbs := by
    unfold restB; rw [hN, itoa_eq]; exact drop_sign
  have hW : wholeB (Lib.decDigits n.natAbs) := by
    refine ⟨decD_ne _, decD_all _, ?_⟩
    have key : ∀ (j M : Nat), j < (Lib.decDigits M).length → valL ((Lib.decDigits M).take j) ≤ M / 10 := by
      intro j M
      induction M using Nat.strongRecOn with
      | ind M ih =>
        intro hj
        rw [decD_step] at hj ⊢
        by_cases h10 : M < 10
        · rw [if_pos h10] at hj ⊢
          simp at hj; subst hj; simp [valL]
        · rw [if_neg h10] at hj ⊢
          simp at hj
          by_cases hj2 : j < (Lib.decDigits (M / 10)).length
          · rw [List.take_append_of_le_length (by omega)]
            exact Nat.le_trans (ih _ (by omega) hj2) (Nat.div_le_self _ _)
          · rw [show j = (Lib.decDigits (M / 10)).length by omega, List.take_left, decD_val]
            exact Nat.le_refl _
    intro j hj
    have := key j _ hj
    omega
  unfold wholeV
  rw [hr, if_pos hW, hN, decD_val]
  by_cases hn : n < 0
  · rw [if_pos (decide_eq_true hn)]; congr 1; omega
  · rw [if_neg (by simpa using hn)]; congr 1; omega
theorem contains_mem (s : List UInt8) : Lib.contains s [46] = decide (46 ∈ s) := by
  unfold Lib.contains
  rw [Lib.index_one, ← Lib.contains_iff_indexByte]
  simp
end Go.Abs

namespace Go.Abs
open Go.Proofs L8
/-- a valid value, kind by kind -/
theorem valid_cases {k n : Int} {s : List UInt8} (h : validB k n s = true) :
    (k = 0 ∧ n = 0 ∧ s = []) ∨ (k = 1 ∧ (n = 0 ∨ n = 1) ∧ s = []) ∨ ((k = 2 ∨ k = 3) ∧ numOk n ∧ s = []) ∨ (k = 4 ∧ n = 0 ∧ textB s = true) ∨ (k = 5 ∧ n = 0 ∧ keyB s = true) := by
  have hc : checkI k n s = 0 := by simpa [validB] using h
  unfold checkI at hc
  split at hc
  · cases hc
  · split at hc
    · cases hc
    · split at hc
      · cases hc
      · rename_i h1 h2 h3
        rw [Bool.not_eq_false] at h1
        unfold fieldsB at h1
        by_cases k0 : k = 0
        · rw [if_pos k0] at h1; simp at h1; exact .inl ⟨k0, h1⟩
        · rw [if_neg k0] at h1
          by_cases k1 : k = 1
          · rw [if_pos k1] at h1; simp at h1; exact .inr (.inl ⟨k1, h1⟩)
          · rw [if_neg k1] at h1
            by_cases k2 : k = 2 ∨ k = 3
            · rw [if_pos k2] at h1
              refine .inr (.inr (.inl ⟨k2, ?_, by simpa using h1⟩))
              have : ¬ inR n = false := fun e => h2 (.inl e)
              have h9 : -1152921504606846976 ≤ n ∧ n ≤ 1152921504606846976 := by simpa [inR] using this
              exact h9
            · rw [if_neg k2] at h1
              by_cases k3 : k = 4 ∨ k = 5
              · rw [if_pos k3] at h1
                rcases k3 with k3 | k3
                · exact .inr (.inr (.inr (.inl ⟨k3, by simpa using h1, by
                    cases ht : textB s with
                    | true => rfl
                    | false => exact absurd (.inl ⟨k3, ht⟩) h3⟩)))
                · exact .inr (.inr (.inr (.inr ⟨k3, by simpa using h1, by
                    cases ht : keyB s with
                    | true => rfl
                    | false => exact absurd (.inr ⟨k3, ht⟩) h3⟩)))
              · rw [if_neg k3] at h1; cases h1
theorem fmt_valid {k n : Int} {s : List UInt8} (h : validB k n s = true) : fmtL k n s =
    if k = 1 then (if n = 1 then trueT else falseT) else
    if k = 2 then Lib.itoa n else if k = 3 then decF n else if k = 4 then [34] ++ s ++ [34] else if k = 5 then [64] ++ s else nullT := by
  unfold fmtL; rw [if_neg (by rw [h]; simp)]
/-- the text of a number begins with a digit or a sign -/
theorem head_num {n : Int} {l : List UInt8} (h : ∃ c t, l = c :: t ∧ digitB c = true) : ∃ c t, signL n ++ l = c :: t ∧ (c = 45 ∨ digitB c = true) := by
  obtain ⟨c, t, rfl, hd⟩ := h
  unfold signL
  by_cases hn : n < 0
  · rw [if_pos hn]; exact ⟨45, c :: t, rfl, .inl rfl⟩
  · rw [if_neg hn]; exact ⟨c, t, rfl, .inr hd⟩
theorem head_itoa (n : Int) : ∃ c t, Lib.itoa n = c :: t ∧ (c = 45 ∨ digitB c = true) := by
  rw [itoa_eq]; exact head_num (head_dig (decD_all _) (decD_ne _))
theorem head_decF {n : Int} (h : numOk n) : ∃ c t, decF n = c :: t ∧ (c = 45 ∨ digitB c = true) := by
  obtain ⟨a, b, he, hab, hne, hb, hda, hdb⟩ := point_parts (natAbs20 h.i64)
  unfold decF
  rw [he]
  obtain ⟨c, t, hc, hd⟩ := head_dig hda hne
  exact head_num ⟨c, t ++ 46 :: b, by rw [hc]; rfl, hd⟩
theorem head_not {l : List UInt8} (h : ∃ c t, l = c :: t ∧ (c = 45 ∨ digitB c = true)) : l ≠ nullT ∧ l ≠ trueT ∧ l ≠ falseT ∧ hasPfx l [64] = false ∧ hasPfx l [34] = false ∧ l.getD 0 0 ≠ 34 ∧ l.getD 0 0 ≠ 64 := by
  obtain ⟨c, t, rfl, hd⟩ := h
  have hc : c = 45 ∨ 48 ≤ c.toNat ∧ c.toNat ≤ 57 := by rw [digitB_iff] at hd; exact hd
  have hne : ∀ d : UInt8, d ≠ 45 → ¬ (48 ≤ d.toNat ∧ d.toNat ≤ 57) → c ≠ d := fun d h1 h2 h3 => by
    subst h3; rcases hc with h | h
    · exact h1 h
    · exact h2 h
  refine ⟨fun h => ?_, fun h => ?_, fun h => ?_, ?_, ?_, hne 34 (by decide) (by decide), hne 64 (by decide) (by decide)⟩
  · injection h with h _; exact hne 110 (by decide) (by decide) h
  · injection h with h _; exact hne 116 (by decide) (by decide) h
  · injection h with h _; exact hne 102 (by decide) (by decide) h
  · unfold hasPfx; rw [decide_eq_false]; intro h; simp at h; exact hne 64 (by decide) (by decide) h
  · unfold hasPfx; rw [decide_eq_false]; intro h; simp at h; exact hne 34 (by decide) (by decide) h
theorem decF_mem {n : Int} (h : numOk n) : (46 : UInt8) ∈ decF n := by
  obtain ⟨a, b, he, _⟩ := point_parts (natAbs20 h.i64)
  unfold decF; rw [he]; simp
theorem itoa_mem (n : Int) : ¬ (46 : UInt8) ∈ Lib.itoa n := by
  rw [itoa_eq]
  intro hm
  rw [List.mem_append] at hm
  rcases hm with hm | hm
  · unfold signL at hm; split at hm <;> simp at hm
  · have := List.all_eq_true.1 (decD_all n.natAbs) _ hm
    simp [digitB] at this
theorem text_noq {s : List UInt8} (h : textB s = true) : ∀ c ∈ s, c ≠ 34 := by
  unfold textB at h
  rw [Bool.and_eq_true] at h
  intro c hc
  have := List.all_eq_true.1 h.2 c hc
  unfold printB at this
  simp only [Bool.and_eq_true, decide_eq_true_eq] at this
  rintro rfl
  simp at this
theorem trR_noq {s : List UInt8} (h : ∀ c ∈ s, c ≠ 34) : trR 34 s = s := by
  by_cases hs : s = []
  · subst hs; rfl
  · obtain ⟨l, c, e⟩ : ∃ l c, s = l ++ [c] := ⟨s.dropLast, s.getLast hs, (List.dropLast_concat_getLast hs).symm⟩
    rw [e]; exact trR_snoc_ne l (h c (by rw [e]; simp))
theorem trL_noq {s : List UInt8} (h : ∀ c ∈ s, c ≠ 34) : trL 34 s = s := by
  unfold trL
  cases s with
  | nil => rfl
  | cons c t => rw [List.dropWhile_cons, if_neg (by simpa using h c (by simp))]
theorem trim_quoted {s : List UInt8} (h : ∀ c ∈ s, c ≠ 34) : trL 34 (trR 34 ([34] ++ s ++ [34])) = s := by
  rw [trR_snoc_eq]
  by_cases hs : s = []
  · subst hs; decide
  · obtain ⟨l, c, e⟩ : ∃ l c, s = l ++ [c] := ⟨s.dropLast, s.getLast hs, (List.dropLast_concat_getLast hs).symm⟩
    have h1 : trR 34 ([34] ++ s) = [34] ++ s := by
      rw [e, ← List.append_assoc]; exact trR_snoc_ne _ (h c (by rw [e]; simp))
    rw [h1]
    show trL 34 (34 :: s) = s
    unfold trL
    rw [List.dropWhile_cons, if_pos (by simp)]
    exact trL_noq h
theorem gP_fmt {k n : Int} {s : List UInt8} (h : validB k n s = true) : gP (fmtL k n s) = ⟨k, n, s⟩ := by
  rw [fmt_valid h]
  rcases valid_cases h with ⟨rfl, rfl, rfl⟩ | ⟨rfl, hn, rfl⟩ | ⟨hk, hn, rfl⟩ | ⟨rfl, rfl, hs⟩ | ⟨rfl, rfl, hs⟩
  · rfl
  · rcases hn with rfl | rfl <;> rfl
  · rcases hk with rfl | rfl
    · obtain ⟨h1, h2, h3, h4, h5, _⟩ := head_not (head_itoa n)
      show gP (Lib.itoa n) = _
      unfold gP atoiB atoiV
      rw [if_neg h1, if_neg (fun h => h.elim h2 h3), if_neg (by rw [h4]; simp), if_neg (by rw [h5]; simp), contains_mem, if_neg (by simpa using itoa_mem n), atoi_itoa hn]
      rfl
    · obtain ⟨h1, h2, h3, h4, h5, _⟩ := head_not (head_decF hn)
      show gP (decF n) = _
      unfold gP
      rw [if_neg h1, if_neg (fun h => h.elim h2 h3), if_neg (by rw [h4]; simp), if_neg (by rw [h5]; simp), contains_mem, if_pos (by simpa using decF_mem hn), decP_decF hn]
  · show gP ([34] ++ s ++ [34]) = _
    have e1 : hasPfx ([34] ++ s ++ [34]) [64] = false := by unfold hasPfx; simp
    have e2 : hasPfx ([34] ++ s ++ [34]) [34] = true := by unfold hasPfx; simp
    unfold gP
    rw [if_neg (by intro h; injection h with h _; exact absurd h (by decide)), if_neg (fun h => h.elim (fun h => absurd (List.cons.inj h).1 (by decide)) (fun h => absurd (List.cons.inj h).1 (by decide))), if_neg (by rw [e1]; simp), if_pos e2, trim_quoted (text_noq hs)]
  · show gP ([64] ++ s) = _
    have e1 : hasPfx ([64] ++ s) [64] = true := by unfold hasPfx; simp
    unfold gP
    rw [if_neg (by intro h; injection h with h _; exact absurd h (by decide)), if_neg (fun h => h.elim (fun h => absurd (List.cons.inj h).1 (by decide)) (fun h => absurd (List.cons.inj h).1 (by decide))), if_pos e1]
    rfl
theorem gR_fmt {k n : Int} {s : List UInt8} (h : validB k n s = true) : gR (fmtL k n s) = ⟨k, n, s⟩ := by
  rw [fmt_valid h]
  rcases valid_cases h with ⟨rfl, rfl, rfl⟩ | ⟨rfl, hn, rfl⟩ | ⟨hk, hn, rfl⟩ | ⟨rfl, rfl, hs⟩ | ⟨rfl, rfl, hs⟩
  · rfl
  · rcases hn with rfl | rfl <;> rfl
  · rcases hk with rfl | rfl
    · obtain ⟨h1, h2, h3, h4, h5, h6, h7⟩ := head_not (head_itoa n)
      show gR (Lib.itoa n) = _
      unfold gR
      rw [if_neg h2, if_neg h3, if_neg (fun h => h6 h.2.1), if_neg (fun h => h7 h.2), if_neg (itoa_mem n), whole_itoa hn]
    · obtain ⟨h1, h2, h3, h4, h5, h6, h7⟩ := head_not (head_decF hn)
      show gR (decF n) = _
      unfold gR
      rw [if_neg h2, if_neg h3, if_neg (fun h => h6 h.2.1), if_neg (fun h => h7 h.2), if_pos (decF_mem hn), decP_decF hn]
  · show gR ([34] ++ s ++ [34]) = _
    have hl : ([34] ++ s ++ [34]).length = s.length + 2 := by simp
    unfold gR
    rw [if_neg (by intro h; exact absurd (List.cons.inj h).1 (by decide)), if_neg (by intro h; exact absurd (List.cons.inj h).1 (by decide)), if_pos]
    · rw [hl, show s.length + 2 - 1 = ([34] ++ s).length by simp, List.take_left]; rfl
    · refine ⟨by omega, rfl, ?_⟩
      rw [hl, show s.length + 2 - 1 = ([34] ++ s).length by simp, List.getD_eq_getElem?_getD, List.getElem?_append_right (Nat.le_refl _), Nat.sub_self]; rfl
  · show gR ([64] ++ s) = _
    unfold gR
    rw [if_neg (by intro h; exact absurd (List.cons.inj h).1 (by decide)), if_neg (by intro h; exact absurd (List.cons.inj h).1 (by decide)), if_neg (fun h => absurd h.2.1 (by show ¬ (64 : UInt8) = 34; decide)), if_pos ⟨by simp, rfl⟩]
    rfl
theorem fmt_ne {k n : Int} {s : List UInt8} (h : validB k n s = true) : fmtL k n s ≠ [] := by
  rw [fmt_valid h]
  rcases valid_cases h with ⟨rfl, rfl, rfl⟩ | ⟨rfl, hn, rfl⟩ | ⟨hk, hn, rfl⟩ | ⟨rfl, rfl, hs⟩ | ⟨rfl, rfl, hs⟩
  · decide
  · rcases hn with rfl | rfl <;> decide
  · rcases hk with rfl | rfl
    · obtain ⟨c, t, e, _⟩ := head_itoa n
      show Lib.itoa n ≠ []
      rw [e]; simp
    · obtain ⟨c, t, e, _⟩ := head_decF hn
      show decF n ≠ []
      rw [e]; simp
  · show [34] ++ s ++ [34] ≠ []
    simp
  · show [64] ++ s ≠ []
    simp
theorem fmt_none {k n : Int} {s : List UInt8} (h : validB k n s = false) : fmtL k n s = [] := by unfold fmtL; rw [if_pos h]
theorem valid_of_fmt {k n : Int} {s t : List UInt8} (h : fmtL k n s = t) (ht : t ≠ []) : validB k n s = true := by
  cases hv : validB k n s with
  | true => rfl
  | false => rw [fmt_none hv] at h; exact absurd h.symm ht
/-- the two guesses lead to the same answer -/
theorem parse_eq (s : List UInt8) : endP (gR s) s = endP (gP s) s := by
  unfold endP
  by_cases h1 : s ≠ [] ∧ fmtL (gP s).k (gP s).n (gP s).s = s
  · have hv := valid_of_fmt h1.2 h1.1
    have he : gR s = gP s := by
      have := gR_fmt hv
      rw [h1.2] at this; exact this
    rw [he]
  · rw [if_neg h1]
    by_cases h2 : s ≠ [] ∧ fmtL (gR s).k (gR s).n (gR s).s = s
    · have hv := valid_of_fmt h2.2 h2.1
      have he : gP s = gR s := by
        have := gP_fmt hv
        rw [h2.2] at this; exact this
      rw [he] at h1
      exact absurd h2 h1
    · rw [if_neg h2]
theorem parse_fmt {k n : Int} {s : List UInt8} (h : validB k n s = true) : parseV (fmtL k n s) = (⟨k, n, s⟩, 0) := by
  unfold parseV endP
  rw [gP_fmt h, if_pos ⟨fmt_ne h, rfl⟩]
theorem parse_ok {s : List UInt8} (h : (parseV s).2 = 0) : fmtL (parseV s).1.k (parseV s).1.n (parseV s).1.s = s ∧ validB (parseV s).1.k (parseV s).1.n (parseV s).1.s = true := by
  unfold parseV endP at h ⊢
  by_cases h1 : s ≠ [] ∧ fmtL (gP s).k (gP s).n (gP s).s = s
  · rw [if_pos h1]; exact ⟨h1.2, valid_of_fmt h1.2 h1.1⟩
  · rw [if_neg h1] at h; cases h
theorem fmt_inj {k n k' n' : Int} {s s' : List UInt8} (h : validB k n s = true) (h' : validB k' n' s' = true) (e : fmtL k n s = fmtL k' n' s') : k = k' ∧ n = n' ∧ s = s' := by
  have h1 := gP_fmt h
  rw [e, gP_fmt h'] at h1
  injection h1 with a b c
  exact ⟨a.symm, b.symm, c.symm⟩
end Go.Abs

namespace Go.Abs
open Go.Proofs L8
theorem decP_ok (s : List UInt8) : i64Ok (decP s).1 := by
  have e : (2 : Nat) ^ 60 = 1152921504606846976 := by decide
  unfold decP decR
  split
  · exact ⟨by decide, by decide⟩
  · split
    · exact ⟨by decide, by decide⟩
    · rename_i ds k _ _
      unfold decFin
      split
      · exact ⟨by decide, by decide⟩
      · rename_i h
        split
        · exact ⟨by simp only []; omega, by simp only []; omega⟩
        · exact ⟨by simp only []; omega, by simp only []; omega⟩
theorem atoiV_ok (s : List UInt8) : i64Ok (atoiV s) := by
  unfold atoiV
  split
  · rename_i v h
    unfold Lib.atoiAll at h
    split at h
    · cases h
    · simp only at h
      split at h
      · cases h
      · cases h
      · split at h
        · cases h
        · split at h
          · cases h
          · injection h with h
            rw [← h]
            split
            · exact ⟨by omega, by omega⟩
            · exact ⟨by omega, by omega⟩
  · unfold Lib.atoiSat
    split
    · exact ⟨by decide, by decide⟩
    · exact ⟨by decide, by decide⟩
  · exact ⟨by decide, by decide⟩
theorem str_nil : strOk [] := by show ([] : List UInt8).length ≤ _; simp
theorem gP_ok {s : List UInt8} (hs : strOk s) : strOk (gP s).s ∧ i64Ok (gP s).n := by
  have h0 : i64Ok 0 := ⟨by decide, by decide⟩
  have h1 : i64Ok 1 := ⟨by decide, by decide⟩
  have hs' : s.length ≤ 1000000 := hs
  unfold gP
  split
  · exact ⟨str_nil, h0⟩
  · split
    · refine ⟨str_nil, ?_⟩
      show i64Ok (if s = trueT then 1 else 0)
      split
      · exact h1
      · exact h0
    · split
      · exact ⟨by show (s.drop 1).length ≤ _; simp; omega, h0⟩
      · split
        · refine ⟨?_, h0⟩
          have a := trL_len 34 (trR 34 s)
          have b := trR_len 34 s
          show (trL 34 (trR 34 s)).length ≤ _
          omega
        · split
          · exact ⟨str_nil, decP_ok s⟩
          · split
            · exact ⟨str_nil, atoiV_ok s⟩
            · exact ⟨str_nil, h0⟩
theorem whole_ok (s : List UInt8) : strOk (wholeV s).s ∧ i64Ok (wholeV s).n := by
  unfold wholeV
  split
  · rename_i hW
    refine ⟨str_nil, ?_⟩
    have hne := hW.1
    obtain ⟨l, c, e⟩ : ∃ l c, restB s = l ++ [c] := ⟨(restB s).dropLast, (restB s).getLast hne, (List.dropLast_concat_getLast hne).symm⟩
    have h1 := hW.2.2 l.length (by rw [e]; simp)
    have hdc : digitB c = true := List.all_eq_true.1 hW.2.1 c (by rw [e]; simp)
    rw [e, List.take_left] at h1
    rw [digitB_iff] at hdc
    have h2 : (valL (restB s) : Int) ≤ 1152921504606846979 := by
      rw [e, valL_snoc]; omega
    show i64Ok (if negB s = true then -(valL (restB s) : Int) else valL (restB s))
    split
    · exact ⟨by omega, by omega⟩
    · exact ⟨by omega, by omega⟩
  · exact ⟨str_nil, ⟨by decide, by decide⟩⟩
theorem gR_ok {s : List UInt8} (hs : strOk s) : strOk (gR s).s ∧ i64Ok (gR s).n := by
  have h0 : i64Ok 0 := ⟨by decide, by decide⟩
  have h1 : i64Ok 1 := ⟨by decide, by decide⟩
  have hs' : s.length ≤ 1000000 := hs
  unfold gR
  split
  · exact ⟨str_nil, h1⟩
  · split
    · exact ⟨str_nil, h0⟩
    · split
      · exact ⟨by show ((s.take (s.length - 1)).drop 1).length ≤ _; simp; omega, h0⟩
      · split
        · exact ⟨by show (s.drop 1).length ≤ _; simp; omega, h0⟩
        · split
          · exact ⟨str_nil, decP_ok s⟩
          · exact whole_ok s
theorem p21 (m : Int) (s : List UInt8) (hs : strOk s) : PureOk PZ (GZ m) XT (tbl [(47, s47), (24, s24), (23, s22)]) (itbl []) nAn [] 21 [.str s] (.tup [aV (parseV s).1, .int .i64 (parseV s).2], []) := by
  obtain ⟨h1, h2⟩ := gR_ok hs
  have t1 : tbl [(47, s47), (24, s24), (23, s22)] 47 [.str s] = some (aV (gR s), []) := by rw [tbl_hit]; simp only [s47, hs, if_true]
  have t2 : tbl [(47, s47), (24, s24), (23, s22)] 24 [.agg [.int .i64 (gR s).k, .int .i64 (gR s).n, .str (gR s).s]] = some (.bool (validB (gR s).k (gR s).n (gR s).s), []) := by rw [tbl_miss (by decide), tbl_hit, s24_at h1]
  have t3 : tbl [(47, s47), (24, s24), (23, s22)] 23 [.agg [.int .i64 (gR s).k, .int .i64 (gR s).n, .str (gR s).s]] = some (.str (fmtL (gR s).k (gR s).n (gR s).s), []) := by
    rw [tbl_miss (by decide), tbl_miss (by decide), tbl_hit]; simp only [s22, sVal', h1, h2, and_self, if_true]
  have hP : parseV s = endP (gR s) s := (parse_eq s).symm
  rw [hP]
  constructor
  generalize hr : AV.tup [aV (endP (gR s) s).1, .int .i64 (endP (gR s) s).2] = r
  rw [w21, t1]
  refine ⟨_, _, _, ⟨rfl⟩, ?_⟩
  rw [t2, t3]
  refine ⟨_, ⟨rfl⟩, fun hv => ⟨_, ⟨rfl⟩, fun h => ⟨?_⟩, fun h => ⟨?_⟩⟩, fun hv => ⟨?_⟩⟩
  · have : ¬ fmtL (gR s).k (gR s).n (gR s).s = s := by simpa using h
    rw [← hr]; unfold endP; rw [if_neg (fun h => this h.2)]; rfl
  · have : fmtL (gR s).k (gR s).n (gR s).s = s := by simpa using h
    rw [← hr]; unfold endP; rw [if_pos ⟨by rw [← this]; exact fmt_ne hv, this⟩]; rfl
  · rw [← hr]; unfold endP; rw [if_neg (fun h => by have := valid_of_fmt h.2 h.1; rw [hv] at this; cases this)]; rfl
theorem o21 (m : Int) : SpecOk PZ (GZ m) 21 s20 := spec_of (X := XT) (m := []) mixedZ (tbl_cons (o47 m (o81 m)) (tbl_cons (o24 m) (tbl_cons (o23 m) tbl_nil))) itbl_nil fun args r h => by
  unfold s20 at h
  split at h
  · split at h
    · rename_i hs
      injection h with h; subst h; exact ⟨nAn, p21 m _ hs⟩
    · cases h
  · cases h
theorem p20 (m : Int) (s : List UInt8) (hs : strOk s) : PureOk PZ (GZ m) XT (tbl [(42, s42), (43, s43), (44, sContains), (45, s45), (46, s46), (22, s22)]) (itbl []) (a20 s) [] 20 [.str s] (.tup [aV (parseV s).1, .int .i64 (parseV s).2], []) := by
  have hs' : s.length ≤ 1000000 := hs
  obtain ⟨g1, g2⟩ := gP_ok hs
  have t1 : tbl [(42, s42), (43, s43), (44, sContains), (45, s45), (46, s46), (22, s22)] 43 [.str s, .str [34]] = some (.str (trL 34 (trR 34 s)), []) := by rw [tbl_miss (by decide), tbl_hit]; simp only [s43, hs, if_true]
  have t2 : tbl [(42, s42), (43, s43), (44, sContains), (45, s45), (46, s46), (22, s22)] 44 [.str s, .str [46]] = some (.bool (Lib.contains s [46]), []) := by rw [tbl_miss (by decide), tbl_miss (by decide), tbl_hit]; simp only [sContains]; rw [if_pos (by omega)]
  have t3 : tbl [(42, s42), (43, s43), (44, sContains), (45, s45), (46, s46), (22, s22)] 45 [.str s] = some (.tup [.int .i64 (decP s).1, .int .i64 (decP s).2], []) := by rw [tbl_miss (by decide), tbl_miss (by decide), tbl_miss (by decide), tbl_hit]; simp only [s45]; rw [if_pos hs']
  have t4 : tbl [(42, s42), (43, s43), (44, sContains), (45, s45), (46, s46), (22, s22)] 46 [.str s] = some (.tup [.int .i64 (atoiV s), if atoiB s = true then .lit .nilIface else .ifc], []) := by rw [tbl_miss (by decide), tbl_miss (by decide), tbl_miss (by decide), tbl_miss (by decide), tbl_hit]; simp only [s46, hs, if_true]
  have t5 : ∀ g : V3, strOk g.s → i64Ok g.n → tbl [(42, s42), (43, s43), (44, sContains), (45, s45), (46, s46), (22, s22)] 22 [.agg [.int .i64 g.k, .int .i64 g.n, .str g.s]] = some (.str (fmtL g.k g.n g.s), []) := fun g h1 h2 => by
    rw [tbl_miss (by decide), tbl_miss (by decide), tbl_miss (by decide), tbl_miss (by decide), tbl_miss (by decide), tbl_hit]; simp only [s22, sVal', h1, h2, and_self, if_true]
  constructor
  generalize hr : AV.tup [aV (parseV s).1, .int .i64 (parseV s).2] = r
  rw [w20]
  simp only [t1, t2, t3, t4, callIs_iff, Option.some.injEq, valsAre_iff, stIs_iff, retIs_iff, Prod.mk.injEq, AV.str.injEq, AV.int.injEq, AV.bool.injEq, AV.tup.injEq, List.cons.injEq, and_true, true_and, beq_iff_eq, beq_eq_false_iff_ne, ne_eq, Bool.not_eq_true', Bool.not_eq_false', true_imp_iff, St.mk.injEq, exists_eq_left', reduceCtorEq, false_imp_iff]
  have mk : ∀ (k n : Int) (t : List UInt8), gP s = ⟨k, n, t⟩ → ∃ y : V3, (k = y.k ∧ n = y.n ∧ t = y.s) ∧ y = gP s := fun k n t h => ⟨gP s, by rw [h]; exact ⟨rfl, rfl, rfl⟩, rfl⟩
  have hbool : ∀ {b : Bool}, b = false → ¬ b = true := fun {b} h => by rw [h]; simp
  refine ⟨⟨fun c1 => mk _ _ _ ?_, fun c1 => ⟨fun c2 => ⟨fun _ => mk _ _ _ ?_, fun h => absurd c2 h⟩, fun c2 => ⟨fun c3 => ⟨fun h => absurd h c2, fun _ => mk _ _ _ ?_⟩, fun c3 => ⟨fun c4 => ⟨by omega, ?_, mk _ _ _ ?_⟩, fun c4 => ⟨fun c5 => mk _ _ _ ?_, fun c5 => ⟨fun c6 => ⟨_, _, ⟨rfl, rfl⟩, mk _ _ _ ?_⟩, fun c6 => ?_⟩⟩⟩⟩⟩⟩, ?_⟩
  · unfold gP; rw [if_pos c1]; rfl
  · unfold gP; rw [if_neg c1, if_pos (.inl c2), if_pos c2]
  · unfold gP; rw [if_neg c1, if_pos (.inr c3), if_neg c2]
  · have : s.take 1 = [64] := by simpa [hasPfx] using c4
    have := congrArg List.length this
    rw [List.length_take] at this
    simp at this
    omega
  · unfold gP; rw [if_neg c1, if_neg (fun h => h.elim c2 c3), if_pos c4, List.take_length]
  · unfold gP; rw [if_neg c1, if_neg (fun h => h.elim c2 c3), if_neg (hbool c4), if_pos c5]
  · unfold gP; rw [if_neg c1, if_neg (fun h => h.elim c2 c3), if_neg (hbool c4), if_neg (hbool c5), if_pos c6]
  · have hg : gP s = if atoiB s = true then ⟨2, atoiV s, []⟩ else nullV := by
      unfold gP; rw [if_neg c1, if_neg (fun h => h.elim c2 c3), if_neg (hbool c4), if_neg (hbool c5), if_neg (hbool c6)]
    cases hA : atoiB s with
    | true =>
      rw [if_pos hA] at hg
      exact ⟨_, .inr ⟨⟨rfl, rfl⟩, mk _ _ _ hg⟩⟩
    | false =>
      rw [if_neg (hbool hA)] at hg
      refine ⟨_, .inl ⟨⟨rfl, rfl⟩, ?_⟩⟩
      rw [← hr]
      unfold parseV endP
      rw [hg, if_neg]
      · rfl
      · intro h
        exact c1 h.2.symm
  · rintro x rfl
    refine ⟨_, t5 _ g1 g2, fun h => ?_, fun h => ⟨fun h2 => ?_, fun h2 => ?_⟩⟩
    · rw [← hr]; unfold parseV endP; rw [if_neg (fun h3 => h h3.2)]; rfl
    · rw [← hr]; unfold parseV endP; rw [if_neg (fun h3 => h3.1 h2)]; rfl
    · rw [← hr]; unfold parseV endP; rw [if_pos ⟨h2, h⟩]; rfl
theorem o20 (m : Int) : SpecOk PZ (GZ m) 20 s20 := spec_of (X := XT) (m := []) mixedZ (tbl_cons (o42 m) (tbl_cons (o43 m) (tbl_cons (o44 m) (tbl_cons (o45 m) (tbl_cons (o46 m) (tbl_cons (o22 m) tbl_nil)))))) itbl_nil fun args r h => by
  unfold s20 at h
  split at h
  · split at h
    · rename_i hs
      injection h with h; subst h; exact ⟨a20 _, p20 m _ hs⟩
    · cases h
  · cases h
end Go.Abs

namespace Go.Abs
open Go.Proofs L8
def s11a : Spec := fun args => match args with
  | [.agg [.int .i64 _, .int .i64 _, .str s]] => some (.bool (shortB s), [])
  | _ => none
theorem o11a (m : Int) : SpecOk PZ (GZ m) 11 s11a := spec_of (X := XZ) (m := []) mixedZ tbl_nil itbl_nil fun args r h' => by
  unfold s11a at h'
  split at h'
  · injection h' with h'; subst h'; exact ⟨nAn, p11 m _ _ _⟩
  · cases h'
def or3 (a b c : Int) : Int := if a ≠ 0 then a else if b ≠ 0 then b else c
def s62 : Spec := fun args => match args with
  | [.sl 1 [.int .i64 a, .int .i64 b, .int .i64 c] _] => some (.int .i64 (or3 a b c), [])
  | _ => none
def s87 : Spec := fun args => match args with
  | [.int .i64 _] => some (.bool false, [])
  | _ => none
def cmpV (k n : Int) (s : List UInt8) (k' n' : Int) (s' : List UInt8) : Int := or3 (cmpI k k') (cmpI n n') (Lib.compareBytes s s')
def s28 : Spec := fun args => match args with
  | [.agg [.int .i64 k, .int .i64 n, .str s], .agg [.int .i64 k', .int .i64 n', .str s']] => some (.int .i64 (cmpV k n s k' n' s'), [])
  | _ => none
def a62 : Anns := ⟨fun q => if q = 3 then some { α := Unit, slots := [], nb := 0, vals := fun _ => [], sS := fun _ => ⟨[], []⟩, I := fun _ => True, μ := fun _ => 0, unroll := 4 } else none, nA⟩
def oneP (k n : Int) (s b t : List UInt8) : Prop :=
  appL [] k n s = b ∧ fmtL k n s = t ∧ readV (appL [] k n s) 0 = (⟨k, n, s⟩, ((appL [] k n s).length : Int), 0) ∧ parseV t = (⟨k, n, s⟩, 0) ∧ checkI k n s = 0
end Go.Abs

namespace Go.Abs
open Go.Proofs L8
theorem w63 (m a b : Int) (r : AV) : (pureW PZ (GZ m) XT (tbl [(87, s87)]) (itbl []) nAn [] 63 [.int .i64 a, .int .i64 b] (r, [])) =
(∃ (b_1 : Bool),
  CallIs (some (AV.bool false, [])) (AV.bool b_1) [] ∧
    (b_1 = true →
        ∃ (b : Bool),
 CallIs (some (AV.bool false, [])) (AV.bool b) [] ∧
 (b = true → RetIs (AV.int IntKind.i64 (0 : Int)) [] (r, [])) ∧ (b = false → RetIs (AV.int IntKind.i64 (-1 : Int)) [] (r, []))) ∧
      (b_1 = false →
        ∃ (b_2 : Bool),
 CallIs (some (AV.bool false, [])) (AV.bool b_2) [] ∧
 (b_2 = true → RetIs (AV.int IntKind.i64 (1 : Int)) [] (r, [])) ∧
 (b_2 = false →
 (decide (a < b) = true → RetIs (AV.int IntKind.i64 (-1 : Int)) [] (r, [])) ∧
 (decide (a < b) = false →
 (decide (a > b) = true → RetIs (AV.int IntKind.i64 (1 : Int)) [] (r, [])) ∧
 (decide (a > b) = false → RetIs (AV.int IntKind.i64 (0 : Int)) [] (r, [])))))) := by kernel_rfl
theorem w62 (m a b c : Int) (r : AV) : (pureW PZ (GZ m) XT (tbl []) (itbl []) a62 [] 62 [.sl 1 [.int .i64 a, .int .i64 b, .int .i64 c] .no] (r, [])) =
((true = true →
    ((0 : Int) ≤ (0 : Int) ∧ (0 : Int) < (↑(3 : Nat) : Int)) ∧
      ∃ (n : Int),
        some (AV.int IntKind.i64 a) = some (AV.int IntKind.i64 n) ∧
 ((n != (0 : Int)) = true → RetIs (AV.int IntKind.i64 n) [] (r, [])) ∧
 ((n != (0 : Int)) = false →
 (true = true →
 ((0 : Int) ≤ (1 : Int) ∧ (1 : Int) < (↑(3 : Nat) : Int)) ∧
 ∃ (n : Int),
 some (AV.int IntKind.i64 b) = some (AV.int IntKind.i64 n) ∧
 ((n != (0 : Int)) = true → RetIs (AV.int IntKind.i64 n) [] (r, [])) ∧
 ((n != (0 : Int)) = false →
 (true = true →
 ((0 : Int) ≤ (2 : Int) ∧ (2 : Int) < (↑(3 : Nat) : Int)) ∧
 ∃ (n : Int),
 some (AV.int IntKind.i64 c) = some (AV.int IntKind.i64 n) ∧
 ((n != (0 : Int)) = true → RetIs (AV.int IntKind.i64 n) [] (r, [])) ∧
 ((n != (0 : Int)) = false →
 (false = true →
 ((0 : Int) ≤ (3 : Int) ∧ (3 : Int) < (↑(3 : Nat) : Int)) ∧
 ∃ (n : Int),
 none = some (AV.int IntKind.i64 n) ∧
 ((n != (0 : Int)) = true → RetIs (AV.int IntKind.i64 n) [] (r, [])) ∧ ((n != (0 : Int)) = false → False)) ∧
 (false = false → RetIs (AV.int IntKind.i64 (0 : Int)) [] (r, [])))) ∧
 (true = false → RetIs (AV.int IntKind.i64 (0 : Int)) [] (r, [])))) ∧
 (true = false → RetIs (AV.int IntKind.i64 (0 : Int)) [] (r, [])))) ∧
  (true = false → RetIs (AV.int IntKind.i64 (0 : Int)) [] (r, []))) := by kernel_rfl
theorem w28 (m k n k' n' : Int) (s s' : List UInt8) (r : AV) : (pureW PZ (GZ m) XT (tbl [(63, s63), (64, s64), (62, s62)]) (itbl []) nAn [] 28 [vA k n s, vA k' n' s'] (r, [])) =
(∃ (n_1 : Int),
  CallIs (some (AV.int IntKind.i64 (cmpI k k'), [])) (AV.int IntKind.i64 n_1) [] ∧
    ∃ (n_2 : Int),
      CallIs (some (AV.int IntKind.i64 (cmpI n n'), [])) (AV.int IntKind.i64 n_2) [] ∧
        ∃ (n : Int),
 CallIs (some (AV.int IntKind.i64 (Lib.compareBytes s s'), [])) (AV.int IntKind.i64 n) [] ∧
 ∃ (n_3 : Int), CallIs (some (AV.int IntKind.i64 (or3 n_1 n_2 n), [])) (AV.int IntKind.i64 n_3) [] ∧ RetIs (AV.int IntKind.i64 n_3) [] (r, [])) := by kernel_rfl
theorem w27 (m k n : Int) (s b t : List UInt8) (r : AV) : (pureW PZ (GZ m) XT (tbl [(18, s18), (16, s16), (20, s20), (22, s22), (12, s12)]) (itbl []) nAn [] 27 [vA k n s, .str b, .str t] (r, [])) =
(∃ (es : List AV),
  CallIs
      (tbl [(nat_lit 18, s18), (nat_lit 16, s16), (nat_lit 20, s20), (nat_lit 22, s22), (nat_lit 12, s12)] (nat_lit 18)
        [AV.sl (nat_lit 0) [] Own.nil, AV.agg [AV.int IntKind.i64 k, AV.int IntKind.i64 n, AV.str s]])
      (AV.sl (nat_lit 1) es (Own.tok (nat_lit 0))) [(es.length, nat_lit 5)] ∧
    ∃ (n_1 : Int),
      ∃ (n_2 : Int),
        ∃ (s_1 : List UInt8),
 ∃ (n_3 : Int),
 ∃ (n_4 : Int),
 CallIs
 (tbl [(nat_lit 18, s18), (nat_lit 16, s16), (nat_lit 20, s20), (nat_lit 22, s22), (nat_lit 12, s12)] (nat_lit 16)
 [AV.sl (nat_lit 1) es Own.no, AV.int IntKind.i64 (0 : Int)])
 (AV.tup [AV.agg [AV.int IntKind.i64 n_1, AV.int IntKind.i64 n_2, AV.str s_1], AV.int IntKind.i64 n_3, AV.int IntKind.i64 n_4]) [] ∧
 ∃ (n_5 : Int),
 ∃ (n_6 : Int),
 ∃ (s_2 : List UInt8),
 ∃ (n_7 : Int),
 CallIs (tbl [(nat_lit 18, s18), (nat_lit 16, s16), (nat_lit 20, s20), (nat_lit 22, s22), (nat_lit 12, s12)] (nat_lit 20) [AV.str t])
 (AV.tup [AV.agg [AV.int IntKind.i64 n_5, AV.int IntKind.i64 n_6, AV.str s_2], AV.int IntKind.i64 n_7]) [] ∧
 (nat_lit 1 = nat_lit 1 ∨ es = []) ∧
 ∃ (l : List UInt8),
 List.mapM byteOf es = some l ∧
 ((l == b) = true →
 ∃ (s_3 : List UInt8),
 CallIs
 (tbl [(nat_lit 18, s18), (nat_lit 16, s16), (nat_lit 20, s20), (nat_lit 22, s22), (nat_lit 12, s12)] (nat_lit 22)
 [AV.agg [AV.int IntKind.i64 k, AV.int IntKind.i64 n, AV.str s]])
 (AV.str s_3) [] ∧
 ((s_3 == t) = true →
 ((n_1 == k && (n_2 == n && (s_1 == s && true))) = true →
 ((n_3 == (↑es.length : Int)) = true →
 ((n_4 == (0 : Int)) = true →
 ((n_5 == k && (n_6 == n && (s_2 == s && true))) = true →
 ((n_7 == (0 : Int)) = true →
 ∃ (n_8 : Int),
 CallIs
 (tbl
 [(nat_lit 18, s18), (nat_lit 16, s16), (nat_lit 20, s20), (nat_lit 22, s22),
 (nat_lit 12, s12)]
 (nat_lit 12) [AV.agg [AV.int IntKind.i64 k, AV.int IntKind.i64 n, AV.str s]])
 (AV.int IntKind.i64 n_8) [] ∧
 ((n_8 == (0 : Int)) = true → RetIs (AV.bool true) [] (r, [])) ∧
 ((n_8 == (0 : Int)) = false → RetIs (AV.bool false) [] (r, []))) ∧
 ((n_7 == (0 : Int)) = false → RetIs (AV.bool false) [] (r, []))) ∧
 ((n_5 == k && (n_6 == n && (s_2 == s && true))) = false → RetIs (AV.bool false) [] (r, []))) ∧
 ((n_4 == (0 : Int)) = false → RetIs (AV.bool false) [] (r, []))) ∧
 ((n_3 == (↑es.length : Int)) = false → RetIs (AV.bool false) [] (r, []))) ∧
 ((n_1 == k && (n_2 == n && (s_1 == s && true))) = false → RetIs (AV.bool false) [] (r, []))) ∧
 ((s_3 == t) = false → RetIs (AV.bool false) [] (r, []))) ∧
 ((l == b) = false → RetIs (AV.bool false) [] (r, []))) := by kernel_rfl
end Go.Abs

namespace Go.Abs
open Go.Proofs L8 Go.Wire
theorem unzig_zig (n : Int) : unzig (zig n) = n := by
  unfold unzig zig
  by_cases h : 0 ≤ n
  · rw [if_pos h, if_neg (by omega)]; omega
  · rw [if_neg h, if_pos (by omega)]; omega
theorem zig_unzig (v : Nat) : zig (unzig v) = v := by
  unfold unzig zig
  by_cases h : v % 2 = 1
  · rw [if_pos h, if_neg (by omega)]; omega
  · rw [if_neg h, if_pos (by omega)]; omega
theorem drop_at (bs l : List UInt8) : (bs ++ l).drop bs.length = l := by simp
theorem uint_back {n : Nat} (h : n < 18446744073709551616) (rest : List UInt8) : uintP 10 (uintL n ++ rest) = .ok (n, (uintL n).length) := uintP_uintL 9 n rest (by simpa using h) (by omega)
theorem uintA_back {bs more : List UInt8} {n : Nat} (h : n < 18446744073709551616) : uintA (bs ++ (uintL n ++ more)) (bs.length : Int) = ((n : Int), (bs.length : Int) + (uintL n).length, 0) := by
  unfold uintA
  rw [if_neg (by simp; omega), Int.toNat_natCast, drop_at, uint_back h]
theorem sintA_back {bs more : List UInt8} {n : Int} (h : i64Ok n) : sintA (bs ++ (uintL (zig n) ++ more)) (bs.length : Int) = (n, (bs.length : Int) + (uintL (zig n)).length, 0) := by
  unfold sintA
  rw [uintA_back (zig_lt h)]
  simp only [Int.toNat_natCast, unzig_zig]
  rfl
theorem textA_back {bs more s : List UInt8} (h : s.length < 18446744073709551616) : textA (bs ++ (textL s ++ more)) (bs.length : Int) = (s, (bs.length : Int) + (textL s).length, 0) := by
  unfold textA textL
  rw [if_neg (by simp; omega), Int.toNat_natCast]
  unfold Z05.textR
  rw [drop_at, List.append_assoc, uint_back h]
  simp only []
  rw [if_neg (by simp; omega)]
  simp only []
  have e : (bs ++ (uintL s.length ++ (s ++ more))).drop (bs.length + (uintL s.length).length) = s ++ more := by
    rw [← List.append_assoc, show bs.length + (uintL s.length).length = (bs ++ uintL s.length).length by simp, drop_at]
  rw [e, List.take_left]
  simp; omega
theorem kindB {k : Int} (h0 : 0 ≤ k) (h : k < 256) : ((UInt8.ofNat (IntKind.u8.wrap k).toNat).toNat : Int) = k := by
  rw [← byteOf_int, wrapu8]; omega
theorem cons_split (bs : List UInt8) (c : UInt8) (l more : List UInt8) : bs ++ (c :: l ++ more) = (bs ++ [c]) ++ (l ++ more) := by simp
/-- what stands behind the first byte -/
theorem readV_at {bs l : List UInt8} : readV (bs ++ l) (bs.length : Int) = finV (readX (bs ++ l) bs.length) := by
  unfold readV; rw [if_neg (by simp; omega)]
theorem getD_at (bs : List UInt8) (c : UInt8) (l : List UInt8) : (bs ++ c :: l).getD bs.length 0 = c := by
  rw [List.getD_eq_getElem?_getD, List.getElem?_append_right (Nat.le_refl _), Nat.sub_self]; rfl
theorem finV_ok {v : V3} {x : Int} (h : validB v.k v.n v.s = true) : finV (v, x, 0) = (v, x, 0) := by
  have hc : checkI v.k v.n v.s = 0 := by simpa [validB] using h
  unfold finV; simp only [hc, if_true]; rfl
theorem read_back {k n : Int} {s : List UInt8} (h : validB k n s = true) (bs more : List UInt8) : readV (bs ++ (encL k n s ++ more)) (bs.length : Int) = (⟨k, n, s⟩, (bs.length : Int) + (encL k n s).length, 0) := by
  rw [readV_at]
  have hlt : bs.length < (bs ++ (encL k n s ++ more)).length := by unfold encL; simp
  rcases valid_cases h with ⟨rfl, rfl, rfl⟩ | ⟨rfl, hn, rfl⟩ | ⟨hk, hn, rfl⟩ | ⟨rfl, rfl, hs⟩ | ⟨rfl, rfl, hs⟩
  · have e : encL 0 0 [] = [0] := by rfl
    rw [e] at hlt ⊢
    rw [show bs ++ ([0] ++ more) = bs ++ 0 :: more by rfl] at hlt ⊢
    rw [readX_0 hlt (by rw [getD_at]; rfl), getD_at]
    exact finV_ok h
  · have e : encL 1 n [] = [1, UInt8.ofNat n.toNat] := by rcases hn with rfl | rfl <;> rfl
    rw [e] at hlt ⊢
    have e2 : bs ++ ([1, UInt8.ofNat n.toNat] ++ more) = bs ++ 1 :: (UInt8.ofNat n.toNat :: more) := by rfl
    have e3 : bs ++ 1 :: (UInt8.ofNat n.toNat :: more) = (bs ++ [1]) ++ UInt8.ofNat n.toNat :: more := by simp
    rw [e2] at hlt ⊢
    have hg : (bs ++ 1 :: (UInt8.ofNat n.toNat :: more)).getD (bs.length + 1) 0 = UInt8.ofNat n.toNat := by
      rw [e3, show bs.length + 1 = (bs ++ [1]).length by simp, getD_at]
    have hN : ((UInt8.ofNat n.toNat).toNat : Int) = n := by rcases hn with rfl | rfl <;> rfl
    rw [readX_1 (by rw [e3]; simp) (by rw [getD_at]; rfl), getD_at, hg, if_neg (by omega), hN]
    exact finV_ok h
  · have hi := hn.i64
    have hk2 : 0 ≤ k ∧ k < 256 := by omega
    have e : encL k n [] = UInt8.ofNat (IntKind.u8.wrap k).toNat :: uintL (zig n) := by unfold encL; rw [if_neg (by omega), if_pos hk]
    rw [e] at hlt ⊢
    have hkb := kindB hk2.1 hk2.2
    generalize UInt8.ofNat (IntKind.u8.wrap k).toNat = c at *
    rw [show bs ++ (c :: uintL (zig n) ++ more) = bs ++ c :: (uintL (zig n) ++ more) by rfl] at hlt ⊢
    have e3 : bs ++ c :: (uintL (zig n) ++ more) = (bs ++ [c]) ++ (uintL (zig n) ++ more) := by simp
    rw [readX_n hlt (by rw [getD_at]; omega), getD_at]
    have hs := sintA_back (bs := bs ++ [c]) (more := more) hi
    rw [← e3, show ((bs ++ [c]).length : Int) = ((bs.length + 1 : Nat) : Int) by simp] at hs
    rw [hs, hkb]
    have := finV_ok (v := ⟨k, n, []⟩) (x := ((bs.length + 1 : Nat) : Int) + (uintL (zig n)).length) h
    rw [this]
    simp; omega
  all_goals
    have hl64 : s.length < 18446744073709551616 := by

      first
        | (unfold textB at hs; rw [Bool.and_eq_true, decide_eq_true_eq] at hs; omega)
        | (unfold keyB at hs; rw [Bool.and_eq_true, Bool.and_eq_true, decide_eq_true_eq, decide_eq_true_eq] at hs; omega)
  · have e : encL 4 0 s = 4 :: textL s := by rfl
    rw [e] at hlt ⊢
    rw [show bs ++ (4 :: textL s ++ more) = bs ++ 4 :: (textL s ++ more) by rfl] at hlt ⊢
    have e3 : bs ++ 4 :: (textL s ++ more) = (bs ++ [4]) ++ (textL s ++ more) := by simp
    rw [readX_t hlt (by rw [getD_at]; decide), getD_at]
    have ht := textA_back (bs := bs ++ [4]) (more := more) hl64
    rw [← e3, show ((bs ++ [(4 : UInt8)]).length : Int) = ((bs.length + 1 : Nat) : Int) by simp] at ht
    rw [ht]
    have := finV_ok (v := ⟨4, 0, s⟩) (x := ((bs.length + 1 : Nat) : Int) + (textL s).length) h
    refine Eq.trans this ?_
    simp; omega
  · have e : encL 5 0 s = 5 :: textL s := by rfl
    rw [e] at hlt ⊢
    rw [show bs ++ (5 :: textL s ++ more) = bs ++ 5 :: (textL s ++ more) by rfl] at hlt ⊢
    have e3 : bs ++ 5 :: (textL s ++ more) = (bs ++ [5]) ++ (textL s ++ more) := by simp
    rw [readX_t hlt (by rw [getD_at]; decide), getD_at]
    have ht := textA_back (bs := bs ++ [5]) (more := more) hl64
    rw [← e3, show ((bs ++ [(5 : UInt8)]).length : Int) = ((bs.length + 1 : Nat) : Int) by simp] at ht
    rw [ht]
    have := finV_ok (v := ⟨5, 0, s⟩) (x := ((bs.length + 1 : Nat) : Int) + (textL s).length) h
    refine Eq.trans this ?_
    simp; omega
end Go.Abs

namespace Go.Abs
open Go.Proofs L8 Go.Wire
theorem finV_zero {x : V3 × Int × Int} (h : (finV x).2.2 = 0) : x.2.2 = 0 ∧ finV x = x ∧ validB x.1.k x.1.n x.1.s = true := by
  obtain ⟨v, nx, e⟩ := x
  unfold finV at h ⊢
  simp only at h ⊢
  by_cases h0 : e = 0
  · rw [if_pos h0] at h ⊢
    by_cases hc : checkI v.k v.n v.s = 0
    · rw [if_neg (by rw [hc]; simp)]
      exact ⟨h0, by rw [h0], by simp [validB, hc]⟩
    · rw [if_pos hc] at h; exact absurd h hc
  · rw [if_neg h0, if_pos h0] at h; exact absurd h h0
theorem drop_take_at {bs : List UInt8} {a m : Nat} {l : List UInt8} (h : (bs.drop a).take m = l) : (bs.take (a + m)).drop a = l := by
  rw [← h, List.drop_take]; congr 1; omega
theorem sintA_ok {bs : List UInt8} {a : Nat} (h : (sintA bs a).2.2 = 0) : ∃ u m : Nat, sintA bs a = (unzig u, ((a + m : Nat) : Int), 0) ∧ (bs.drop a).take m = uintL u ∧ a + m ≤ bs.length ∧ u < 18446744073709551616 := by
  have h0 : (uintA bs a).2.2 = 0 := by
    apply Classical.byContradiction; intro hn
    unfold sintA at h; rw [if_pos hn] at h; exact hn h
  obtain ⟨b, u, m, hb, hle, hu, he, hm⟩ := uintA_ok h0
  have : b = a := by omega
  subst this
  have hbd := (uintP_bound _ _ _ _ hu).1
  refine ⟨u, m, ?_, (uintP_back 10 _ _ _ (by omega) hu).1, hm, by simpa using hbd⟩
  unfold sintA; rw [if_neg (fun hn => hn h0), he]; simp
theorem textA_ok {bs : List UInt8} {a : Nat} (h : (textA bs a).2.2 = 0) : ∃ (s : List UInt8) (m : Nat), textA bs a = (s, ((a + m : Nat) : Int), 0) ∧ (bs.drop a).take m = textL s ∧ a + m ≤ bs.length := by
  have h' := h
  unfold textA at h ⊢
  split at h
  · cases h
  · rename_i hb
    rw [if_neg hb]
    rw [Int.toNat_natCast] at h ⊢
    unfold Z05.textR at h ⊢
    split at h
    · rename_i x hx
      exfalso
      split at hx
      · rename_i y hy
        injection hx with hx
        subst hx
        have : (uintA bs a).2.2 = 0 := by
          unfold uintA; rw [if_neg hb, Int.toNat_natCast, hy]; exact h
        obtain ⟨b, u, m, hb', _, hu, _, _⟩ := uintA_ok this
        have : b = a := by omega
        subst this
        rw [hy] at hu; cases hu
      · rename_i u m hu
        split at hx
        · injection hx with hx; subst hx; exact absurd h (by decide)
        · cases hx
    · rename_i l p hx
      split at hx
      · cases hx
      · rename_i u m hu
        split at hx
        · cases hx
        · rename_i hlt
          injection hx with hx
          injection hx with hl hp
          obtain ⟨_, _, _, h4⟩ := uintP_bound _ _ _ _ hu
          have hback := (uintP_back 10 _ _ _ (by omega) hu).1
          have hlen : l.length = u := by rw [← hl]; simp; omega
          rw [List.length_drop] at h4
          refine ⟨l, m + u, ?_, ?_, by omega⟩
          · simp only [Prod.mk.injEq, and_true, true_and]; omega
          · unfold textL
            rw [hlen, ← hback, List.take_add, List.drop_drop, ← hl]
theorem read_enc {bs : List UInt8} {a : Nat} (h : (readV bs a).2.2 = 0) : ∃ v : V3, validB v.k v.n v.s = true ∧ (bs.drop a).take (encL v.k v.n v.s).length = encL v.k v.n v.s ∧ a + (encL v.k v.n v.s).length ≤ bs.length ∧ readV bs a = (v, ((a + (encL v.k v.n v.s).length : Nat) : Int), 0) := by
  unfold readV at h ⊢
  by_cases hb : (a : Int) < 0 ∨ (bs.length : Int) < a
  · rw [if_pos hb] at h; exact absurd h (by decide)
  · rw [if_neg hb] at h ⊢
    obtain ⟨h0, hf, hv⟩ := finV_zero h
    rw [hf]
    have hlt : a < bs.length := by
      apply Classical.byContradiction
      intro hn
      have : readX bs a = (⟨0, 0, []⟩, 0, 41) := by unfold readX; rw [List.drop_eq_nil_of_le (by omega)]
      rw [this] at h0; cases h0
    have hd := drop_cons hlt
    have hc := (bs.getD a 0).toNat_lt
    have hu8 : ∀ c : UInt8, UInt8.ofNat (IntKind.u8.wrap (c.toNat : Int)).toNat = c := fun c => by
      have := c.toNat_lt
      rw [wrapu8, show ((c.toNat : Int) % 256).toNat = c.toNat by omega, UInt8.ofNat_toNat]
    have fin : ∀ (v : V3) (nx : Int) (l : List UInt8), readX bs a = (v, nx, 0) → encL v.k v.n v.s = l → (bs.drop a).take l.length = l → a + l.length ≤ bs.length → nx = ((a + l.length : Nat) : Int) →
        ∃ v : V3, validB v.k v.n v.s = true ∧ (bs.drop a).take (encL v.k v.n v.s).length = encL v.k v.n v.s ∧ a + (encL v.k v.n v.s).length ≤ bs.length ∧ readX bs a = (v, ((a + (encL v.k v.n v.s).length : Nat) : Int), 0) := by
      intro v nx l hx he ht hl hn
      rw [hx] at hv ⊢
      refine ⟨v, hv, ?_, ?_, ?_⟩
      · rw [he]; exact ht
      · rw [he]; exact hl
      · rw [he, hn]
    by_cases c0 : (bs.getD a 0).toNat = 0
    · refine fin _ _ [bs.getD a 0] (readX_0 hlt c0) ?_ (by rw [hd]; simp) (by simp; omega) (by simp)
      show encL (bs.getD a 0).toNat 0 [] = _
      unfold encL
      rw [if_neg (by omega), if_neg (by omega), if_neg (by omega), hu8]
    · by_cases c1 : (bs.getD a 0).toNat = 1
      · by_cases hend : a + 1 = bs.length
        · rw [readX_1e hend c1] at h0; cases h0
        · have hx := readX_1 (a := a) (by omega) c1
          have h1 : ¬ 1 < (bs.getD (a + 1) 0).toNat := fun h1 => by rw [hx] at h0; simp only [if_pos h1] at h0; cases h0
          rw [if_neg h1] at hx
          have hd2 := drop_cons (bs := bs) (a := a + 1) (by omega)
          refine fin _ _ [bs.getD a 0, bs.getD (a + 1) 0] hx ?_ (by rw [hd, hd2]; simp) (by simp; omega) (by simp)
          show encL (bs.getD a 0).toNat (bs.getD (a + 1) 0).toNat [] = _
          unfold encL
          rw [if_pos (by omega), hu8, hu8]
      · by_cases c2 : (bs.getD a 0).toNat = 2 ∨ (bs.getD a 0).toNat = 3
        · have hx := readX_n hlt c2
          rw [hx] at h0
          obtain ⟨u, m, hs, ht, hm, hu⟩ := sintA_ok h0
          rw [hs] at hx
          have hlen : (uintL u).length = m := by rw [← ht]; simp; omega
          refine fin _ _ (bs.getD a 0 :: uintL u) hx ?_ (by rw [hd, List.length_cons, List.take_succ_cons, hlen, ht]) (by simp; omega) (by simp only [List.length_cons]; omega)
          show encL (bs.getD a 0).toNat (unzig u) [] = _
          unfold encL
          rw [if_neg (by omega), if_pos (by omega), hu8, zig_unzig]
        · by_cases c4 : (bs.getD a 0).toNat = 4 ∨ (bs.getD a 0).toNat = 5
          · have hx := readX_t hlt c4
            rw [hx] at h0
            obtain ⟨s, m, hs, ht, hm⟩ := textA_ok h0
            rw [hs] at hx
            have hlen : (textL s).length = m := by rw [← ht]; simp; omega
            refine fin _ _ (bs.getD a 0 :: textL s) hx ?_ (by rw [hd, List.length_cons, List.take_succ_cons, hlen, ht]) (by simp; omega) (by simp only [List.length_cons]; omega)
            show encL (bs.getD a 0).toNat 0 s = _
            unfold encL
            rw [if_neg (by omega), if_neg (by omega), if_pos (by omega), hu8]
          · rw [readX_x hlt (by omega)] at h0; cases h0
theorem uint_cut {n j : Nat} (h : n < 18446744073709551616) (hj : j < (uintL n).length) : uintP 10 ((uintL n).take j) = .error 41 := uintP_short 9 n j (by simpa using h) hj
theorem uintA_cut {c : UInt8} {l : List UInt8} {e : Int} (h : uintP 10 l = .error e) : uintA (c :: l) ((0 + 1 : Nat) : Int) = (0, 0, e) := by
  unfold uintA
  rw [if_neg (by simp; omega), Int.toNat_natCast]
  show (match uintP 10 l with | .error x => ((0 : Int), (0 : Int), x) | .ok (v, m) => ((v : Int), ((0 + 1 : Nat) : Int) + m, 0)) = _
  rw [h]
theorem textA_one {c : UInt8} {l : List UInt8} : textA (c :: l) ((0 + 1 : Nat) : Int) = match Z05.textR (c :: l) 1 with | .error x => ([], 0, x) | .ok (t, m) => (t, (m : Int), 0) := by
  unfold textA
  rw [if_neg (by simp; omega)]; rfl
theorem text_cut {c : UInt8} {s : List UInt8} {j : Nat} (hl : s.length < 18446744073709551616) (h2 : j < (textL s).length) : textA (c :: (textL s).take j) ((0 + 1 : Nat) : Int) = ([], 0, 41) := by
  rw [textA_one]
  have hR : Z05.textR (c :: (textL s).take j) 1 = .error 41 := by
    unfold Z05.textR
    rw [List.drop_succ_cons, List.drop_zero]
    unfold textL at h2 ⊢
    by_cases hlt : j < (uintL s.length).length
    · rw [List.take_append_of_le_length (by omega), uint_cut hl hlt]
    · have e : (uintL s.length ++ s).take j = uintL s.length ++ s.take (j - (uintL s.length).length) := by
        rw [List.take_append, List.take_of_length_le (by omega)]
      rw [e, uint_back hl]
      simp only []
      rw [if_pos (by simp at h2 ⊢; omega)]
  rw [hR]
theorem readV_e {l : List UInt8} {v : V3} {x : Int} {e : Int} (h : readX l ((0 : Nat) : Int) = (v, x, e)) (he : e ≠ 0) : readV l 0 = (nullV, 0, e) := by
  unfold readV
  rw [if_neg (by omega)]
  have h' : readX l 0 = (v, x, e) := h
  rw [h']
  unfold finV; simp only []; rw [if_neg he, if_pos he]; rfl
theorem read_short {k n : Int} {s : List UInt8} (h : validB k n s = true) {j : Nat} (hj : j < (encL k n s).length) : readV ((encL k n s).take j) 0 = (nullV, 0, 41) := by
  match j, hj with
  | 0, _ => exact readV_e (v := ⟨0, 0, []⟩) (x := 0) rfl (by decide)
  | j + 1, hj =>
    have key : ∀ (c : UInt8) (l : List UInt8), encL k n s = c :: l → (encL k n s).take (j + 1) = c :: l.take j ∧ j < l.length := fun c l e => by
      rw [e] at hj ⊢; exact ⟨rfl, by simpa using hj⟩
    rcases valid_cases h with ⟨rfl, rfl, rfl⟩ | ⟨rfl, hn, rfl⟩ | ⟨hk, hn, rfl⟩ | ⟨rfl, rfl, hs⟩ | ⟨rfl, rfl, hs⟩
    · obtain ⟨_, h2⟩ := key 0 [] rfl
      simp at h2
    · obtain ⟨h1, h2⟩ := key 1 [UInt8.ofNat (IntKind.u8.wrap n).toNat] rfl
      have : j = 0 := by simpa using h2
      subst this
      rw [h1]
      exact readV_e (readX_1e (a := 0) rfl rfl) (by decide)
    · have hi := hn.i64
      have hkb := kindB (k := k) (by omega) (by omega)
      obtain ⟨h1, h2⟩ := key (UInt8.ofNat (IntKind.u8.wrap k).toNat) (uintL (zig n)) (by unfold encL; rw [if_neg (by omega), if_pos hk])
      rw [h1]
      generalize UInt8.ofNat (IntKind.u8.wrap k).toNat = c at *
      have hx := readX_n (bs := c :: (uintL (zig n)).take j) (a := 0) (by simp) (by show c.toNat = 2 ∨ c.toNat = 3; omega)
      have hsi : sintA (c :: (uintL (zig n)).take j) ((0 + 1 : Nat) : Int) = (0, 0, 41) := by
        unfold sintA; rw [uintA_cut (uint_cut (zig_lt hi) h2)]; rfl
      rw [hsi] at hx
      exact readV_e hx (by decide)
    all_goals
      have hl64 : s.length < 18446744073709551616 := by
        first
          | (unfold textB at hs; rw [Bool.and_eq_true, decide_eq_true_eq] at hs; omega)
          | (unfold keyB at hs; rw [Bool.and_eq_true, Bool.and_eq_true, decide_eq_true_eq, decide_eq_true_eq] at hs; omega)
      have htx := fun (c : UInt8) (h2 : j < (textL s).length) => text_cut (c := c) hl64 h2
    · obtain ⟨h1, h2⟩ := key 4 (textL s) rfl
      rw [h1]
      have hx := readX_t (bs := 4 :: (textL s).take j) (a := 0) (by simp) (.inl rfl)
      rw [htx 4 h2] at hx
      exact readV_e hx (by decide)
    · obtain ⟨h1, h2⟩ := key 5 (textL s) rfl
      rw [h1]
      have hx := readX_t (bs := 5 :: (textL s).take j) (a := 0) (by simp) (.inr rfl)
      rw [htx 5 h2] at hx
      exact readV_e hx (by decide)
end Go.Abs

namespace Go.Abs
open Go.Proofs L8
theorem o87 (m : Int) : SpecOk PZ (GZ m) 87 s87 := spec_of (X := XO) (m := []) mixedZ tbl_nil itbl_nil fun args r h => by
  unfold s87 at h
  split at h
  · injection h with h; subst h
    exact ⟨nAn, ⟨by rw [w87]; exact ⟨fun h => by simp at h, fun _ => ⟨rfl⟩⟩⟩⟩
  · cases h
theorem o63 (m : Int) : SpecOk PZ (GZ m) 63 s63 := spec_of (X := XT) (m := []) mixedZ (tbl_cons (o87 m) tbl_nil) itbl_nil fun args r h => by
  unfold s63 at h
  split at h
  · rename_i a b
    injection h with h; subst h
    refine ⟨nAn, ⟨?_⟩⟩
    rw [w63]
    simp only [decide_eq_true_eq, decide_eq_false_iff_not, gt_iff_lt]
    refine ⟨false, ⟨rfl⟩, fun h => (nomatch h), fun _ => ⟨false, ⟨rfl⟩, fun h => (nomatch h), fun _ => ⟨fun h1 => ⟨?_⟩, fun h1 => ⟨fun h2 => ⟨?_⟩, fun h2 => ⟨?_⟩⟩⟩⟩⟩
    · unfold cmpI; rw [if_pos h1]
    · unfold cmpI; rw [if_neg h1, if_pos h2]
    · unfold cmpI; rw [if_neg h1, if_neg h2]
  · cases h
theorem p62 (m a b c : Int) : PureOk PZ (GZ m) XT (tbl []) (itbl []) a62 [] 62 [.sl 1 [.int .i64 a, .int .i64 b, .int .i64 c] .no] (.int .i64 (or3 a b c), []) := by
  constructor
  rw [w62]
  simp only [bne_iff_ne, bne_eq_false_iff_eq, ne_eq]
  refine ⟨fun _ => ⟨⟨by omega, by decide⟩, a, rfl, fun h => ⟨?_⟩, fun h => ⟨fun _ => ⟨⟨by omega, by decide⟩, b, rfl, fun h2 => ⟨?_⟩, fun h2 => ⟨fun _ => ⟨⟨by omega, by decide⟩, c, rfl, fun h3 => ⟨?_⟩, fun h3 => ⟨fun h => (nomatch h), fun _ => ⟨?_⟩⟩⟩, fun h => (nomatch h)⟩⟩, fun h => (nomatch h)⟩⟩, fun h => (nomatch h)⟩
  · unfold or3; rw [if_pos h]
  · unfold or3; rw [if_neg (by simpa using h), if_pos h2]
  · unfold or3; rw [if_neg (by simpa using h), if_neg (by simpa using h2)]
  · unfold or3; rw [if_neg (by simpa using h), if_neg (by simpa using h2), h3]
theorem o62 (m : Int) : SpecOk PZ (GZ m) 62 s62 := spec_ofW (X := XT) (m := []) [1] mixedZ tbl_nil itbl_nil fun args r h => by
  unfold s62 at h
  split at h
  · injection h with h; subst h
    exact ⟨a62, p62 m _ _ _⟩
  · cases h
theorem o28 (m : Int) : SpecOk PZ (GZ m) 28 s28 := spec_of (X := XT) (m := []) mixedZ (tbl_cons (o63 m) (tbl_cons (o64 m) (tbl_cons (o62 m) tbl_nil))) itbl_nil fun args r h => by
  unfold s28 at h
  split at h
  · injection h with h; subst h
    refine ⟨nAn, ⟨?_⟩⟩
    rw [w28]
    exact ⟨_, ⟨rfl⟩, _, ⟨rfl⟩, _, ⟨rfl⟩, _, ⟨rfl⟩, ⟨rfl⟩⟩
  · cases h
theorem s18_at {k n : Int} {bs s : List UInt8} {sz : Nat} {o : Own} (hz : sz = 1 ∨ bytesL bs = []) (h1 : smallOk bs) (h2 : strOk s) (h3 : i64Ok n) : s18 [.sl sz (bytesL bs) o, .agg [.int .i64 k, .int .i64 n, .str s]] = some (ownR (appL bs k n s)) := by
  simp only [s18, sApp, onBytes, unBytes_mk, hz, h1, h2, h3, and_self, if_true]
theorem s19_at {k n : Int} {bs s : List UInt8} {sz : Nat} {o : Own} (hz : sz = 1 ∨ bytesL bs = []) (h1 : smallOk bs) (h2 : strOk s) (h3 : i64Ok n) : s19 [.sl sz (bytesL bs) o, .agg [.int .i64 k, .int .i64 n, .str s]] = some (laxR (appL bs k n s)) := by
  simp only [s19, sApp, onBytes, unBytes_mk, hz, h1, h2, h3, and_self, if_true]
theorem s22_at {k n : Int} {s : List UInt8} (h2 : strOk s) (h3 : i64Ok n) : s22 [.agg [.int .i64 k, .int .i64 n, .str s]] = some (.str (fmtL k n s), []) := by
  simp only [s22, sVal', h2, h3, and_self, if_true]
theorem s20_at {s : List UInt8} (h2 : strOk s) : s20 [.str s] = some (.tup [aV (parseV s).1, .int .i64 (parseV s).2], []) := by
  simp only [s20, h2, if_true]
theorem s16_at {bs : List UInt8} {at_ : Int} {o : Own} (h : strOk bs) : s16 [.sl 1 (bytesL bs) o, .int .i64 at_] = some (rVal (readV bs at_), []) := sRd_at h
theorem app_valid {bs s : List UInt8} {k n : Int} (h : validB k n s = true) : appL bs k n s = bs ++ encL k n s := by unfold appL; rw [if_pos h]
theorem app_none {bs s : List UInt8} {k n : Int} (h : validB k n s = false) : appL bs k n s = bs := by unfold appL; rw [if_neg (by rw [h]; simp), List.append_nil]
theorem nil_small : smallOk [] := by show ([] : List UInt8).length ≤ _; simp
/-- one: a valid value with its encoding and its text -/
def s27 : Spec := fun args => match args with
  | [.agg [.int .i64 k, .int .i64 n, .str s], .str b, .str t] => if strOk s ∧ i64Ok n ∧ strOk t ∧ validB k n s = true ∧ encL k n s = b ∧ fmtL k n s = t then some (.bool true, []) else none
  | _ => none
theorem p27 (m k n : Int) (s b t : List UInt8) (hs : strOk s) (hn : i64Ok n) (ht : strOk t) (hv : validB k n s = true) (he : encL k n s = b) (hf : fmtL k n s = t) : PureOk PZ (GZ m) XT (tbl [(18, s18), (16, s16), (20, s20), (22, s22), (12, s12)]) (itbl []) nAn [] 27 [vA k n s, .str b, .str t] (.bool true, []) := by
  have ha : appL [] k n s = b := by rw [app_valid hv, List.nil_append, he]
  have hb : b.length ≤ 300 := by rw [← he]; exact valid_len hv hs hn
  have hb' : strOk b := by show b.length ≤ _; omega
  have t1 : tbl [(18, s18), (16, s16), (20, s20), (22, s22), (12, s12)] 18 [.sl 0 [] .nil, .agg [.int .i64 k, .int .i64 n, .str s]] = some (ownR b) := by
    rw [tbl_hit, ← ha]; exact s18_at (bs := []) (.inr rfl) nil_small hs hn
  have t2 : tbl [(18, s18), (16, s16), (20, s20), (22, s22), (12, s12)] 16 [.sl 1 (bytesL b) .no, .int .i64 0] = some (rVal (⟨k, n, s⟩, (b.length : Int), 0), []) := by
    rw [tbl_miss (by decide), tbl_hit, s16_at hb']
    have := read_back hv [] []
    rw [List.nil_append, List.append_nil, he] at this
    have h0 : (([] : List UInt8).length : Int) = 0 := rfl
    rw [h0, Int.zero_add] at this
    rw [this]
  have t3 : tbl [(18, s18), (16, s16), (20, s20), (22, s22), (12, s12)] 20 [.str t] = some (.tup [vA k n s, .int .i64 0], []) := by
    rw [tbl_miss (by decide), tbl_miss (by decide), tbl_hit, s20_at ht, ← hf, parse_fmt hv]; rfl
  have t4 : tbl [(18, s18), (16, s16), (20, s20), (22, s22), (12, s12)] 22 [.agg [.int .i64 k, .int .i64 n, .str s]] = some (.str t, []) := by
    rw [tbl_miss (by decide), tbl_miss (by decide), tbl_miss (by decide), tbl_hit, s22_at hs hn, hf]
  have t5 : tbl [(18, s18), (16, s16), (20, s20), (22, s22), (12, s12)] 12 [.agg [.int .i64 k, .int .i64 n, .str s]] = some (.int .i64 0, []) := by
    rw [tbl_miss (by decide), tbl_miss (by decide), tbl_miss (by decide), tbl_miss (by decide), tbl_hit, s12_at hs]
    have : checkI k n s = 0 := by simpa [validB] using hv
    rw [this]
  constructor
  rw [w27, t1]
  refine ⟨bytesL b, own_call rfl, _, _, _, _, _, by rw [t2]; exact ⟨rfl⟩, _, _, _, _, by rw [t3]; exact ⟨rfl⟩, .inl rfl, b, mapM_byteL b, fun _ => ⟨t, by rw [t4]; exact ⟨rfl⟩, fun _ => ⟨fun _ => ⟨fun _ => ⟨fun _ => ⟨fun _ => ⟨fun _ => ⟨0, by rw [t5]; exact ⟨rfl⟩, fun _ => ⟨rfl⟩, fun h => ?_⟩, fun h => ?_⟩, fun h => ?_⟩, fun h => ?_⟩, fun h => ?_⟩, fun h => ?_⟩, fun h => ?_⟩, fun h => ?_⟩
  all_goals (simp [] at h)
theorem o27 (m : Int) : SpecOk PZ (GZ m) 27 s27 := spec_of (X := XT) (m := []) mixedZ (tbl_cons (o18 m) (tbl_cons (o16 m) (tbl_cons (o20 m) (tbl_cons (o22 m) (tbl_cons (o12 m) tbl_nil))))) itbl_nil fun args r h => by
  unfold s27 at h
  split at h
  · split at h
    · rename_i hc
      injection h with h; subst h
      exact ⟨nAn, p27 m _ _ _ _ _ hc.1 hc.2.1 hc.2.2.1 hc.2.2.2.1 hc.2.2.2.2.1 hc.2.2.2.2.2⟩
    · cases h
  · cases h
def XE : Shapes := fun f => match f with
  | 27 => some shB
  | 10 => some shB
  | f => XT f
end Go.Abs

namespace Go.Abs
open Go.Proofs L8
theorem w10 (m : Int) (r : AV) : (pureW PZ (GZ m) XE (tbl [(27, s27), (16, s16), (20, s20), (12, s12), (22, s22), (18, s18), (28, s28), (14, s14)]) (itbl []) nAn [] 10 [] (r, [])) =
(∃ (b : Bool),
  CallIs (some (AV.bool true, [])) (AV.bool b) [] ∧
    (b = true →
        ∃ (b : Bool),
 CallIs (some (AV.bool true, [])) (AV.bool b) [] ∧
 (b = true →
 ∃ (b : Bool),
 CallIs (some (AV.bool true, [])) (AV.bool b) [] ∧
 (b = true →
 ∃ (b : Bool),
 CallIs (some (AV.bool true, [])) (AV.bool b) [] ∧
 (b = true →
 ∃ (b : Bool),
 CallIs (some (AV.bool true, [])) (AV.bool b) [] ∧
 (b = true →
 ∃ (b : Bool),
 CallIs (some (AV.bool true, [])) (AV.bool b) [] ∧
 (b = true →
 ∃ (n : Int),
 ∃ (n_1 : Int),
 ∃ (s : List UInt8),
 ∃ (n_2 : Int),
 ∃ (n_3 : Int),
 CallIs
 (some
 (AV.tup
 [AV.agg [AV.int IntKind.i64 (0 : Int), AV.int IntKind.i64 (0 : Int), AV.str []],
 AV.int IntKind.i64 (0 : Int), AV.int IntKind.i64 (3 : Int)],
 []))
 (AV.tup
 [AV.agg [AV.int IntKind.i64 n, AV.int IntKind.i64 n_1, AV.str s], AV.int IntKind.i64 n_2,
 AV.int IntKind.i64 n_3])
 [] ∧
 ∃ (n : Int),
 ∃ (n_4 : Int),
 ∃ (s : List UInt8),
 ∃ (n_5 : Int),
 CallIs
 (some
 (AV.tup
 [AV.agg [AV.int IntKind.i64 (0 : Int), AV.int IntKind.i64 (0 : Int), AV.str []],
 AV.int IntKind.i64 (3 : Int)],
 []))
 (AV.tup
 [AV.agg [AV.int IntKind.i64 n, AV.int IntKind.i64 n_4, AV.str s],
 AV.int IntKind.i64 n_5])
 [] ∧
 ∃ (n : Int),
 ∃ (n_6 : Int),
 ∃ (s : List UInt8),
 ∃ (n_7 : Int),
 CallIs
 (some
 (AV.tup
 [AV.agg
 [AV.int IntKind.i64 (0 : Int), AV.int IntKind.i64 (0 : Int),
 AV.str []],
 AV.int IntKind.i64 (3 : Int)],
 []))
 (AV.tup
 [AV.agg [AV.int IntKind.i64 n, AV.int IntKind.i64 n_6, AV.str s],
 AV.int IntKind.i64 n_7])
 [] ∧
 ∃ (n : Int),
 CallIs (some (AV.int IntKind.i64 (1 : Int), [])) (AV.int IntKind.i64 n) [] ∧
 ((n != (1 : Int)) = true → RetIs (AV.bool false) [] (r, [])) ∧
 ((n != (1 : Int)) = false →
 ∃ (s : List UInt8),
 CallIs (some (AV.str [], [])) (AV.str s) [] ∧
 ((!s == []) = true → RetIs (AV.bool false) [] (r, [])) ∧
 ((!s == []) = false →
 ∃ (es : List AV),
 CallIs
 (some
 (AV.sl (nat_lit 1) [] (Own.tok (nat_lit 0)),
 [(nat_lit 0, nat_lit 5)]))
 (AV.sl (nat_lit 1) es (Own.tok (nat_lit 0)))
 [(es.length, nat_lit 5)] ∧
 (((↑es.length : Int) != (0 : Int)) = true →
 RetIs (AV.bool false) [] (r, [])) ∧
 (((↑es.length : Int) != (0 : Int)) = false →
 ((n_3 != (3 : Int)) = true →
 RetIs (AV.bool false) [] (r, [])) ∧
 ((n_3 != (3 : Int)) = false →
 ((n_5 != (3 : Int)) = true →
 RetIs (AV.bool false) [] (r, [])) ∧
 ((n_5 != (3 : Int)) = false →
 ((n_7 != (3 : Int)) = true →
 RetIs (AV.bool false) [] (r, [])) ∧
 ((n_7 != (3 : Int)) = false →
 ∃ (n : Int),
 CallIs
 (some
 (AV.int IntKind.i64
 (cmpV (2 : Int) (5 : Int) []
 (3 : Int) (0 : Int) []),
 []))
 (AV.int IntKind.i64 n) [] ∧
 ((n == (-1 : Int)) = true →
 ∃ (n : Int),
 CallIs
 (some
 (AV.int IntKind.i64
 (cmpV (4 : Int)
 (0 : Int)
 (ByteArray.mk #[(97 :
 UInt8)]).data.toList
 (4 : Int) (0 : Int)
 (ByteArray.mk #[(97 :
 UInt8),
 (98 :
 UInt8)]).data.toList),
 []))
 (AV.int IntKind.i64 n) [] ∧
 ((n == (-1 : Int)) = true →
 ∃ (b : Bool),
 CallIs
 (some
 (AV.bool true, []))
 (AV.bool b) [] ∧
 (b = true →
 ∃ (b : Bool),
 CallIs
 (some
 (AV.bool
 false,
 []))
 (AV.bool b)
 [] ∧
 (b = true →
 RetIs
 (AV.bool
 false)
 []
 (r, [])) ∧
 (b = false →
 RetIs
 (AV.bool
 true)
 []
 (r,
 []))) ∧
 (b = false →
 RetIs
 (AV.bool false) []
 (r, []))) ∧
 ((n == (-1 : Int)) = false →
 RetIs (AV.bool false) []
 (r, []))) ∧
 ((n == (-1 : Int)) = false →
 RetIs (AV.bool false) []
 (r, []))))))))) ∧
 (b = false → RetIs (AV.bool false) [] (r, []))) ∧
 (b = false → RetIs (AV.bool false) [] (r, []))) ∧
 (b = false → RetIs (AV.bool false) [] (r, []))) ∧
 (b = false → RetIs (AV.bool false) [] (r, []))) ∧
 (b = false → RetIs (AV.bool false) [] (r, []))) ∧
      (b = false → RetIs (AV.bool false) [] (r, []))) := by kernel_rfl
end Go.Abs

namespace Go.Abs
open Go.Proofs L8
theorem w14x (m k n t : Int) (s : List UInt8) (x y : AV) : (pureW PZ (GZ m) XZ (tbl [(12, s12)]) (itbl []) nAn [] 14 [vA k n s, .agg [.int .i64 t, x, y]] (.bool (validB k n s && (decide (k = 0) || decide (k = t))), [])) =
(∃ (n_1 : Int),
  CallIs (tbl [(nat_lit 12, s12)] (nat_lit 12) [AV.agg [AV.int IntKind.i64 k, AV.int IntKind.i64 n, AV.str s]]) (AV.int IntKind.i64 n_1) [] ∧
    ((n_1 == (0 : Int)) = true →
        ((k == (0 : Int)) = true → RetIs (AV.bool true) [] (AV.bool (validB k n s && (decide (k = (0 : Int)) || decide (k = t))), [])) ∧
 ((k == (0 : Int)) = false →
 ((k == t) = true → RetIs (AV.bool true) [] (AV.bool (validB k n s && (decide (k = (0 : Int)) || decide (k = t))), [])) ∧
 ((k == t) = false → RetIs (AV.bool false) [] (AV.bool (validB k n s && (decide (k = (0 : Int)) || decide (k = t))), [])))) ∧
      ((n_1 == (0 : Int)) = false → RetIs (AV.bool false) [] (AV.bool (validB k n s && (decide (k = (0 : Int)) || decide (k = t))), []))) := by kernel_rfl
theorem w15x (m k n t : Int) (s : List UInt8) (x y : AV) : (pureW PZ (GZ m) XZ (tbl [(24, s24)]) (itbl []) nAn [] 15 [vA k n s, .agg [.int .i64 t, x, y]] (.bool (validB k n s && (decide (k = 0) || decide (k = t))), [])) =
(∃ (b : Bool),
  CallIs (tbl [(nat_lit 24, s24)] (nat_lit 24) [AV.agg [AV.int IntKind.i64 k, AV.int IntKind.i64 n, AV.str s]]) (AV.bool b) [] ∧
    (b = true →
        ((k == (0 : Int)) = true → RetIs (AV.bool true) [] (AV.bool (validB k n s && (decide (k = (0 : Int)) || decide (k = t))), [])) ∧
 ((k == (0 : Int)) = false →
 ((k == t) = true → RetIs (AV.bool true) [] (AV.bool (validB k n s && (decide (k = (0 : Int)) || decide (k = t))), [])) ∧
 ((k == t) = false → RetIs (AV.bool false) [] (AV.bool (validB k n s && (decide (k = (0 : Int)) || decide (k = t))), [])))) ∧
      (b = false → RetIs (AV.bool false) [] (AV.bool (validB k n s && (decide (k = (0 : Int)) || decide (k = t))), []))) := by kernel_rfl
end Go.Abs

namespace Go.Abs
open Go.Proofs L8
theorem callB {b c : Bool} (h : b = c) : CallIs (some (AV.bool b, [])) (AV.bool c) [] := ⟨by rw [h]⟩
theorem p10 (m : Int) : PureOk PZ (GZ m) XE (tbl [(27, s27), (16, s16), (20, s20), (12, s12), (22, s22), (18, s18), (28, s28), (14, s14)]) (itbl []) nAn [] 10 [] (.bool true, []) := by
  constructor
  rw [w10]
  have e1 : cmpV 2 5 [] 3 0 [] = -1 := by decide
  have e2 : cmpV 4 0 [97] 4 0 [97, 98] = -1 := by decide
  refine ⟨true, ⟨rfl⟩, fun _ => ⟨true, ⟨rfl⟩, fun _ => ⟨true, ⟨rfl⟩, fun _ => ⟨true, ⟨rfl⟩, fun _ => ⟨true, ⟨rfl⟩, fun _ => ⟨true, ⟨rfl⟩, fun _ => ?_, fun h => (nomatch h)⟩, fun h => (nomatch h)⟩, fun h => (nomatch h)⟩, fun h => (nomatch h)⟩, fun h => (nomatch h)⟩, fun h => (nomatch h)⟩
  refine ⟨_, _, _, _, _, ⟨rfl⟩, _, _, _, _, ⟨rfl⟩, _, _, _, _, ⟨rfl⟩, _, ⟨rfl⟩, fun h => absurd h (by decide), fun _ => ⟨_, ⟨rfl⟩, fun h => absurd h (by decide), fun _ => ⟨[], ⟨rfl⟩, fun h => absurd h (by decide), fun _ => ⟨fun h => absurd h (by decide), fun _ => ⟨fun h => absurd h (by decide), fun _ => ⟨fun h => absurd h (by decide), fun _ => ?_⟩⟩⟩⟩⟩⟩
  rw [e1]
  refine ⟨_, ⟨rfl⟩, fun _ => ?_, fun h => absurd h (by decide)⟩
  refine ⟨-1, ⟨by rw [← e2]⟩, fun _ => ?_, fun h => absurd h (by decide)⟩
  exact ⟨true, ⟨rfl⟩, fun _ => ⟨false, ⟨rfl⟩, fun h => (nomatch h), fun _ => ⟨rfl⟩⟩, fun h => (nomatch h)⟩
def s10 : Spec := fun args => match args with
  | [] => some (.bool true, [])
  | _ => none
theorem p14x (m k n t : Int) (s : List UInt8) (x y : AV) (hs : strOk s) : PureOk PZ (GZ m) XZ (tbl [(12, s12)]) (itbl []) nAn [] 14 [vA k n s, .agg [.int .i64 t, x, y]] (.bool (validB k n s && (decide (k = 0) || decide (k = t))), []) := by
  constructor
  rw [w14x]
  have t : tbl [(12, s12)] 12 [vA k n s] = some (.int .i64 (checkI k n s), []) := by rw [tbl_hit]; simp only [s12, sVal]; rw [if_pos hs]
  simp only [t, callIs_iff, retIs_iff, Option.some.injEq, Prod.mk.injEq, AV.bool.injEq, AV.int.injEq, and_true, true_and, exists_eq_left', beq_iff_eq, beq_eq_false_iff_ne, ne_eq, validB]
  refine ⟨fun h => ⟨fun h1 => ?_, fun h1 => ⟨fun h2 => ?_, fun h2 => ?_⟩⟩, fun h => ?_⟩
  all_goals simp_all
theorem p15x (m k n t : Int) (s : List UInt8) (x y : AV) (hs : strOk s) : PureOk PZ (GZ m) XZ (tbl [(24, s24)]) (itbl []) nAn [] 15 [vA k n s, .agg [.int .i64 t, x, y]] (.bool (validB k n s && (decide (k = 0) || decide (k = t))), []) := by
  constructor
  rw [w15x]
  have t : tbl [(24, s24)] 24 [vA k n s] = some (.bool (validB k n s), []) := by rw [tbl_hit]; simp only [s24, sVal]; rw [if_pos hs]
  simp only [t, callIs_iff, retIs_iff, Option.some.injEq, Prod.mk.injEq, AV.bool.injEq, and_true, exists_eq_left', beq_iff_eq, beq_eq_false_iff_ne, ne_eq]
  refine ⟨fun h => ⟨fun h1 => ?_, fun h1 => ⟨fun h2 => ?_, fun h2 => ?_⟩⟩, fun h => ?_⟩
  all_goals simp_all
theorem o14 (m : Int) : SpecOk PZ (GZ m) 14 s14 := spec_of (X := XZ) (m := []) mixedZ (tbl_cons (o12 m) tbl_nil) itbl_nil fun args r h => by
  unfold s14 at h
  split at h
  · split at h
    · rename_i hs
      injection h with h; subst h
      exact ⟨nAn, p14x m _ _ _ _ _ _ hs⟩
    · cases h
  · cases h
theorem o15 (m : Int) : SpecOk PZ (GZ m) 15 s14 := spec_of (X := XZ) (m := []) mixedZ (tbl_cons (o24 m) tbl_nil) itbl_nil fun args r h => by
  unfold s14 at h
  split at h
  · split at h
    · rename_i hs
      injection h with h; subst h
      exact ⟨nAn, p15x m _ _ _ _ _ _ hs⟩
    · cases h
  · cases h
theorem o10 (m : Int) : SpecOk PZ (GZ m) 10 s10 := spec_of (X := XE) (m := []) mixedZ (tbl_cons (o27 m) (tbl_cons (o16 m) (tbl_cons (o20 m) (tbl_cons (o12 m) (tbl_cons (o22 m) (tbl_cons (o18 m) (tbl_cons (o28 m) (tbl_cons (o14 m) tbl_nil)))))))) itbl_nil fun args r h => by
  unfold s10 at h
  split at h
  · injection h with h; subst h; exact ⟨nAn, p10 m⟩
  · cases h
end Go.Abs

namespace Go.Abs
open Go.Proofs L8
def XW : Shapes := fun f => match f with
  | 10 => some shB
  | f => XT f
abbrev tA : AV × List (Nat × TypeId) := (.bool true, [])
def stV (k n : Int) (s : List UInt8) : St := ⟨[some [.int .i64 k, .int .i64 n, .str s]], []⟩
def stVV (k n : Int) (s : List UInt8) (k' n' : Int) (s' : List UInt8) : St := ⟨[some [.int .i64 k, .int .i64 n, .str s], some [.int .i64 k', .int .i64 n', .str s']], []⟩
def f6A (k n : Int) (s ms : List UInt8) : Anns := ⟨fun q => match q with
  | 1000013 => some { α := Unit, slots := [2, 4], nb := 1, vals := fun _ => [bytesA ms, .ptr 0 0], sS := fun _ => stV k n s, I := fun _ => True, μ := fun _ => 0, keep := some 0 }
  | _ => none, nA⟩
def st3 (k n : Int) (s : List UInt8) (k' n' : Int) (s' : List UInt8) (x : V3) : St := ⟨[some [.int .i64 k, .int .i64 n, .str s], some [.int .i64 k', .int .i64 n', .str s'], some (vC x)], []⟩
def st4 (k n : Int) (s : List UInt8) (k' n' : Int) (s' : List UInt8) (x y : V3) : St := ⟨[some [.int .i64 k, .int .i64 n, .str s], some [.int .i64 k', .int .i64 n', .str s'], some (vC x), some (vC y)], []⟩
def f7A (k n : Int) (s : List UInt8) (k' n' : Int) (s' : List UInt8) : Anns := ⟨fun q => match q with
  | 1000008 => some { α := V3, slots := [3, 4], nb := 3, vals := fun _ => [.ptr 0 0, .ptr 1 0], sS := fun x => st3 k n s k' n' s' x, I := fun _ => True, μ := fun _ => 0 }
  | 1000010 => some { α := V3, slots := [3, 4], nb := 3, vals := fun _ => [.ptr 0 0, .ptr 1 0], sS := fun x => st3 k n s k' n' s' x, I := fun _ => validB k n s = true ∧ validB k' n' s' = true, μ := fun _ => 0 }
  | 1000014 => some { α := V3 × V3, slots := [3, 4], nb := 4, vals := fun _ => [.ptr 0 0, .ptr 1 0], sS := fun x => st4 k n s k' n' s' x.1 x.2, I := fun _ => validB k n s = true ∧ validB k' n' s' = true, μ := fun _ => 0 }
  | _ => none, nA⟩
end Go.Abs
