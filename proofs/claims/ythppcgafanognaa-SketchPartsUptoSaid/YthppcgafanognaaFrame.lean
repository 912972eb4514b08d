/-
  The frame of a law's row: what a call that changes nothing below the old heap leaves of its arguments; how an argument is opened.
-/
import Derived.Test.YthppcgafanognaaRef
import Derived.ProofKit
import Derived.OpenShut
import Derived.JoinedCond
import Derived.SizedLaws
import Derived.Deep.Slices
namespace Go.Proofs.Ythppcgafanognaa
open Go.ChangeShapes Go.WideShapes Go.ChangeAt Go.RowKit Go.Deep

section
variable {H : Type} {enc : TypeId × Value → H} {P : Program}
theorem trodAll_stays (hl : laidOutB P = true) {W W' : World} (hb : Below W.heap.size W W') {sp : Nat → Bool} : ∀ (ts : List TypeId) (vs : List Value) (ds : List (DataW H)) (ps : List MemPlace),
    (∀ t ∈ ts, P.readableRec t = true ∧ t < P.types.size) → DataW.TrodAll enc P W 0 (fun _ => true) true ts vs ds ps → (∀ p ∈ ps, p.block < W.heap.size) → (∀ p ∈ ps, sp p.block = true) → DataW.TrodAll enc P W' 0 sp true ts vs ds ps
  | [], vs, ds, ps, _, h, _, _ => by
    obtain ⟨rfl, rfl, rfl⟩ := trodAll_nil h
    exact trodAll_mk0
  | t :: ts, vs, ds, ps, ht, h, hlt, hsp => by
    obtain ⟨v0, vs0, d0, ds0, p0, q0, rfl, rfl, rfl, h0, r0⟩ := trodAll_cons h
    refine trodAll_cons_mk (WideElems.Trod_stays hl (ht t (by simp)).1 (ht t (by simp)).2 h0 (fun x hx => hb.same (hlt x (by simp [hx]))) (fun x hx => hsp x (by simp [hx]))) ?_
    exact trodAll_stays hl hb ts vs0 ds0 q0 (fun t' h' => ht t' (by simp [h'])) r0 (fun x hx => hlt x (by simp [hx])) (fun x hx => hsp x (by simp [hx]))

/-- a law that answers true and leaves the old heap as it was meets its row's post -/
theorem law_post {f : Func} {s : ChangeSpec} {W W' : World} {args : Array Value} {ds : List (DataW H)} {before : List MemPlace} {tb : TypeId}
    (hW : DataW.Whole enc P f.params.toList s.vars false W args.toList ds [] before) (hv : s.vars = []) (hfn : s.fn H (ds ++ []) = { results := [.lit (.bool true)], args := ds }) (hf : f.resultTypes = #[tb]) (htb : P.underlying tb = some .bool)
    (hl : laidOutB P = true) (hr : ∀ t ∈ f.params.toList, P.readableRec t = true ∧ t < P.types.size) (hb : Below W.heap.size W W') :
    s.post enc P f false true false false W args (.bool true) W' := by
  have hlt : ∀ p ∈ before, p.block < W.heap.size := fun p hp => hW.lt p hp
  have hW2 := hW
  obtain ⟨p, q, hA, hV, hpq, _, _⟩ := hW2
  rw [hv] at hV
  obtain ⟨_, rfl⟩ := trodVars_none hV
  rw [List.append_nil] at hpq
  subst hpq
  refine ⟨ds, [], before, [], before, [], hW, ?_, ?_, ?_, hb.frame _, fun h => by cases h⟩
  · rw [hfn, hf]
    exact trodAll_cons_mk (shut_bool htb _) trodAll_mk0
  · rw [hfn]
    exact trodAll_stays hl hb _ _ _ _ hr hA hlt (fun p hp => by simpa using hlt p hp)
  · rw [hv, hfn]
    rfl

theorem wf_I64 {n : Int} (h : (Lit.int .i64 n).wf = true) : I64 n := bounds_i64 h
end

theorem addr_plain {w : World} {a : Addr} {v : Value} (h : w.cell? a = some v) : a = ⟨a.block, a.off, none⟩ := by
  obtain ⟨b, o, s⟩ := a
  cases s with
  | none => rfl
  | some s =>
    unfold World.cell? at h
    split at h <;> simp at h
theorem add_plain (b o k : Nat) : (⟨b, o, none⟩ : Addr).add k = ⟨b, o + k, none⟩ := by
  unfold Addr.add; split <;> simp_all

section
variable {H : Type} {enc : TypeId × Value → H} {W : World}
theorem bk_struct : ∃ f0 f1 : Field, Try.prog.underlying 51 = some (.struct #[f0, f1]) ∧ f0.type = 3 ∧ f0.offset = 0 ∧ f1.type = 3 ∧ f1.offset = 1 := ⟨_, _, Try.underlying51, rfl, rfl, rfl, rfl⟩
theorem bk_cells : Try.prog.cellsOf 51 = 2 := by kernel_rfl
theorem int_cells : Try.prog.cellsOf 3 = 1 := by kernel_rfl

theorem open_bk {base : Nat} {spare : Nat → Bool} {held : Bool} {fuel : Nat} {cs : List Value} {x : DataW H × List MemPlace} (h : DataW.trod enc Try.prog W base spare held fuel 51 cs = some x) :
    ∃ i n : Int, cs = benc (i, n) ∧ I64 i ∧ I64 n := by
  obtain ⟨f0, f1, hu, t0, o0, t1, o1⟩ := bk_struct
  obtain ⟨xs, m, _, _, hlen, hxl, hf⟩ := DataW.trod_struct hu h
  rw [bk_cells] at hlen
  have h0 := hf 0 f0 rfl
  have h1 := hf 1 f1 rfl
  rw [t0, o0, int_cells] at h0
  rw [t1, o1, int_cells] at h1
  match cs, hlen, xs, hxl with
  | [c0, c1], _, [y0, y1], _ =>
    simp at h0 h1
    obtain ⟨i, e0, _, wi⟩ := DataW.trod_int Try.underlying3 h0
    obtain ⟨n, e1, _, wn⟩ := DataW.trod_int Try.underlying3 h1
    simp at e0 e1
    subst e0; subst e1
    exact ⟨i, n, rfl, wf_I64 wi, wf_I64 wn⟩

/-- an argument that is a list of buckets -/
theorem open_bks {v : Value} {d : DataW H} {ps : List MemPlace} {b0 : Nat} (hv : Value.okWide Try.prog W .any b0 25 v) (h : DataW.Trod enc Try.prog W 0 (fun _ => true) true 25 v d ps) :
    ∃ (A : Option Addr) (cap : Nat) (l : Bks), v = .slice A l.length cap ∧ Arr W benc 2 A l ∧ WfB l ∧ (l = [] ∨ ∃ es sp, d = .slice es sp ∧ es.length = l.length) := by
  obtain ⟨a, len, cap, rfl⟩ := okWide_slice Try.underlying25 hv
  obtain ⟨fuel, h⟩ := h
  rcases open_slice Try.underlying25 h with ⟨hcs, _⟩ | ⟨a', len', cap', m, n, D, Pl, hcs, hb, hl, _, hm, hx, hel⟩
  · simp [Value.cells] at hcs
    obtain ⟨rfl, rfl, rfl⟩ := hcs
    exact ⟨none, 0, [], rfl, Arr.nil _ _ _ _, (by intro x hx; cases hx), Or.inl rfl⟩
  · simp [Value.cells] at hcs
    obtain ⟨rfl, rfl, rfl⟩ := hcs
    have hm' : m = cap := by simpa using hm
    have hch : ∀ i, i < len → ∃ x : Int × Int, (∀ j u, (benc x)[j]? = some u → W.cell? (a'.add (i * 2 + j)) = some u) ∧ I64 x.1 ∧ I64 x.2 := fun i hi => by
      obtain ⟨cs, hc, ht⟩ := hel i (by omega)
      rw [bk_cells] at hc
      obtain ⟨_, hlen, hat⟩ := World.cells?_some hc
      obtain ⟨x, n, rfl, hx, hn⟩ := open_bk ht
      refine ⟨(x, n), fun j u hu => ?_, hx, hn⟩
      have hj : j < 2 := (List.getElem?_eq_some_iff.1 hu).1
      have := hat j hj
      rw [Go.Deep.add_add] at this
      rw [this]; exact hu
    obtain ⟨f, hf⟩ := choose_lt hch
    refine ⟨some a', cap, (List.range len).map f, by simp, ?_, ?_, ?_⟩
    · rcases Nat.eq_zero_or_pos len with h0 | h0
      · left; subst h0; rfl
      · right
        have hc0 := (hf 0 h0).1 0 _ rfl
        have hadd : a'.add (0 * 2 + 0) = a' := by unfold Addr.add; simp
        rw [hadd] at hc0
        have hp := addr_plain hc0
        refine ⟨a'.block, a'.off, by rw [← hp], World.block_lt_of_cell? W a' hc0, fun k x hx j u hu => ?_⟩
        have hk : k < len := by
          have := (List.getElem?_eq_some_iff.1 hx).1
          simpa using this
        have hx' : f k = x := by simpa [List.getElem?_map, List.getElem?_range hk] using hx
        have := (hf k hk).1 j u (by rw [hx']; exact hu)
        rw [hp, add_plain] at this
        rw [Nat.add_assoc]; exact this
    · intro x hx
      obtain ⟨i, hi, rfl⟩ := List.mem_map.1 hx
      exact (hf i (List.mem_range.1 hi)).2
    · right
      have hd : d = .slice ((List.range len).map D) ((List.range (m - len)).map fun j => D (len + j)) := by injection hx
      exact ⟨_, _, hd, by simp⟩

/-- an argument that is a list of integers -/
theorem open_is {v : Value} {d : DataW H} {ps : List MemPlace} {b0 : Nat} (hv : Value.okWide Try.prog W .any b0 31 v) (h : DataW.Trod enc Try.prog W 0 (fun _ => true) true 31 v d ps) :
    ∃ (A : Option Addr) (cap : Nat) (l : List Int), v = .slice A l.length cap ∧ Arr W ienc 1 A l ∧ (∀ n ∈ l, I64 n) ∧ (l = [] ∨ ∃ es sp, d = .slice es sp ∧ es.length = l.length) := by
  obtain ⟨a, len, cap, rfl⟩ := okWide_slice Try.underlying31 hv
  obtain ⟨fuel, h⟩ := h
  rcases open_slice Try.underlying31 h with ⟨hcs, _⟩ | ⟨a', len', cap', m, n, D, Pl, hcs, hb, hl, _, hm, hx, hel⟩
  · simp [Value.cells] at hcs
    obtain ⟨rfl, rfl, rfl⟩ := hcs
    exact ⟨none, 0, [], rfl, Arr.nil _ _ _ _, (by intro x hx; cases hx), Or.inl rfl⟩
  · simp [Value.cells] at hcs
    obtain ⟨rfl, rfl, rfl⟩ := hcs
    have hm' : m = cap := by simpa using hm
    have hch : ∀ i, i < len → ∃ x : Int, W.cell? (a'.add i) = some (.int .i64 x) ∧ I64 x := fun i hi => by
      obtain ⟨cs, hc, ht⟩ := hel i (by omega)
      rw [int_cells] at hc
      obtain ⟨_, hlen, hat⟩ := World.cells?_some hc
      obtain ⟨x, rfl, _, hw⟩ := DataW.trod_int Try.underlying3 ht
      refine ⟨x, ?_, wf_I64 hw⟩
      have := hat 0 (by omega)
      rw [Go.Deep.add_add] at this
      simpa using this
    obtain ⟨f, hf⟩ := choose_lt hch
    refine ⟨some a', cap, (List.range len).map f, by simp, ?_, ?_, ?_⟩
    · rcases Nat.eq_zero_or_pos len with h0 | h0
      · left; subst h0; rfl
      · right
        have hc0 := (hf 0 h0).1
        have hadd : a'.add 0 = a' := by unfold Addr.add; simp
        rw [hadd] at hc0
        have hp := addr_plain hc0
        refine ⟨a'.block, a'.off, by rw [← hp], World.block_lt_of_cell? W a' hc0, fun k x hx j u hu => ?_⟩
        have hk : k < len := by
          have := (List.getElem?_eq_some_iff.1 hx).1
          simpa using this
        have hx' : f k = x := by simpa [List.getElem?_map, List.getElem?_range hk] using hx
        have hj : j = 0 ∧ u = .int .i64 x := by
          match j, hu with
          | 0, hu => simp [ienc] at hu; exact ⟨rfl, hu.symm⟩
          | j + 1, hu => simp [ienc] at hu
        obtain ⟨rfl, rfl⟩ := hj
        have := (hf k hk).1
        rw [hp, add_plain, hx'] at this
        simpa using this
    · intro x hx
      obtain ⟨i, hi, rfl⟩ := List.mem_map.1 hx
      exact (hf i (List.mem_range.1 hi)).2
    · right
      have hd : d = .slice ((List.range len).map D) ((List.range (m - len)).map fun j => D (len + j)) := by injection hx
      exact ⟨_, _, hd, by simp⟩

theorem bulk_one (d : DataW H) : 1 ≤ Rows.uptoBulk d := by
  cases d with
  | lit l => cases l <;> simp [Rows.uptoBulk]
  | _ => simp [Rows.uptoBulk]
theorem bulk_len : ∀ l : List (DataW H), l.length ≤ Rows.uptoBulkAll l
  | [] => by simp
  | d :: t => by
    have := bulk_one d
    have := bulk_len t
    simp only [Rows.uptoBulkAll, List.length_cons]; omega
theorem bulk_part {d : DataW H} : ∀ {l : List (DataW H)}, d ∈ l → Rows.uptoBulk d ≤ Rows.uptoBulkAll l
  | [], h => by cases h
  | x :: t, h => by
    simp only [Rows.uptoBulkAll]
    rcases List.mem_cons.1 h with rfl | h
    · omega
    · have := bulk_part h; omega
/-- the bound on what comes in, of one list -/
theorem bulk_list {α : Type} {l : List α} {d : DataW H} {ds : List (DataW H)} (h : l = [] ∨ ∃ es sp, d = .slice es sp ∧ es.length = l.length) (hd : d ∈ ds) (hk : Rows.uptoSmall H ds = true) : l.length ≤ 1048576 := by
  have hb : Rows.uptoBulkAll ds ≤ 1048576 := of_decide_eq_true hk
  rcases h with rfl | ⟨es, sp, rfl, e⟩
  · simp
  · have h1 := bulk_part hd
    have h2 := bulk_len es
    simp only [Rows.uptoBulk] at h1
    omega
end
end Go.Proofs.Ythppcgafanognaa
