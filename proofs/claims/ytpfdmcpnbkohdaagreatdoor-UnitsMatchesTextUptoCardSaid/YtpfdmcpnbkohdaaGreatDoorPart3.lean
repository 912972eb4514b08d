/- Own texts, part 3. -/
import Derived.Test.YtpfdmcpnbkohdaaGreatDoorPart2
import Derived.ProofKit
import Derived.OpenShut
import Derived.ChangeMaps5
import Derived.JoinedCond
import Derived.Deep.Slices
import Derived.Deep.DeepHandedRow

namespace Go.Abs
open Go.ChangeShapes Go.WideShapes Go.ChangeAt Go.RowKit Go.Deep Go.ChangeMaps

section
variable {H : Type} {enc : TypeId × Value → H} {P : Program}
theorem trodAll_stays (hl : laidOutB P = true) {W W' : World} (hb : Below W.heap.size W W') {sp : Nat → Bool} : ∀ (ts : List TypeId) (vs : List Value) (ds : List (DataW H)) (ps : List MemPlace),
    (∀ t ∈ ts, P.readableRec t = true ∧ t < P.types.size) → DataW.TrodAll enc P W 0 (fun _ => true) true ts vs ds ps → (∀ p ∈ ps, p.block < W.heap.size) → (∀ p ∈ ps, sp p.block = true) → DataW.TrodAll enc P W' 0 sp true ts vs ds ps
  | [], vs, ds, ps, _, h, _, _ => by
    obtain ⟨rfl, rfl, rfl⟩ := trodAll_nil h
    exact trodAll_mk0
  | t :: ts, vs, ds, ps, ht, h, hlt, hsp => by
    obtain ⟨v0, vs0, d0, ds0, p0, q0, rfl, rfl, rfl, h0, r0⟩ := trodAll_cons h
    refine trodAll_cons_mk (WideElems.Trod_stays hl (ht t (by simp)).1 (ht t (by simp)).2 h0 (fun x hx => hb.same (hlt x (by simp [hx]))) (fun x hx => hsp x (by simp [hx]))) ?_
    exact trodAll_stays hl hb ts vs0 ds0 q0 (fun t' h' => ht t' (by simp [h'])) r0 (fun x hx => hlt x (by simp [hx])) (fun x hx => hsp x (by simp [hx]))

/-- a law that answers true and leaves the old heap as it was meets its row's post -/
theorem law_post {f : Func} {s : ChangeSpec} {W W' : World} {args : Array Value} {ds : List (DataW H)} {before : List MemPlace} {tb : TypeId}
    (hW : DataW.Whole enc P f.params.toList s.vars false W args.toList ds [] before) (hv : s.vars = []) (hfn : s.fn H (ds ++ []) = { results := [.lit (.bool true)], args := ds }) (hf : f.resultTypes = #[tb]) (htb : P.underlying tb = some .bool)
    (hl : laidOutB P = true) (hr : ∀ t ∈ f.params.toList, P.readableRec t = true ∧ t < P.types.size) (hb : Below W.heap.size W W') :
    s.post enc P f false true false false W args (.bool true) W' := by
  have hlt : ∀ p ∈ before, p.block < W.heap.size := fun p hp => hW.lt p hp
  have hW2 := hW
  obtain ⟨p, q, hA, hV, hpq, _, _⟩ := hW2
  rw [hv] at hV
  obtain ⟨_, rfl⟩ := trodVars_none hV
  rw [List.append_nil] at hpq
  subst hpq
  refine ⟨ds, [], before, [], before, [], hW, ?_, ?_, ?_, hb.frame _, fun h => by cases h⟩
  · rw [hfn, hf]
    exact trodAll_cons_mk (shut_bool htb _) trodAll_mk0
  · rw [hfn]
    exact trodAll_stays hl hb _ _ _ _ hr hA hlt (fun p hp => by simpa using hlt p hp)
  · rw [hv, hfn]
    rfl
end

theorem addr_plain {w : World} {a : Addr} {v : Value} (h : w.cell? a = some v) : a = ⟨a.block, a.off, none⟩ := by
  obtain ⟨b, o, s⟩ := a
  cases s with
  | none => rfl
  | some s =>
    unfold World.cell? at h
    split at h <;> simp at h
theorem addp (b o k : Nat) : (⟨b, o, none⟩ : Addr).add k = ⟨b, o + k, none⟩ := by
  unfold Addr.add; split <;> simp_all
theorem cell_lt {W : World} {a : Addr} {v : Value} (h : W.cell? a = some v) : a.block < W.heap.size := by
  rcases Nat.lt_or_ge a.block W.heap.size with h' | h'
  · exact h'
  · simp [World.cell?, Array.getElem?_eq_none h'] at h

/-- all that lies in memory stays -/
def oldE (W : World) : Env := ⟨fun b _ => b < W.heap.size, fun _ => none, fun _ _ _ => False⟩

section
variable {H : Type} {enc : TypeId × Value → H} {P : Program} {W : World}
/-- cells that read as an element -/
def ElemOk (P : Program) (W : World) (enc : TypeId × Value → H) (e : TypeId) {α : Type} (g : α → AV) : Prop :=
  ∀ n cs x, DataW.trod enc P W 0 (fun _ => true) true n e cs = some x → ∃ a : α, ∀ E (j : Nat) (c : AV) (u : Value), (g a).cells[j]? = some c → cs[j]? = some u → Rep E W c u ∧ u.oneCell' = true
theorem open_slB {t e : TypeId} {sz : Nat} {α : Type} [Inhabited α] {g : α → AV} (ht : P.underlying t = some (.slice e)) (hc : P.cellsOf e = sz) (hsz : 0 < sz) (hg : ∀ a, (g a).cells.length = sz ∧ (g a).closed1 = true) (hel : ElemOk P W enc e g)
    {v : Value} {d : DataW H} {ps : List MemPlace} (hv : ∃ A len cap, v = .slice A len cap) (h : DataW.Trod enc P W 0 (fun _ => true) true t v d ps) : ∃ l : List α, Rep (oldE W) W (.sl sz (l.map g) .no) v := by
  obtain ⟨a, len, cap, rfl⟩ := hv
  obtain ⟨fuel, h⟩ := h
  rcases open_slice ht h with ⟨hcs, _⟩ | ⟨a', len', cap', m, n, D, Pl, hcs, hb, hl, hmx, hm, hx, hels⟩
  · simp [Value.cells] at hcs
    obtain ⟨rfl, rfl, rfl⟩ := hcs
    exact ⟨[], .sl sz [] .no none 0 (fun _ _ => .bool false) (by simp) (by simp [maxLen]) (.inl rfl) (by simp) (by simp) trivial (by simp) (fun _ _ => rfl)⟩
  · simp [Value.cells] at hcs
    obtain ⟨rfl, rfl, rfl⟩ := hcs
    have hm' : m = cap := by simpa using hm
    have hch : ∀ i, i < len → ∃ x : α × List Value, x.2.length = sz ∧ (∀ j, j < sz → W.cell? (a'.add (i * sz + j)) = x.2[j]?) ∧ ∀ E (j : Nat) (c : AV) (u : Value), (g x.1).cells[j]? = some c → x.2[j]? = some u → Rep E W c u ∧ u.oneCell' = true := fun i hi => by
      obtain ⟨cs, hcs, ht'⟩ := hels i (by omega)
      rw [hc] at hcs
      obtain ⟨_, hlen, hat⟩ := World.cells?_some hcs
      obtain ⟨x, hx⟩ := hel n cs _ ht'
      refine ⟨(x, cs), hlen, fun j hj => ?_, hx⟩
      have := hat j hj
      rw [Go.Deep.add_add] at this
      exact this
    obtain ⟨f, hf⟩ := choose_lt hch
    refine ⟨(List.range len).map fun i => (f i).1, ?_⟩
    have hlen : ((List.range len).map fun i => (f i).1).length = len := by simp
    have hln : (((List.range len).map fun i => (f i).1).map g).length = len := by simp
    have hget : ∀ (i : Nat) (e' : AV), (((List.range len).map fun i => (f i).1).map g)[i]? = some e' → i < len ∧ e' = g (f i).1 := fun i e' h => by
      have hi : i < len := by
        have := (List.getElem?_eq_some_iff.1 h).1
        simpa using this
      refine ⟨hi, ?_⟩
      simp [List.getElem?_range hi] at h
      exact h.symm
    let u : Nat → Nat → Value := fun i j => if i < len ∧ j < sz then ((f i).2[j]?).getD (.bool false) else .bool false
    have hu : ∀ i j, i < len → j < sz → (f i).2[j]? = some (u i j) := fun i j hi hj => by
      have h2 : j < (f i).2.length := by rw [(hf i hi).1]; exact hj
      simp only [u, hi, hj, and_self, if_true, List.getElem?_eq_getElem h2, Option.getD_some]
    have key := Rep.sl (E := oldE W) (w := W) sz (((List.range len).map fun i => (f i).1).map g) .no (some a') cap u (by rw [hln]; exact hl) hmx ?_ ?_ ?_ trivial ?_ ?_
    · rw [hln] at key; exact key
    · rcases Nat.eq_zero_or_pos len with h0 | h0
      · left; subst h0; rfl
      · right
        have h1 := (hf 0 h0).2.1 0 hsz
        rw [hu 0 0 h0 hsz] at h1
        have hadd : a'.add (0 * sz + 0) = a' := by unfold Addr.add; simp
        rw [hadd] at h1
        have hp := addr_plain h1
        refine ⟨a'.block, a'.off, by rw [← hp], fun i e' j c hi hj => ?_⟩
        obtain ⟨hlt, rfl⟩ := hget i e' hi
        have hjs : j < sz := by
          have := (List.getElem?_eq_some_iff.1 hj).1
          rw [(hg _).1] at this; exact this
        have h2 := (hf i hlt).2.1 j hjs
        rw [hu i j hlt hjs, hp, addp] at h2
        have e : a'.off + i * sz + j = a'.off + (i * sz + j) := by omega
        refine ⟨cell_lt h1, by rw [e]; exact h2⟩
    · intro e' he
      obtain ⟨x, hx, rfl⟩ := List.mem_map.1 he
      exact (hg x).1
    · intro e' he
      obtain ⟨x, hx, rfl⟩ := List.mem_map.1 he
      exact (hg x).2
    · intro i e' j c hi hj
      obtain ⟨hlt, rfl⟩ := hget i e' hi
      have hjs : j < sz := by
        have := (List.getElem?_eq_some_iff.1 hj).1
        rw [(hg _).1] at this; exact this
      exact ((hf i hlt).2.2 _ j c (u i j) hj (hu i j hlt hjs)).1
    · intro i j
      by_cases hij : i < len ∧ j < sz
      · have hjs : j < (g (f i).1).cells.length := by rw [(hg _).1]; exact hij.2
        exact ((hf i hij.1).2.2 (oldE W) j _ (u i j) (List.getElem?_eq_getElem hjs) (hu i j hij.1 hij.2)).2
      · simp only [u, if_neg hij]; rfl

theorem open_slA {t e : TypeId} {sz : Nat} {α : Type} [Inhabited α] {g : α → AV} (ht : P.underlying t = some (.slice e)) (hc : P.cellsOf e = sz) (hsz : 0 < sz) (hg : ∀ a, (g a).cells.length = sz ∧ (g a).closed1 = true) (hel : ElemOk P W enc e g)
    {v : Value} {d : DataW H} {ps : List MemPlace} {b0 : Nat} (hv : Value.okWide P W .any b0 t v) (h : DataW.Trod enc P W 0 (fun _ => true) true t v d ps) : ∃ l : List α, Rep (oldE W) W (.sl sz (l.map g) .no) v :=
  open_slB ht hc hsz hg hel (okWide_slice ht hv) h
theorem elem_u8 {e : TypeId} (he : P.underlying e = some (.int .u8)) : ElemOk P W enc e fun c : UInt8 => AV.int .u8 c.toNat := by
  intro n cs x h
  obtain ⟨k, rfl, _, hw⟩ := DataW.trod_int he h
  have hb : 0 ≤ k ∧ k ≤ 255 := by
    simp [Lit.wf, IntKind.min, IntKind.max, IntKind.signed, IntKind.bits] at hw
    omega
  refine ⟨UInt8.ofNat k.toNat, fun E j c u hc hu => ?_⟩
  have e1 : ((UInt8.ofNat k.toNat).toNat : Int) = k := by simp; omega
  match j, hc, hu with
  | 0, hc, hu =>
    simp only [AV.cells, List.getElem?_cons_zero, Option.some.injEq] at hc hu
    subst hc; subst hu
    rw [e1]
    exact ⟨.int _ _, rfl⟩
  | j + 1, hc, hu => simp [AV.cells] at hc
theorem elem_str {e : TypeId} (he : P.underlying e = some .string) : ElemOk P W enc e fun s : List UInt8 => AV.str s := by
  intro n cs x h
  obtain ⟨s, rfl, _, _⟩ := DataW.trod_string he h
  refine ⟨s.data.toList, fun E j c u hc hu => ?_⟩
  match j, hc, hu with
  | 0, hc, hu =>
    simp [AV.cells] at hc hu
    subst hc; subst hu
    exact ⟨mk_str s, rfl⟩
  | j + 1, hc, hu => simp [AV.cells] at hc
theorem open_bytesA {t e : TypeId} (ht : P.underlying t = some (.slice e)) (he : P.underlying e = some (.int .u8)) (hc : P.cellsOf e = 1)
    {v : Value} {d : DataW H} {ps : List MemPlace} {b0 : Nat} (hv : Value.okWide P W .any b0 t v) (h : DataW.Trod enc P W 0 (fun _ => true) true t v d ps) : ∃ l : List UInt8, Rep (oldE W) W (bytesA l) v :=
  open_slA ht hc (by omega) (fun _ => ⟨rfl, rfl⟩) (elem_u8 he) hv h
theorem open_strsA {t e : TypeId} (ht : P.underlying t = some (.slice e)) (he : P.underlying e = some .string) (hc : P.cellsOf e = 1)
    {v : Value} {d : DataW H} {ps : List MemPlace} {b0 : Nat} (hv : Value.okWide P W .any b0 t v) (h : DataW.Trod enc P W 0 (fun _ => true) true t v d ps) : ∃ l : List (List UInt8), Rep (oldE W) W (.sl 1 (l.map AV.str) .no) v :=
  open_slA ht hc (by omega) (fun _ => ⟨rfl, rfl⟩) (elem_str he) hv h
theorem open_strA {t : TypeId} (ht : P.underlying t = some .string)
    {v : Value} {d : DataW H} {ps : List MemPlace} {b0 : Nat} (hv : Value.okWide P W .any b0 t v) (h : DataW.Trod enc P W 0 (fun _ => true) true t v d ps) : ∃ l : List UInt8, Rep (oldE W) W (.str l) v := by
  obtain ⟨s, rfl, _⟩ := open_string ht hv h
  exact ⟨s.data.toList, mk_str s⟩
/-- package variables whose cells are known -/
theorem globA {G : Glob} (h : ∀ g e, G g = some e → e.closed1 = true ∧ ∀ (j : Nat) (c : AV), e.cells[j]? = some c → ∃ v, W.cell? ⟨g, j, none⟩ = some v ∧ Rep (oldE W) W c v ∧ v.oneCell' = true) (hb : ∀ g e, G g = some e → g < W.heap.size ∧ W.cell? ⟨g, e.cells.length, none⟩ = none) : GlobOk G (oldE W) W := by
  intro g e hg
  obtain ⟨h1, h2⟩ := h g e hg
  refine ⟨h1, ?_, hb g e hg⟩
  let u : Nat → Nat → Value := fun _ j => match W.cell? ⟨g, j, none⟩ with
    | some v => if j < e.cells.length then v else .bool false
    | none => .bool false
  have hu : ∀ i j c, e.cells[j]? = some c → W.cell? ⟨g, j, none⟩ = some (u i j) ∧ Rep (oldE W) W c (u i j) := fun i j c hc => by
    obtain ⟨v, hv, hr, _⟩ := h2 j c hc
    have hlt := (List.getElem?_eq_some_iff.1 hc).1
    simp only [u, hv, hlt, if_true]
    exact ⟨trivial, hr⟩
  have := Rep.elt (E := oldE W) (w := W) e.cells.length [e] 0 0 g 0 u (by intro x hx; simp at hx; subst hx; exact h1) (fun i e' j c hi hj => ?_) (fun i e' j c hi hj => ?_) (fun i j => ?_)
  · simpa using this
  · match i, hi with
    | 0, hi =>
      simp at hi; subst hi
      have h3 := hu 0 j c hj
      refine ⟨cell_lt h3.1, ?_⟩
      simpa using h3.1
    | i + 1, hi => simp at hi
  · match i, hi with
    | 0, hi =>
      simp at hi; subst hi
      exact (hu 0 j c hj).2
    | i + 1, hi => simp at hi
  · show (match W.cell? ⟨g, j, none⟩ with | some v => if j < e.cells.length then v else .bool false | none => .bool false : Value).oneCell' = true
    split
    · rename_i v hv
      split
      · rename_i hlt
        obtain ⟨v', hv', _, h3⟩ := h2 j _ (List.getElem?_eq_getElem hlt)
        rw [hv] at hv'
        injection hv' with hv'
        rw [hv']; exact h3
      · rfl
    · rfl
end
end Go.Abs

namespace Go.Abs
open Go.ChangeShapes Go.WideShapes Go.ChangeAt Go.RowKit Go.Deep Go.ChangeMaps
section
variable {H : Type} {enc : TypeId × Value → H} {P : Program} {W : World}
theorem rep_len {E : Env} {w : World} {sz : Nat} {es : List AV} {o : Own} {v : Value} (h : Rep E w (.sl sz es o) v) : es.length ≤ 9223372036854775807 := by
  cases h with | sl _ _ _ A cap u hcap hmax hA hsz hcl ho hr h1 => exact Nat.le_trans hcap hmax
/-- a package variable has the size of its type -/
theorem glob_size (hsh : W.ShapedOpen P) {g n : Nat} (hg : g < P.globals.size) (hz : (((begin P (fun _ _ => 0) default).world.heap[g]?).bind Obj.row?).map (fun x => x.1.size) = some n) : g < W.heap.size ∧ W.cell? ⟨g, n, none⟩ = none := by
  obtain ⟨h1, _⟩ := hsh
  cases hx : ((begin P (fun _ _ => 0) default).world.heap[g]?).bind Obj.row? with
  | none => rw [hx] at hz; cases hz
  | some x =>
    obtain ⟨zero, t⟩ := x
    rw [hx] at hz
    simp only [Option.map_some, Option.some.injEq] at hz
    obtain ⟨cs, hcs, hsz, _⟩ := h1 g zero t hg hx
    refine ⟨(Array.getElem?_eq_some_iff.1 hcs).1, ?_⟩
    unfold World.cell?
    simp only [hcs]
    have : cs[n]? = none := Array.getElem?_eq_none (by omega)
    simpa using this
/-- a cell that is a slice, in a struct -/
theorem cell_slA {t e : TypeId} {sz : Nat} {α : Type} [Inhabited α] {g : α → AV} (ht : P.underlying t = some (.slice e)) (hc : P.cellsOf e = sz) (hsz : 0 < sz) (hg : ∀ a, (g a).cells.length = sz ∧ (g a).closed1 = true) (hel : ElemOk P W enc e g)
    {n : Nat} {v : Value} {x : DataW H × List MemPlace} (h : DataW.trod enc P W 0 (fun _ => true) true n t [v] = some x) : ∃ l : List α, Rep (oldE W) W (.sl sz (l.map g) .no) v ∧ v.oneCell' = true := by
  have hs : ∃ A len cap, v = .slice A len cap := by
    rcases open_slice ht h with ⟨hcs, _⟩ | ⟨a', len', cap', m, n, D, Pl, hcs, _⟩
    · injection hcs with h1 _; exact ⟨_, _, _, h1⟩
    · injection hcs with h1 _; exact ⟨_, _, _, h1⟩
  obtain ⟨A, len, cap, rfl⟩ := hs
  obtain ⟨l, hl⟩ := open_slB ht hc hsz hg hel ⟨A, len, cap, rfl⟩ (d := x.1) (ps := x.2) ⟨n, by simpa [Value.cells] using h⟩
  exact ⟨l, hl, rfl⟩
theorem int_rng {n : Int} (h : (Lit.int .i64 n).wf = true) : -9223372036854775808 ≤ n ∧ n < 9223372036854775808 := by
  simp [Lit.wf, IntKind.min, IntKind.max, IntKind.signed, IntKind.bits] at h
  omega
theorem open_intA {t : TypeId} (ht : P.underlying t = some (.int .i64))
    {v : Value} {d : DataW H} {ps : List MemPlace} {b0 : Nat} (hv : Value.okWide P W .any b0 t v) (h : DataW.Trod enc P W 0 (fun _ => true) true t v d ps) : ∃ n : Int, Rep (oldE W) W (.int .i64 n) v ∧ -9223372036854775808 ≤ n ∧ n < 9223372036854775808 := by
  obtain ⟨n, rfl⟩ := okWide_int ht hv
  obtain ⟨fuel, h⟩ := h
  obtain ⟨k, e, _, hw⟩ := DataW.trod_int ht h
  simp [Value.cells] at e
  subst e
  exact ⟨n, .int _ _, int_rng hw⟩
end
end Go.Abs
