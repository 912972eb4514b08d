/-
  Functions of Go's library that the model answers itself, and others whose contracts are known.
-/
import Derived.Test.YtooobfhjklcnjaaDoorAbsU
import Derived.Lib.BytesEntry
import Derived.Lib.IndexMore
import Derived.Laws.Externs
import Derived.KernelRfl
namespace Go.Abs
open Go.RowKit

def unByte : AV → Option UInt8
  | .int .u8 n => if 0 ≤ n ∧ n < 256 then some (UInt8.ofNat n.toNat) else none
  | _ => none
def unBytes : List AV → Option (List UInt8)
  | [] => some []
  | a :: l =>
    match unByte a, unBytes l with
    | some b, some bs => some (b :: bs)
    | _, _ => none
theorem unByte_mk (b : UInt8) : unByte (.int .u8 b.toNat) = some b := by
  have h := b.toNat_lt
  simp only [unByte]
  rw [if_pos (by omega)]
  simp
theorem unByte_some {a : AV} {b : UInt8} (h : unByte a = some b) : a = .int .u8 b.toNat := by
  unfold unByte at h
  split at h
  · rename_i n
    split at h
    · rename_i hn
      simp only [Option.some.injEq] at h
      subst h
      have : (UInt8.ofNat n.toNat).toNat = n.toNat := by
        rw [UInt8.toNat_ofNat']
        exact Nat.mod_eq_of_lt (by omega)
      rw [this, Int.toNat_of_nonneg hn.1]
    · cases h
  · cases h
theorem unBytes_mk : ∀ bs : List UInt8, unBytes (bytesL bs) = some bs
  | [] => rfl
  | b :: bs => by
    have h1 := unByte_mk b
    have h2 := unBytes_mk bs
    simp only [bytesL, List.map_cons] at h2 ⊢
    simp only [unBytes, h1, h2]
theorem unBytes_some : ∀ {es : List AV} {bs : List UInt8}, unBytes es = some bs → es = bytesL bs
  | [], bs, h => by simp only [unBytes, Option.some.injEq] at h; subst h; rfl
  | a :: es, bs, h => by
    simp only [unBytes] at h
    split at h
    · rename_i b cs hb hcs
      simp only [Option.some.injEq] at h
      subst h
      rw [unByte_some hb, unBytes_some hcs]
      rfl
    · cases h

section
variable {P : Program} {G : Glob} {E : Env} {w w' : World}

theorem res_below (hb : Below w.heap.size w w') {r : AV} {v : Value} (h : ∀ B K, Rep ⟨E.I, B, K⟩ w' r v) : Res P E w w' r [] v :=
  ⟨E.I, fun _ _ h => h, fun _ _ h => .inl h, hb, .inl ⟨rfl, h⟩⟩
theorem res_same {r : AV} {v : Value} (h : ∀ B K, Rep ⟨E.I, B, K⟩ w r v) : Res P E w w r [] v := res_below (Below.refl _ _) h

theorem vs_one {vs : Array Value} (h : vs.size = 1) : ∃ a, vs = #[a] := by
  obtain ⟨l⟩ := vs
  match l, h with
  | [a], _ => exact ⟨a, rfl⟩
theorem vs_two {vs : Array Value} (h : vs.size = 2) : ∃ a b, vs = #[a, b] := by
  obtain ⟨l⟩ := vs
  match l, h with
  | [a, b], _ => exact ⟨a, b, rfl⟩

theorem rep_str {l : List UInt8} {v : Value} (h : Rep E w (.str l) v) : ∃ s, v = .string s ∧ s.data.toList = l := by
  cases h with | str _ s hs => exact ⟨s, rfl, hs⟩
theorem mk_str (s : ByteArray) : Rep E w (.str s.data.toList) (.string s) := .str _ s rfl

/-- a slice of bytes, in a world -/
theorem rep_bytes {sz : Nat} {bs : List UInt8} {o : Own} {v : Value} (h : Rep E w (.sl sz (bytesL bs) o) v) (hsz : sz = 1 ∨ bs = []) :
    ∃ A cap, v = .slice A bs.length cap ∧ bs.length ≤ cap ∧ (bs = [] ∨ ∃ b off, A = some ⟨b, off, none⟩ ∧ ∀ i, i < bs.length → w.cell? ⟨b, off + i, none⟩ = some (.int .u8 ((bs.map fun c => (c.toNat : Int)).getD i 0)) ∧ E.I b (off + i)) := by
  generalize hes : bytesL bs = es at h
  cases h with | sl _ _ _ A cap u hcap hmax hA hsz' hcl ho hr h1 =>
  have hlen : es.length = bs.length := by rw [← hes]; simp [bytesL]
  refine ⟨A, cap, by rw [hlen], by omega, ?_⟩
  by_cases hb : bs = []
  · exact .inl hb
  · have hsz1 : sz = 1 := hsz.resolve_right hb
    subst hsz1
    rcases hA with hA | ⟨b, off, hA, hc⟩
    · exact absurd (by rw [← hes] at hA; simpa [bytesL] using hA) hb
    · refine .inr ⟨b, off, hA, fun i hi => ?_⟩
      have he : es[i]? = some (.int .u8 bs[i].toNat) := by rw [← hes]; simp [bytesL, hi]
      obtain ⟨h2, h3⟩ := hc i _ 0 _ he rfl
      have h4 := hr i _ 0 _ he rfl
      simp only [Nat.mul_one, Nat.add_zero] at h2 h3
      refine ⟨?_, h2⟩
      rw [h3, rep_int h4]
      simp [hi]

def sIndexByteString : Spec := fun args => match args with
  | [.str l, .int .u8 c] => some (.int .i64 (Lib.indexByte l c.toNat.toUInt8), [])
  | _ => none
def sIndexByte : Spec := fun args => match args with
  | [.sl sz es _, .int .u8 c] => if sz = 1 ∧ es ≠ [] then (unBytes es).map fun l => (.int .i64 (Lib.indexByte l c.toNat.toUInt8), []) else none
  | _ => none
def sContains : Spec := fun args => match args with
  | [.str l, .str m] => if l.length < 4294967281 then some (.bool (Lib.contains l m), []) else none
  | _ => none

theorem extern_value {f : FuncId} {fn : Func} {e : Array Value → Sem Value} (hf : P.funcs[f]? = some fn) (hname : (fn.name == "runtime.NumGoroutine") = false) (hb : fn.body.isNone = true) (hn : Extern.findNext fn = none) (he : Extern.find fn = some e)
    {vs : Array Value} {w : World} {v : Value} (h : (e vs).run P w = .ok v w) : (callFunc f vs).run P w = .ok (.value v) w := by
  rw [run_callFunc_extern hf hname hb hn he, h]
  rfl

theorem o_indexByteString {f : FuncId} {fn : Func} (hf : P.funcs[f]? = some fn) (hname : (fn.name == "runtime.NumGoroutine") = false) (hb : fn.body.isNone = true) (hn : Extern.findNext fn = none) (he : Extern.find fn = some Extern.BytealgIndexByte.indexByte) :
    SpecOk P G f sIndexByteString := by
  intro g args r lv h E w vs hI hG hn' hv hcl
  simp only at h
  split at h
  · rename_i e
    subst e
    unfold sIndexByteString at h
    split at h
    · rename_i l c
      simp only [Option.some.injEq, Prod.mk.injEq] at h
      obtain ⟨rfl, rfl⟩ := h
      obtain ⟨a, b, rfl⟩ := vs_two hn'
      obtain ⟨s, rfl, hs⟩ := rep_str (hv 0 _ _ rfl rfl)
      obtain rfl := rep_int (hv 1 _ _ rfl rfl)
      refine .inr ⟨_, w, extern_value hf hname hb hn he (Lib.run_indexByteString s c w), _, rfl, res_same fun B K => ?_⟩
      rw [hs]
      exact .int _ _
    · cases h
  · cases h

theorem o_indexByte {f : FuncId} {fn : Func} (hf : P.funcs[f]? = some fn) (hname : (fn.name == "runtime.NumGoroutine") = false) (hb : fn.body.isNone = true) (hn : Extern.findNext fn = none) (he : Extern.find fn = some Extern.BytealgIndexByte.indexByte) :
    SpecOk P G f sIndexByte := by
  intro g args r lv h E w vs hI hG hn' hv hcl
  simp only at h
  split at h
  · rename_i e
    subst e
    unfold sIndexByte at h
    split at h
    · rename_i sz es o c
      split at h
      · rename_i hsz
        cases hu : unBytes es with
        | none => rw [hu] at h; cases h
        | some l =>
          rw [hu] at h
          simp only [Option.map_some, Option.some.injEq, Prod.mk.injEq] at h
          obtain ⟨rfl, rfl⟩ := h
          obtain rfl := unBytes_some hu
          obtain ⟨a, b, rfl⟩ := vs_two hn'
          obtain ⟨A, cap, rfl, hcap, hc⟩ := rep_bytes (hv 0 _ _ rfl rfl) (.inl hsz.1)
          obtain rfl := rep_int (hv 1 _ _ rfl rfl)
          have hbo : Lib.bytesOf (l.map fun c => (c.toNat : Int)) = l := by
            unfold Lib.bytesOf
            rw [List.map_map]
            conv => rhs; rw [← List.map_id l]
            refine List.map_congr_left fun x _ => ?_
            simp
          rcases hc with rfl | ⟨bk, off, rfl, hcells⟩
          · exact absurd rfl hsz.2
          · refine .inr ⟨_, w, extern_value hf hname hb hn he (Lib.run_indexByteSlice w bk off l.length cap (l.map fun c => (c.toNat : Int)) (by simp) (fun i hi => (hcells i hi).1) c), _, rfl, res_same fun B K => ?_⟩
            rw [hbo]
            exact .int _ _
      · cases h
    · cases h
  · cases h

theorem glob_int {g : Nat} {m : Int} (hG : GlobOk G E w) (h : G g = some (.int .i64 m)) : w.cell? ⟨g, 0, none⟩ = some (.int .i64 m) := by
  have := (hG g _ h).2
  generalize hv : Value.pointer (some ⟨g, 0, none⟩) = v at this
  cases this with | elt _ _ _ _ b off u hcl hA hr h1 =>
  injection hv with hv
  injection hv with hv
  injection hv with h2 h3
  subst h2
  obtain ⟨_, h4⟩ := hA 0 _ 0 _ rfl rfl
  have h5 := rep_int (hr 0 _ 0 _ rfl rfl)
  rw [← h5, ← h4]
  congr 2

theorem o_contains {f : FuncId} (hg : goodFn P f) {m : Int} {g0 : Nat} (hm : G g0 = some (.int .i64 m))
    (hc : ∀ (s sub : ByteArray) (m : Int) (w : World), s.size < 4294967281 → w.cell? ⟨g0, 0, none⟩ = some (.int .i64 m) →
      Calls P f #[.string s, .string sub] w fun e w' => e = .returned (.bool (Lib.contains s.data.toList sub.data.toList)) ∧ w' = w) : SpecOk P G f sContains := by
  intro g args r lv h E w vs hI hG hn' hv hcl
  simp only at h
  split at h
  · rename_i e
    subst e
    unfold sContains at h
    split at h
    · rename_i l k
      split at h
      · rename_i hl
        simp only [Option.some.injEq, Prod.mk.injEq] at h
        obtain ⟨rfl, rfl⟩ := h
        obtain ⟨a, b, rfl⟩ := vs_two hn'
        obtain ⟨s, rfl, hs⟩ := rep_str (hv 0 _ _ rfl rfl)
        obtain ⟨t, rfl, ht⟩ := rep_str (hv 1 _ _ rfl rfl)
        refine .inl ⟨hg, (hc s t m w (by have h9 : s.size = s.data.toList.length := by simp
                                         rw [h9, hs]; exact hl) (glob_int hG hm)).mono fun e w' ⟨he, hw⟩ => ?_⟩
        subst hw
        refine ⟨_, he, res_same fun B K => ?_⟩
        rw [hs, ht]
        exact .bool _
      · cases h
    · cases h
  · cases h

/-- a law that answers true -/
theorem law_calls {f : FuncId} {s : Spec} (hs : SpecOk P G f s) (hg : goodFn P f) {args : List AV} (h : s args = some (.bool true, [])) {vs : Array Value} (hI : ∀ b o, E.I b o → b < w.heap.size) (hG : GlobOk G E w) (hn : vs.size = args.length)
    (hv : ∀ (i : Nat) (c : AV) (v : Value), args[i]? = some c → vs[i]? = some v → Rep E w c v) (hcl : ∀ c ∈ args, c.closed1 = true) : Calls P f vs w fun e w' => e = .returned (.bool true) ∧ Below w.heap.size w w' := by
  have hc := hs f args (.bool true) [] (by simp only [if_true]; exact h) E w vs hI hG hn hv hcl
  rcases hc with ⟨_, hc⟩ | ⟨v, w', hrun, _⟩
  · refine hc.mono fun e w' ⟨v, he, I', _, _, hb, hr⟩ => ?_
    rcases hr with ⟨_, hr⟩ | ⟨n, e', hv', sz, xs, hlv, _⟩
    · have := rep_bool (hr (fun _ => none) (fun _ _ _ => False))
      subst this
      exact ⟨he, hb⟩
    · cases hlv
  · rw [run_callFunc hg] at hrun
    cases hrun
end
end Go.Abs
