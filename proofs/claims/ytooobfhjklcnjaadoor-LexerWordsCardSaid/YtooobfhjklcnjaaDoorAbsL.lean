/-
  One operation, calls included.
-/
import Derived.Test.YtooobfhjklcnjaaDoorAbsK
namespace Go.Abs
open Go.RowKit

/-- what a call has left: its result, whoever asks for it -/
def Res (P : Program) (E : Env) (w w' : World) (r : AV) (lv : List (Nat × TypeId)) (v : Value) : Prop :=
  ∃ I' : Nat → Nat → Prop, (∀ b o, E.I b o → I' b o) ∧ (∀ b o, I' b o → E.I b o ∨ (w.heap.size ≤ b ∧ b < w'.heap.size)) ∧ Below w.heap.size w w' ∧
    ((lv = [] ∧ ∀ B K, Rep ⟨I', B, K⟩ w' r v) ∨
     (∃ n e hv sz xs, lv = [(n, e)] ∧ sizeA P e = some sz ∧ w'.ownsRow w.heap.size e sz hv n xs ∧ (∀ g, hv.ownBlock = some g → ∀ o, I' g o → o < n * sz) ∧ ∀ B K L, K L n hv → Rep ⟨I', B, K⟩ w' (adopt L r) v))

def goodFn (P : Program) (f : FuncId) : Prop := ∃ fn, P.funcs[f]? = some fn ∧ fn.body.isSome = true ∧ (fn.name == "runtime.NumGoroutine") = false

/-- a call: of a function that has a body, or of one that the model answers itself -/
def CallsX (P : Program) (f : FuncId) (vs : Array Value) (w : World) (Q : Ending → World → Prop) : Prop :=
  (goodFn P f ∧ Calls P f vs w Q) ∨ ∃ v w', (callFunc f vs).run P w = .ok (.value v) w' ∧ Q (.returned v) w'
theorem CallsX.mono {P : Program} {f : FuncId} {vs : Array Value} {w : World} {Q Q' : Ending → World → Prop} (h : CallsX P f vs w Q) (hq : ∀ e w', Q e w' → Q' e w') : CallsX P f vs w Q' := by
  rcases h with ⟨hg, h⟩ | ⟨v, w', h1, h2⟩
  · exact .inl ⟨hg, h.mono hq⟩
  · exact .inr ⟨v, w', h1, hq _ _ h2⟩

def CalleeOk (P : Program) (G : Glob) (R : Callee) : Prop :=
  ∀ (f : FuncId) (args : List AV) (r : AV) (lv : List (Nat × TypeId)), R f args = some (r, lv) →
    ∀ (E : Env) (w : World) (vs : Array Value), (∀ b o, E.I b o → b < w.heap.size) → GlobOk G E w → vs.size = args.length → (∀ (i : Nat) (c : AV) (v : Value), args[i]? = some c → vs[i]? = some v → Rep E w c v) → (∀ c ∈ args, c.closed1 = true) →
      CallsX P f vs w fun e w' => ∃ v, e = .returned v ∧ Res P E w w' r lv v

/-- calls that look at the caller's variables -/
def ICalleeOk (P : Program) (G : Glob) (C : ICallee) : Prop :=
  ∀ (f : FuncId) (args : List AV) (S : St) (r : AV) (S' : St), C f args S = some (r, S') → goodFn P f ∧
    ∀ (N0 : Nat) (w0 : World) (I0 : Nat → Nat → Prop) (E : Env) (w : World) (vs : Array Value), SR P G N0 w0 I0 S E w → vs.size = args.length → (∀ (i : Nat) (c : AV) (v : Value), args[i]? = some c → vs[i]? = some v → Rep E w c v) →
      Calls P f vs w fun e w' => ∃ v E', e = .returned v ∧ SR P G N0 w0 I0 S' E' w' ∧ Env.Le E E' w w' ∧ Rep E' w' r v
theorem noC_ok {P : Program} {G : Glob} : ICalleeOk P G noC := fun f args S r S' h => by simp [noC] at h

section
variable {P : Program} {E : Env} {w w' : World} {G : Glob} {N0 : Nat} {w0 : World} {I0 : Nat → Nat → Prop} {S : St}

theorem run_v {s : Sem Value} {x : Value} (h : s.run P w = .ok x w') : (do pure (.value (← s)) : Sem Next).run P w = .ok (.value x) w' := by
  simp [h]
theorem run_u {s : Sem Unit} (h : s.run P w = .ok () w') : (do s; pure .skip : Sem Next).run P w = .ok .skip w' := by
  simp [h]

theorem SR.res (hS : SR P G N0 w0 I0 S E w) {r : AV} {lv : List (Nat × TypeId)} {v : Value} (h : Res P E w w' r lv v) :
    ∃ E', SR P G N0 w0 I0 { S with live := S.live ++ lv } E' w' ∧ Env.Le E E' w w' ∧ Rep E' w' (if lv = [] then r else adopt S.live.length r) v := by
  obtain ⟨I', h1, h2, hb, h⟩ := h
  obtain ⟨hS', hL⟩ := hS.ext hb h1 h2
  rcases h with ⟨rfl, hr⟩ | ⟨n, e, hv, sz, xs, rfl, hsz, hown, hgI0, hr⟩
  · exact ⟨_, by rw [List.append_nil]; exact hS', hL, by simpa using hr _ _⟩
  · cases hg : hv.ownBlock with
    | none =>
      have hnil : hv = .slice none 0 0 ∧ n = 0 := by
        rcases hown.2 with h' | ⟨g', cap, cur, hv', _⟩
        · exact h'
        · subst hv'; simp [Value.ownBlock] at hg
      obtain ⟨rfl, rfl⟩ := hnil
      obtain ⟨hS2, hL2⟩ := hS'.mint (e := e) hsz
      refine ⟨_, hS2, hL.trans hL2, ?_⟩
      simp only [List.cons_ne_nil, if_false]
      exact hr _ _ S.live.length (.inr ⟨rfl, rfl, rfl⟩)
    | some g =>
    have hgI := hgI0 g hg
    obtain ⟨hg0, hglt⟩ := hown.lt g hg
    obtain ⟨hS2, hL2⟩ := hS'.tok (w' := w') S.live.length g n sz e hv xs (S.live ++ [(n, e)]) rfl rfl rfl (Nat.le_refl _) (fun _ _ _ => rfl) (fun _ _ => rfl) (Nat.le_trans hS.n0 hg0) hglt
      (fun id hid => by have := (hS.Blt id g hid).2.2.1; omega) (fun t' n'' v'' hk hb' => by have := hS.Kb hk hb'; omega) hgI (fun n v hk => by
        obtain ⟨m, e', hm, _⟩ := hS.Klt _ _ _ hk
        rw [List.getElem?_eq_none (Nat.le_refl _)] at hm; cases hm) (by simp) (fun t' ht' => by
        by_cases hlt : t' < S.live.length
        · rw [List.getElem?_append_left hlt]
        · rw [List.getElem?_eq_none (by simp; omega), List.getElem?_eq_none (by omega)]) hsz (by
          refine ⟨hown.1, ?_⟩
          rcases hown.2 with h' | ⟨g', cap, cur, hv', hbg, rest⟩
          · exact .inl h'
          · exact .inr ⟨g', cap, cur, hv', Nat.le_trans hS.n0 hbg, rest⟩) hg
    refine ⟨_, hS2, hL.trans hL2, ?_⟩
    have := hr E.B (fun t n' v' => E.K t n' v' ∨ (t = S.live.length ∧ n' = n ∧ v' = hv)) S.live.length (.inr ⟨rfl, rfl, rfl⟩)
    simp only [List.cons_ne_nil, if_false]
    refine Rep.le ?_ this
    exact ⟨fun b o hi => ⟨Or.inl hi, rfl⟩, fun _ _ h => h, fun _ _ _ h => h⟩

theorem maxA_run {tys : Array TypeId} {ty : TypeId} {x y r : AV} {vx vy : Value} (h : maxA x y = some r) (hx : Rep E w x vx) (hy : Rep E w y vy) : ∃ v, (Builtin.max_ tys ty #[vx, vy]).run P w = .ok v w ∧ Rep E w r v := by
  unfold maxA at h
  split at h
  · rename_i k a k' b
    cases hx; cases hy
    split at h
    · rename_i hk
      subst hk
      simp only [Option.some.injEq] at h
      subst h
      exact ⟨.int k (max a b), by simp only [Builtin.max_, Builtin.max2, List.foldlM_cons, List.foldlM_nil, bind_pure, Sem.run_pure]; congr 2; simp only [gt_iff_lt]; split <;> omega, .int _ _⟩
    · cases h
  · cases h
theorem minA_run {tys : Array TypeId} {ty : TypeId} {x y r : AV} {vx vy : Value} (h : minA x y = some r) (hx : Rep E w x vx) (hy : Rep E w y vy) : ∃ v, (Builtin.min_ tys ty #[vx, vy]).run P w = .ok v w ∧ Rep E w r v := by
  unfold minA at h
  split at h
  · rename_i k a k' b
    cases hx; cases hy
    split at h
    · rename_i hk
      subst hk
      simp only [Option.some.injEq] at h
      subst h
      exact ⟨.int k (min a b), by simp only [Builtin.min_, Builtin.min2, List.foldlM_cons, List.foldlM_nil, bind_pure, Sem.run_pure]; congr 2; split <;> omega, .int _ _⟩
    · cases h
  · cases h

theorem callA_wp {R : Callee} (hR : CalleeOk P G R) (hS : SR P G N0 w0 I0 S E w) {f : FuncId} {args : List AV} {vs : Array Value} {r : AV} {S' : St} (hn : vs.size = args.length)
    (hv : ∀ (i : Nat) (c : AV) (v : Value), args[i]? = some c → vs[i]? = some v → Rep E w c v) (h : callA R S f args = some (r, S')) :
    CallsX P f vs w fun e w' => ∃ v E', e = .returned v ∧ SR P G N0 w0 I0 S' E' w' ∧ Env.Le E E' w w' ∧ Rep E' w' r v := by
  unfold callA at h
  split at h
  · rename_i hc
    rw [List.all_eq_true] at hc
    have key : ∀ r0 lv, R f (args.map AV.strip1) = some (r0, lv) → CallsX P f vs w fun e w' => ∃ v E', e = .returned v ∧ SR P G N0 w0 I0 { S with live := S.live ++ lv } E' w' ∧ Env.Le E E' w w' ∧ Rep E' w' (if lv = [] then r0 else adopt S.live.length r0) v := by
      intro r0 lv hr
      have hcall := hR f _ r0 lv hr
      refine (hcall E w vs hS.Ilt hS.glob (by simpa using hn) (fun i c v hi hv' => ?_) hc).mono fun e w' ⟨v, he, hres⟩ => ?_
      · rw [List.getElem?_map] at hi
        cases ha : args[i]? with
        | none => simp [ha] at hi
        | some c' =>
          simp [ha] at hi; subst hi
          exact (hv i c' v ha hv').strip1
      · obtain ⟨E', h1, h2, h3⟩ := hS.res hres
        exact ⟨v, E', he, h1, h2, h3⟩
    split at h
    · rename_i r0 hr
      simp at h
      obtain ⟨rfl, rfl⟩ := h
      have := key r0 [] hr
      simpa only [List.append_nil, if_true] using this
    · rename_i r0 p lv hr
      simp at h
      obtain ⟨rfl, rfl⟩ := h
      have := key r0 (p :: lv) hr
      simpa only [List.cons_ne_nil, if_false] using this
    · cases h
  · cases h

theorem callG_wp {R : Callee} {C : ICallee} (hR : CalleeOk P G R) (hC : ICalleeOk P G C) (hS : SR P G N0 w0 I0 S E w) {f : FuncId} {args : List AV} {vs : Array Value} {r : AV} {S' : St} (hn : vs.size = args.length)
    (hv : ∀ (i : Nat) (c : AV) (v : Value), args[i]? = some c → vs[i]? = some v → Rep E w c v) (h : callG R C S f args = some (r, S')) :
    CallsX P f vs w fun e w' => ∃ v E', e = .returned v ∧ SR P G N0 w0 I0 S' E' w' ∧ Env.Le E E' w w' ∧ Rep E' w' r v := by
  unfold callG at h
  split at h
  · exact callA_wp hR hS hn hv h
  · obtain ⟨h1, h2⟩ := hC f args S r S' h
    exact .inl ⟨h1, h2 N0 w0 I0 E w vs hS hn hv⟩

theorem run_callFunc {f : FuncId} {vs : Array Value} (h : goodFn P f) : (callFunc f vs).run P w = .ok (.enter f vs) w := by
  obtain ⟨fn, hf, hb, hn⟩ := h
  obtain ⟨c, hc⟩ := Option.isSome_iff_exists.1 hb
  have hn' : ¬ fn.name = "runtime.NumGoroutine" := by simpa using hn
  simp [callFunc, hf, hc, hn']

theorem rep_bool {b : Bool} {v : Value} (h : Rep E w (.bool b) v) : v = .bool b := by cases h; rfl
theorem rep_tup {cs : List AV} {v : Value} (h : Rep E w (.tup cs) v) : ∃ vs : Array Value, v = .tuple vs ∧ vs.size = cs.length ∧ ∀ (i : Nat) (c : AV) (v : Value), cs[i]? = some c → vs[i]? = some v → Rep E w c v := by
  cases h with | tup _ vs hn hc => exact ⟨vs, rfl, hn, hc⟩
theorem rep_ptr {b o : Nat} {v : Value} (h : Rep E w (.ptr b o) v) : ∃ blk, v = .pointer (some ⟨blk, o, none⟩) ∧ E.B b = some blk := by
  cases h with | ptr _ _ blk hB => exact ⟨blk, rfl, hB⟩
theorem rep_elt {sz i j : Nat} {es : List AV} {v : Value} (h : Rep E w (.elt sz es i j) v) : ∃ a, v = .pointer (some a) := by
  cases h; exact ⟨_, rfl⟩
theorem rep_fn {f : FuncId} {cap : List AV} {v : Value} (h : Rep E w (.fn f cap) v) : ∃ vs : Array Value, v = .func (.func f) #[] vs ∧ vs.size = cap.length ∧ ∀ (i : Nat) (c : AV) (v : Value), cap[i]? = some c → vs[i]? = some v → Rep E w c v := by
  cases h with | fn _ _ vs hn hc => exact ⟨vs, rfl, hn, hc⟩

theorem storeA_run (hS : SR P G N0 w0 I0 S E w) {t : TypeId} {x y : AV} {S' : St} {vx vy : Value} (h : storeA P S t x y = some S') (hx : Rep E w x vx) (hy : Rep E w y vy) :
    ∃ w', (Instr.storeAt t vx vy).run P w = .ok () w' ∧ SR P G N0 w0 I0 S' E w' ∧ Env.Le E E w w' := by
  unfold storeA at h
  split at h
  · rename_i b o
    split at h
    · rename_i cs hb
      split at h
      · rename_i hh
        obtain ⟨hp, hsz, hle⟩ := hh
        simp at h; subst h
        obtain ⟨blk, rfl, hB⟩ := rep_ptr hx
        obtain ⟨blk', arr, ty, hB', hhp, hn, hc⟩ := hS.box b cs hb
        obtain rfl : blk = blk' := by rw [hB] at hB'; injection hB'
        have hcr := hy.cr hp
        have hrow := run_storeCells_at P blk o ty vy.cells.toList 0 arr w hhp (by rw [Array.length_toList, hcr.1]; omega) (fun u hu => by
          obtain ⟨i, hi⟩ := List.mem_iff_getElem?.1 hu
          rw [Array.getElem?_toList] at hi
          have hlt : i < y.cells.length := by
            have := (Array.getElem?_eq_some_iff.1 hi).1
            rw [hcr.1] at this; exact this
          exact (hcr.2 i _ u (List.getElem?_eq_getElem hlt) hi).2)
        have hcr2 : CR E w (spliceA cs o y.cells) (spliceV arr o vy.cells) := CR.splice ⟨hn, hc⟩ hcr hle
        obtain ⟨h1, h2⟩ := hS.box_set hB hhp hcr2.1 hcr2.2
        refine ⟨_, ?_, h1, h2⟩
        have hsz' : vy.cells.size = y.cells.length := hcr.1
        have e : spliceV arr o vy.cells = (arr.toList.take (o + 0) ++ vy.cells.toList ++ arr.toList.drop (o + 0 + vy.cells.toList.length)).toArray := by
          simp [spliceV]
        rw [e]
        simp only [Instr.storeAt, Instr.sureAddr, Sem.run_bind, Sem.run_pure, Result.andThen_ok, storeVar, run_sizeOf' hsz, hsz', ne_eq, not_true, if_false, hrow]
      · cases h
    · cases h
  · cases h

theorem map_rep {T : List AV} {a : Act} (hS : SR P G N0 w0 I0 S E w) (hT : TR E w T a.tmps) (xs : Array Operand) : ∀ (i : Nat) (c : AV) (v : Value), (xs.toList.map (evA G T))[i]? = some c → (xs.map a.eval)[i]? = some v → Rep E w c v := by
  intro i c v hi hv
  rw [List.getElem?_map, Array.getElem?_toList] at hi
  rw [Array.getElem?_map] at hv
  cases hx : xs[i]? with
  | none => simp [hx] at hi
  | some x =>
    simp [hx] at hi hv
    subst hi; subst hv
    exact evA_rep hS.glob hT x

theorem parts_rep {T : List AV} {a : Act} (hS : SR P G N0 w0 I0 S E w) (hT : TR E w T a.tmps) (ps : Array (Nat × Operand)) : PR E w (ps.toList.map fun p => (p.1, evA G T p.2)) (ps.map fun p => (p.1, a.eval p.2)).toList := by
  refine ⟨by simp, fun i p q hp hq => ?_⟩
  rw [List.getElem?_map, Array.getElem?_toList] at hp
  rw [Array.getElem?_toList, Array.getElem?_map] at hq
  cases hx : ps[i]? with
  | none => simp [hx] at hp
  | some x =>
    simp [hx] at hp hq
    subst hp; subst hq
    exact ⟨rfl, evA_rep hS.glob hT x.2⟩

theorem newBox_some {bid : Nat} {cs : List AV} {r : AV} {S' : St} (h : newBox S bid cs = some (r, S')) : S.boxes[bid]? = some none ∧ r = .ptr bid 0 ∧ S' = { S with boxes := S.boxes.set bid (some cs) } := by
  unfold newBox at h
  split at h
  · rename_i hb
    simp at h
    exact ⟨hb, h.1.symm, h.2.symm⟩
  · cases h

set_option maxHeartbeats 2000000 in
/-- one operation -/
theorem op_wp {R : Callee} {C : ICallee} (hR : CalleeOk P G R) (hC : ICalleeOk P G C) (hS : SR P G N0 w0 I0 S E w) {o : Oper} {T : List AV} {a : Act} (hT : TR E w T a.tmps) {r : AV} {S' : St} {bid : Nat} (h : opA P R C (evA G T) bid S o.op = some (r, S'))
    {K : Act → World → Prop} {Q : Exit → Act → World → Prop} (hK : ∀ E' w' v, SR P G N0 w0 I0 S' E' w' → Env.Le E E' w w' → Rep E' w' r v → K (a.put o.dst v) w') : o.wp P a w K Q := by
  obtain ⟨dst, op, type, pos, after, guard⟩ := o
  have pure_ : ∀ {s : Sem Value} {v : Value}, execOp a.eval ⟨dst, op, type, pos, after, guard⟩ = (do pure (.value (← s)) : Sem Next) → s.run P w = .ok v w → Rep E w r v → S' = S → Oper.wp P ⟨dst, op, type, pos, after, guard⟩ a w K Q := by
    intro s v he hs hr hSS
    subst hSS
    exact wp_value (by rw [he]; exact run_v hs) (hK E w v hS (Env.Le.refl _ _) hr)
  have full_ : ∀ {s : Sem Value}, execOp a.eval ⟨dst, op, type, pos, after, guard⟩ = (do pure (.value (← s)) : Sem Next) → (∃ v w' E', s.run P w = .ok v w' ∧ SR P G N0 w0 I0 S' E' w' ∧ Env.Le E E' w w' ∧ Rep E' w' r v) → Oper.wp P ⟨dst, op, type, pos, after, guard⟩ a w K Q := by
    intro s he ⟨v, w', E', hs, h1, h2, h3⟩
    exact wp_value (by rw [he]; exact run_v hs) (hK E' w' v h1 h2 h3)
  have opt : ∀ {x : Option AV}, x.map (·, S) = some (r, S') → x = some r ∧ S' = S := by
    intro x hx
    cases x with
    | none => simp at hx
    | some y => simp at hx; exact ⟨by rw [hx.1], hx.2.symm⟩
  cases op with
  | move x =>
    simp only [opA, Option.some.injEq, Prod.mk.injEq] at h
    obtain ⟨rfl, rfl⟩ := h
    exact wp_value (v := a.eval x) rfl (hK E w _ hS (Env.Le.refl _ _) (evA_rep hS.glob hT x))
  | assign x =>
    simp only [opA, Option.some.injEq, Prod.mk.injEq] at h
    obtain ⟨rfl, rfl⟩ := h
    exact wp_value (v := a.eval x) rfl (hK E w _ hS (Env.Le.refl _ _) (evA_rep hS.glob hT x))
  | pick c x y =>
    simp only [opA] at h
    have hc := evA_rep hS.glob hT c
    split at h
    · rename_i t hct
      simp at h
      obtain ⟨rfl, rfl⟩ := h
      rw [hct] at hc
      have hcv : a.eval c = .bool t := rep_bool hc
      refine wp_value (v := if t then a.eval x else a.eval y) (by simp [execOp, hcv, asBool]) (hK E w _ hS (Env.Le.refl _ _) ?_)
      cases t
      · exact evA_rep hS.glob hT y
      · exact evA_rep hS.glob hT x
    · cases h
  | alloc t =>
    simp only [opA] at h
    split at h
    · rename_i z hz
      split at h
      · rename_i h1
        obtain ⟨hb, rfl, rfl⟩ := newBox_some h
        rw [List.all_eq_true] at h1
        obtain ⟨E', h2, h3, h4⟩ := hS.box_new bid hb (z.cells.toList.map absV0) z.cells t (by simp) (fun i c v hi hv => ⟨absV0_map hi (by simpa using hv), h1 v (by simpa using Array.mem_of_getElem? hv)⟩)
        refine wp_value (v := .pointer (some ⟨w.heap.size, 0, none⟩)) (w' := w.alloc (.cells z.cells t)) ?_ (hK E' _ _ h2 h3 (.ptr _ _ _ h4))
        simp [execOp, Instr.alloc, run_zero hz, newVar, newRow]
      · cases h
    · cases h
  | box t x =>
    simp only [opA] at h
    split at h
    · rename_i hp
      obtain ⟨hb, rfl, rfl⟩ := newBox_some h
      have hcr := (evA_rep hS.glob hT x).cr hp
      obtain ⟨E', h2, h3, h4⟩ := hS.box_new bid hb _ _ t hcr.1 hcr.2
      refine wp_value (v := .pointer (some ⟨w.heap.size, 0, none⟩)) (w' := w.alloc (.cells (a.eval x).cells t)) ?_ (hK E' _ _ h2 h3 (.ptr _ _ _ h4))
      simp [execOp, Instr.box, newVar, newRow]
    · cases h
  | build t parts =>
    simp only [opA] at h
    obtain ⟨hA, hE⟩ := opt h
    subst hE
    obtain ⟨v, hv, hr⟩ := buildA_run hA (parts_rep hS hT parts)
    exact pure_ (s := Instr.build t (parts.map fun p => (p.1, a.eval p.2))) rfl hv hr rfl
  | buildSlice t n parts =>
    simp only [opA] at h
    obtain ⟨hA, hE⟩ := opt h
    subst hE
    exact full_ (s := Instr.buildSlice t n (parts.map fun p => (p.1, a.eval p.2))) rfl (buildSliceA_run hS hA (parts_rep hS hT parts))
  | load t x =>
    simp only [opA] at h
    obtain ⟨hA, hE⟩ := opt h
    subst hE
    obtain ⟨v, hv, hr⟩ := loadA_run hS hA (evA_rep hS.glob hT x)
    exact pure_ rfl hv hr rfl
  | store t x y =>
    simp only [opA] at h
    cases hs : storeA P S t (evA G T x) (evA G T y) with
    | none => simp [hs] at h
    | some S1 =>
      simp [hs] at h
      obtain ⟨rfl, rfl⟩ := h
      obtain ⟨w', hw, h1, h2⟩ := storeA_run hS hs (evA_rep hS.glob hT x) (evA_rep hS.glob hT y)
      exact wp_skip' (w' := w') (run_u hw) (hK E w' undef h1 h2 rep_undef)
  | nilCheck x =>
    simp only [opA] at h
    have hx := evA_rep hS.glob hT x
    split at h
    · rename_i b o he
      simp at h
      obtain ⟨rfl, rfl⟩ := h
      rw [he] at hx
      obtain ⟨blk, hxv, _⟩ := rep_ptr hx
      exact wp_value (v := a.eval x) (by simp [execOp, hxv]) (hK E w _ hS (Env.Le.refl _ _) hx)
    · rename_i sz es i j he
      simp at h
      obtain ⟨rfl, rfl⟩ := h
      rw [he] at hx
      obtain ⟨p, hxv⟩ := rep_elt hx
      exact wp_value (v := a.eval x) (by simp [execOp, hxv]) (hK E w _ hS (Env.Le.refl _ _) hx)
    · rename_i f cap he
      simp at h
      obtain ⟨rfl, rfl⟩ := h
      rw [he] at hx
      obtain ⟨vs, hxv, _⟩ := rep_fn hx
      exact wp_value (v := a.eval x) (by simp [execOp, hxv]) (hK E w _ hS (Env.Le.refl _ _) hx)
    · cases h
  | makeFunc fn first captured =>
    simp only [opA] at h
    split at h
    · rename_i f hf
      simp at h
      obtain ⟨rfl, rfl⟩ := h
      obtain rfl : first = #[] := by simpa using hf
      exact wp_value (v := .func (.func f) #[] (captured.map a.eval)) (by simp [execOp, Instr.makeFunc]) (hK E w _ hS (Env.Le.refl _ _) (.fn f _ _ (by simp) (map_rep hS hT captured)))
    · cases h
  | binOp op t x y yt =>
    simp only [opA] at h
    obtain ⟨hA, hE⟩ := opt h
    subst hE
    obtain ⟨v, hv, hr⟩ := binA_run (ox := x) (oy := y) (fun h => h) hA (evA_rep hS.glob hT x) (evA_rep hS.glob hT y)
    exact pure_ rfl hv hr rfl
  | unOp op t x =>
    simp only [opA] at h
    obtain ⟨hA, hE⟩ := opt h
    subst hE
    obtain ⟨v, hv, hr⟩ := unA_run (P := P) hA (evA_rep hS.glob hT x)
    exact pure_ rfl hv hr rfl
  | convert src dst' x =>
    simp only [opA] at h
    obtain ⟨hA, hE⟩ := opt h
    subst hE
    exact full_ rfl (convertA_run hS hA (evA_rep hS.glob hT x))
  | slice t x lo hi mx =>
    simp only [opA] at h
    obtain ⟨hA, hE⟩ := opt h
    subst hE
    have key : ∀ (z : Option Operand), (∀ b, z.map (evA G T) = some b → ∃ v, z.map a.eval = some v ∧ Rep E w b v) ∧ (z.map (evA G T) = none → z.map a.eval = none) := fun z => by
      cases z with
      | none => simp
      | some z => exact ⟨fun b hb => by simp at hb; subst hb; exact ⟨_, rfl, evA_rep hS.glob hT z⟩, fun e => by simp at e⟩
    obtain ⟨v, hv, hr⟩ := sliceA_run (P := P) (key lo).1 (key lo).2 (key hi).1 (key hi).2 (key mx).1 (key mx).2 hA (evA_rep hS.glob hT x)
    exact pure_ rfl hv hr rfl
  | fieldAddr s x f =>
    simp only [opA] at h
    obtain ⟨hA, hE⟩ := opt h
    subst hE
    obtain ⟨v, hv, hr⟩ := fieldAddrA_run hA (evA_rep hS.glob hT x)
    exact pure_ rfl hv hr rfl
  | indexAddr t x i =>
    simp only [opA] at h
    obtain ⟨hA, hE⟩ := opt h
    subst hE
    obtain ⟨v, hv, hr⟩ := indexAddrA_run hA (evA_rep hS.glob hT x) (evA_rep hS.glob hT i)
    exact pure_ rfl hv hr rfl
  | index t x i =>
    simp only [opA] at h
    obtain ⟨hA, hE⟩ := opt h
    subst hE
    obtain ⟨v, hv, hr⟩ := indexA_run hA (evA_rep hS.glob hT x) (evA_rep hS.glob hT i)
    exact pure_ rfl hv hr rfl
  | extract t i =>
    simp only [opA] at h
    have hx := evA_rep hS.glob hT t
    split at h
    · rename_i vs he
      obtain ⟨hA, hE⟩ := opt h
      subst hE
      rw [he] at hx
      obtain ⟨us, hxv, hn, hc⟩ := rep_tup hx
      have hlt : i < us.size := by
        have := (List.getElem?_eq_some_iff.1 hA).1
        omega
      exact pure_ (s := Instr.extract (a.eval t) i) (v := us[i]) rfl (by simp [Instr.extract, hxv, hlt]) (hc i r _ hA (Array.getElem?_eq_getElem hlt)) rfl
    · cases h
  | makeSlice t l c =>
    simp only [opA] at h
    exact full_ rfl (makeSliceA_run hS h (evA_rep hS.glob hT l) (evA_rep hS.glob hT c))
  | call c =>
    obtain ⟨callee, args, argTypes⟩ := c
    simp only [opA] at h
    split at h
    · split at h
      · rename_i t x ht hx
        obtain ⟨hA, hE⟩ := opt h
        subst hE
        obtain rfl : argTypes = #[t] := by rw [← Array.toArray_toList (xs := argTypes), ht]
        obtain rfl : args = #[x] := by rw [← Array.toArray_toList (xs := args), hx]
        obtain ⟨v, hv, hr⟩ := lenA_run (ty := type) hA (evA_rep hS.glob hT x)
        exact wp_value (v := v) (by simp [execOp, resolve, invoke, builtin, hv]) (hK E w v hS (Env.Le.refl _ _) hr)
      · cases h
    · split at h
      · rename_i x y hx
        obtain ⟨hA, hE⟩ := opt h
        subst hE
        obtain rfl : args = #[x, y] := by rw [← Array.toArray_toList (xs := args), hx]
        obtain ⟨v, hv, hr⟩ := maxA_run (P := P) (tys := argTypes) (ty := type) hA (evA_rep hS.glob hT x) (evA_rep hS.glob hT y)
        exact wp_value (v := v) (by simp [execOp, resolve, invoke, builtin, hv]) (hK E w v hS (Env.Le.refl _ _) hr)
      · cases h
    · split at h
      · rename_i x y hx
        obtain ⟨hA, hE⟩ := opt h
        subst hE
        obtain rfl : args = #[x, y] := by rw [← Array.toArray_toList (xs := args), hx]
        obtain ⟨v, hv, hr⟩ := minA_run (P := P) (tys := argTypes) (ty := type) hA (evA_rep hS.glob hT x) (evA_rep hS.glob hT y)
        exact wp_value (v := v) (by simp [execOp, resolve, invoke, builtin, hv]) (hK E w v hS (Env.Le.refl _ _) hr)
      · cases h
    · split at h
      · rename_i t tx x y ht hx
        obtain rfl : argTypes = #[t, tx] := by rw [← Array.toArray_toList (xs := argTypes), ht]
        obtain rfl : args = #[x, y] := by rw [← Array.toArray_toList (xs := args), hx]
        obtain ⟨v, w', E', hv, h1, h2, h3⟩ := appendA_run (ty := type) hS h (evA_rep hS.glob hT x) (evA_rep hS.glob hT y)
        exact wp_value (v := v) (by simp [execOp, resolve, invoke, builtin, hv]) (hK E' w' v h1 h2 h3)
      · cases h
    · rename_i f
      have hf := evA_rep hS.glob hT f
      split at h
      · rename_i g cap he
        rw [he] at hf
        obtain ⟨caps, hfv, hcn, hcr⟩ := rep_fn hf
        have hcall := callG_wp hR hC hS (vs := args.map a.eval ++ caps) (by simp [hcn]) (fun i c v hi hv => by
          by_cases hlt : i < args.size
          · rw [List.getElem?_append_left (by simpa using hlt)] at hi
            rw [Array.getElem?_append_left (by simpa using hlt)] at hv
            exact map_rep hS hT args i c v hi hv
          · rw [List.getElem?_append_right (by simp; omega)] at hi
            rw [Array.getElem?_append_right (by simp; omega)] at hv
            exact hcr _ c v hi (by simpa using hv)) h
        unfold Oper.wp
        rcases hcall with ⟨hg, hcall⟩ | ⟨v, w', hrun, v', E', he', h1, h2, h3⟩
        · have hrun : (execOp a.eval ⟨dst, .call ⟨.value f, args, argTypes⟩, type, pos, after, guard⟩).run P w = .ok (.enter g (args.map a.eval ++ caps)) w := by
            simp [execOp, resolve, hfv, Deferred.ofValue, invoke, run_callFunc hg]
          rw [hrun]
          refine hcall.mono fun e w' ⟨v, E', he', h1, h2, h3⟩ => ?_
          subst he'
          exact hK E' w' v h1 h2 h3
        · injection he' with he'
          subst he'
          have hrun : (execOp a.eval ⟨dst, .call ⟨.value f, args, argTypes⟩, type, pos, after, guard⟩).run P w = .ok (.value v) w' := by
            simp [execOp, resolve, hfv, Deferred.ofValue, invoke, hrun]
          rw [hrun]
          exact hK E' w' v h1 h2 h3
      · cases h
    · cases h
  | _ => simp [opA] at h
end
end Go.Abs
