/-
  Functions: a call returns what the abstract call says.
-/
import Derived.Test.YtooobfhjklcnjaaDoorAbsP
namespace Go.Abs
open Go.RowKit

section
variable {P : Program} {E : Env} {w : World} {G : Glob} {N0 : Nat} {w0 : World} {I0 : Nat → Nat → Prop} {S : St}

def resSem (tm : Array Value) : ResultVar → Sem Value
  | .tmp t => pure (tm.getD t undef)
  | .cell a t => do loadVar t (← asAddr (tm.getD a undef))

theorem resultA_run (hS : SR P G N0 w0 I0 S E w) {T : List AV} {tm : Array Value} (hT : TR E w T tm) {r : ResultVar} {v : AV} (h : resultA P T S r = some v) :
    ∃ u, (resSem tm r).run P w = .ok u w ∧ Rep E w v u := by
  unfold resultA at h
  cases r with
  | tmp t =>
    simp only [Option.some.injEq] at h
    subst h
    exact ⟨_, rfl, hT.get t⟩
  | cell a t =>
    simp only at h
    split at h
    · rename_i b o hb
      have hr := hT.get a
      rw [hb] at hr
      obtain ⟨blk, he, _⟩ := rep_ptr hr
      obtain ⟨u, hu, hv⟩ := loadA_run hS h hr
      refine ⟨u, ?_, hv⟩
      rw [he] at hu
      simp only [resSem, he]
      simpa [Instr.loadAt, Instr.sureAddr, asAddr] using hu
    · cases h

theorem resultsA_run (hS : SR P G N0 w0 I0 S E w) {T : List AV} {tm : Array Value} (hT : TR E w T tm) : ∀ (rs : List ResultVar) (vs : List AV), resultsA P T S rs = some vs →
    ∃ us : List Value, (rs.mapM fun r => resSem tm r).run P w = .ok us w ∧ us.length = vs.length ∧ ∀ (i : Nat) (c : AV) (u : Value), vs[i]? = some c → us[i]? = some u → Rep E w c u
  | [], vs, h => by
    simp only [resultsA, Option.some.injEq] at h
    subst h
    exact ⟨[], rfl, rfl, fun i c u h => by simp at h⟩
  | r :: rs, vs, h => by
    simp only [resultsA] at h
    split at h
    · rename_i v hv
      split at h
      · rename_i vs' hvs
        simp only [Option.some.injEq] at h
        subst h
        obtain ⟨u, hu, hr⟩ := resultA_run hS hT hv
        obtain ⟨us, hus, hl, hrs⟩ := resultsA_run hS hT rs vs' hvs
        refine ⟨u :: us, ?_, by simp [hl], fun i c x hc hx => ?_⟩
        · rw [List.mapM_cons]
          simp only [Sem.run_bind]
          rw [hu]
          simp only [Result.andThen_ok, hus, Sem.run_pure]
        · match i, hc, hx with
          | 0, hc, hx => simp at hc hx; subst hc; subst hx; exact hr
          | i + 1, hc, hx => exact hrs i c x (by simpa using hc) (by simpa using hx)
      · cases h
    · cases h

theorem results_run (hS : SR P G N0 w0 I0 S E w) {T : List AV} {tm : Array Value} (hT : TR E w T tm) {fn : Func} {vs : List AV} (h : resultsA P T S fn.results.toList = some vs) :
    ∃ v, (results fn tm).run P w = .ok v w ∧ Rep E w (packA vs) v := by
  obtain ⟨us, hu, hl, hr⟩ := resultsA_run hS hT _ _ h
  have hm : (fn.results.mapM fun r => resSem tm r).run P w = .ok us.toArray w := by
    rw [Array.mapM_eq_mapM_toList, Sem.run_map]
    rw [hu]
    rfl
  refine ⟨if h : us.toArray.size = 1 then us.toArray[0] else .tuple us.toArray, ?_, ?_⟩
  · have e : results fn tm = (do
        let vs ← fn.results.mapM fun r => resSem tm r
        pure (if h : vs.size = 1 then vs[0] else .tuple vs)) := by
      unfold results
      congr 1
    rw [e]
    simp only [Sem.run_bind]
    rw [hm]
    rfl
  · match vs, us, hl, hr with
    | [c], [u], _, hr => exact hr 0 c u rfl rfl
    | [], [], _, hr => exact .tup _ _ rfl fun i c v h => by simp at h
    | c1 :: c2 :: cs, u1 :: u2 :: us, hl, hr =>
      have : ¬ (u1 :: u2 :: us).toArray.size = 1 := by simp
      rw [dif_neg this]
      exact .tup _ _ (by simpa using hl) fun i c v hc hv => hr i c v hc (by simpa using hv)

theorem rep_tok {sz t : Nat} {es : List AV} {v : Value} (h : Rep E w (.sl sz es (.tok t)) v) : E.K t es.length v := by
  cases h with | sl _ _ _ A cap u hcap hmax hA hsz hcl ho hr h1 => exact ho

theorem rep_retok {sz t : Nat} {es : List AV} {v : Value} (h : Rep E w (.sl sz es (.tok t)) v) (B : Nat → Option Nat) (K : Nat → Nat → Value → Prop) (o : Own) (ho : ∀ A cap, v = .slice A es.length cap → OwnOk K o es.length cap v) :
    Rep ⟨E.I, B, K⟩ w (.sl sz es o) v := by
  cases h with | sl _ _ _ A cap u hcap hmax hA hsz hcl _ hr h1 =>
  exact .sl sz es o A cap u hcap hmax hA hsz hcl (ho A cap rfl) (fun i e j c hi hj => (hr i e j c hi hj).rebase (closed_closed1 (closed1_cells (hcl e (List.mem_of_getElem? hi)) hj)) B K) h1

theorem tail_rep {vs : List AV} {us : Array Value} {c : AV} {B : Nat → Option Nat} {K : Nat → Nat → Value → Prop} (hn : us.size = vs.length + 1) (hc : ∀ (i : Nat) (x : AV) (v : Value), (c :: vs)[i]? = some x → us[i]? = some v → Rep E w x v)
    (hall : (vs.map AV.strip1).all AV.closed1 = true) {c' : AV} (h0 : ∀ v, us[0]? = some v → Rep ⟨E.I, B, K⟩ w c' v) : Rep ⟨E.I, B, K⟩ w (.tup (c' :: vs.map AV.strip1)) (.tuple us) := by
  rw [List.all_eq_true] at hall
  refine .tup _ _ (by simpa using hn) fun i x v hi hv => ?_
  match i, hi with
  | 0, hi =>
    simp at hi; subst hi
    exact h0 v hv
  | i + 1, hi =>
    simp only [List.getElem?_cons_succ, List.getElem?_map] at hi
    cases hx : vs[i]? with
    | none => simp [hx] at hi
    | some y =>
      simp [hx] at hi; subst hi
      exact (hc (i + 1) y v (by simpa using hx) hv).strip1.rebase (hall _ (List.mem_map.2 ⟨y, List.mem_of_getElem? hx, rfl⟩)) B K

/-- a result, whoever asks for it -/
theorem normA_res {E0 : Env} {w1 : World} (hS : SR P G w1.heap.size w1 E0.I S E w) (hI : ∀ b o, E0.I b o → E.I b o) {r0 r : AV} {lv : List (Nat × TypeId)} {v : Value} (h : normA S.live r0 = some (r, lv))
    (hr : Rep E w r0 v) : Res P E0 w1 w r lv v := by
  have hI2 : ∀ b o, E.I b o → E0.I b o ∨ (w1.heap.size ≤ b ∧ b < w.heap.size) := fun b o hi => by
    rcases Nat.lt_or_ge b w1.heap.size with hlt | hge
    · exact .inl (hS.Iold b o hi hlt)
    · exact .inr ⟨hge, hS.Ilt b o hi⟩
  refine ⟨E.I, hI, hI2, hS.below, ?_⟩
  have owner : ∀ t n e es sz v, S.live[t]? = some (n, e) → n = es.length → Rep E w (.sl sz es (.tok t)) v → ∃ sz' xs, sizeA P e = some sz' ∧ w.ownsRow w1.heap.size e sz' v n xs ∧ ∀ g, v.ownBlock = some g → ∀ o, E.I g o → o < n * sz' := by
    intro t n e es sz v ht hn hr
    have hk := rep_tok hr
    obtain ⟨v', xs, sz', hsz, hown, hu, hK, hg⟩ := hS.live t n e ht
    subst hn
    obtain rfl := hu v hk
    exact ⟨sz', xs, hsz, hown, fun g hg1 => (hg g hg1).1⟩
  unfold normA at h
  split at h
  · rename_i sz es t
    split at h
    · rename_i n e ht
      split at h
      · rename_i hn
        simp only [Option.some.injEq, Prod.mk.injEq] at h
        obtain ⟨rfl, rfl⟩ := h
        obtain ⟨sz', xs, h1, h2, h3⟩ := owner t n e es sz v ht hn hr
        refine .inr ⟨n, e, v, sz', xs, rfl, h1, h2, h3, fun B K L hk => ?_⟩
        exact rep_retok hr B K (.tok L) fun A cap _ => by subst hn; exact hk
      · simp only [Option.some.injEq, Prod.mk.injEq] at h
        obtain ⟨rfl, rfl⟩ := h
        exact .inl ⟨rfl, fun B K => rep_retok hr B K .no fun _ _ _ => trivial⟩
    · cases h
  · rename_i sz es t vs
    obtain ⟨us, rfl, hn, hc⟩ := rep_tup hr
    have hu0 : 0 < us.size := by rw [hn]; simp
    have h0 := hc 0 _ _ rfl (Array.getElem?_eq_getElem hu0)
    split at h
    · rename_i hall
      split at h
      · rename_i n e ht
        split at h
        · rename_i hne
          simp only [Option.some.injEq, Prod.mk.injEq] at h
          obtain ⟨rfl, rfl⟩ := h
          obtain ⟨sz', xs, h1, h2, h3⟩ := owner t n e es sz _ ht hne h0
          refine .inr ⟨n, e, us[0], sz', xs, rfl, h1, h2, h3, fun B K L hk => ?_⟩
          refine tail_rep (by simpa using hn) hc hall fun v hv => ?_
          rw [Array.getElem?_eq_getElem hu0] at hv
          injection hv with hv; subst hv
          exact rep_retok h0 B K (.tok L) fun A cap _ => by subst hne; exact hk
        · simp only [Option.some.injEq, Prod.mk.injEq] at h
          obtain ⟨rfl, rfl⟩ := h
          refine .inl ⟨rfl, fun B K => tail_rep (by simpa using hn) hc hall fun v hv => ?_⟩
          rw [Array.getElem?_eq_getElem hu0] at hv
          injection hv with hv; subst hv
          exact rep_retok h0 B K .no fun _ _ _ => trivial
      · cases h
    · cases h
  · rename_i vs _
    split at h
    · rename_i hall
      simp only [Option.some.injEq, Prod.mk.injEq] at h
      obtain ⟨rfl, rfl⟩ := h
      rw [List.all_eq_true] at hall
      obtain ⟨us, rfl, hn, hc⟩ := rep_tup hr
      refine .inl ⟨rfl, fun B K => .tup _ _ (by simpa using hn) fun i x v hi hv => ?_⟩
      rw [List.getElem?_map] at hi
      cases hx : vs[i]? with
      | none => simp [hx] at hi
      | some y =>
        simp [hx] at hi; subst hi
        exact (hc i y v hx hv).strip1.rebase (hall _ (List.mem_map.2 ⟨y, List.mem_of_getElem? hx, rfl⟩)) B K
    · cases h
  · split at h
    · rename_i hcl
      simp only [Option.some.injEq, Prod.mk.injEq] at h
      obtain ⟨rfl, rfl⟩ := h
      exact .inl ⟨rfl, fun B K => hr.strip1.rebase hcl B K⟩
    · cases h

/-- what leans on variables below n alone -/
inductive PB (n : Nat) : AV → Prop
  | lit (v : Value) : PB n (.lit v)
  | bool (b : Bool) : PB n (.bool b)
  | int (k : IntKind) (m : Int) : PB n (.int k m)
  | str (l : List UInt8) : PB n (.str l)
  | sl (sz : Nat) (es : List AV) (o : Own) : PB n (.sl sz es o)
  | elt (sz : Nat) (es : List AV) (i j : Nat) : PB n (.elt sz es i j)
  | ptr (b o : Nat) (h : b < n) : PB n (.ptr b o)
  | ifc : PB n .ifc
  | junk : PB n .junk
  | agg (cs : List AV) (h : ∀ c ∈ cs, PB n c) : PB n (.agg cs)
  | tup (cs : List AV) (h : ∀ c ∈ cs, PB n c) : PB n (.tup cs)
  | fn (f : FuncId) (cs : List AV) (h : ∀ c ∈ cs, PB n c) : PB n (.fn f cs)

theorem pb0 {n : Nat} {a : AV} (h : a.p0 n = true) : PB n a := by
  cases a with
  | ptr b o => exact .ptr b o (by simpa [AV.p0] using h)
  | fn f cap =>
    have : cap = [] := by simpa [AV.p0] using h
    subst this
    exact .fn f [] fun c hc => by cases hc
  | agg cs => simp [AV.p0] at h
  | tup cs => simp [AV.p0] at h
  | _ => constructor
theorem pb1 {n : Nat} {a : AV} (h : a.p1 n = true) : PB n a := by
  cases a with
  | fn f cap =>
    simp only [AV.p1, List.all_eq_true] at h
    exact .fn f cap fun c hc => pb0 (h c hc)
  | agg cs =>
    simp only [AV.p1, List.all_eq_true] at h
    exact .agg cs fun c hc => pb0 (h c hc)
  | _ => exact pb0 h
theorem pb2 {n : Nat} {a : AV} (h : a.p2 n = true) : PB n a := by
  cases a with
  | tup vs =>
    simp only [AV.p2, List.all_eq_true] at h
    exact .tup vs fun c hc => pb1 (h c hc)
  | agg cs =>
    simp only [AV.p2, List.all_eq_true] at h
    exact .agg cs fun c hc => pb1 (h c hc)
  | _ => exact pb1 h
theorem pb_closed {n : Nat} {a : AV} (h : a.closed1 = true) : PB n a := by
  cases a with
  | agg cs =>
    simp only [AV.closed1, List.all_eq_true] at h
    refine .agg cs fun c hc => ?_
    have := h c hc
    cases c <;> first | (simp [AV.closed] at this; done) | constructor
  | _ => first | (simp [AV.closed1, AV.closed] at h; done) | constructor

def cutB (n : Nat) (B : Nat → Option Nat) : Nat → Option Nat := fun id => if id < n then B id else none

theorem Rep.cut {n : Nat} {a : AV} {v : Value} (h : Rep E w a v) (hp : PB n a) : Rep ⟨E.I, cutB n E.B, E.K⟩ w a v := by
  induction h with
  | lit v h => exact .lit v h
  | bool b => exact .bool b
  | int k n => exact .int k n
  | str l s h => exact .str l s h
  | agg cs vs hn h1 _ ih => cases hp with | agg _ hp => exact .agg cs vs hn h1 fun i c v hi hv => ih i c v hi hv (hp c (List.mem_of_getElem? hi))
  | tup cs vs hn _ ih => cases hp with | tup _ hp => exact .tup cs vs hn fun i c v hi hv => ih i c v hi hv (hp c (List.mem_of_getElem? hi))
  | sl sz es o A cap u hcap hmax hA hsz hcl ho _ h1 ih =>
    exact .sl sz es o A cap u hcap hmax hA hsz hcl ho (fun i e j c hi hj => ih i e j c hi hj (pb_closed (closed_closed1 (closed1_cells (hcl e (List.mem_of_getElem? hi)) hj)))) h1
  | elt sz es i0 j0 b off u hcl hA _ h1 ih =>
    exact .elt sz es i0 j0 b off u hcl hA (fun i e j c hi hj => ih i e j c hi hj (pb_closed (closed_closed1 (closed1_cells (hcl e (List.mem_of_getElem? hi)) hj)))) h1
  | ptr b off blk h => cases hp with | ptr _ _ hb => exact .ptr b off blk (by simp [cutB, hb, h])
  | fn f cs vs hn _ ih => cases hp with | fn _ _ hp => exact .fn f cs vs hn fun i c v hi hv => ih i c v hi hv (hp c (List.mem_of_getElem? hi))
  | ifc t v => exact .ifc t v
  | junk v => exact .junk v

theorem boxesOk_at {n : Nat} : ∀ (l : List (Option (List AV))), boxesOk n l = true → ∀ (i : Nat) (cs : List AV), l[i]? = some (some cs) → ∀ c ∈ cs, PB n c
  | [], _, i, cs, h => by simp at h
  | some ds :: l, hb, i, cs, h => by
    simp only [boxesOk, Bool.and_eq_true, List.all_eq_true] at hb
    match i, h with
    | 0, h => simp at h; subst h; exact fun c hc => pb1 (hb.1 c hc)
    | i + 1, h => exact boxesOk_at l hb.2 i cs (by simpa using h)
  | none :: l, hb, i, cs, h => by
    simp only [boxesOk] at hb
    match i, h with
    | 0, h => simp at h
    | i + 1, h => exact boxesOk_at l hb i cs (by simpa using h)

/-- the callee's own variables are forgotten -/
theorem SR.cut (h : SR P G N0 w0 I0 S E w) {n : Nat} (hb : boxesOk n (S.boxes.take n) = true) : SR P G N0 w0 I0 { S with boxes := S.boxes.take n } ⟨E.I, cutB n E.B, E.K⟩ w := by
  have hB : ∀ id b, cutB n E.B id = some b → id < n ∧ E.B id = some b := fun id b hi => by
    unfold cutB at hi
    split at hi
    · exact ⟨‹_›, hi⟩
    · cases hi
  refine ⟨h.below, h.n0, h.Ilt, h.Iold, fun id b hi => ?_, fun id id' b h1 h2 => h.Binj id id' b (hB id b h1).2 (hB id' b h2).2, fun id cs hi => ?_, fun g e hg => ⟨(h.glob g e hg).1, ?_⟩, fun id hi => ?_, h.Klt, h.Kblk, fun t m e ht => ?_⟩
  · obtain ⟨h1, h2⟩ := hB id b hi
    obtain ⟨a1, a2⟩ := h.Blt id b h2
    exact ⟨by simp; omega, a2⟩
  · have hlt : id < n := by
      have := (List.getElem?_eq_some_iff.1 hi).1
      simp at this; omega
    have hi' : S.boxes[id]? = some (some cs) := by
      have := hi
      simp only [List.getElem?_take_of_lt hlt] at this
      exact this
    obtain ⟨blk, arr, ty, hB', hh, hn, hc⟩ := h.box id cs hi'
    have hpb := boxesOk_at _ hb id cs hi
    exact ⟨blk, arr, ty, by simp [cutB, hlt, hB'], hh, hn, fun i c v hi hv => ⟨(hc i c v hi hv).1.cut (hpb c (List.mem_of_getElem? hi)), (hc i c v hi hv).2⟩⟩
  · exact (h.glob g e hg).2.cut (.elt _ _ _ _)
  · have hlt : id < n := by
      have := (List.getElem?_eq_some_iff.1 hi).1
      simp at this; omega
    have hi' : S.boxes[id]? = some none := by
      have := hi
      simp only [List.getElem?_take_of_lt hlt] at this
      exact this
    simp [cutB, hlt, h.hole id hi']
  · obtain ⟨v, xs, sz, hsz, hown, hu, hK, hg⟩ := h.live t m e ht
    refine ⟨v, xs, sz, hsz, hown, hu, hK, fun g hg' => ?_⟩
    obtain ⟨a1, a2, a3⟩ := hg g hg'
    exact ⟨a1, fun id hid => a2 id (hB id g hid).2, a3⟩

theorem runA_ok {R : Callee} {C : ICallee} (hm : P.follows .mixedOrders = true) (hR : CalleeOk P G R) (hC : ICalleeOk P G C) (n : Nat) (hint : FuncId → List Bool) {f : FuncId} {args : List AV} {S S' : St} {r : AV} (h : runA P G R C (fuelL n) hint f args S = some (r, S')) :
    goodFn P f ∧ ∀ (N0 : Nat) (w0 : World) (I0 : Nat → Nat → Prop) (E : Env) (w : World) (vs : Array Value), SR P G N0 w0 I0 S E w → vs.size = args.length → (∀ (i : Nat) (c : AV) (v : Value), args[i]? = some c → vs[i]? = some v → Rep E w c v) →
      Calls P f vs w fun e w' => ∃ v E', e = .returned v ∧ SR P G N0 w0 I0 S' E' w' ∧ Env.Le E E' w w' ∧ Rep E' w' r v := by
  unfold runA at h
  split at h
  · cases h
  · rename_i fn hf
    split at h
    · cases h
    · rename_i c hb
      split at h
      · cases h
      · rename_i hname
        refine ⟨⟨fn, hf, by rw [hb]; rfl, by simpa using hname⟩, fun N0 w0 I0 E w vs hS hn hv => ?_⟩
        have hT0 : TR E w (args ++ List.replicate (fn.ntmps - args.length) (.tup [])) (vs ++ Array.replicate (fn.ntmps - vs.size) undef) := by
          refine ⟨by simp [hn], fun i c v hi hv' => ?_⟩
          by_cases hlt : i < args.length
          · rw [List.getElem?_append_left hlt] at hi
            rw [Array.getElem?_append_left (by omega)] at hv'
            exact hv i c v hi hv'
          · rw [List.getElem?_append_right (by omega), List.getElem?_replicate] at hi
            rw [Array.getElem?_append_right (by omega), Array.getElem?_replicate] at hv'
            split at hi
            · split at hv'
              · simp at hi hv'; subst hi; subst hv'
                exact rep_undef
              · cases hv'
            · cases hi
        have hcode := (codeA_wp (N0 := N0) (w0 := w0) (I0 := I0) hm hR hC n (hint f) c).1
        have fin : ∀ (x : AExit) (T : List AV) (S1 : St), codeA P G R C (fuelL n) (hint f) c (args ++ List.replicate (fn.ntmps - args.length) (.tup [])) S = some (x, T, S1) → (x = .normal ∨ x = .ret) →
            (∃ us, resultsA P T S1 fn.results.toList = some us ∧ packA us = r ∧ S1 = S') → Calls P f vs w fun e w' => ∃ v E', e = .returned v ∧ SR P G N0 w0 I0 S' E' w' ∧ Env.Le E E' w w' ∧ Rep E' w' r v := by
          intro x T S1 hcd hx ⟨us, hus, hp, hs⟩
          subst hp; subst hs
          refine calls_of_wp hf hb (hcode _ _ x T S1 E _ w _ hcd hS hT0 fun E' w' a' h1 h2 h3 h4 => ?_)
          obtain ⟨v, hv, hrep⟩ := results_run h1 h3 hus
          rcases hx with rfl | rfl
          · exact ⟨h4, v, hv, v, E', rfl, h1, h2, hrep⟩
          · exact ⟨h4, v, hv, v, E', rfl, h1, h2, hrep⟩
        split at h
        · rename_i T S1 hcd
          split at h
          · rename_i us hus
            simp only [Option.some.injEq, Prod.mk.injEq] at h
            exact fin .normal T S1 hcd (.inl rfl) ⟨us, hus, h.1, h.2⟩
          · cases h
        · rename_i T S1 hcd
          split at h
          · rename_i us hus
            simp only [Option.some.injEq, Prod.mk.injEq] at h
            exact fin .ret T S1 hcd (.inr rfl) ⟨us, hus, h.1, h.2⟩
          · cases h
        · cases h

theorem rep_elt_rebase {sz i j : Nat} {es : List AV} {v : Value} (h : Rep E w (.elt sz es i j) v) (B : Nat → Option Nat) (K : Nat → Nat → Value → Prop) : Rep ⟨E.I, B, K⟩ w (.elt sz es i j) v := by
  cases h with | elt _ _ _ _ b off u hcl hA hr h1 =>
  exact .elt sz es i j b off u hcl hA (fun i e j c hi hj => (hr i e j c hi hj).rebase (closed_closed1 (closed1_cells (hcl e (List.mem_of_getElem? hi)) hj)) _ _) h1

theorem funcA_ok {R : Callee} {C : ICallee} (hm : P.follows .mixedOrders = true) (hR : CalleeOk P G R) (hC : ICalleeOk P G C) (n : Nat) (hint : FuncId → List Bool) : CalleeOk P G (funcA P G R C (fuelL n) hint) := by
  intro f args r lv h
  unfold funcA at h
  split at h
  · rename_i r0 S hr
    obtain ⟨hg, hcall⟩ := runA_ok hm hR hC n hint hr
    refine fun E w vs hI hG hn hv hcl => .inl ⟨hg, ?_⟩
    have hS0 : SR P G w.heap.size w E.I ⟨[], []⟩ ⟨E.I, fun _ => none, fun _ _ _ => False⟩ w :=
      ⟨Below.refl _ _, Nat.le_refl _, hI, fun b o h _ => h, fun id b h => (nomatch h), fun id id' b h => (nomatch h), fun id cs h => (nomatch h), fun g e hg => ⟨(hG g e hg).1, rep_elt_rebase (hG g e hg).2 _ _⟩, fun id h => (nomatch h), fun t n v h => False.elim h, fun t n v h => False.elim h, fun t n e h => (nomatch h)⟩
    refine (hcall _ _ _ _ w vs hS0 hn fun i c v hi hv' => (hv i c v hi hv').rebase (hcl c (List.mem_of_getElem? hi)) _ _).mono fun e w' ⟨v, E', he, h1, h2, h3⟩ => ?_
    exact ⟨v, he, normA_res (E0 := E) h1 (fun b o hi => (h2.I b o hi).1) h h3⟩
  · cases h

theorem funcI_ok {R : Callee} {C : ICallee} (hm : P.follows .mixedOrders = true) (hR : CalleeOk P G R) (hC : ICalleeOk P G C) (n : Nat) (hint : FuncId → List Bool) : ICalleeOk P G (funcI P G R C (fuelL n) hint) := by
  intro f args S r S' h
  unfold funcI at h
  split at h
  · rename_i r0 S1 hr
    obtain ⟨hg, hcall⟩ := runA_ok hm hR hC n hint hr
    split at h
    · rename_i hok
      simp only [Bool.and_eq_true] at hok
      simp only [Option.some.injEq, Prod.mk.injEq] at h
      obtain ⟨rfl, rfl⟩ := h
      refine ⟨hg, fun N0 w0 I0 E w vs hS hn hv => (hcall N0 w0 I0 E w vs hS hn hv).mono fun e w' ⟨v, E', he, h1, h2, h3⟩ => ?_⟩
      refine ⟨v, ⟨E'.I, cutB S.boxes.length E'.B, E'.K⟩, he, h1.cut hok.2, ⟨h2.I, fun b x hb => ?_, h2.K⟩, h3.cut (pb2 hok.1)⟩
      have := (hS.Blt b x hb).1
      simp [cutB, this, h2.B b x hb]
    · cases h
  · cases h

theorem orA_ok {R0 R : Callee} (h0 : CalleeOk P G R0) (h : CalleeOk P G R) : CalleeOk P G (orA R0 R) := by
  intro f args r lv hr
  unfold orA at hr
  split at hr
  · rename_i x hx
    simp only [Option.some.injEq] at hr
    subst hr
    exact h0 f args r lv hx
  · exact h f args r lv hr

theorem evs_ok (hm : P.follows .mixedOrders = true) {R0 : Callee} (h0 : CalleeOk P G R0) (hint : FuncId → List Bool) : ∀ n, CalleeOk P G (evs P G R0 hint n).1 ∧ ICalleeOk P G (evs P G R0 hint n).2
  | 0 => ⟨h0, noC_ok⟩
  | n + 1 => ⟨orA_ok h0 (funcA_ok hm (evs_ok hm h0 hint n).1 (evs_ok hm h0 hint n).2 n hint), funcI_ok hm (evs_ok hm h0 hint n).1 (evs_ok hm h0 hint n).2 n hint⟩
end
end Go.Abs
