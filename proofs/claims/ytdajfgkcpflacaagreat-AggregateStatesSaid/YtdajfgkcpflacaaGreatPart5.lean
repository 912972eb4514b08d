/- Own texts, part 5. -/
import Derived.Test.YtdajfgkcpflacaaGreatPart4
import Derived.WideKeyEntry
import Derived.StillTailTactics
import Derived.DeepKeys4
import Derived.Test.YtdajfgkcpflacaaGreatPart3

namespace Go.Abs
open Go.Proofs Go.RowKit
structure ItI where
 k : Int
 n : Int
 s : List UInt8
 src : List UInt8
 q : Int
 c : Int
deriving DecidableEq
abbrev itC (x : ItI) : List AV := [.int .i64 x.k, .int .i64 x.n, .str x.s, .str x.src, .int .i64 x.q, .int .i64 x.c]
def itA (x : ItI) : AV := .agg (itC x)
def itsL (l : List ItI) : List AV := l.map itA
def unI : AV → Option ItI
 | .agg [.int .i64 k, .int .i64 n, .str s, .str src, .int .i64 q, .int .i64 c] => some ⟨k, n, s, src, q, c⟩
 | _ => none
theorem unI_ok (x : ItI) : unI (itA x) = some x := rfl
theorem unI_inv (a : AV) (x : ItI) (h : unI a = some x) : a = itA x := by
 unfold unI at h
 split at h
 ·injection h with h; subst h; rfl
 ·cases h
def ItI.setC (y : ItI) (c : Int) : ItI := ⟨y.k, y.n, y.s, y.src, y.q, c⟩
def or3 (a b c : Int) : Int := if a = 0 then (if b = 0 then c else b) else a
def cmpV (k n : Int) (s : List UInt8) (k' n' : Int) (s' : List UInt8) : Int := or3 (Lib.compareInt k k') (Lib.compareInt n n') (Lib.compareBytes s s')
def markI (f : Bool) (x : ItI) : ItI := if f then ⟨x.k, x.n, x.s, x.src, x.q, 0⟩ else ⟨x.k, x.n, x.s, [], 0, 0⟩
def cmpI (a b : ItI) : Int := or3 (Lib.compareBytes a.src b.src) (Lib.compareInt a.q b.q) (cmpV a.k a.n a.s b.k b.n b.s)
def s113 : Spec := fun args => match args with
 | [.sl sz [.int .i64 a, .int .i64 b, .int .i64 c] .full] => if sz = 1 then some (.int .i64 (or3 a b c), []) else none
 | _ => none
def s105 : Spec := fun args => match args with
 | [.agg [.int .i64 k, .int .i64 n, .str s], .agg [.int .i64 k', .int .i64 n', .str s']] => some (.int .i64 (cmpV k n s k' n' s'), [])
 | _ => none
def s111 : Spec := fun args => match args with
 | [.agg [.int .i64 k, .int .i64 n, .str s, .str src, .int .i64 q, .int .i64 c], .agg [.int .i64 k', .int .i64 n', .str s', .str src', .int .i64 q', .int .i64 c']] => some (.int .i64 (cmpI ⟨k, n, s, src, q, c⟩ ⟨k', n', s', src', q', c'⟩), [])
 | _ => none
def s106 : Spec := fun args => match args with
 | [.agg [.bool f], .agg [.int .i64 k, .int .i64 n, .str s, .str src, .int .i64 q, .int .i64 _]] => some (.agg [.int .i64 k, .int .i64 n, .str s, .str (if f then src else []), .int .i64 (if f then q else 0), .int .i64 0], [])
 | _ => none
abbrev kpC (f : Bool) : List AV := typB 106 [.bool f]
def s108 : ISpec := fun args S => match args, S with
 | [.agg [.int .i64 k, .int .i64 n, .str s, .str src, .int .i64 q, .int .i64 c], .ptr b1 o1, .ptr b2 o2],
  ⟨[some [.tup [.int .i64 t, .agg [.bool f]]], some [.int .i64 _, .int .i64 _, .str _, .str _, .int .i64 _, .int .i64 _], some [.int .i64 mk, .int .i64 mn, .str ms, .str msrc, .int .i64 mq, .int .i64 mc], some [.tup [.bool f2, .sl z4 _ .no]]], []⟩ =>
   if b1 = 0 ∧ o1 = 0 ∧ b2 = 2 ∧ o2 = 0 ∧ t = 106 ∧ f2 = true ∧ z4 = 6 then some (True, .bool (decide (markI f ⟨k, n, s, src, q, c⟩ = ⟨mk, mn, ms, msrc, mq, mc⟩)), S) else none
 | _, _ => none
def s110 : ISpec := fun args S => match args, S with
 | [.agg [.int .i64 k, .int .i64 n, .str s, .str src, .int .i64 q, .int .i64 c], .ptr b1 o1, .ptr b2 o2],
  ⟨[some [.tup [.int .i64 t, .agg [.bool f]]], some [.int .i64 _, .int .i64 _, .str _, .str _, .int .i64 _, .int .i64 _], some [.int .i64 mk, .int .i64 mn, .str ms, .str msrc, .int .i64 mq, .int .i64 mc], some [.tup [.bool f2, .sl z4 _ .no]]], []⟩ =>
   if b1 = 0 ∧ o1 = 0 ∧ b2 = 2 ∧ o2 = 0 ∧ t = 106 ∧ f2 = true ∧ z4 = 6 then some (True, .bool (decide (0 < cmpI (markI f ⟨k, n, s, src, q, c⟩) ⟨mk, mn, ms, msrc, mq, mc⟩)), S) else none
 | _, _ => none
def getI (a : AV) : ItI := (unI a).getD ⟨0, 0, [], [], 0, 0⟩
def idxP {α : Type} (p : α → Bool) (l : List α) : Int := if l.all (fun y => !p y) then -1 else ((l.takeWhile fun y => !p y).length : Nat)
def keptI1 (f : Bool) (m : ItI) (es : List AV) : Int := idxP (fun y => decide (markI f y = m)) (es.map getI)
def keptI2 (f : Bool) (m : ItI) (es : List AV) : Int := idxP (fun y => decide (0 < cmpI (markI f y) m)) (es.map getI)
def s107 : ISpec := fun args S => match args, S with
 | [.ms b3 sz n, .fn g [.ptr b1 o1, .ptr b2 o2]],
  ⟨[some [.tup [.int .i64 t, .agg [.bool f]]], some [.int .i64 _, .int .i64 _, .str _, .str _, .int .i64 _, .int .i64 _], some [.int .i64 mk, .int .i64 mn, .str ms, .str msrc, .int .i64 mq, .int .i64 mc], some [.tup [.bool f2, .sl z4 es .no]]], []⟩ =>
   if b3 = 3 ∧ sz = 6 ∧ b1 = 0 ∧ o1 = 0 ∧ b2 = 2 ∧ o2 = 0 ∧ t = 106 ∧ f2 = true ∧ z4 = 6 then
    (if g = 152 then some (((∃ l, es = itsL l) ∧ n = es.length ∧ es.length ≤ 2000000), .int .i64 (keptI1 f ⟨mk, mn, ms, msrc, mq, mc⟩ es), S)
    else if g = 154 then some (((∃ l, es = itsL l) ∧ n = es.length ∧ es.length ≤ 2000000), .int .i64 (keptI2 f ⟨mk, mn, ms, msrc, mq, mc⟩ es), S) else none) else none
 | [.sl sz [] .full, .fn g [.ptr b1 o1, .ptr b2 o2]],
  ⟨[some [.tup [.int .i64 t, .agg [.bool _]]], some [.int .i64 _, .int .i64 _, .str _, .str _, .int .i64 _, .int .i64 _], some [.int .i64 _, .int .i64 _, .str _, .str _, .int .i64 _, .int .i64 _]], []⟩ =>
   if sz = 6 ∧ (g = 152 ∨ g = 154) ∧ b1 = 0 ∧ o1 = 0 ∧ b2 = 2 ∧ o2 = 0 ∧ t = 106 then some (True, .int .i64 (-1), S) else none
 | _, _ => none
def s102p : Spec := fun args => match args with
 | [.sl sz (x :: es) _] => if sz = 6 ∧ es.length ≤ 2000000 then some (.sl 6 (x :: es) (.tok 0), [(es.length + 1, 51)]) else none
 | _ => none
def s102z : Spec := fun args => match args with
 | [.sl _ [] _] => some (.sl 6 [] .full, [])
 | _ => none
def s112z : Spec := fun args => match args with
 | [.sl sz [] .full, .int .i64 i, .sl sz2 [x] .full] => if sz = 6 ∧ sz2 = 6 ∧ i = 0 ∧ (unI x).isSome = true then some (.sl 6 [x] .no, []) else none
 | _ => none
def addI (f : Bool) (m : ItI) (c : Int) : List ItI → Option (List ItI)
 | [] => none
 | y :: t => if markI f y = m then some (if wrap64 (y.c + c) = 0 then t else y.setC (wrap64 (y.c + c)) :: t) else (addI f m c t).map (y :: ·)
def putI (f : Bool) (m : ItI) (c : Int) : List ItI → List ItI
 | [] => [m.setC c]
 | y :: t => if 0 < cmpI (markI f y) m then m.setC c :: y :: t else y :: putI f m c t
def insI (f : Bool) (l : List ItI) (x : ItI) : List ItI := (addI f (markI f x) x.c l).getD (putI f (markI f x) x.c l)
def s103 : Spec := fun args => match args with
 | [.agg [.bool f], .sl sz es _, .agg [.int .i64 k, .int .i64 n, .str s, .str src, .int .i64 q, .int .i64 c]] => match unL unI es with
  | some l => if (sz = 6 ∨ l = []) ∧ l.length ≤ 1000000 then some (.sl 6 (itsL (insI f l ⟨k, n, s, src, q, c⟩)) .no, []) else none
  | none => none
 | _ => none
def shIt : Sh × Option TypeId := (.val (.agg [.int .i64, .int .i64, .str, .str, .int .i64, .int .i64]), none)
def shSt : Sh × Option TypeId := (.val (.agg [.int .i64, .int .i64, .int .u64, .sl 6 .no, .sl 2 .no]), none)
def shV : Sh × Option TypeId := (.val (.agg [.int .i64, .int .i64, .str]), none)
def shIts : Sh × Option TypeId := (.val (.one (.sl 6 .no)), none)
def XE : Shapes := fun f => match f with
 | 35 | 55 | 155 | 56 | 57 => some shI
 | 150 => some shIt
 | 148 | 156 => some shIts
 | 2000051 => some shIt
 | _ => none
abbrev S4 (f : Bool) (x m : ItI) (es : List AV) : St := ⟨[some (kpC f), some (itC x), some (itC m), some (ownC 6 es)], []⟩
abbrev S3 (f : Bool) (x m : ItI) : St := ⟨[some (kpC f), some (itC x), some (itC m)], []⟩
def a107 (f : Bool) (x m : ItI) (g : Nat) (l : List ItI) (p : ItI → Bool) : Anns := ⟨fun k => if k = 2 then some { α := Nat, slots := [0, 1, 7, 8], nb := 4, vals := fun n => [.ms 3 6 l.length, .fn g [.ptr 0 0, .ptr 2 0], .int .i64 l.length, .int .i64 n], sS := fun _ => S4 f x m (itsL l), I := fun n => n ≤ l.length ∧ (l.take n).all (fun y => !p y) = true, μ := fun n => l.length - n } else none, nA⟩
def a107e (f : Bool) (x m : ItI) (g : Nat) : Anns := ⟨fun k => if k = 2 then some { α := Unit, slots := [0, 1, 7, 8], nb := 3, vals := fun _ => [.sl 6 [] .full, .fn g [.ptr 0 0, .ptr 2 0], .int .i64 0, .int .i64 0], sS := fun _ => S3 f x m, I := fun _ => True, μ := fun _ => 0 } else none, nA⟩
end Go.Abs
namespace Go.Proofs.D17
open Go.RowKit Go.Maps Go.WideElems Go.ChangeMaps Go.Abs Go.Proofs.K17
structure VI where
 k : Int
 n : Int
 s : List UInt8
deriving DecidableEq
def VI.ok (v : VI) : Prop := I64 v.k ∧ I64 v.n ∧ v.s.length ≤ maxLen
def VI.val (v : VI) : Value := .agg #[.int .i64 v.k, .int .i64 v.n, .string ⟨v.s.toArray⟩]
def VI.lits (v : VI) : List Lit := [.int .i64 v.k, .int .i64 v.n, .string v.s]
def VI.lit (v : VI) : Lit := .string (keyBytes v.lits)
def addV (v : VI) (c : Int) : List (VI × Int) → List (VI × Int)
 | [] => [(v, wrap64 (0 + c))]
 | (u, d) :: t => if u = v then (u, wrap64 (d + c)) :: t else (u, d) :: addV v c t
def itV (x : ItI) : VI := ⟨x.k, x.n, x.s⟩
def sumsV (l : List ItI) : List (VI × Int) := l.foldl (fun m x => addV (itV x) x.c m) []
def distV (l : List ItI) : Nat := ((sumsV l).filter fun p => decide (0 < p.2)).length
theorem keyTypeA : Tryz.prog.keyTypeAt 3 26 = true := by kernel_rfl
theorem keyTypeB : Tryz.prog.keyType 26 = true := by kernel_rfl
theorem tiledA : Tryz.prog.tiled 3 26 = true := by kernel_rfl
theorem klaw : WideMaps.KeyLaw Tryz.prog 26 := deep_law (m := 3) (by omega) keyTypeA tiledA (by kernel_rfl)
theorem keyed29 : Keyed Tryz.prog 26 := Keyed.of_law klaw
theorem keyOf_v {v : VI} (h : v.ok) : keyOf Tryz.prog 26 v.val = some v.lit := by
 obtain ⟨h1, h2, h3⟩ := h
 have w1 : (Lit.int .i64 v.k).wf = true := wf_i64 h1
 have w2 : (Lit.int .i64 v.n).wf = true := wf_i64 h2
 have hs : (⟨v.s.toArray⟩ : ByteArray).size ≤ maxLen := by simpa [ByteArray.size] using h3
 unfold keyOf VI.val
 have hu := Tryz.underlying26
 have hc : Tryz.prog.cellsOf 26 = 3 := by kernel_rfl
 have hc3 : Tryz.prog.cellsOf 3 = 1 := by kernel_rfl
 have hc9 : Tryz.prog.cellsOf 9 = 1 := by kernel_rfl
 obtain ⟨m, hm⟩ : ∃ m, Tryz.prog.types.size = m + 1 := ⟨187, by kernel_rfl⟩
 simp only [hu]
 rw [if_pos (by simp [keyTypeB, Value.formed, hu, hc]), hm]
 unfold Program.keyLits
 simp only [hu, Value.cells]
 rw [if_pos ⟨by simp [hc], by decide +kernel⟩]
 simp [hc3, hc9, Program.keyLits, Tryz.underlying3, Tryz.underlying9, w1, w2, hs, VI.lit, VI.lits]
theorem lit_inj {u v : VI} (hu : u.ok) (hv : v.ok) (h : u.lit = v.lit) : u = v := by
 unfold VI.lit at h
 injection h with h
 have wf : ∀ {v : VI}, v.ok → ∀ a ∈ v.lits, a.keyWf := fun {v} hv a ha => by
  simp only [VI.lits, List.mem_cons, List.not_mem_nil, or_false] at ha
  rcases ha with rfl | rfl | rfl
  ·exact wf_i64 hv.1
  ·exact wf_i64 hv.2.1
  ·exact hv.2.2
 have := keyBytes_inj (l := u.lits) (l' := v.lits) ⟨rfl, rfl, trivial, trivial⟩ (wf hu) (wf hv) h
 obtain ⟨k, n, s⟩ := u
 obtain ⟨k', n', s'⟩ := v
 simp only [VI.lits, List.cons.injEq, Lit.int.injEq, Lit.string.injEq, true_and, and_true] at this
 obtain ⟨rfl, rfl, rfl⟩ := this
 rfl
structure MapS (D : DataW Unit) (L : List (VI × Int)) : Prop where
 isMap : IsMap D
 ok : ∀ p ∈ L, p.1.ok
 nodup : (L.map (·.1)).Nodup
 at_ : ∀ p ∈ L, ∀ z, D.atKey p.1.lit z = i64 p.2
 has : ∀ kl, Maps.has D kl = true ↔ ∃ p ∈ L, kl = p.1.lit
theorem mapS_nil : MapS (.map []) [] := ⟨isMap_empty, by simp, by simp, by simp, fun kl => by simp [Maps.has]⟩
theorem addV_mem {v : VI} {c : Int} : ∀ {L : List (VI × Int)} {p : VI × Int}, p ∈ addV v c L → p.1 = v ∨ p ∈ L
 | [], p, h => by simp [addV] at h; subst h; exact .inl rfl
 | (u, d) :: t, p, h => by
  unfold addV at h
  split at h
  ·rename_i e
   rcases List.mem_cons.1 h with rfl | h
   ·exact .inl e
   ·exact .inr (by simp [h])
  ·rcases List.mem_cons.1 h with rfl | h
   ·exact .inr (by simp)
   ·rcases addV_mem h with h | h
    ·exact .inl h
    ·exact .inr (by simp [h])
theorem addV_keys {v : VI} {c : Int} : ∀ {L : List (VI × Int)} {u : VI}, u ∈ (addV v c L).map (·.1) ↔ u = v ∨ u ∈ L.map (·.1)
 | [], u => by simp [addV]
 | (y, d) :: t, u => by
  unfold addV
  split
  ·rename_i e
   simp only [List.map_cons, List.mem_cons]
   constructor
   ·rintro (h | h)
    ·exact .inr (.inl h)
    ·exact .inr (.inr h)
   ·rintro (h | h | h)
    ·exact .inl (h.trans e.symm)
    ·exact .inl h
    ·exact .inr h
  ·simp only [List.map_cons, List.mem_cons, addV_keys]
   constructor
   ·rintro (h | h | h)
    ·exact .inr (.inl h)
    ·exact .inl h
    ·exact .inr (.inr h)
   ·rintro (h | h | h)
    ·exact .inr (.inl h)
    ·exact .inl h
    ·exact .inr (.inr h)
theorem addV_nodup {v : VI} {c : Int} : ∀ {L : List (VI × Int)}, (L.map (·.1)).Nodup → ((addV v c L).map (·.1)).Nodup
 | [], _ => by simp [addV]
 | (y, d) :: t, h => by
  obtain ⟨h1, h2⟩ := List.nodup_cons.1 h
  unfold addV
  split
  ·exact List.nodup_cons.2 ⟨h1, h2⟩
  ·rename_i e
   refine List.nodup_cons.2 ⟨fun hm => ?_, addV_nodup h2⟩
   rcases addV_keys.1 hm with hm | hm
   ·exact e hm
   ·exact h1 hm
theorem addV_at {v : VI} {c : Int} : ∀ {L : List (VI × Int)}, (L.map (·.1)).Nodup → ∀ p ∈ addV v c L, (p.1 ≠ v ∧ p ∈ L) ∨ (p.1 = v ∧ ((∃ d, (v, d) ∈ L ∧ p.2 = wrap64 (d + c)) ∨ (v ∉ L.map (·.1) ∧ p.2 = wrap64 (0 + c))))
 | [], _, p, hp => by
  simp only [addV, List.mem_cons, List.not_mem_nil, or_false] at hp; subst hp; exact .inr ⟨rfl, .inr ⟨by simp, rfl⟩⟩
 | (y, d) :: t, h, p, hp => by
  obtain ⟨h1, h2⟩ := List.nodup_cons.1 h
  unfold addV at hp
  split at hp
  ·rename_i e
   subst e
   rcases List.mem_cons.1 hp with rfl | hp
   ·exact .inr ⟨rfl, .inl ⟨d, by simp, rfl⟩⟩
   ·refine .inl ⟨fun e => h1 ?_, by simp [hp]⟩
    rw [← e]; exact List.mem_map.2 ⟨p, hp, rfl⟩
  ·rename_i e
   rcases List.mem_cons.1 hp with rfl | hp
   ·exact .inl ⟨e, by simp⟩
   ·rcases addV_at h2 p hp with ⟨a, b⟩ | ⟨a, b⟩
    ·exact .inl ⟨a, by simp [b]⟩
    ·refine .inr ⟨a, ?_⟩
     rcases b with ⟨d', hd, b⟩ | ⟨hd, b⟩
     ·exact .inl ⟨d', by simp [hd], b⟩
     ·refine .inr ⟨fun hm => ?_, b⟩
      rcases List.mem_cons.1 hm with hm | hm
      ·exact e hm.symm
      ·exact hd hm
theorem key_lit (v : VI) : WideAt.IsKeyLit v.lit := trivial
theorem mapS_put {D : DataW Unit} {L : List (VI × Int)} (h : MapS D L) {v : VI} (hv : v.ok) {c c0 : Int} (hc : D.atKey v.lit (i64 0) = i64 c0) : MapS (D.put v.lit (i64 (wrap64 (c0 + c)))) (addV v c L) := by
 refine ⟨h.isMap.put _ _, fun p hp => ?_, addV_nodup h.nodup, fun p hp z => ?_, fun kl => ?_⟩
 ·rcases addV_mem hp with e | hp
  ·rw [e]; exact hv
  ·exact h.ok p hp
 ·rcases addV_at h.nodup p hp with ⟨hne, hm⟩ | ⟨he, hm⟩
  ·rw [atKey_put_other (fun e => hne (lit_inj (h.ok p hm) hv e))]
   exact h.at_ p hm z
  ·rw [he, atKey_put_same h.isMap (key_lit v)]
   rcases hm with ⟨d, hd, e⟩ | ⟨hn, e⟩
   ·have := h.at_ _ hd (i64 0)
    simp only at this
    rw [this] at hc
    injection hc with hc
    injection hc with _ hc
    rw [e, hc]
   ·have hno : Maps.has D v.lit = false := by
     rw [← Bool.not_eq_true, h.has]
     rintro ⟨q, hq, e⟩
     have := lit_inj hv (h.ok q hq) e
     exact hn (List.mem_map.2 ⟨q, hq, this.symm⟩)
    have : D.atKey v.lit (i64 0) = i64 0 := atKey_of_not_has hno _
    rw [this] at hc
    injection hc with hc
    injection hc with _ hc
    rw [e, ← hc]
 ·by_cases e : kl = v.lit
  ·subst e
   rw [has_put_same h.isMap (key_lit v)]
   simp only [true_iff]
   obtain ⟨p, hp, e⟩ := List.mem_map.1 (addV_keys.2 (.inl rfl) : v ∈ (addV v c L).map (·.1))
   exact ⟨p, hp, by rw [e]⟩
  ·rw [has_put_other e, h.has]
   constructor
   ·rintro ⟨p, hp, rfl⟩
    obtain ⟨q, hq, e2⟩ := List.mem_map.1 (addV_keys.2 (.inr (List.mem_map.2 ⟨p, hp, rfl⟩)) : p.1 ∈ (addV v c L).map (·.1))
    exact ⟨q, hq, by rw [e2]⟩
   ·rintro ⟨p, hp, rfl⟩
    rcases addV_mem hp with e2 | hp
    ·exact absurd (by rw [e2]) e
    ·exact ⟨p, hp, rfl⟩
end Go.Proofs.D17
namespace Go.Proofs.D17
open Go.RowKit Go.Maps Go.WideElems Go.ChangeMaps Go.Abs Go.Proofs.K17
theorem own_entry {w : World} {t k e : TypeId} {b n : Nat} {D : DataW Unit} {P : Program} (h : w.ownsMap P k (plainElem P e) b n D) (KL : WideMaps.KeyLaw P k) (ht : P.underlying t = some (.map k e)) (he : P.underlying e = some (.int .i64)) (hz : ∀ u : World, (zeroValue e).run P u = .ok (.int .i64 0) u) (hn : n < maxLen) (hD : IsMap D)
  {key : Value} {kl : Lit} (hkey : keyOf P k key = some kl) :
  ∃ (v0 : Value) (st : Nat) (w1 : World), (Instr.mapEntry t (.map (some b)) key).run P w = .ok (.tuple #[v0, goInt st]) w1 ∧
   (∃ c, (Instr.lookup t (.map (some b)) key false).run P w = .ok (.int .i64 c) w ∧ (Instr.lookup t (.map (some b)) key false).run P w1 = .ok (.int .i64 c) w1 ∧ D.atKey kl (i64 0) = i64 c ∧ (Lit.int .i64 c).wf = true) ∧
   (∀ (x : Nat), x ≠ b → w1.heap[x]? = w.heap[x]?) ∧
   (∀ (val : Value) (d : DataW Unit) (ps : List MemPlace), plainElem P e val = some (d, ps) → ∃ w', (Instr.entryStore t (.map (some b)) (goInt st) val).run P w1 = .ok () w' ∧ w'.ownsMap P k (plainElem P e) b (n + 1) (D.put kl d) ∧ w.grownBy w' (some b)) := by
 have h' := h
 obtain ⟨c, hlk, hat, hwc⟩ := h.lookup_int (Keyed.of_law KL) ht he (hz w) hkey
 obtain ⟨es, clock, hb, F, hs, hDe⟩ := h'
 obtain ⟨v0, st, es1, clock1, h1, _, h3⟩ := entry_then_store KL ht hz hb F hkey
 have hw0 : (Lit.int .i64 0).wf = true := by decide
 have hlt : b < w.heap.size := (Array.getElem?_eq_some_iff.1 hb).1
 refine ⟨v0, st, _, h1, ⟨c, hlk, ?_, hat, hwc⟩, fun x hx => heap_setBlock_other hb _ hx, fun val d ps hv => ?_⟩
 ·have key2 : ∀ (n' : Nat) (D' : DataW Unit), (setBlock w b (.map es1 clock1)).ownsMap P k (plainElem P e) b n' D' → D'.atKey kl (i64 0) = D.atKey kl (i64 0) → (Instr.lookup t (.map (some b)) key false).run P (setBlock w b (.map es1 clock1)) = .ok (.int .i64 c) (setBlock w b (.map es1 clock1)) := fun n' D' ho hat' => by
   obtain ⟨c', hlk', hat2, _⟩ := ho.lookup_int (Keyed.of_law KL) ht he (hz _) hkey
   have hat2 := hat.symm.trans (hat'.symm.trans hat2)
   have hat2 := congrArg (fun r => match r with | DataW.lit (.int _ x) => x | _ => 0) hat2
   simp only at hat2
   rw [hat2]; exact hlk'
  rcases KL.find w hkey es.toList F.keys with ⟨f1, f2⟩ | ⟨j, e0, f1, f2, f3⟩
  ·have r1 : (Instr.mapEntry t (.map (some b)) key).run P w = .ok (.tuple #[.int .i64 0, goInt clock]) (setBlock w b (.map (es.push ⟨key, .int .i64 0, clock⟩) (clock + 1))) := by
    simp [Instr.mapEntry, run_underlying ht, MapKept.run_getObj_map hb, KL.check w false hkey, f1, hz, MapKept.run_setObj_map _ hb, Result.andThen, setBlock]
   have r2 : (Instr.mapUpdate t (.map (some b)) key (.int .i64 0)).run P w = .ok () (setBlock w b (.map (es.push ⟨key, .int .i64 0, clock⟩) (clock + 1))) := by
    simp [Instr.mapUpdate, run_underlying ht, MapKept.run_getObj_map hb, KL.check w false hkey, f1, MapKept.run_setObj_map _ hb, Result.andThen, setBlock]
   obtain ⟨w2, hrun, q1, _⟩ := h.update (Keyed.of_law KL) ht hn hkey (plainElem_int he hw0)
   have hrun := congrArg (fun r => match r with | Result.ok _ w => w | _ => w) (r2.symm.trans hrun)
   simp only at hrun
   subst hrun
   have h1 := congrArg (fun r => match r with | Result.ok _ w => w | _ => w) (r1.symm.trans h1)
   simp only at h1
   rw [← h1] at key2 ⊢
   have hc0 : c = 0 := by
    have r3 : (Instr.lookup t (.map (some b)) key false).run P w = .ok (.int .i64 0) w := by
     simp [Instr.lookup, run_underlying ht, MapKept.run_getObj_map hb, KL.check w es.isEmpty hkey, f1, hz, Result.andThen]
    have hlk := congrArg (fun r => match r with | Result.ok (Value.int _ x) _ => x | _ => 0) (r3.symm.trans hlk)
    exact hlk.symm
   have hkl : WideAt.IsKeyLit kl := by obtain ⟨s, rfl⟩ := KL.str hkey; trivial
   exact key2 _ _ q1 (by rw [atKey_put_same hD hkl, hat, hc0])
  ·have hj : es[j]? = some e0 := by simpa using f2
   have hsame : es.modify j (fun e => { e with key := key }) = es := by
    apply Array.ext'
    rw [Array.toList_modify, modify_eq_set _ _ _ _ f2]
    have : ({ e0 with key := key } : MapEntry) = e0 := by rw [← f3]
    rw [this]
    exact set_self _ _ _ f2
   have r1 : (Instr.mapEntry t (.map (some b)) key).run P w = .ok (.tuple #[e0.val, goInt e0.born]) (setBlock w b (.map es clock)) := by
    simp [Instr.mapEntry, run_underlying ht, MapKept.run_getObj_map hb, KL.check w false hkey, f1, hj, f3, KL.stays w hkey, hsame, MapKept.run_setObj_map _ hb, Result.andThen, setBlock]
   have h1 := congrArg (fun r => match r with | Result.ok _ w => w | _ => w) (r1.symm.trans h1)
   simp only at h1
   rw [← h1] at key2 ⊢
   exact key2 n D ⟨es, clock, heap_setBlock_same hb _, F, hs, hDe⟩ rfl
 ·obtain ⟨w', hrun, r1, r2⟩ := h.update (Keyed.of_law KL) ht hn hkey hv
  obtain ⟨es', clock', h4, h5⟩ := h3 (setBlock w b (.map es1 clock1)) val (heap_setBlock_same hb _)
  have e : setBlock (setBlock w b (.map es1 clock1)) b (.map es' clock') = setBlock w b (.map es' clock') := by
   simp [setBlock]
  rw [e] at h4
  have hrun := congrArg (fun r => match r with | Result.ok _ w => w | _ => w) (h5.symm.trans hrun)
  simp only at hrun
  rw [← hrun] at r1 r2
  exact ⟨_, h4, r1, r2⟩
end Go.Proofs.D17
namespace Go.Proofs.D17
open Go.RowKit Go.Maps Go.WideElems Go.ChangeMaps Go.Abs Go.Proofs.K17
structure CX where
 ev : Int
 n : Int
 h : Int
 l : Int
 A : Option Addr
 cap : Nat
 its : List ItI
 A2 : Option Addr
 n2 : Nat
 c2 : Nat
def cenc (x : CX) : List Value := [.int .i64 x.ev, .int .i64 x.n, .int .i64 x.h, .int .u64 x.l, .slice x.A x.its.length x.cap, .slice x.A2 x.n2 x.c2]
def itenc (x : ItI) : List Value := [.int .i64 x.k, .int .i64 x.n, .string ⟨x.s.toArray⟩, .string ⟨x.src.toArray⟩, .int .i64 x.q, .int .i64 x.c]
def flatC (L : List CX) : List ItI := L.flatMap (·.its)
theorem arr_cx {w : World} {A : Option Addr} {L : List CX} (h : Arr w cenc 6 A L) {k : Nat} (hk : k < L.length) : ∃ b off x, A = some ⟨b, off, none⟩ ∧ b < w.heap.size ∧ Hid (L[k]? = some x) ∧
  w.cell? ⟨b, off + k * 6, none⟩ = some (.int .i64 x.ev) ∧ w.cell? ⟨b, off + k * 6 + 1, none⟩ = some (.int .i64 x.n) ∧ w.cell? ⟨b, off + k * 6 + 2, none⟩ = some (.int .i64 x.h) ∧ w.cell? ⟨b, off + k * 6 + 3, none⟩ = some (.int .u64 x.l) ∧
  w.cell? ⟨b, off + k * 6 + 4, none⟩ = some (.slice x.A x.its.length x.cap) ∧ w.cell? ⟨b, off + k * 6 + 5, none⟩ = some (.slice x.A2 x.n2 x.c2) := by
 obtain ⟨b, off, x, hA, hb, hx, hc⟩ := h.at_ hk
 exact ⟨b, off, x, hA, hb, hx, hc 0 _ rfl, hc 1 _ rfl, hc 2 _ rfl, hc 3 _ rfl, hc 4 _ rfl, hc 5 _ rfl⟩
theorem arr_it {w : World} {A : Option Addr} {L : List ItI} (h : Arr w itenc 6 A L) {k : Nat} (hk : k < L.length) : ∃ b off x, A = some ⟨b, off, none⟩ ∧ b < w.heap.size ∧ Hid (L[k]? = some x) ∧
  w.cell? ⟨b, off + k * 6, none⟩ = some (.int .i64 x.k) ∧ w.cell? ⟨b, off + k * 6 + 1, none⟩ = some (.int .i64 x.n) ∧ w.cell? ⟨b, off + k * 6 + 2, none⟩ = some (.string ⟨x.s.toArray⟩) ∧ w.cell? ⟨b, off + k * 6 + 3, none⟩ = some (.string ⟨x.src.toArray⟩) ∧
  w.cell? ⟨b, off + k * 6 + 4, none⟩ = some (.int .i64 x.q) ∧ w.cell? ⟨b, off + k * 6 + 5, none⟩ = some (.int .i64 x.c) := by
 obtain ⟨b, off, x, hA, hb, hx, hc⟩ := h.at_ hk
 exact ⟨b, off, x, hA, hb, hx, hc 0 _ rfl, hc 1 _ rfl, hc 2 _ rfl, hc 3 _ rfl, hc 4 _ rfl, hc 5 _ rfl⟩
theorem flatC_take {L : List CX} {k : Nat} {x : CX} (h : L[k]? = some x) : flatC (L.take (k + 1)) = flatC (L.take k) ++ x.its := by
 obtain ⟨hk, rfl⟩ := List.getElem?_eq_some_iff.1 h
 unfold flatC; rw [List.take_succ_eq_append_getElem hk, List.flatMap_append]; simp
theorem flatC_le {L : List CX} {k : Nat} {x : CX} (h : L[k]? = some x) : (flatC (L.take k)).length + x.its.length ≤ (flatC L).length := by
 have e := flatC_take h
 have : flatC L = flatC (L.take (k + 1)) ++ flatC (L.drop (k + 1)) := by unfold flatC; rw [← List.flatMap_append, List.take_append_drop]
 rw [this, List.length_append, e, List.length_append]; omega
theorem flatC_mem {L : List CX} {x : CX} (h : x ∈ L) {y : ItI} (hy : y ∈ x.its) : y ∈ flatC L := List.mem_flatMap.2 ⟨x, h, hy⟩
theorem sums_snoc (l : List ItI) (x : ItI) : sumsV (l ++ [x]) = addV (itV x) x.c (sumsV l) := by unfold sumsV; rw [List.foldl_append]; rfl
def CollL (D0 : DataW Unit) (left : Lit → Bool) (ss : List Lit) : Prop :=
 ss.Nodup ∧ ∀ x, x ∈ ss ↔ (Maps.has D0 x = true ∧ left x = false)
theorem CollL.start (D0 : DataW Unit) : CollL D0 (Maps.has D0) [] := ⟨List.nodup_nil, fun x => by cases Maps.has D0 x <;> simp⟩
theorem CollL.step {D0 : DataW Unit} {left : Lit → Bool} {ss : List Lit} (h : CollL D0 left ss) {x : Lit} {y : DataW Unit} (hk : WideAt.IsKeyLit x) (hlk : left x = true) (hat : ∀ zd, D0.atKey x zd = y) :
  CollL D0 (fun z => left z && !z.sameKey x) (ss ++ [x]) := by
 obtain ⟨h1, h2⟩ := h
 have hx : x ∉ ss := fun hm => by rw [(h2 x).1 hm |>.2] at hlk; cases hlk
 refine ⟨List.nodup_append.2 ⟨h1, by simp, fun a ha b hb => by simp at hb; subst hb; intro e; subst e; exact hx ha⟩, fun z => ?_⟩
 rw [List.mem_append, List.mem_singleton]
 by_cases e : z = x
 ·subst e; simp [has_true_of_atKey hat, WideAt.sameKey_self hk]
 ·simp [e, h2 z, sameKey_ne e]
def valI : DataW Unit → Int
 | .lit (.int _ n) => n
 | _ => 0
def posL (D : DataW Unit) (ss : List Lit) : Nat := (ss.filter fun kl => decide (0 < valI (D.atKey kl (i64 0)))).length
theorem pos_snoc {D : DataW Unit} {ss : List Lit} {kl : Lit} {c : Int} (h : D.atKey kl (i64 0) = i64 c) : posL D (ss ++ [kl]) = posL D ss + (if 0 < c then 1 else 0) := by
 unfold posL
 rw [List.filter_append, List.length_append, List.filter_cons, h]
 by_cases hc : 0 < c
 ·rw [if_pos (decide_eq_true (show 0 < valI (i64 c) from hc)), if_pos hc]; simp
 ·rw [if_neg (fun h => hc (of_decide_eq_true (p := 0 < valI (i64 c)) h)), if_neg hc]; simp
theorem nodup_lits : ∀ {S : List (VI × Int)}, (S.map (·.1)).Nodup → (∀ p ∈ S, p.1.ok) → (S.map fun p => p.1.lit).Nodup
 | [], _, _ => List.nodup_nil
 | p :: S, h, hok => by
  obtain ⟨h1, h2⟩ := List.nodup_cons.1 h
  refine List.nodup_cons.2 ⟨fun hm => ?_, nodup_lits h2 fun q hq => hok q (by simp [hq])⟩
  obtain ⟨q, hq, e⟩ := List.mem_map.1 hm
  have := lit_inj (hok q (by simp [hq])) (hok p (by simp)) e
  exact h1 (List.mem_map.2 ⟨q, hq, this⟩)
theorem pos_map {D : DataW Unit} : ∀ {S : List (VI × Int)}, (∀ p ∈ S, D.atKey p.1.lit (i64 0) = i64 p.2) → posL D (S.map fun p => p.1.lit) = (S.filter fun p => decide (0 < p.2)).length
 | [], _ => rfl
 | p :: S, h => by
  have ih := pos_map (S := S) fun q hq => h q (by simp [hq])
  unfold posL at ih ⊢
  have hp := h p (by simp)
  rw [List.map_cons, List.filter_cons, List.filter_cons, hp]
  by_cases hc : 0 < p.2
  ·rw [if_pos (decide_eq_true (show 0 < valI (i64 p.2) from hc)), if_pos (decide_eq_true hc), List.length_cons, List.length_cons, ih]
  ·rw [if_neg (fun h => hc (of_decide_eq_true (p := 0 < valI (i64 p.2)) h)), if_neg (fun h => hc (of_decide_eq_true h)), ih]
theorem pos_done {D : DataW Unit} {l : List ItI} {left : Lit → Bool} {ss : List Lit} (h : MapS D (sumsV l)) (hc : CollL D left ss) (hl : ∀ kl, left kl = false) : posL D ss = distV l := by
 have hperm : ss.Perm ((sumsV l).map fun p => p.1.lit) := by
  refine (List.perm_ext_iff_of_nodup hc.1 (nodup_lits h.nodup h.ok)).2 fun x => ?_
  rw [hc.2 x, hl x, h.has x, List.mem_map]
  constructor
  ·rintro ⟨⟨p, hp, rfl⟩, _⟩; exact ⟨p, hp, rfl⟩
  ·rintro ⟨p, hp, rfl⟩; exact ⟨⟨p, hp, rfl⟩, rfl⟩
 unfold distV
 rw [← pos_map (D := D) fun p hp => h.at_ p hp _]
 exact (hperm.filter _).length_eq
set_option maxHeartbeats 4000000 in
set_option maxRecDepth 100000 in
theorem distinct_any (A : Option Addr) (cap : Nat) (L : List CX) (w : World) (hL : Arr w cenc 6 A L) (hs : ∀ x ∈ L, Arr w itenc 6 x.A x.its) (hf : ∀ x ∈ flatC L, (itV x).ok ∧ I64 x.c)
  (hsum : (flatC L).length ≤ 100000000000000) (hlen : L.length ≤ 100000000000000) :
  Calls Tryz.prog 149 #[.slice A L.length cap] w fun e w' => e = .returned (.int .i64 (distV (flatC L) : Nat)) ∧ Below w.heap.size w w' := by
 have hmm := @run_makeMap Tryz.prog
 go_enter Tryz.func149, Tryz.ntmps149
 go_wp2
 go_loopw [14] (fun i wr => ∃ (k : Nat) (D : DataW Unit), k ≤ L.length ∧ i = .int .i64 k ∧ wr.ownsMap Tryz.prog 26 (plainElem Tryz.prog 3) w.heap.size (flatC (L.take k)).length D ∧ Hid (MapS D (sumsV (flatC (L.take k)))) ∧ Below w.heap.size w wr)
  (fun i _ => L.length - (intOf i).toNat)
 case atStart => exact ⟨0, _, Nat.zero_le _, rfl, World.ownsMap_made _ _ _ _, mapS_nil, (Below.refl _ _).alloc (Nat.le_refl _) _⟩
 case round =>
  obtain ⟨k, D, hk, rfl, hown, HM, hb⟩ := hrel
  by_cases hlt : k < L.length
  ·obtain ⟨p, off, x, rfl, _, HX, c0, c1, c2, c3, c4, c5⟩ := arr_cx (Arr.below hL hb) hlt
   have hm := List.mem_of_getElem? HX.out
   have hx := hs x hm
   have hfx : ∀ y ∈ x.its, (itV y).ok ∧ I64 y.c := fun y hy => hf y (flatC_mem hm hy)
   have hle := flatC_le HX.out
   have HF := Lib.hid (flatC_take HX.out)
   obtain ⟨xev, xn, xh, xl, A', cap', l, A2, n2, k2⟩ := x
   clear hm
   simp only at hx hfx hle c0 c1 c2 c3 c4 c5
   have HFx := Lib.hid hfx
   clear hfx
   go_wp2
   go_loopw [22] (fun i wr => ∃ (j : Nat) (D : DataW Unit), j ≤ l.length ∧ i = .int .i64 j ∧ wr.ownsMap Tryz.prog 26 (plainElem Tryz.prog 3) w.heap.size ((flatC (L.take k)).length + j) D ∧ Hid (MapS D (sumsV (flatC (L.take k) ++ l.take j))) ∧ Below w.heap.size w wr)
    (fun i _ => l.length - (intOf i).toNat)
   case atStart =>
    refine ⟨0, D, Nat.zero_le _, rfl, ?_, by simpa using HM, ?_⟩
    ·exact hown.alloc _
    ·exact hb.alloc hb.size _
   case round =>
    clear hown HM hb
    obtain ⟨j, D, hj, rfl, hown, HM, hb⟩ := hrel
    by_cases hlj : j < l.length
    ·obtain ⟨q, off', y, rfl, _, HY, d0, d1, d2, d3, d4, d5⟩ := arr_it (Arr.below hx hb) hlj
     obtain ⟨wv, wc⟩ := HFx.out _ (List.mem_of_getElem? HY.out)
     have hkey := keyOf_v wv
     clear c0 c1 c2 c3 c4 c5
     obtain ⟨yk, yn, ys, ysrc, yq, yc⟩ := y
     simp only at d0 d1 d2 d3 d4 d5 wc
     go_wp2_with fail
     have hown1 := hown.alloc (.cells #[.int .i64 yk, .int .i64 yn, .string ⟨ys.toArray⟩, .string ⟨ysrc.toArray⟩, .int .i64 yq, .int .i64 yc] 51)
     have hb1 := hb.alloc hb.size (.cells #[.int .i64 yk, .int .i64 yn, .string ⟨ys.toArray⟩, .string ⟨ysrc.toArray⟩, .int .i64 yq, .int .i64 yc] 51)
     obtain ⟨W, hW⟩ : ∃ W, wr.alloc (.cells #[.int .i64 yk, .int .i64 yn, .string ⟨ys.toArray⟩, .string ⟨ysrc.toArray⟩, .int .i64 yq, .int .i64 yc] 51) = W := ⟨_, rfl⟩
     have r0 : ∀ i v, (#[Value.int .i64 yk, .int .i64 yn, .string ⟨ys.toArray⟩, .string ⟨ysrc.toArray⟩, .int .i64 yq, .int .i64 yc] : Array Value)[i]? = some v → W.cell? ⟨wr.heap.size, i, none⟩ = some v := fun i v hv => by
      rw [← hW]; simp only [World.cell?_alloc_new]; exact hv
     have f0 : W.cell? ⟨wr.heap.size, 0, none⟩ = some (.int .i64 yk) := r0 0 _ rfl
     have f1 : W.cell? ⟨wr.heap.size, 1, none⟩ = some (.int .i64 yn) := r0 1 _ rfl
     have f2 : W.cell? ⟨wr.heap.size, 2, none⟩ = some (.string ⟨ys.toArray⟩) := r0 2 _ rfl
     have f5 : W.cell? ⟨wr.heap.size, 5, none⟩ = some (.int .i64 yc) := r0 5 _ rfl
     rw [hW] at hown1 hb1 ⊢
     have hown2 : (W.drew).ownsMap Tryz.prog 26 (plainElem Tryz.prog 3) w.heap.size ((flatC (L.take k)).length + j) D := hown1
     obtain ⟨v0, st, w1, r7, ⟨c, r3, r3', hat, hwc⟩, hoth, hst⟩ := own_entry hown2 klaw Tryz.underlying181 Tryz.underlying3 (fun u => zero3 u) (by unfold maxLen; omega) HM.out.isMap hkey
     obtain ⟨w2, r9, hown3, hgrow⟩ := hst (.int .i64 (wrap64 (c + yc))) _ [] (plainElem_int Tryz.underlying3 (wrap64_wf _))
     have HM3 : Hid (MapS (D.put (itV ⟨yk, yn, ys, ysrc, yq, yc⟩).lit (i64 (wrap64 (c + yc)))) (sumsV (flatC (L.take k) ++ l.take (j + 1)))) := by
      show MapS _ _
      rw [take_snoc HY.out, ← List.append_assoc, sums_snoc]
      exact mapS_put HM.out wv hat
     have HB3 : Below w.heap.size w w2 := Below.grown (w := W.drew) (show Below w.heap.size w W.drew from ⟨hb1.os, hb1.tape, hb1.output, hb1.size, hb1.block⟩) hgrow hb1.size (fun g hg => by cases hg; exact Nat.le_refl _)
     simp only [VI.val, itV] at r3 r3' r7 r9
     simp only [goInt] at r7 r9
     rw [← show IntKind.i64.wrap (c + yc) = wrap64 (c + yc) by rw [IntKind.wrap_i64]; unfold wrap64; rfl] at r9
     have f0' : W.drew.cell? ⟨wr.heap.size, 0, none⟩ = some (.int .i64 yk) := f0
     have f1' : W.drew.cell? ⟨wr.heap.size, 1, none⟩ = some (.int .i64 yn) := f1
     have f2' : W.drew.cell? ⟨wr.heap.size, 2, none⟩ = some (.string ⟨ys.toArray⟩) := f2
     have f5' : W.drew.cell? ⟨wr.heap.size, 5, none⟩ = some (.int .i64 yc) := f5
     clear hat hwc hst hgrow hown1 hown2 hb1 hoth hown hb HM f0 f1 f2 f5 r0 hkey
     refine wp_region_any (by kernel_rfl) ?_
     try (change wpAny _ _ _ _ _ _ _ (World.drew _))
     refine wpAny_take (i := 0) (v := ?_) rfl (by kernel_rfl) (by kernel_rfl) (by kernel_rfl) (fun _ _ _ h => h) (Or.inl ⟨by rfl, ?_⟩) ?_
     rotate_left
     ·intro w; go_simp; try with_reducible rfl
     conv => arg 7; simp [Act.put]
     refine wpAny_take (i := 1) (v := ?_) rfl (by kernel_rfl) (by kernel_rfl) (by kernel_rfl) (fun _ _ _ h => h) (Or.inl ⟨by rfl, ?_⟩) ?_
     rotate_left
     ·intro w; go_simp; try with_reducible rfl
     conv => arg 7; simp [Act.put]
     refine wpAny_take (i := 4) (v := ?_) rfl (by kernel_rfl) (by kernel_rfl) (by kernel_rfl) (fun _ _ _ h => h) (Or.inl ⟨by rfl, ?_⟩) ?_
     rotate_left
     ·intro w; go_simp; try with_reducible rfl
     conv => arg 7; simp [Act.put]
     refine wpAny_ready (rs := [2, 5]) (by kernel_rfl) (by simp) ?_
     refine AllReady.cons rfl (fun K hK => ?_) (AllReady.cons rfl (fun K hK => ?_) AllReady.nil)
     ·go_simp
      refine hK _ _ ?_
      clear hK K
      try (conv => arg 7; simp [Act.put])
      refine wpAny_ready (rs := [3, 5]) (by kernel_rfl) (by simp) ?_
      refine AllReady.cons rfl (fun K hK => ?_) (AllReady.cons rfl (fun K hK => ?_) AllReady.nil)
      ·go_simp
       refine hK _ _ ?_
       clear hK K
       try (conv => arg 7; simp [Act.put])
       refine wpAny_ready (rs := [5]) (by kernel_rfl) (by simp) ?_
       refine AllReady.cons rfl (fun K hK => ?_) AllReady.nil
       go_simp
       refine hK _ _ ?_
       clear hK K
       try (conv => arg 7; simp [Act.put])
       refine wpAny_take (i := 6) (v := ?_) rfl (by kernel_rfl) (by kernel_rfl) (by kernel_rfl) (fun _ _ _ h => h) (Or.inl ⟨by rfl, ?_⟩) ?_
       rotate_left
       ·intro w; go_simp; try with_reducible rfl
       conv => arg 7; simp [Act.put]
       refine wpAny_ready (rs := [7]) (by kernel_rfl) (by simp) ?_
       refine AllReady.cons rfl (fun K hK => ?_) AllReady.nil
       go_simp
       refine hK _ _ ?_
       clear hK K
       try (conv => arg 7; simp [Act.put])
       refine wpAny_take (i := 8) (v := ?_) rfl (by kernel_rfl) (by kernel_rfl) (by kernel_rfl) (fun _ _ _ h => h) (Or.inl ⟨by rfl, ?_⟩) ?_
       rotate_left
       ·intro w; go_simp; try with_reducible rfl
       conv => arg 7; simp [Act.put]
       refine wpAny_ready (rs := [9]) (by kernel_rfl) (by simp) ?_
       refine AllReady.cons rfl (fun K hK => ?_) AllReady.nil
       go_simp
       refine hK _ _ ?_
       clear hK K
       try (conv => arg 7; simp [Act.put])
       refine wpAny_done (by kernel_rfl) ?_ _
       go_wp2
       go_roundw
       case rel => exact ⟨j + 1, _, by omega, by go_num, hown3, HM3, HB3⟩
       case measure => simp [intOf]; omega
      ·go_simp
       refine hK _ _ ?_
       clear hK K
       try (conv => arg 7; simp [Act.put])
       refine wpAny_ready (rs := [3, 7]) (by kernel_rfl) (by simp) ?_
       refine AllReady.cons rfl (fun K hK => ?_) (AllReady.cons rfl (fun K hK => ?_) AllReady.nil)
       ·go_simp
        refine hK _ _ ?_
        clear hK K
        try (conv => arg 7; simp [Act.put])
        refine wpAny_take (i := 6) (v := ?_) rfl (by kernel_rfl) (by kernel_rfl) (by kernel_rfl) (fun _ _ _ h => h) (Or.inl ⟨by rfl, ?_⟩) ?_
        rotate_left
        ·intro w; go_simp; try with_reducible rfl
        conv => arg 7; simp [Act.put]
        refine wpAny_ready (rs := [7]) (by kernel_rfl) (by simp) ?_
        refine AllReady.cons rfl (fun K hK => ?_) AllReady.nil
        go_simp
        refine hK _ _ ?_
        clear hK K
        try (conv => arg 7; simp [Act.put])
        refine wpAny_take (i := 8) (v := ?_) rfl (by kernel_rfl) (by kernel_rfl) (by kernel_rfl) (fun _ _ _ h => h) (Or.inl ⟨by rfl, ?_⟩) ?_
        rotate_left
        ·intro w; go_simp; try with_reducible rfl
        conv => arg 7; simp [Act.put]
        refine wpAny_ready (rs := [9]) (by kernel_rfl) (by simp) ?_
        refine AllReady.cons rfl (fun K hK => ?_) AllReady.nil
        go_simp
        refine hK _ _ ?_
        clear hK K
        try (conv => arg 7; simp [Act.put])
        refine wpAny_done (by kernel_rfl) ?_ _
        go_wp2
        go_roundw
        case rel => exact ⟨j + 1, _, by omega, by go_num, hown3, HM3, HB3⟩
        case measure => simp [intOf]; omega
       ·go_simp
        refine hK _ _ ?_
        clear hK K
        try (conv => arg 7; simp [Act.put])
        refine wpAny_take (i := 8) (v := ?_) rfl (by kernel_rfl) (by kernel_rfl) (by kernel_rfl) (fun _ _ _ h => h) (Or.inl ⟨by rfl, ?_⟩) ?_
        rotate_left
        ·intro w; go_simp; try with_reducible rfl
        conv => arg 7; simp [Act.put]
        refine wpAny_ready (rs := [3]) (by kernel_rfl) (by simp) ?_
        refine AllReady.cons rfl (fun K hK => ?_) AllReady.nil
        go_simp
        refine hK _ _ ?_
        clear hK K
        try (conv => arg 7; simp [Act.put])
        refine wpAny_take (i := 6) (v := ?_) rfl (by kernel_rfl) (by kernel_rfl) (by kernel_rfl) (fun _ _ _ h => h) (Or.inl ⟨by rfl, ?_⟩) ?_
        rotate_left
        ·intro w; go_simp; try with_reducible rfl
        conv => arg 7; simp [Act.put]
        refine wpAny_ready (rs := [9]) (by kernel_rfl) (by simp) ?_
        refine AllReady.cons rfl (fun K hK => ?_) AllReady.nil
        go_simp
        refine hK _ _ ?_
        clear hK K
        try (conv => arg 7; simp [Act.put])
        refine wpAny_done (by kernel_rfl) ?_ _
        go_wp2
        go_roundw
        case rel => exact ⟨j + 1, _, by omega, by go_num, hown3, HM3, HB3⟩
        case measure => simp [intOf]; omega
     ·go_simp
      refine hK _ _ ?_
      clear hK K
      try (conv => arg 7; simp [Act.put])
      refine wpAny_ready (rs := [2]) (by kernel_rfl) (by simp) ?_
      refine AllReady.cons rfl (fun K hK => ?_) AllReady.nil
      go_simp
      refine hK _ _ ?_
      clear hK K
      try (conv => arg 7; simp [Act.put])
      refine wpAny_ready (rs := [3, 7]) (by kernel_rfl) (by simp) ?_
      refine AllReady.cons rfl (fun K hK => ?_) (AllReady.cons rfl (fun K hK => ?_) AllReady.nil)
      ·go_simp
       refine hK _ _ ?_
       clear hK K
       try (conv => arg 7; simp [Act.put])
       refine wpAny_take (i := 6) (v := ?_) rfl (by kernel_rfl) (by kernel_rfl) (by kernel_rfl) (fun _ _ _ h => h) (Or.inl ⟨by rfl, ?_⟩) ?_
       rotate_left
       ·intro w; go_simp; try with_reducible rfl
       conv => arg 7; simp [Act.put]
       refine wpAny_ready (rs := [7]) (by kernel_rfl) (by simp) ?_
       refine AllReady.cons rfl (fun K hK => ?_) AllReady.nil
       go_simp
       refine hK _ _ ?_
       clear hK K
       try (conv => arg 7; simp [Act.put])
       refine wpAny_take (i := 8) (v := ?_) rfl (by kernel_rfl) (by kernel_rfl) (by kernel_rfl) (fun _ _ _ h => h) (Or.inl ⟨by rfl, ?_⟩) ?_
       rotate_left
       ·intro w; go_simp; try with_reducible rfl
       conv => arg 7; simp [Act.put]
       refine wpAny_ready (rs := [9]) (by kernel_rfl) (by simp) ?_
       refine AllReady.cons rfl (fun K hK => ?_) AllReady.nil
       go_simp
       refine hK _ _ ?_
       clear hK K
       try (conv => arg 7; simp [Act.put])
       refine wpAny_done (by kernel_rfl) ?_ _
       go_wp2
       go_roundw
       case rel => exact ⟨j + 1, _, by omega, by go_num, hown3, HM3, HB3⟩
       case measure => simp [intOf]; omega
      ·go_simp
       refine hK _ _ ?_
       clear hK K
       try (conv => arg 7; simp [Act.put])
       refine wpAny_take (i := 8) (v := ?_) rfl (by kernel_rfl) (by kernel_rfl) (by kernel_rfl) (fun _ _ _ h => h) (Or.inl ⟨by rfl, ?_⟩) ?_
       rotate_left
       ·intro w; go_simp; try with_reducible rfl
       conv => arg 7; simp [Act.put]
       refine wpAny_ready (rs := [3]) (by kernel_rfl) (by simp) ?_
       refine AllReady.cons rfl (fun K hK => ?_) AllReady.nil
       go_simp
       refine hK _ _ ?_
       clear hK K
       try (conv => arg 7; simp [Act.put])
       refine wpAny_take (i := 6) (v := ?_) rfl (by kernel_rfl) (by kernel_rfl) (by kernel_rfl) (fun _ _ _ h => h) (Or.inl ⟨by rfl, ?_⟩) ?_
       rotate_left
       ·intro w; go_simp; try with_reducible rfl
       conv => arg 7; simp [Act.put]
       refine wpAny_ready (rs := [9]) (by kernel_rfl) (by simp) ?_
       refine AllReady.cons rfl (fun K hK => ?_) AllReady.nil
       go_simp
       refine hK _ _ ?_
       clear hK K
       try (conv => arg 7; simp [Act.put])
       refine wpAny_done (by kernel_rfl) ?_ _
       go_wp2
       go_roundw
       case rel => exact ⟨j + 1, _, by omega, by go_num, hown3, HM3, HB3⟩
       case measure => simp [intOf]; omega
    ·obtain rfl : j = l.length := by omega
     have HM2 : Hid (MapS D (sumsV (flatC (L.take (k + 1))))) := by
      show MapS _ _
      rw [HF.out]; simpa using HM.out
     go_wp2
     go_roundw
     case rel => exact ⟨k + 1, D, by omega, by go_num, by rw [HF.out, List.length_append]; exact hown, HM2, hb⟩
     case measure => simp [intOf]; omega
  ·obtain rfl : k = L.length := by omega
   rw [List.take_length] at hown HM
   have hbl := hown.lt
   have hszn := size_le hown
   clear hL hs hf
   go_wp2_with (first
    | (at_range; refine wpList_range_own _ rfl _ 181 rfl 26 3 keyed29 Tryz.underlying181 _ w.heap.size _ _ rfl hown ?_; intro w0 hrg0 hg0 hs0)
    | go_in)
   go_frame
   obtain ⟨R, hR⟩ : ∃ R, wr.heap.size = R := ⟨_, rfl⟩
   have hRs : w.heap.size ≤ R := by rw [← hR]; exact hb.size
   have hb0 := hb.grown hg0 hb.size (fun j hj => by cases hj)
   rw [hR] at hrg0 ⊢
   clear hb hR
   go_loopw [8] (fun v w2 => ∃ (left : Lit → Bool) (cnt : Nat) (ss : List Lit), w2.ranges Tryz.prog 26 (plainElem Tryz.prog 3) w.heap.size R (flatC L).length D left cnt ∧ ss.length + cnt ≤ Maps.size D ∧ v = .int .i64 (posL D ss : Nat) ∧ Hid (CollL D left ss) ∧ Below w.heap.size w w2)
    (fun _ w2 => w2.rangeLeft w.heap.size R)
   case atStart => exact ⟨_, _, [], hrg0, by simp, rfl, CollL.start D, hb0⟩
   case round =>
    obtain ⟨left, cnt, ss, hrg, hcs, rfl, HC, hnx⟩ := hrel
    have hpl : posL D ss ≤ ss.length := List.length_filter_le _ _
    go_wp2_with (first
     | (at_next; refine wpList_next_ranges _ rfl _ rfl 26 keyed29 (plainElem Tryz.prog 3) (fun x : Value => x) (Value.int .i64) (fun key kl _ => ⟨key, rfl⟩) (fun v y h => by obtain ⟨c, rfl, _⟩ := plainElem_int_inv Tryz.underlying3 h; exact ⟨c, rfl⟩) w.heap.size R _ _ _ _ rfl hrg ?_ ?_)
     | go_in)
    ·intro hc0 hl0
     have he := pos_done HM.out HC.out hl0
     go_wp2
     go_ret
     exact ⟨by rw [he]; rfl, hnx⟩
    ·intro x c kl y ps w2 cnt2 hkey hlk hv hat hrg2 hlt hg2 hs2 hen
     have hkl : WideAt.IsKeyLit kl := keyed29.key hkey
     have hy : y = i64 c := by
      obtain ⟨c', e1, e2, _⟩ := plainElem_int_inv Tryz.underlying3 hv
      injection e1 with _ e1
      rw [(Prod.mk.inj e2).1, e1]
     have HC2 : Hid (CollL D (fun z => left z && !z.sameKey kl) (ss ++ [kl])) := HC.out.step hkl hlk hat
     have hps : posL D (ss ++ [kl]) = posL D ss + (if 0 < c then 1 else 0) := pos_snoc (by rw [hat, hy])
     have HP := Lib.hid hps
     clear hkey hlk hv hat hkl hy hps HC hs2
     by_cases hc : 0 < c
     ·go_wp2
      go_roundw
      case rel => exact ⟨_, cnt2, ss ++ [kl], hrg2, by simp; omega, by rw [HP.out, if_pos hc]; go_num, HC2, hnx.grown hg2 hnx.size (fun j hj => by cases hj; exact hRs)⟩
      case measure => rw [hrg2.left_eq, hrg.left_eq]; exact hlt
     ·go_wp2
      go_roundw
      case rel => exact ⟨_, cnt2, ss ++ [kl], hrg2, by simp; omega, by rw [HP.out, if_neg hc]; rfl, HC2, hnx.grown hg2 hnx.size (fun j hj => by cases hj; exact hRs)⟩
      case measure => rw [hrg2.left_eq, hrg.left_eq]; exact hlt
end Go.Proofs.D17
namespace Go.Abs
open Go.Proofs Go.RowKit
def a113 : Anns := ⟨fun k => if k = 3 then some { α := Unit, slots := [], nb := 0, vals := fun _ => [], sS := fun _ => ⟨[], []⟩, I := fun _ => True, μ := fun _ => 0, unroll := 5 } else none, nA⟩
theorem w113 (a b c : Int) (r : AV) : (pureW PA GA XE (tbl []) (itbl []) a113 [] 55 [.sl 1 [.int .i64 a, .int .i64 b, .int .i64 c] .full] (r, [])) =
((true = true → ((0 : Int) ≤ (0 : Int) ∧ (0 : Int) < (↑(3 : Nat) : Int)) ∧ ∃ (n : Int), some (AV.int IntKind.i64 a) = some (AV.int IntKind.i64 n) ∧ ((n != (0 : Int)) = true → RetIs (AV.int IntKind.i64 n) [] (r, [])) ∧ ((n != (0 : Int)) = false → (true = true → ((0 : Int) ≤ (1 : Int) ∧ (1 : Int) < (↑(3 : Nat) : Int)) ∧ ∃ (n : Int), some (AV.int IntKind.i64 b) = some (AV.int IntKind.i64 n) ∧ ((n != (0 : Int)) = true → RetIs (AV.int IntKind.i64 n) [] (r, [])) ∧ ((n != (0 : Int)) = false → (true = true → ((0 : Int) ≤ (2 : Int) ∧ (2 : Int) < (↑(3 : Nat) : Int)) ∧ ∃ (n : Int), some (AV.int IntKind.i64 c) = some (AV.int IntKind.i64 n) ∧ ((n != (0 : Int)) = true → RetIs (AV.int IntKind.i64 n) [] (r, [])) ∧ ((n != (0 : Int)) = false → (false = true → ((0 : Int) ≤ (3 : Int) ∧ (3 : Int) < (↑(3 : Nat) : Int)) ∧ ∃ (n : Int), none = some (AV.int IntKind.i64 n) ∧ ((n != (0 : Int)) = true → RetIs (AV.int IntKind.i64 n) [] (r, [])) ∧ ((n != (0 : Int)) = false → (false = true → ((0 : Int) ≤ (4 : Int) ∧ (4 : Int) < (↑(3 : Nat) : Int)) ∧ ∃ (n : Int), none = some (AV.int IntKind.i64 n) ∧ ((n != (0 : Int)) = true → RetIs (AV.int IntKind.i64 n) [] (r, [])) ∧ ((n != (0 : Int)) = false → False)) ∧ (false = false → RetIs (AV.int IntKind.i64 0) [] (r, [])))) ∧ (false = false → RetIs (AV.int IntKind.i64 0) [] (r, [])))) ∧ (true = false → RetIs (AV.int IntKind.i64 0) [] (r, [])))) ∧ (true = false → RetIs (AV.int IntKind.i64 0) [] (r, [])))) ∧ (true = false → RetIs (AV.int IntKind.i64 0) [] (r, []))) := by kernel_rfl
theorem w105 (k n k' n' : Int) (s s' : List UInt8) (r : AV) : (pureW PA GA XE (tbl [(55, s113), (56, s114), (57, s115)]) (itbl []) nAn [] 35 [.agg [.int .i64 k, .int .i64 n, .str s], .agg [.int .i64 k', .int .i64 n', .str s']] (r, [])) =
(∃ (n_1 : Int), CallIs (some (AV.int IntKind.i64 (Lib.compareInt k k'), [])) (AV.int IntKind.i64 n_1) [] ∧ ∃ (n_2 : Int), CallIs (some (AV.int IntKind.i64 (Lib.compareInt n n'), [])) (AV.int IntKind.i64 n_2) [] ∧ ∃ (n : Int), CallIs (some (AV.int IntKind.i64 (Lib.compareBytes s s'), [])) (AV.int IntKind.i64 n) [] ∧ ∃ (n_3 : Int), CallIs (some (AV.int IntKind.i64 (or3 n_1 n_2 n), [])) (AV.int IntKind.i64 n_3) [] ∧ RetIs (AV.int IntKind.i64 n_3) [] (r, [])) := by kernel_rfl
theorem w111 (x y : ItI) (r : AV) : (pureW PA GA XE (tbl [(55, s113), (56, s114), (57, s115), (35, s105)]) (itbl []) nAn [] 155 [.agg (itC x), .agg (itC y)] (r, [])) =
(∃ (n : Int), CallIs (some (AV.int IntKind.i64 (Lib.compareBytes x.src y.src), [])) (AV.int IntKind.i64 n) [] ∧ ∃ (n_1 : Int), CallIs (some (AV.int IntKind.i64 (Lib.compareInt x.q y.q), [])) (AV.int IntKind.i64 n_1) [] ∧ ∃ (n_2 : Int), CallIs (some (AV.int IntKind.i64 (cmpV x.k x.n x.s y.k y.n y.s), [])) (AV.int IntKind.i64 n_2) [] ∧ ∃ (n_3 : Int), CallIs (some (AV.int IntKind.i64 (or3 n n_1 n_2), [])) (AV.int IntKind.i64 n_3) [] ∧ RetIs (AV.int IntKind.i64 n_3) [] (r, [])) := by kernel_rfl
theorem w106 (f : Bool) (x : ItI) (r : AV) : (pureW PA GA XE (tbl []) (itbl []) nAn [] 150 [.agg [.bool f], .agg (itC x)] (r, [])) =
((f = true → RetIs (AV.agg [.int .i64 x.k, .int .i64 x.n, .str x.s, .str x.src, .int .i64 x.q, .int .i64 0]) [] (r, [])) ∧ (f = false → RetIs (AV.agg [.int .i64 x.k, .int .i64 x.n, .str x.s, .str [], .int .i64 0, .int .i64 0]) [] (r, []))) := by kernel_rfl
theorem w108 (f : Bool) (y x m : ItI) (es : List AV) (r : AV) : (openW PA GA XE (tbl [(150, s106)]) (itbl []) nAn [] 152 [.agg (itC y), .ptr 0 0, .ptr 2 0] (S4 f x m es) (r, S4 f x m es)) =
(∃ (n : Int) (n_1 : Int) (s : List UInt8) (s_1 : List UInt8) (n_2 : Int) (n_3 : Int), CallIs (some (AV.agg [.int .i64 y.k, .int .i64 y.n, .str y.s, .str (if f = true then y.src else []), .int .i64 (if f = true then y.q else (0 : Int)), .int .i64 0], [])) (AV.agg [.int .i64 n, .int .i64 n_1, .str s, .str s_1, .int .i64 n_2, .int .i64 n_3]) [] ∧ ((n == m.k && (n_1 == m.n && (s == m.s && true)) && (s_1 == m.src && (n_2 == m.q && true) && (n_3 == m.c && true))) = true → RetOpen (AV.p2 (4 : Nat) (AV.bool true) && boxesOk (4 : Nat) [some [.tup [.int .i64 106, .agg [.bool f]]], some (itC x), some (itC m), some [.tup [.bool true, .sl 6 es .no]]]) (AV.bool true) { boxes := [some [.tup [.int .i64 106, .agg [.bool f]]], some (itC x), some (itC m), some [.tup [.bool true, .sl 6 es .no]]], live := [] } (r, { boxes := [some [.tup [.int .i64 106, .agg [.bool f]]], some (itC x), some (itC m), some [.tup [.bool true, .sl 6 es .no]]], live := [] })) ∧ ((n == m.k && (n_1 == m.n && (s == m.s && true)) && (s_1 == m.src && (n_2 == m.q && true) && (n_3 == m.c && true))) = false → RetOpen (AV.p2 (4 : Nat) (AV.bool false) && boxesOk (4 : Nat) [some [.tup [.int .i64 106, .agg [.bool f]]], some (itC x), some (itC m), some [.tup [.bool true, .sl 6 es .no]]]) (AV.bool false) { boxes := [some [.tup [.int .i64 106, .agg [.bool f]]], some (itC x), some (itC m), some [.tup [.bool true, .sl 6 es .no]]], live := [] } (r, { boxes := [some [.tup [.int .i64 106, .agg [.bool f]]], some (itC x), some (itC m), some [.tup [.bool true, .sl 6 es .no]]], live := [] }))) := by kernel_rfl
theorem w110 (f : Bool) (y x m : ItI) (es : List AV) (r : AV) : (openW PA GA XE (tbl [(150, s106), (155, s111)]) (itbl []) nAn [] 154 [.agg (itC y), .ptr 0 0, .ptr 2 0] (S4 f x m es) (r, S4 f x m es)) =
(∃ (n : Int) (n_1 : Int) (s : List UInt8) (s_1 : List UInt8) (n_2 : Int) (n_3 : Int), CallIs (some (AV.agg [.int .i64 y.k, .int .i64 y.n, .str y.s, .str (if f = true then y.src else []), .int .i64 (if f = true then y.q else (0 : Int)), .int .i64 0], [])) (AV.agg [.int .i64 n, .int .i64 n_1, .str s, .str s_1, .int .i64 n_2, .int .i64 n_3]) [] ∧ ∃ (n_4 : Int), CallIs (some (AV.int IntKind.i64 (cmpI { k := n, n := n_1, s := s, src := s_1, q := n_2, c := n_3 } { k := m.k, n := m.n, s := m.s, src := m.src, q := m.q, c := m.c }), [])) (AV.int IntKind.i64 n_4) [] ∧ (decide (n_4 > (0 : Int)) = true → RetOpen (AV.p2 (4 : Nat) (AV.bool true) && boxesOk (4 : Nat) [some [.tup [.int .i64 106, .agg [.bool f]]], some (itC x), some (itC m), some [.tup [.bool true, .sl 6 es .no]]]) (AV.bool true) { boxes := [some [.tup [.int .i64 106, .agg [.bool f]]], some (itC x), some (itC m), some [.tup [.bool true, .sl 6 es .no]]], live := [] } (r, { boxes := [some [.tup [.int .i64 106, .agg [.bool f]]], some (itC x), some (itC m), some [.tup [.bool true, .sl 6 es .no]]], live := [] })) ∧ (decide (n_4 > (0 : Int)) = false → RetOpen (AV.p2 (4 : Nat) (AV.bool false) && boxesOk (4 : Nat) [some [.tup [.int .i64 106, .agg [.bool f]]], some (itC x), some (itC m), some [.tup [.bool true, .sl 6 es .no]]]) (AV.bool false) { boxes := [some [.tup [.int .i64 106, .agg [.bool f]]], some (itC x), some (itC m), some [.tup [.bool true, .sl 6 es .no]]], live := [] } (r, { boxes := [some [.tup [.int .i64 106, .agg [.bool f]]], some (itC x), some (itC m), some [.tup [.bool true, .sl 6 es .no]]], live := [] }))) := by kernel_rfl
theorem w107 (f : Bool) (x m : ItI) (l : List ItI) (r : AV) : (openW PA GA XE (tbl []) (itbl [(152, s108)]) (a107 f x m 152 l (fun y => decide (markI f y = m))) [] 151 [.ms 3 6 l.length, .fn 152 [.ptr 0 0, .ptr 2 0]] (S4 f x m (itsL l)) (r, S4 f x m (itsL l))) =
((∃ (y : Nat), ValsAre [.ms 3 6 l.length, AV.fn 152 [.ptr 0 0, .ptr 2 0], .int .i64 (↑l.length : Int), .int .i64 0] [.ms 3 6 l.length, AV.fn 152 [.ptr 0 0, .ptr 2 0], .int .i64 (↑l.length : Int), .int .i64 (↑y : Int)] ∧ StIs { boxes := [some [.tup [.int .i64 106, .agg [.bool f]]], some (itC x), some (itC m), some [.tup [.bool true, .sl 6 (itsL l) .no]]], live := [] } { boxes := [some [.tup [.int .i64 106, .agg [.bool f]]], some (itC x), some (itC m), some [.tup [.bool true, .sl 6 (itsL l) .no]]], live := [] } ∧ (y ≤ l.length ∧ ((List.take y l).all fun (y : ItI) => !(fun (y : ItI) => decide (markI f y = m)) y) = true) ∧ True) ∧ ∀ (x_1 : Nat), x_1 ≤ l.length ∧ ((List.take x_1 l).all fun (y : ItI) => !(fun (y : ItI) => decide (markI f y = m)) y) = true → (decide ((↑x_1 : Int) < (↑l.length : Int)) = true → (0 ≤ (↑x_1 : Int) ∧ (↑x_1 : Int) < (↑l.length : Int)) ∧ ∃ (n : Int) (n_1 : Int) (s : List UInt8) (s_1 : List UInt8) (n_2 : Int) (n_3 : Int), takeAt PA 51 (itsL l) (↑x_1 : Int).toNat 0 = some (AV.agg [.int .i64 n, .int .i64 n_1, .str s, .str s_1, .int .i64 n_2, .int .i64 n_3]) ∧ True ∧ (decide (markI f { k := n, n := n_1, s := s, src := s_1, q := n_2, c := n_3 } = { k := m.k, n := m.n, s := m.s, src := m.src, q := m.q, c := m.c }) = true → RetOpen (AV.p2 (4 : Nat) (AV.int IntKind.i64 (↑x_1 : Int)) && boxesOk (4 : Nat) [some [.tup [.int .i64 106, .agg [.bool f]]], some (itC x), some (itC m), some [.tup [.bool true, .sl 6 (itsL l) .no]]]) (AV.int IntKind.i64 (↑x_1 : Int)) { boxes := [some [.tup [.int .i64 106, .agg [.bool f]]], some (itC x), some (itC m), some [.tup [.bool true, .sl 6 (itsL l) .no]]], live := [] }
 (r, { boxes := [some [.tup [.int .i64 106, .agg [.bool f]]], some (itC x), some (itC m), some [.tup [.bool true, .sl 6 (itsL l) .no]]], live := [] })) ∧ (decide (markI f { k := n, n := n_1, s := s, src := s_1, q := n_2, c := n_3 } = { k := m.k, n := m.n, s := m.s, src := m.src, q := m.q, c := m.c }) = false → ∃ (y : Nat), ValsAre [.ms 3 6 l.length, AV.fn 152 [.ptr 0 0, .ptr 2 0], .int .i64 (↑l.length : Int), .int .i64 (IntKind.i64.wrap ((↑x_1 : Int) + (1 : Int)))] [.ms 3 6 l.length, AV.fn 152 [.ptr 0 0, .ptr 2 0], .int .i64 (↑l.length : Int), .int .i64 (↑y : Int)] ∧ StIs { boxes := [some [.tup [.int .i64 106, .agg [.bool f]]], some (itC x), some (itC m), some [.tup [.bool true, .sl 6 (itsL l) .no]]], live := [] } { boxes := [some [.tup [.int .i64 106, .agg [.bool f]]], some (itC x), some (itC m), some [.tup [.bool true, .sl 6 (itsL l) .no]]], live := [] } ∧ (y ≤ l.length ∧ ((List.take y l).all fun (y : ItI) => !(fun (y : ItI) => decide (markI f y = m)) y) = true) ∧ l.length - y < l.length - x_1)) ∧ (decide ((↑x_1 : Int) < (↑l.length : Int)) = false → RetOpen (AV.p2 (4 : Nat) (AV.int IntKind.i64 (-1 : Int)) && boxesOk (4 : Nat) [some [.tup [.int .i64 106, .agg [.bool f]]], some (itC x), some (itC m), some [.tup [.bool true, .sl 6 (itsL l) .no]]]) (AV.int IntKind.i64 (-1 : Int)) { boxes := [some [.tup [.int .i64 106, .agg [.bool f]]], some (itC x), some (itC m), some [.tup [.bool true, .sl 6 (itsL l) .no]]], live := [] } (r, { boxes := [some [.tup [.int .i64 106, .agg [.bool f]]], some (itC x), some (itC m), some [.tup [.bool true, .sl 6 (itsL l) .no]]], live := [] }))) := by kernel_rfl
theorem w107b (f : Bool) (x m : ItI) (l : List ItI) (r : AV) : (openW PA GA XE (tbl []) (itbl [(154, s110)]) (a107 f x m 154 l (fun y => decide (0 < cmpI (markI f y) m))) [] 151 [.ms 3 6 l.length, .fn 154 [.ptr 0 0, .ptr 2 0]] (S4 f x m (itsL l)) (r, S4 f x m (itsL l))) =
((∃ (y : Nat), ValsAre [.ms 3 6 l.length, AV.fn 154 [.ptr 0 0, .ptr 2 0], .int .i64 (↑l.length : Int), .int .i64 0] [.ms 3 6 l.length, AV.fn 154 [.ptr 0 0, .ptr 2 0], .int .i64 (↑l.length : Int), .int .i64 (↑y : Int)] ∧ StIs { boxes := [some [.tup [.int .i64 106, .agg [.bool f]]], some (itC x), some (itC m), some [.tup [.bool true, .sl 6 (itsL l) .no]]], live := [] } { boxes := [some [.tup [.int .i64 106, .agg [.bool f]]], some (itC x), some (itC m), some [.tup [.bool true, .sl 6 (itsL l) .no]]], live := [] } ∧ (y ≤ l.length ∧ ((List.take y l).all fun (y : ItI) => !(fun (y : ItI) => decide ((0 : Int) < cmpI (markI f y) m)) y) = true) ∧ True) ∧ ∀ (x_1 : Nat), x_1 ≤ l.length ∧ ((List.take x_1 l).all fun (y : ItI) => !(fun (y : ItI) => decide ((0 : Int) < cmpI (markI f y) m)) y) = true → (decide ((↑x_1 : Int) < (↑l.length : Int)) = true → (0 ≤ (↑x_1 : Int) ∧ (↑x_1 : Int) < (↑l.length : Int)) ∧ ∃ (n : Int) (n_1 : Int) (s : List UInt8) (s_1 : List UInt8) (n_2 : Int) (n_3 : Int), takeAt PA 51 (itsL l) (↑x_1 : Int).toNat 0 = some (AV.agg [.int .i64 n, .int .i64 n_1, .str s, .str s_1, .int .i64 n_2, .int .i64 n_3]) ∧ True ∧ (decide ((0 : Int) < cmpI (markI f { k := n, n := n_1, s := s, src := s_1, q := n_2, c := n_3 }) { k := m.k, n := m.n, s := m.s, src := m.src, q := m.q, c := m.c }) = true → RetOpen (AV.p2 (4 : Nat) (AV.int IntKind.i64 (↑x_1 : Int)) && boxesOk (4 : Nat) [some [.tup [.int .i64 106, .agg [.bool f]]], some (itC x), some (itC m), some [.tup [.bool true, .sl 6 (itsL l) .no]]])
 (AV.int IntKind.i64 (↑x_1 : Int)) { boxes := [some [.tup [.int .i64 106, .agg [.bool f]]], some (itC x), some (itC m), some [.tup [.bool true, .sl 6 (itsL l) .no]]], live := [] } (r, { boxes := [some [.tup [.int .i64 106, .agg [.bool f]]], some (itC x), some (itC m), some [.tup [.bool true, .sl 6 (itsL l) .no]]], live := [] })) ∧ (decide ((0 : Int) < cmpI (markI f { k := n, n := n_1, s := s, src := s_1, q := n_2, c := n_3 }) { k := m.k, n := m.n, s := m.s, src := m.src, q := m.q, c := m.c }) = false → ∃ (y : Nat), ValsAre [.ms 3 6 l.length, AV.fn 154 [.ptr 0 0, .ptr 2 0], .int .i64 (↑l.length : Int), .int .i64 (IntKind.i64.wrap ((↑x_1 : Int) + (1 : Int)))] [.ms 3 6 l.length, AV.fn 154 [.ptr 0 0, .ptr 2 0], .int .i64 (↑l.length : Int), .int .i64 (↑y : Int)] ∧ StIs { boxes := [some [.tup [.int .i64 106, .agg [.bool f]]], some (itC x), some (itC m), some [.tup [.bool true, .sl 6 (itsL l) .no]]], live := [] } { boxes := [some [.tup [.int .i64 106, .agg [.bool f]]], some (itC x), some (itC m), some [.tup [.bool true, .sl 6 (itsL l) .no]]], live := [] } ∧ (y ≤ l.length ∧ ((List.take y l).all fun (y : ItI) => !(fun (y : ItI) => decide ((0 : Int) < cmpI (markI f y) m)) y) = true) ∧ l.length - y < l.length - x_1)) ∧ (decide ((↑x_1 : Int) < (↑l.length : Int)) = false → RetOpen (AV.p2 (4 : Nat) (AV.int IntKind.i64 (-1 : Int)) && boxesOk (4 : Nat) [some [.tup [.int .i64 106, .agg [.bool f]]], some (itC x), some (itC m), some [.tup [.bool true, .sl 6 (itsL l) .no]]]) (AV.int IntKind.i64 (-1 : Int))
 { boxes := [some [.tup [.int .i64 106, .agg [.bool f]]], some (itC x), some (itC m), some [.tup [.bool true, .sl 6 (itsL l) .no]]], live := [] } (r, { boxes := [some [.tup [.int .i64 106, .agg [.bool f]]], some (itC x), some (itC m), some [.tup [.bool true, .sl 6 (itsL l) .no]]], live := [] }))) := by kernel_rfl
theorem w107e (f : Bool) (x m : ItI) (g : Nat) (r : AV) : (openW PA GA XE (tbl []) (itbl []) (a107e f x m g) [] 151 [.sl 6 [] .full, .fn g [.ptr 0 0, .ptr 2 0]] (S3 f x m) (r, S3 f x m)) =
((∃ (_y : Unit), ValsAre [.sl 6 [] .full, AV.fn g [.ptr 0 0, .ptr 2 0], .int .i64 0, .int .i64 0] [.sl 6 [] .full, AV.fn g [.ptr 0 0, .ptr 2 0], .int .i64 0, .int .i64 0] ∧ StIs { boxes := [some [.tup [.int .i64 106, .agg [.bool f]]], some (itC x), some (itC m)], live := [] } { boxes := [some [.tup [.int .i64 106, .agg [.bool f]]], some (itC x), some (itC m)], live := [] } ∧ True ∧ True) ∧ ∀ (_x_1 : Unit), True → (false = true → ((0 : Int) ≤ (0 : Int) ∧ (0 : Int) < (0 : Int)) ∧ ∃ (n : Int) (n_1 : Int) (s : List UInt8) (s_1 : List UInt8) (n_2 : Int) (n_3 : Int), none = some (AV.agg [.int .i64 n, .int .i64 n_1, .str s, .str s_1, .int .i64 n_2, .int .i64 n_3]) ∧ False) ∧ (false = false → RetOpen (AV.p2 (3 : Nat) (AV.int IntKind.i64 (-1 : Int)) && boxesOk (3 : Nat) [some [.tup [.int .i64 106, .agg [.bool f]]], some (itC x), some (itC m)]) (AV.int IntKind.i64 (-1 : Int)) { boxes := [some [.tup [.int .i64 106, .agg [.bool f]]], some (itC x), some (itC m)], live := [] } (r, { boxes := [some [.tup [.int .i64 106, .agg [.bool f]]], some (itC x), some (itC m)], live := [] }))) := by kernel_rfl
theorem w103 (f : Bool) (y x : ItI) (l : List ItI) (r : AV) : (pureW PA GA XE (tbl [(150, s106)]) (itbl [(147, s102), (151, s107), (153, s109), (156, s112)]) nAn [] 148 [.agg [.bool f], .sl 6 (itA y :: itsL l) .no, .agg (itC x)] (r, [])) =
(∃ (n : Int) (n_1 : Int) (s : List UInt8) (s_1 : List UInt8) (n_2 : Int) (n_3 : Int), CallIs (some (AV.agg [.int .i64 x.k, .int .i64 x.n, .str x.s, .str (if f = true then x.src else []), .int .i64 (if f = true then x.q else (0 : Int)), .int .i64 0], [])) (AV.agg [.int .i64 n, .int .i64 n_1, .str s, .str s_1, .int .i64 n_2, .int .i64 n_3]) [] ∧ ((AV.agg (itC y) :: itsL l).length * (64 : Nat)).le 140737488355328 ∧ ((∃ (l_1 : List ItI), .agg (itC y) :: itsL l = itsL l_1) ∧ (AV.agg (itC y) :: itsL l).length = (AV.agg (itC y) :: itsL l).length ∧ (AV.agg (itC y) :: itsL l).length ≤ (2000000 : Nat)) ∧ (decide (keptI1 f { k := n, n := n_1, s := s, src := s_1, q := n_2, c := n_3 } (AV.agg (itC y) :: itsL l) ≥ (0 : Int)) = true → ((0 : Int) ≤ keptI1 f { k := n, n := n_1, s := s, src := s_1, q := n_2, c := n_3 } (AV.agg (itC y) :: itsL l) ∧ keptI1 f { k := n, n := n_1, s := s, src := s_1, q := n_2, c := n_3 } (AV.agg (itC y) :: itsL l) < (↑(AV.agg (itC y) :: itsL l).length : Int)) ∧ ∃ (n_4 : Int), takeAt PA 3 (AV.agg (itC y) :: itsL l) (keptI1 f { k := n, n := n_1, s := s, src := s_1, q := n_2, c := n_3 } (AV.agg (itC y) :: itsL l)).toNat 5 = some (AV.int IntKind.i64 n_4) ∧ ((0 : Int) ≤ keptI1 f { k := n, n := n_1, s := s, src := s_1, q := n_2, c := n_3 } (AV.agg (itC y) :: itsL l) ∧ keptI1 f { k := n, n := n_1, s := s, src := s_1, q := n_2, c := n_3 } (AV.agg (itC y) :: itsL l) < (↑(AV.agg (itC y) :: itsL l).length : Int)) ∧ (keptI1 f { k := n, n := n_1, s := s, src := s_1, q := n_2, c := n_3 }
 (AV.agg (itC y) :: itsL l)).toNat < (AV.agg (itC y) :: itsL l).length ∧ ((0 : Int) ≤ keptI1 f { k := n, n := n_1, s := s, src := s_1, q := n_2, c := n_3 } (AV.agg (itC y) :: itsL l) ∧ keptI1 f { k := n, n := n_1, s := s, src := s_1, q := n_2, c := n_3 } (AV.agg (itC y) :: itsL l) < (↑(AV.agg (itC y) :: itsL l).length : Int)) ∧ ∃ (n_5 : Int), takeAt PA 3 ((AV.agg (itC y) :: itsL l).set (keptI1 f { k := n, n := n_1, s := s, src := s_1, q := n_2, c := n_3 } (AV.agg (itC y) :: itsL l)).toNat (keptSetC ((AV.agg (itC y) :: itsL l).getD (keptI1 f { k := n, n := n_1, s := s, src := s_1, q := n_2, c := n_3 } (AV.agg (itC y) :: itsL l)).toNat AV.junk) 5 [.int .i64 (IntKind.i64.wrap (n_4 + x.c))])) (keptI1 f { k := n, n := n_1, s := s, src := s_1, q := n_2, c := n_3 } (AV.agg (itC y) :: itsL l)).toNat 5 = some (AV.int IntKind.i64 n_5) ∧ ((n_5 == (0 : Int)) = true → (((AV.agg (itC y) :: itsL l).set (keptI1 f { k := n, n := n_1, s := s, src := s_1, q := n_2, c := n_3 } (AV.agg (itC y) :: itsL l)).toNat (keptSetC ((AV.agg (itC y) :: itsL l).getD (keptI1 f { k := n, n := n_1, s := s, src := s_1, q := n_2, c := n_3 } (AV.agg (itC y) :: itsL l)).toNat AV.junk) 5 [.int .i64 (IntKind.i64.wrap (n_4 + x.c))])).length = (AV.agg (itC y) :: itsL l).length ∧ (0 : Int) ≤ keptI1 f { k := n, n := n_1, s := s, src := s_1, q := n_2, c := n_3 } (AV.agg (itC y) :: itsL l) ∧ IntKind.i64.wrap (keptI1 f { k := n, n := n_1, s := s, src := s_1, q := n_2, c := n_3 } (AV.agg (itC y) :: itsL l) + (1 : Int)) = keptI1 f { k := n, n := n_1, s := s, src := s_1, q := n_2, c := n_3 }
 (AV.agg (itC y) :: itsL l) + (1 : Int) ∧ IntKind.i64.wrap (keptI1 f { k := n, n := n_1, s := s, src := s_1, q := n_2, c := n_3 } (AV.agg (itC y) :: itsL l) + (1 : Int)) ≤ (↑(AV.agg (itC y) :: itsL l).length : Int)) ∧ (List.take (keptI1 f { k := n, n := n_1, s := s, src := s_1, q := n_2, c := n_3 } (AV.agg (itC y) :: itsL l)).toNat ((AV.agg (itC y) :: itsL l).set (keptI1 f { k := n, n := n_1, s := s, src := s_1, q := n_2, c := n_3 } (AV.agg (itC y) :: itsL l)).toNat (keptSetC ((AV.agg (itC y) :: itsL l).getD (keptI1 f { k := n, n := n_1, s := s, src := s_1, q := n_2, c := n_3 } (AV.agg (itC y) :: itsL l)).toNat AV.junk) 5 [.int .i64 (IntKind.i64.wrap (n_4 + x.c))])) ++ List.drop ((keptI1 f { k := n, n := n_1, s := s, src := s_1, q := n_2, c := n_3 } (AV.agg (itC y) :: itsL l)).toNat + (1 : Nat)) ((AV.agg (itC y) :: itsL l).set (keptI1 f { k := n, n := n_1, s := s, src := s_1, q := n_2, c := n_3 } (AV.agg (itC y) :: itsL l)).toNat (keptSetC ((AV.agg (itC y) :: itsL l).getD (keptI1 f { k := n, n := n_1, s := s, src := s_1, q := n_2, c := n_3 } (AV.agg (itC y) :: itsL l)).toNat AV.junk) 5 [.int .i64 (IntKind.i64.wrap (n_4 + x.c))]))).length = (AV.agg (itC y) :: itsL l).length - (1 : Nat) ∧ RetIs (AV.sl 6 (List.take (keptI1 f { k := n, n := n_1, s := s, src := s_1, q := n_2, c := n_3 } (AV.agg (itC y) :: itsL l)).toNat ((AV.agg (itC y) :: itsL l).set (keptI1 f { k := n, n := n_1, s := s, src := s_1, q := n_2, c := n_3 } (AV.agg (itC y) :: itsL l)).toNat (keptSetC ((AV.agg (itC y) ::
 itsL l).getD (keptI1 f { k := n, n := n_1, s := s, src := s_1, q := n_2, c := n_3 } (AV.agg (itC y) :: itsL l)).toNat AV.junk) 5 [.int .i64 (IntKind.i64.wrap (n_4 + x.c))])) ++ List.drop ((keptI1 f { k := n, n := n_1, s := s, src := s_1, q := n_2, c := n_3 } (AV.agg (itC y) :: itsL l)).toNat + (1 : Nat)) ((AV.agg (itC y) :: itsL l).set (keptI1 f { k := n, n := n_1, s := s, src := s_1, q := n_2, c := n_3 } (AV.agg (itC y) :: itsL l)).toNat (keptSetC ((AV.agg (itC y) :: itsL l).getD (keptI1 f { k := n, n := n_1, s := s, src := s_1, q := n_2, c := n_3 } (AV.agg (itC y) :: itsL l)).toNat AV.junk) 5 [.int .i64 (IntKind.i64.wrap (n_4 + x.c))]))) .no) [] (r, [])) ∧ ((n_5 == (0 : Int)) = false → ((AV.agg (itC y) :: itsL l).set (keptI1 f { k := n, n := n_1, s := s, src := s_1, q := n_2, c := n_3 } (AV.agg (itC y) :: itsL l)).toNat (keptSetC ((AV.agg (itC y) :: itsL l).getD (keptI1 f { k := n, n := n_1, s := s, src := s_1, q := n_2, c := n_3 } (AV.agg (itC y) :: itsL l)).toNat AV.junk) 5 [.int .i64 (IntKind.i64.wrap (n_4 + x.c))])).length = (AV.agg (itC y) :: itsL l).length ∧ RetIs (AV.sl 6 ((AV.agg (itC y) :: itsL l).set (keptI1 f { k := n, n := n_1, s := s, src := s_1, q := n_2, c := n_3 } (AV.agg (itC y) :: itsL l)).toNat (keptSetC ((AV.agg (itC y) :: itsL l).getD (keptI1 f { k := n, n := n_1, s := s, src := s_1, q := n_2, c := n_3 } (AV.agg (itC y) :: itsL l)).toNat AV.junk) 5 [.int .i64 (IntKind.i64.wrap (n_4 + x.c))])) .no) [] (r, []))) ∧ (decide (keptI1 f { k := n, n := n_1, s := s, src := s_1, q := n_2, c := n_3 }
 (AV.agg (itC y) :: itsL l) ≥ (0 : Int)) = false → ((∃ (l_1 : List ItI), .agg (itC y) :: itsL l = itsL l_1) ∧ (AV.agg (itC y) :: itsL l).length = (AV.agg (itC y) :: itsL l).length ∧ (AV.agg (itC y) :: itsL l).length ≤ (2000000 : Nat)) ∧ (decide (keptI2 f { k := n, n := n_1, s := s, src := s_1, q := n_2, c := x.c } (AV.agg (itC y) :: itsL l) < (0 : Int)) = true → ((AV.agg (itC y) :: itsL l).length = (AV.agg (itC y) :: itsL l).length ∧ (0 : Int) ≤ (↑(AV.agg (itC y) :: itsL l).length : Int) ∧ (↑(AV.agg (itC y) :: itsL l).length : Int) ≤ (↑(AV.agg (itC y) :: itsL l).length : Int) ∧ ((AV.agg (itC y) :: itsL l).length + (1 : Nat)) * (64 : Nat) ≤ (140737488355328 : Nat) ∧ (0 : Nat) < (AV.agg (itC y) :: itsL l).length) ∧ RetIs (AV.sl 6 (List.take (↑(AV.agg (itC y) :: itsL l).length : Int).toNat (AV.agg (itC y) :: itsL l) ++ [.agg [.int .i64 n, .int .i64 n_1, .str s, .str s_1, .int .i64 n_2, .int .i64 x.c]] ++ List.drop (↑(AV.agg (itC y) :: itsL l).length : Int).toNat (AV.agg (itC y) :: itsL l)) .no) [] (r, [])) ∧ (decide (keptI2 f { k := n, n := n_1, s := s, src := s_1, q := n_2, c := x.c } (AV.agg (itC y) :: itsL l) < (0 : Int)) = false → ((AV.agg (itC y) :: itsL l).length = (AV.agg (itC y) :: itsL l).length ∧ (0 : Int) ≤ keptI2 f { k := n, n := n_1, s := s, src := s_1, q := n_2, c := x.c } (AV.agg (itC y) :: itsL l) ∧ keptI2 f { k := n, n := n_1, s := s, src := s_1, q := n_2, c := x.c } (AV.agg (itC y) :: itsL l) ≤ (↑(AV.agg (itC y) :: itsL l).length : Int) ∧ ((AV.agg (itC y) :: itsL l).length +
 (1 : Nat)) * (64 : Nat) ≤ (140737488355328 : Nat) ∧ (0 : Nat) < (AV.agg (itC y) :: itsL l).length) ∧ RetIs (AV.sl 6 (List.take (keptI2 f { k := n, n := n_1, s := s, src := s_1, q := n_2, c := x.c } (AV.agg (itC y) :: itsL l)).toNat (AV.agg (itC y) :: itsL l) ++ [.agg [.int .i64 n, .int .i64 n_1, .str s, .str s_1, .int .i64 n_2, .int .i64 x.c]] ++ List.drop (keptI2 f { k := n, n := n_1, s := s, src := s_1, q := n_2, c := x.c } (AV.agg (itC y) :: itsL l)).toNat (AV.agg (itC y) :: itsL l)) .no) [] (r, [])))) := by kernel_rfl
theorem w103e (f : Bool) (x : ItI) (r : AV) : (laxW PA GA XE (tbl [(150, s106), (156, s112z)]) (itbl [(147, s102), (151, s107)]) nAn [] 148 [.agg [.bool f], .sl 6 [] .no, .agg (itC x)] (r, [])) =
(∃ (n : Int) (n_1 : Int) (s : List UInt8) (s_1 : List UInt8) (n_2 : Int) (n_3 : Int), CallIs (some (AV.agg [.int .i64 x.k, .int .i64 x.n, .str x.s, .str (if f = true then x.src else []), .int .i64 (if f = true then x.q else (0 : Int)), .int .i64 0], [])) (AV.agg [.int .i64 n, .int .i64 n_1, .str s, .str s_1, .int .i64 n_2, .int .i64 n_3]) [] ∧ True ∧ True ∧ (false = true → ((0 : Int) ≤ (-1 : Int) ∧ (-1 : Int) < (0 : Int)) ∧ ∃ (n : Int), none = some (AV.int IntKind.i64 n) ∧ ((0 : Int) ≤ (-1 : Int) ∧ (-1 : Int) < (0 : Int)) ∧ False) ∧ (false = false → True ∧ (true = true → ∃ (es : List AV), CallIs (some (AV.sl 6 [.agg [.int .i64 n, .int .i64 n_1, .str s, .str s_1, .int .i64 n_2, .int .i64 x.c]] .no, [])) (AV.sl 6 es .no) [] ∧ RetLax (AV.sl 6 es .no) (r, [])) ∧ (true = false → ∃ (es : List AV), CallIs none (AV.sl 6 es .no) [] ∧ RetLax (AV.sl 6 es .no) (r, [])))) := by kernel_rfl
theorem w102p (x : AV) (es : List AV) : (pureW PA GA XE (tbl []) (itbl []) nAn [] 147 [.sl 6 (x :: es) .no] (.sl 6 (x :: es) (.tok 0), [(es.length + 1, 51)])) =
((x :: es).isEmpty = false ∧ ((6 : Nat) = (6 : Nat) ∨ ([] : List AV) = []) ∧ ((0 : Nat) + (x :: es).length) * (65 : Nat) ≤ (70368744177664 : Nat) ∧ (x :: es = [] → RetIs (AV.sl 6 [] .full) [] (AV.sl 6 (x :: es) (.tok 0), [(es.length + (1 : Nat), (51 : Nat))])) ∧ (x :: es ≠ [] → ((0 : Nat) + (x :: es).length, (51 : Nat)).fst = (x :: es).length ∧ RetIs (AV.sl 6 (x :: es) (.tok 0)) [((0 : Nat) + (x :: es).length, (51 : Nat))] (AV.sl 6 (x :: es) (.tok 0), [(es.length + (1 : Nat), (51 : Nat))]))) := by kernel_rfl
theorem w112z (x : ItI) : (laxW PA GA XE (tbl []) (itbl []) nAn [] 156 [.sl 6 [] .full, .int .i64 0, .sl 6 [itA x] .full] (.sl 6 [itA x] .no, [])) =
((0 : Int) ≤ (0 : Int) ∧ ((0 : Nat) ≤ (0 : Nat) ∧ (0 : Nat) ≤ (0 : Nat)) ∧ ((6 : Nat) = (6 : Nat) ∨ ([] : List AV) = []) ∧ ((0 : Nat) = (0 : Nat) → (false = true → RetLax (AV.sl 6 [] .full) (AV.sl 6 [.agg (itC x)] .no, [])) ∧ (false = false → (true = true → ((6 : Nat) = (6 : Nat) ∨ ([] : List AV) = []) ∧ ((0 : Nat) + (1 : Nat)) * (65 : Nat) ≤ (70368744177664 : Nat) ∧ RetLax (AV.sl 6 [.agg (itC x)] (.tok 0)) (AV.sl 6 [.agg (itC x)] .no, [])) ∧ (true = false → False))) ∧ ((0 : Nat) ≠ (0 : Nat) → (false = true → RetLax (AV.sl 6 [] .full) (AV.sl 6 [.agg (itC x)] .no, [])) ∧ (false = false → (true = true → ((6 : Nat) = (6 : Nat) ∨ ([] : List AV) = []) ∧ ((0 : Nat) + (1 : Nat)) * (65 : Nat) ≤ (70368744177664 : Nat) ∧ RetLax (AV.sl 6 [.agg (itC x)] (.tok 0)) (AV.sl 6 [.agg (itC x)] .no, [])) ∧ (true = false → False)))) := by kernel_rfl
theorem agg33 : aggA PA 51 = some true := by kernel_rfl
theorem size33 : sizeA PA 51 = some 6 := by kernel_rfl
theorem agg3 : aggA PA 3 = some false := by kernel_rfl
theorem size3 : sizeA PA 3 = some 1 := by kernel_rfl
theorem len_its (l : List ItI) : (itsL l).length = l.length := List.length_map ..
theorem its_at {l : List ItI} {i : Nat} (h : i < l.length) : (itsL l)[i]? = some (itA l[i]) := by
 unfold itsL; rw [List.getElem?_map, List.getElem?_eq_getElem h]; rfl
theorem take_it {l : List ItI} {i : Nat} (h : i < l.length) : takeAt PA 51 (itsL l) i 0 = some (.agg (itC l[i])) := by
 unfold takeAt
 rw [its_at h]
 simp only [agg33, size33, takeA]
 rfl
theorem take_ic {l : List ItI} {i : Nat} (h : i < l.length) : takeAt PA 3 (itsL l) i 5 = some (.int .i64 l[i].c) := by
 unfold takeAt
 rw [its_at h]
 simp only [agg3, size3, takeA]
 rfl
theorem get_its (l : List ItI) : (itsL l).map getI = l := by
 unfold itsL; rw [List.map_map]; exact List.map_id'' (fun x => rfl) l
theorem its_set (l : List ItI) (i : Nat) (y : ItI) : (itsL l).set i (itA y) = itsL (l.set i y) := by unfold itsL; rw [List.map_set]
theorem its_take (l : List ItI) (i : Nat) : (itsL l).take i = itsL (l.take i) := by unfold itsL; rw [List.map_take]
theorem its_drop (l : List ItI) (i : Nat) : (itsL l).drop i = itsL (l.drop i) := by unfold itsL; rw [List.map_drop]
theorem its_app (a b : List ItI) : itsL a ++ itsL b = itsL (a ++ b) := by unfold itsL; rw [List.map_append]
theorem wrapN {x : Nat} (h : x ≤ 4000000000) : IntKind.i64.wrap ((x : Int) + 1) = ((x + 1 : Nat) : Int) := by rw [wrap64_in (by omega) (by omega)]; rfl
theorem idxP_cases {α : Type} (p : α → Bool) (l : List α) : (idxP p l = -1 ∧ l.all (fun y => !p y) = true) ∨ ∃ (i : Nat) (h : i < l.length), idxP p l = i ∧ (l.take i).all (fun y => !p y) = true ∧ p l[i] = true := by
 by_cases ha : l.all (fun y => !p y) = true
 ·exact .inl ⟨by unfold idxP; rw [if_pos ha], ha⟩
 ·right
  have key : ∀ l : List α, ¬ l.all (fun y => !p y) = true → ∃ h : (l.takeWhile fun y => !p y).length < l.length, (l.take (l.takeWhile fun y => !p y).length).all (fun y => !p y) = true ∧ p (l[(l.takeWhile fun y => !p y).length]) = true := by
   intro l
   induction l with
   | nil => intro h; simp at h
   | cons x t ih =>
    intro h
    by_cases hx : p x = true
    ·refine ⟨by simp [hx], ?_, ?_⟩ <;> simp [hx]
    ·have hx' : p x = false := by simpa using hx
     have : ¬ t.all (fun y => !p y) = true := fun e => h (by simp [hx']; simpa using e)
     obtain ⟨h1, h2, h3⟩ := ih this
     refine ⟨by simp [hx', h1], ?_, ?_⟩
     ·simp [hx']
      simpa using h2
     ·simp [hx', h3]
  obtain ⟨h1, h2, h3⟩ := key l ha
  exact ⟨_, h1, by unfold idxP; rw [if_neg ha], h2, h3⟩
theorem idxP_none {α : Type} {p : α → Bool} {l : List α} (h : l.all (fun y => !p y) = true) : idxP p l = -1 := by unfold idxP; rw [if_pos h]
theorem idxP_at {α : Type} {p : α → Bool} {l : List α} {i : Nat} (hi : i < l.length) (h : (l.take i).all (fun y => !p y) = true) (hp : p l[i] = true) : idxP p l = i := by
 rcases idxP_cases p l with ⟨_, ha⟩ | ⟨j, hj, e, ha, hpj⟩
 ·have := List.all_eq_true.1 ha _ (List.getElem_mem hi)
  simp [hp] at this
 ·rw [e]
  have h1 : ∀ {a b : Nat} (ha : a < l.length) (hb : b < l.length), (l.take b).all (fun y => !p y) = true → p l[a] = true → b ≤ a := fun {a b} ha hb hall hpa => by
   rcases Nat.lt_or_ge a b with hlt | hge
   ·have : l[a] ∈ l.take b := by
     rw [List.mem_take_iff_getElem]
     exact ⟨a, by omega, rfl⟩
    have := List.all_eq_true.1 hall _ this
    simp [hpa] at this
   ·exact hge
  have a1 := h1 hi hj ha hp
  have a2 := h1 hj hi h hpj
  omega
theorem p113 (a b c : Int) : PureOk PA GA XE (tbl []) (itbl []) a113 [] 55 [.sl 1 [.int .i64 a, .int .i64 b, .int .i64 c] .full] (.int .i64 (or3 a b c), []) := by
 constructor
 rw [w113]
 have no : ∀ {x : Int}, (x != 0) = false → x = 0 := fun h => by simpa using h
 have ye : ∀ {x : Int}, (x != 0) = true → x ≠ 0 := fun h => by simpa using h
 refine ⟨fun _ => ⟨⟨by decide, by decide⟩, a, rfl, fun h => retIs_iff.2 ?_, fun ha => ⟨fun _ => ⟨⟨by decide, by decide⟩, b, rfl, fun h => retIs_iff.2 ?_, fun hb => ⟨fun _ => ⟨⟨by decide, by decide⟩, c, rfl, fun h => retIs_iff.2 ?_, fun hc => ⟨fun h => (nomatch h), fun _ => retIs_iff.2 ?_⟩⟩, fun h => (nomatch h)⟩⟩, fun h => (nomatch h)⟩⟩, fun h => (nomatch h)⟩
 ·unfold or3; rw [if_neg (ye h)]
 ·unfold or3; rw [if_pos (no ha), if_neg (ye h)]
 ·unfold or3; rw [if_pos (no ha), if_pos (no hb)]
 ·unfold or3; rw [if_pos (no ha), if_pos (no hb), no hc]
theorem o113 : SpecOk PA GA 55 s113 := spec_of (X := XE) (m := []) mixedA tbl_nil itbl_nil fun args r h => by
 unfold s113 at h
 split at h
 ·split at h
  ·rename_i hz; subst hz; injection h with h; subst h; exact ⟨_, p113 _ _ _⟩
  ·cases h
 ·cases h
theorem o105 : SpecOk PA GA 35 s105 := spec_of (X := XE) (m := []) mixedA (tbl_cons o113 (tbl_cons o114 (tbl_cons o115 tbl_nil))) itbl_nil fun args r h => by
 unfold s105 at h
 split at h
 case h_2 => cases h
 injection h with h; subst h
 refine ⟨nAn, ⟨?_⟩⟩
 rw [w105]
 exact ⟨_, callIs_iff.2 rfl, _, callIs_iff.2 rfl, _, callIs_iff.2 rfl, _, callIs_iff.2 rfl, retIs_iff.2 rfl⟩
theorem o111 : SpecOk PA GA 155 s111 := spec_of (X := XE) (m := []) mixedA (tbl_cons o113 (tbl_cons o114 (tbl_cons o115 (tbl_cons o105 tbl_nil)))) itbl_nil fun args r h => by
 unfold s111 at h
 split at h
 case h_2 => cases h
 rename_i k n s src q c k' n' s' src' q' c'
 injection h with h; subst h
 refine ⟨nAn, ⟨?_⟩⟩
 rw [w111 ⟨k, n, s, src, q, c⟩ ⟨k', n', s', src', q', c'⟩]
 exact ⟨_, callIs_iff.2 rfl, _, callIs_iff.2 rfl, _, callIs_iff.2 rfl, _, callIs_iff.2 rfl, retIs_iff.2 rfl⟩
theorem o106 : SpecOk PA GA 150 s106 := spec_of (X := XE) (m := []) mixedA tbl_nil itbl_nil fun args r h => by
 unfold s106 at h
 split at h
 case h_2 => cases h
 rename_i f k n s src q c
 injection h with h; subst h
 refine ⟨nAn, ⟨?_⟩⟩
 rw [w106 f ⟨k, n, s, src, q, c⟩]
 exact ⟨fun h => retIs_iff.2 (by subst h; rfl), fun h => retIs_iff.2 (by subst h; rfl)⟩
theorem mk_eq (f : Bool) (k n : Int) (s src : List UInt8) (q c : Int) : (⟨k, n, s, if f = true then src else [], if f = true then q else 0, 0⟩ : ItI) = markI f ⟨k, n, s, src, q, c⟩ := by cases f <;> rfl
theorem beqs (f : Bool) (y m : ItI) : (((markI f y).k == m.k && ((markI f y).n == m.n && ((markI f y).s == m.s && true)) && ((markI f y).src == m.src && ((markI f y).q == m.q && true) && ((markI f y).c == m.c && true)))) = decide (markI f y = m) := by
 generalize markI f y = a
 obtain ⟨k, n, s, src, q, c⟩ := a
 obtain ⟨k', n', s', src', q', c'⟩ := m
 rw [Bool.eq_iff_iff]
 simp [and_assoc]
theorem p108 (f : Bool) (y x m : ItI) (es : List AV) : OpenOk PA GA XE (tbl [(150, s106)]) (itbl []) nAn [] 152 [.agg (itC y), .ptr 0 0, .ptr 2 0] (S4 f x m es) (.bool (decide (markI f y = m)), S4 f x m es) := by
 constructor
 rw [w108]
 refine ⟨_, _, _, _, _, _, callIs_iff.2 rfl, ?_⟩
 have e := beqs f y m
 rw [← mk_eq f y.k y.n y.s y.src y.q y.c] at e
 simp only at e
 rw [e, mk_eq f y.k y.n y.s y.src y.q y.c]
 exact ⟨fun h => ⟨rfl, by rw [h]⟩, fun h => ⟨rfl, by rw [h]⟩⟩
theorem o108 : ISpecOk PA GA 152 s108 := ispec_of (X := XE) (m := []) mixedA (tbl_cons o106 tbl_nil) itbl_nil fun args S p r h hp => by
 unfold s108 at h
 split at h
 case h_2 => cases h
 split at h
 case isFalse => cases h
 rename_i hc
 obtain ⟨rfl, rfl, rfl, rfl, rfl, rfl, rfl⟩ := hc
 injection h with h
 injection h with h1 h; subst h1 h
 exact ⟨nAn, p108 _ ⟨_, _, _, _, _, _⟩ ⟨_, _, _, _, _, _⟩ ⟨_, _, _, _, _, _⟩ _⟩
theorem p110 (f : Bool) (y x m : ItI) (es : List AV) : OpenOk PA GA XE (tbl [(150, s106), (155, s111)]) (itbl []) nAn [] 154 [.agg (itC y), .ptr 0 0, .ptr 2 0] (S4 f x m es) (.bool (decide (0 < cmpI (markI f y) m)), S4 f x m es) := by
 constructor
 rw [w110]
 refine ⟨_, _, _, _, _, _, callIs_iff.2 rfl, _, callIs_iff.2 rfl, ?_⟩
 rw [mk_eq f y.k y.n y.s y.src y.q y.c]
 exact ⟨fun h => ⟨rfl, by rw [← h]⟩, fun h => ⟨rfl, by rw [← h]⟩⟩
theorem o110 : ISpecOk PA GA 154 s110 := ispec_of (X := XE) (m := []) mixedA (tbl_cons o106 (tbl_cons o111 tbl_nil)) itbl_nil fun args S p r h hp => by
 unfold s110 at h
 split at h
 case h_2 => cases h
 split at h
 case isFalse => cases h
 rename_i hc
 obtain ⟨rfl, rfl, rfl, rfl, rfl, rfl, rfl⟩ := hc
 injection h with h
 injection h with h1 h; subst h1 h
 exact ⟨nAn, p110 _ ⟨_, _, _, _, _, _⟩ ⟨_, _, _, _, _, _⟩ ⟨_, _, _, _, _, _⟩ _⟩
theorem p107 (f : Bool) (x m : ItI) (l : List ItI) (hl : l.length ≤ 2000000) : OpenOk PA GA XE (tbl []) (itbl [(152, s108)]) (a107 f x m 152 l (fun y => decide (markI f y = m))) [] 151 [.ms 3 6 l.length, .fn 152 [.ptr 0 0, .ptr 2 0]] (S4 f x m (itsL l)) (.int .i64 (keptI1 f m (itsL l)), S4 f x m (itsL l)) := by
 constructor
 rw [w107]
 refine ⟨⟨0, ⟨rfl⟩, ⟨rfl⟩, ⟨Nat.zero_le _, rfl⟩, trivial⟩, fun j hj => ⟨fun hlt => ?_, fun hge => ?_⟩⟩
 ·have hlt := of_decide_eq_true hlt
  have hil : j < l.length := by omega
  refine ⟨⟨by omega, hlt⟩, _, _, _, _, _, _, by rw [Int.toNat_natCast]; exact take_it hil, trivial, fun hs => ⟨rfl, ?_⟩, fun hs => ⟨j + 1, ⟨by rw [wrapN (by omega)]⟩, ⟨rfl⟩, ⟨hil, ?_⟩, by omega⟩⟩
  ·simp only [keptI1, get_its]
   rw [idxP_at (p := fun y => decide (markI f y = m)) hil hj.2 hs]
  ·rw [List.take_succ_eq_append_getElem hil, List.all_append, hj.2]
   simp only [List.all_cons, List.all_nil, Bool.and_true, Bool.true_and]
   show (!decide (markI f l[j] = m)) = true
   rw [show decide (markI f l[j] = m) = false from hs]; rfl
 ·have hge := of_decide_eq_false hge
  refine ⟨rfl, ?_⟩
  simp only [keptI1, get_its]
  have := hj.2
  rw [List.take_of_length_le (by omega)] at this
  rw [idxP_none (p := fun y => decide (markI f y = m)) this]
theorem p107b (f : Bool) (x m : ItI) (l : List ItI) (hl : l.length ≤ 2000000) : OpenOk PA GA XE (tbl []) (itbl [(154, s110)]) (a107 f x m 154 l (fun y => decide (0 < cmpI (markI f y) m))) [] 151 [.ms 3 6 l.length, .fn 154 [.ptr 0 0, .ptr 2 0]] (S4 f x m (itsL l)) (.int .i64 (keptI2 f m (itsL l)), S4 f x m (itsL l)) := by
 constructor
 rw [w107b]
 refine ⟨⟨0, ⟨rfl⟩, ⟨rfl⟩, ⟨Nat.zero_le _, rfl⟩, trivial⟩, fun j hj => ⟨fun hlt => ?_, fun hge => ?_⟩⟩
 ·have hlt := of_decide_eq_true hlt
  have hil : j < l.length := by omega
  refine ⟨⟨by omega, hlt⟩, _, _, _, _, _, _, by rw [Int.toNat_natCast]; exact take_it hil, trivial, fun hs => ⟨rfl, ?_⟩, fun hs => ⟨j + 1, ⟨by rw [wrapN (by omega)]⟩, ⟨rfl⟩, ⟨hil, ?_⟩, by omega⟩⟩
  ·simp only [keptI2, get_its]
   rw [idxP_at (p := fun y => decide (0 < cmpI (markI f y) m)) hil hj.2 hs]
  ·rw [List.take_succ_eq_append_getElem hil, List.all_append, hj.2]
   simp only [List.all_cons, List.all_nil, Bool.and_true, Bool.true_and]
   show (!decide (0 < cmpI (markI f l[j]) m)) = true
   rw [show decide (0 < cmpI (markI f l[j]) m) = false from hs]; rfl
 ·have hge := of_decide_eq_false hge
  refine ⟨rfl, ?_⟩
  simp only [keptI2, get_its]
  have := hj.2
  rw [List.take_of_length_le (by omega)] at this
  rw [idxP_none (p := fun y => decide (0 < cmpI (markI f y) m)) this]
theorem p107e (f : Bool) (x m : ItI) (g : Nat) : OpenOk PA GA XE (tbl []) (itbl []) (a107e f x m g) [] 151 [.sl 6 [] .full, .fn g [.ptr 0 0, .ptr 2 0]] (S3 f x m) (.int .i64 (-1), S3 f x m) := by
 constructor
 rw [w107e]
 exact ⟨⟨(), ⟨rfl⟩, ⟨rfl⟩, trivial, trivial⟩, fun _ _ => ⟨fun h => (by cases h), fun _ => ⟨rfl, rfl⟩⟩⟩
theorem ispec_of' {P : Program} {G : Glob} (hm : P.follows .mixedOrders = true) {m : List Bool} {f : FuncId} {s : ISpec}
  (h : ∀ args S p r, s args S = some (p, r) → p → ∃ X R C A, CalleeOk P G R ∧ ICalleeOk P G (lowC C) ∧ OpenOk P G X R C A m f args S r) : ISpecOk P G f s := by
 intro g args S r S' hr
 simp only [lowC] at hr
 by_cases e : g = f
 ·subst e
  simp only [if_true] at hr
  split at hr
  case h_2 => cases hr
  rename_i x hx
  split at hr
  case isFalse => cases hr
  rename_i hp
  injection hr with hr
  obtain ⟨X, R, C, A, hR, hC, hA⟩ := h args S x.1 x.2 hx hp
  classical
  have key : ISpecOk P G g (fun a T => if a = args ∧ T = S then some (True, x.2) else none) := ispec_of (X := X) (m := m) hm hR hC fun a T p r' h' _ => by
   split at h'
   ·rename_i ea
    injection h' with h'
    obtain ⟨rfl, rfl⟩ := ea
    injection h' with h1 h2
    subst h2
    exact ⟨A, hA⟩
   ·cases h'
  refine key g args S r S' ?_
  simp only [lowC, and_self, if_true, hr]
 ·simp only [if_neg e] at hr
  cases hr
theorem o107 : ISpecOk PA GA 151 s107 := ispec_of' (m := []) mixedA fun args S p r h hp => by
 unfold s107 at h
 split at h
 case h_3 => cases h
 case h_1 =>
  split at h
  case isFalse => cases h
  rename_i hc
  obtain ⟨rfl, rfl, rfl, rfl, rfl, rfl, rfl, rfl, rfl⟩ := hc
  split at h
  ·rename_i hg
   subst hg
   injection h with h
   injection h with h1 h; subst h1 h
   obtain ⟨⟨l, rfl⟩, rfl, hl⟩ := hp
   rw [len_its] at hl ⊢
   exact ⟨XE, _, _, _, tbl_nil, itbl_cons o108 itbl_nil, p107 _ ⟨_, _, _, _, _, _⟩ ⟨_, _, _, _, _, _⟩ l hl⟩
  ·split at h
   case isFalse => cases h
   rename_i hg
   subst hg
   injection h with h
   injection h with h1 h; subst h1 h
   obtain ⟨⟨l, rfl⟩, rfl, hl⟩ := hp
   rw [len_its] at hl ⊢
   exact ⟨XE, _, _, _, tbl_nil, itbl_cons o110 itbl_nil, p107b _ ⟨_, _, _, _, _, _⟩ ⟨_, _, _, _, _, _⟩ l hl⟩
 case h_2 =>
  split at h
  case isFalse => cases h
  rename_i hc
  obtain ⟨rfl, hg, rfl, rfl, rfl, rfl, rfl⟩ := hc
  injection h with h
  injection h with _ h; subst h
  exact ⟨XE, _, _, _, tbl_nil, itbl_nil, p107e _ ⟨_, _, _, _, _, _⟩ ⟨_, _, _, _, _, _⟩ _⟩
end Go.Abs
namespace Go.Abs
open Go.RowKit
section
variable {P : Program} {G : Glob} {E : Env} {w : World}
def wkA (z : Nat) : AV → AV
 | .sl _ [] _ => .sl z [] .no
 | .sl sz (e :: es) _ => .sl sz (e :: es) .no
 | a => a
def wkL : List Nat → List AV → List AV
 | z :: zs, a :: xs => wkA z a :: wkL zs xs
 | _, xs => xs
theorem rep_wk {z : Nat} {a : AV} {v : Value} (h : Rep E w a v) : Rep E w (wkA z a) v := by
 unfold wkA
 split
 ·cases h with
  | sl _ _ _ A cap u hcap hmax hA hsz hcl ho hr h1 =>
   exact .sl z [] .no A cap u hcap hmax (.inl rfl) (by simp) (by simp) trivial (fun i e j c hi => by simp at hi) h1
 ·cases h with
  | sl _ _ _ A cap u hcap hmax hA hsz hcl ho hr h1 =>
   exact .sl _ _ .no A cap u hcap hmax hA hsz hcl trivial hr h1
 ·exact h
theorem closed_wk {z : Nat} {a : AV} (h : a.closed1 = true) : (wkA z a).closed1 = true := by
 unfold wkA
 split
 ·rfl
 ·rfl
 ·exact h
theorem wkL_length : ∀ (zs : List Nat) (xs : List AV), (wkL zs xs).length = xs.length
 | [], xs => by simp [wkL]
 | z :: zs, [] => by simp [wkL]
 | z :: zs, a :: xs => by simp [wkL, wkL_length zs xs]
theorem wkL_at : ∀ (zs : List Nat) (xs : List AV) (i : Nat) (c : AV), (wkL zs xs)[i]? = some c → ∃ a, xs[i]? = some a ∧ (c = a ∨ ∃ z, c = wkA z a)
 | [], xs, i, c, h => ⟨c, by simpa [wkL] using h, .inl rfl⟩
 | z :: zs, [], i, c, h => by simp [wkL] at h
 | z :: zs, a :: xs, 0, c, h => by
  simp [wkL] at h
  exact ⟨a, by simp, .inr ⟨z, h.symm⟩⟩
 | z :: zs, a :: xs, i + 1, c, h => by
  simp only [wkL, List.getElem?_cons_succ] at h
  simpa using wkL_at zs xs i c h
theorem spec_wk {f : FuncId} {s : Spec} (zs : List Nat) (h : ∀ args r, s args = some r → SpecOk P G f (fun a => open Classical in if a = wkL zs args then some r else none)) : SpecOk P G f s := by
 intro g args r lv hr
 simp only at hr
 split at hr
 ·rename_i e
  subst e
  have := h args (r, lv) hr g (wkL zs args) r lv (by simp)
  intro E w vs hI hG hn hv hcl
  refine this E w vs hI hG (by rw [wkL_length]; exact hn) (fun i c v hi hv' => ?_) fun c hc => ?_
  ·obtain ⟨a, ha, hx⟩ := wkL_at zs args i c hi
   rcases hx with rfl | ⟨z, rfl⟩
   ·exact hv i _ v ha hv'
   ·exact rep_wk (hv i _ v ha hv')
  ·obtain ⟨i, hi, rfl⟩ := List.mem_iff_getElem.1 hc
   obtain ⟨a, ha, hx⟩ := wkL_at zs args i _ (List.getElem?_eq_getElem hi)
   rcases hx with hx | ⟨z, hx⟩
   ·rw [hx]; exact hcl a (List.mem_of_getElem? ha)
   ·rw [hx]; exact closed_wk (hcl a (List.mem_of_getElem? ha))
 ·cases hr
theorem lax_ofW {X : Shapes} {R : Callee} {C : CCallee} (zs : List Nat) (hm : P.follows .mixedOrders = true) (hR : CalleeOk P G R) (hC : ICalleeOk P G (lowC C)) {m : List Bool} {f : FuncId} {s : Spec}
  (h : ∀ args r, s args = some r → ∃ A, LaxOk P G X R C A m f (wkL zs args) r) : SpecOk P G f s :=
 spec_wk zs fun args r hr => lax_of hm hR hC fun a r' hr' => by
  split at hr'
  ·rename_i e; subst e; injection hr' with hr'; subst hr'; exact h args r hr
  ·cases hr'
end
end Go.Abs
