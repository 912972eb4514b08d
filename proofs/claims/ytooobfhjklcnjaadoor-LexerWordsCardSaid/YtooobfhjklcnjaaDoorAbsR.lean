/-
  What is to be shown of operations on values that are known by their form alone.
-/
import Derived.Test.YtooobfhjklcnjaaDoorAbsQ
namespace Go.Abs
open Go.RowKit

/-- forms of values -/
inductive Sh0 where
  | int (k : IntKind)
  | bool
  | str
  | sl (sz : Nat) (o : Own)
  | err
  | is (v : AV)
inductive Sh1 where
  | one (s : Sh0)
  | agg (l : List Sh0)
inductive Sh where
  | val (s : Sh1)
  | tup (l : List Sh1)

def ex0 : Sh0 → (AV → Prop) → Prop
  | .int k, K => ∃ n, K (.int k n)
  | .bool, K => ∃ b, K (.bool b)
  | .str, K => ∃ s, K (.str s)
  | .sl sz o, K => ∃ es, K (.sl sz es o)
  | .err, K => K .ifc ∨ K (.lit .nilIface)
  | .is v, K => K v
def exs0 : List Sh0 → (List AV → Prop) → Prop
  | [], K => K []
  | s :: l, K => ex0 s fun v => exs0 l fun vs => K (v :: vs)
def ex1 : Sh1 → (AV → Prop) → Prop
  | .one s, K => ex0 s K
  | .agg l, K => exs0 l fun cs => K (.agg cs)
def exs1 : List Sh1 → (List AV → Prop) → Prop
  | [], K => K []
  | s :: l, K => ex1 s fun v => exs1 l fun vs => K (v :: vs)
def exSh : Sh → (AV → Prop) → Prop
  | .val s, K => ex1 s K
  | .tup l, K => exs1 l fun vs => K (.tup vs)

theorem ex0_imp {s : Sh0} {K : AV → Prop} (h : ex0 s K) : ∃ v, K v := by
  cases s with
  | int k => obtain ⟨n, h⟩ := h; exact ⟨_, h⟩
  | bool => obtain ⟨n, h⟩ := h; exact ⟨_, h⟩
  | str => obtain ⟨n, h⟩ := h; exact ⟨_, h⟩
  | sl sz o => obtain ⟨n, h⟩ := h; exact ⟨_, h⟩
  | err => rcases h with h | h <;> exact ⟨_, h⟩
  | is v => exact ⟨_, h⟩
theorem exs0_imp : ∀ {l : List Sh0} {K : List AV → Prop}, exs0 l K → ∃ v, K v
  | [], _, h => ⟨_, h⟩
  | s :: l, K, h => by
    obtain ⟨v, h⟩ := ex0_imp h
    obtain ⟨vs, h⟩ := exs0_imp h
    exact ⟨_, h⟩
theorem ex1_imp {s : Sh1} {K : AV → Prop} (h : ex1 s K) : ∃ v, K v := by
  cases s with
  | one s => exact ex0_imp h
  | agg l => obtain ⟨vs, h⟩ := exs0_imp h; exact ⟨_, h⟩
theorem exs1_imp : ∀ {l : List Sh1} {K : List AV → Prop}, exs1 l K → ∃ v, K v
  | [], _, h => ⟨_, h⟩
  | s :: l, K, h => by
    obtain ⟨v, h⟩ := ex1_imp h
    obtain ⟨vs, h⟩ := exs1_imp h
    exact ⟨_, h⟩
theorem exSh_imp {s : Sh} {K : AV → Prop} (h : exSh s K) : ∃ v, K v := by
  cases s with
  | val s => exact ex1_imp h
  | tup l => obtain ⟨vs, h⟩ := exs1_imp h; exact ⟨_, h⟩

/-- both answers -/
def forkB (v : AV) (K : AV → Prop) : Prop :=
  match v with
  | .bool b => (b = true → K (.bool true)) ∧ (b = false → K (.bool false))
  | v => K v
theorem forkB_imp {v : AV} {K : AV → Prop} (h : forkB v K) : K v := by
  cases v with
  | bool b => cases b with
    | true => exact h.1 rfl
    | false => exact h.2 rfl
  | _ => exact h

/-- the form of what lies in memory at a type -/
def leaf (P : Program) (t : TypeId) : Option Sh0 :=
  match P.underlying t with
  | some .bool => some .bool
  | some (.int k) => some (.int k)
  | some .string => some .str
  | some (.slice e) => (sizeA P e).map fun s => .sl s .no
  | some (.interface _) => some .err
  | _ => none
def leaves (P : Program) : Nat → TypeId → Option (List Sh0)
  | 0, _ => none
  | d + 1, t =>
    match P.underlying t with
    | some (.struct fs) => (fs.toList.mapM fun f => leaves P d f.type).map List.flatten
    | some (.array n e) => (leaves P d e).map fun l => (List.replicate n l).flatten
    | _ => (leaf P t).map fun s => [s]
def shOf (P : Program) (t : TypeId) : Option Sh :=
  match aggA P t with
  | some true => (leaves P 5 t).map fun l => .val (.agg l)
  | some false => (leaf P t).map fun s => .val (.one s)
  | none => none

def takeAt (P : Program) (t : TypeId) (es : List AV) (i j : Nat) : Option AV :=
  match es[i]? with
  | some e => takeA (aggA P t) (sizeA P t) e.cells j
  | none => none

def someK {α : Type} (x : Option α) (K : α → Prop) : Prop :=
  match x with
  | some v => K v
  | none => False
theorem someK_imp {α : Type} {x : Option α} {K : α → Prop} (h : someK x K) : ∃ v, x = some v ∧ K v := by
  cases x with
  | none => exact h.elim
  | some v => exact ⟨v, rfl, h⟩

def loadW (P : Program) (S : St) (t : TypeId) (a : AV) (K : AV → Prop) : Prop :=
  match a with
  | .elt _ es i j => someK (shOf P t) fun sh => exSh sh fun v => takeAt P t es i j = some v ∧ forkB v K
  | .ptr b o =>
    match S.boxes[b]? with
    | some (some cs) =>
      if 40 < cs.length then someK (shOf P t) fun sh => exSh sh fun v => takeA (aggA P t) (sizeA P t) cs o = some v ∧ forkB v K
      else someK (takeA (aggA P t) (sizeA P t) cs o) fun v => forkB v K
    | _ => False
  | _ => False
theorem loadW_imp {P : Program} {S : St} {t : TypeId} {a : AV} {K : AV → Prop} (h : loadW P S t a K) : ∃ v, loadA P S t a = some v ∧ K v := by
  unfold loadW at h
  unfold loadA
  split at h
  · obtain ⟨sh, _, h⟩ := someK_imp h
    obtain ⟨v, h1, h2⟩ := exSh_imp h
    exact ⟨v, h1, forkB_imp h2⟩
  · split at h
    · rename_i b o cs hb
      simp only [hb]
      split at h
      · obtain ⟨sh, _, h⟩ := someK_imp h
        obtain ⟨v, h1, h2⟩ := exSh_imp h
        exact ⟨v, h1, forkB_imp h2⟩
      · obtain ⟨v, h1, h2⟩ := someK_imp h
        exact ⟨v, h1, forkB_imp h2⟩
    · exact h.elim
  · exact h.elim

/-- equality of cells, all at once -/
def eqFieldsB (P : Program) (xs ys : List AV) : List Field → Option Bool
  | [] => some true
  | f :: fs =>
    if f.name = "_" then none else
    match subA P f.type xs f.offset, subA P f.type ys f.offset with
    | some x, some y =>
      match eqScalA P f.type x y, eqFieldsB P xs ys fs with
      | some a, some b => some (a && b)
      | _, _ => none
    | _, _ => none
def equalB (P : Program) (t : TypeId) (x y : AV) : Option Bool :=
  match x, y with
  | .agg xs, .agg ys =>
    if P.eqGuardType P.depth t then none else
    match P.underlying t with
    | some (.struct fs) => if P.stoodInHeld t || !(fs.toList.length < 39) then none else eqFieldsB P xs ys fs.toList
    | _ => none
  | _, _ => eqScalA P t x y

def binW (P : Program) (op : BinOp) (t : TypeId) (kc : Bool) (x y : AV) (K : AV → Prop) : Prop :=
  match x, y with
  | .int k a, .int k' b =>
    match op with
    | .shl => 0 ≤ b ∧ K (.int k (k.wrap (a * 2 ^ (min b.toNat k.bits))))
    | .shr => 0 ≤ b ∧ K (.int k (a.fdiv (2 ^ (min b.toNat k.bits))))
    | .quo => if k = k' then b ≠ 0 ∧ K (.int k (k.wrap (a.tdiv b))) else False
    | .rem => if k = k' then b ≠ 0 ∧ K (.int k (a.tmod b)) else False
    | op => if k = k' then someK (intA op k a b) fun v => forkB v K else False
  | .str a, .str b =>
    match op with
    | .add => a.length + b.length ≤ 9223372036854775807 ∧ K (.str (a ++ b))
    | op => someK (strA op a b) fun v => forkB v K
  | .agg xs, .agg ys =>
    match op with
    | .eql => someK (equalB P t (.agg xs) (.agg ys)) fun b => forkB (.bool b) K
    | .neq => someK (equalB P t (.agg xs) (.agg ys)) fun b => forkB (.bool !b) K
    | _ => False
  | x, y => someK (binA P op t kc x y) fun v => forkB v K

theorem subA_agg {P : Program} {t : TypeId} {xs : List AV} {o : Nat} {x : AV} (h : subA P t xs o = some x) (d : Nat) (y : AV) (b : Bool) (hb : eqScalA P t x y = some b) : eqA P (d + 1) t x y = some b := by
  cases x <;> cases y <;> first | (simpa [eqA] using hb) | (simp [eqScalA] at hb)

theorem eqFieldsB_ok {P : Program} {xs ys : List AV} : ∀ {fs : List Field} {b : Bool} {d : Nat}, fs.length < d → eqFieldsB P xs ys fs = some b → eqFieldsA P d xs ys fs = some b
  | [], b, d, _, h => by cases d <;> simpa [eqFieldsB, eqFieldsA] using h
  | f :: fs, b, 0, hd, h => by simp at hd
  | f :: fs, b, d + 1, hd, h => by
    simp only [eqFieldsB] at h
    simp only [eqFieldsA]
    split at h
    · cases h
    · rename_i hn
      simp only [hn, if_false]
      split at h
      · rename_i x y hx hy
        simp only [hx, hy]
        split at h
        · rename_i p q hp hq
          simp only [Option.some.injEq] at h
          subst h
          obtain ⟨d, rfl⟩ : ∃ e, d = e + 1 := ⟨d - 1, by simp at hd; omega⟩
          rw [subA_agg hx d y p hp]
          cases p with
          | true => simpa using eqFieldsB_ok (by simpa using hd) hq
          | false => rfl
        · cases h
      · cases h

theorem equalB_ok {P : Program} {t : TypeId} {xs ys : List AV} {b : Bool} (h : equalB P t (.agg xs) (.agg ys) = some b) : equalA P t (.agg xs) (.agg ys) = some b := by
  simp only [equalB] at h
  simp only [equalA]
  split at h
  · cases h
  · rename_i hg
    simp only [hg, Bool.false_eq_true, if_false]
    split at h
    · rename_i fs hf
      split at h
      · cases h
      · rename_i hs
        simp only [Bool.or_eq_true, not_or, Bool.not_eq_true, Bool.not_eq_false', decide_eq_true_eq] at hs
        show eqA P (39 + 1) t _ _ = _
        simp only [eqA, hf, hs.1, Bool.false_eq_true, if_false]
        exact eqFieldsB_ok hs.2 h
    · cases h

theorem binW_imp {P : Program} {op : BinOp} {t : TypeId} {kc : Bool} {x y : AV} {K : AV → Prop} (h : binW P op t kc x y K) : ∃ v, binA P op t kc x y = some v ∧ K v := by
  have fk : ∀ {z : Option AV}, (someK z fun v => forkB v K) → ∃ v, z = some v ∧ K v := fun h => by
    obtain ⟨v, h1, h2⟩ := someK_imp h
    exact ⟨v, h1, forkB_imp h2⟩
  unfold binW at h
  split at h
  · rename_i k a k' b
    by_cases hk : k = k'
    · subst hk
      cases op <;> simp only [if_true] at h <;> simp only [binA, if_true]
      case shl => simp only [shiftA]; rw [if_neg (by omega)]; exact ⟨_, rfl, h.2⟩
      case shr => simp only [shiftA]; rw [if_neg (by omega)]; exact ⟨_, rfl, h.2⟩
      case quo => exact ⟨_, by simp only [intA]; rw [if_neg h.1], h.2⟩
      case rem => exact ⟨_, by simp only [intA]; rw [if_neg h.1], h.2⟩
      all_goals exact fk h
    · cases op <;> simp only [if_neg hk] at h <;> simp only [binA]
      case shl => simp only [shiftA]; rw [if_neg (by omega)]; exact ⟨_, rfl, h.2⟩
      case shr => simp only [shiftA]; rw [if_neg (by omega)]; exact ⟨_, rfl, h.2⟩
  · rename_i a b
    cases op <;> simp only at h <;> simp only [binA]
    case add => exact ⟨_, by simp only [strA]; rw [if_pos h.1], h.2⟩
    all_goals exact fk h
  · cases op <;> simp only at h <;> first | exact h.elim | skip
    · obtain ⟨b, h1, h2⟩ := someK_imp h
      exact ⟨_, by simp only [binA, equalB_ok h1, Option.map_some], forkB_imp h2⟩
    · obtain ⟨b, h1, h2⟩ := someK_imp h
      exact ⟨_, by simp only [binA, equalB_ok h1, Option.map_some], forkB_imp h2⟩
  · exact fk h

def indexAddrW (P : Program) (t : TypeId) (x i : AV) (K : AV → Prop) : Prop :=
  match P.underlying t, i with
  | some (.slice e), .int _ n =>
    match x with
    | .sl sz es _ => (0 ≤ n ∧ n < es.length) ∧ (if sizeA P e = some sz then K (.elt sz es n.toNat 0) else False)
    | _ => False
  | some (.array len e), .int _ n =>
    (0 ≤ n ∧ n < len) ∧
    match sizeA P e, x with
    | some s, .ptr b o => K (.ptr b (o + n.toNat * s))
    | some s, .elt sz es i j => K (.elt sz es i (j + n.toNat * s))
    | _, _ => False
  | _, _ => False
theorem indexAddrW_imp {P : Program} {t : TypeId} {x i : AV} {K : AV → Prop} (h : indexAddrW P t x i K) : ∃ v, indexAddrA P t x i = some v ∧ K v := by
  unfold indexAddrW at h
  split at h
  · rename_i e k n hu
    split at h
    · obtain ⟨h1, h2⟩ := h
      split at h2
      · rename_i hs
        exact ⟨_, by simp only [indexAddrA, hu]; rw [if_pos ⟨h1.1, h1.2, hs⟩], h2⟩
      · exact h2.elim
    · exact h.elim
  · rename_i len e k n hu
    obtain ⟨h1, h2⟩ := h
    split at h2
    · rename_i s b o hs
      exact ⟨_, by simp only [indexAddrA, hu, hs]; rw [if_pos h1], h2⟩
    · rename_i s sz es i j hs
      exact ⟨_, by simp only [indexAddrA, hu, hs]; rw [if_pos h1], h2⟩
    · exact h2.elim
  · exact h.elim

def indexW (P : Program) (t : TypeId) (x i : AV) (K : AV → Prop) : Prop :=
  match P.underlying t, x, i with
  | some .string, .str s, .int _ n => 0 ≤ n ∧ ∃ c, s[n.toNat]? = some c ∧ K (.int .u8 c.toNat)
  | _, _, _ => False
theorem indexW_imp {P : Program} {t : TypeId} {x i : AV} {K : AV → Prop} (h : indexW P t x i K) : ∃ v, indexA P t x i = some v ∧ K v := by
  unfold indexW at h
  split at h
  · rename_i s k n hu
    obtain ⟨h1, c, h2, h3⟩ := h
    exact ⟨_, by simp only [indexA, hu]; rw [if_pos h1, h2]; rfl, h3⟩
  · exact h.elim

def boundW (x : Option AV) (d : Nat) (K : Nat → Prop) : Prop :=
  match x with
  | none => K d
  | some (.int _ n) => 0 ≤ n ∧ K n.toNat
  | some _ => False
theorem boundW_imp {x : Option AV} {d : Nat} {K : Nat → Prop} (h : boundW x d K) : ∃ n, boundA x d = some n ∧ K n := by
  unfold boundW at h
  split at h
  · exact ⟨_, rfl, h⟩
  · exact ⟨_, by simp only [boundA]; rw [if_pos h.1], h.2⟩
  · exact h.elim

def sliceW (P : Program) (t : TypeId) (x : AV) (lo hi mx : Option AV) (K : AV → Prop) : Prop :=
  match P.underlying t, x with
  | some .string, .str s =>
    match mx with
    | none => boundW lo 0 fun l => boundW hi s.length fun h => (l ≤ h ∧ h ≤ s.length) ∧ K (.str ((s.take h).drop l))
    | _ => False
  | some (.slice e), .sl sz es o =>
    someK (sizeA P e) fun s => boundW lo 0 fun l => boundW hi es.length fun h => (l ≤ h ∧ h ≤ es.length) ∧ (s = sz ∨ es = []) ∧
      match mx with
      | none => K (.sl sz ((es.take h).drop l) (ownAfter o es.length l h none))
      | some (.int _ m) => (hi.isSome = true ∧ h ≤ m ∧ m ≤ es.length) ∧ K (.sl sz ((es.take h).drop l) (ownAfter o es.length l h (some (some m.toNat))))
      | _ => False
  | _, _ => False
theorem sliceW_imp {P : Program} {t : TypeId} {x : AV} {lo hi mx : Option AV} {K : AV → Prop} (h : sliceW P t x lo hi mx K) : ∃ v, sliceA P t x lo hi mx = some v ∧ K v := by
  unfold sliceW at h
  split at h
  · rename_i s hu
    split at h
    · obtain ⟨l, hl, h⟩ := boundW_imp h
      obtain ⟨m, hm, h⟩ := boundW_imp h
      exact ⟨_, by simp only [sliceA, hu, hl, hm]; rw [if_pos h.1], h.2⟩
    · exact h.elim
  · rename_i e sz es o hu
    obtain ⟨s, hs, h⟩ := someK_imp h
    obtain ⟨l, hl, h⟩ := boundW_imp h
    obtain ⟨m, hm, h⟩ := boundW_imp h
    obtain ⟨h1, h2, h3⟩ := h
    split at h3
    · exact ⟨_, by simp only [sliceA, hu, hl, hm, hs]; rw [if_pos ⟨h1.1, h1.2, h2⟩], h3⟩
    · exact ⟨_, by simp only [sliceA, hu, hl, hm, hs]; rw [if_pos ⟨h1.1, h1.2, h2⟩, if_pos h3.1], h3.2⟩
    · exact h3.elim
  · exact h.elim

def convertW (P : Program) (src dst : TypeId) (x : AV) (K : AV → Prop) : Prop :=
  match P.underlying src, P.underlying dst, x with
  | some (.slice e), some .string, .sl sz es _ =>
    match P.underlying e with
    | some (.int .u8) => (sz = 1 ∨ es = []) ∧ ∃ l, es.mapM byteOf = some l ∧ K (.str l)
    | _ => False
  | some .string, some (.slice e), .str s =>
    match P.underlying e with
    | some (.int .u8) => s.length ≤ 70368744177664 ∧ K (.sl 1 (s.map fun c => .int .u8 c.toNat) .no)
    | _ => False
  | _, _, _ => someK (convertA P src dst x) K
theorem convertW_imp {P : Program} {src dst : TypeId} {x : AV} {K : AV → Prop} (h : convertW P src dst x K) : ∃ v, convertA P src dst x = some v ∧ K v := by
  unfold convertW at h
  split at h
  · rename_i e sz es o hs hd
    split at h
    · rename_i he
      obtain ⟨h1, l, h2, h3⟩ := h
      exact ⟨_, by simp only [convertA, hs, hd, he]; rw [if_pos h1, h2]; rfl, h3⟩
    · exact h.elim
  · rename_i e s hs hd
    split at h
    · rename_i he
      exact ⟨_, by simp only [convertA, hs, hd, he]; rw [if_pos h.1], h.2⟩
    · exact h.elim
  · exact someK_imp h

def appendW (P : Program) (S : St) (t tx : TypeId) (x y : AV) (K : AV → St → Prop) : Prop :=
  match P.underlying t with
  | some (.slice e) =>
    match P.info? e, x with
    | some i, .sl sz es o =>
      (sz = i.size ∨ es = []) ∧
      if 0 < i.size ∧ (i.zero.map fun z => z.cells.size) = some i.size then
        someK (srcA P tx i.size y) fun ys => (es.length + ys.length) * (i.bytes + 1) ≤ roomA ∧
          match o.weak with
          | .tok k =>
            match S.live[k]? with
            | some (n, e') => if e' = e ∧ sz = i.size then n = es.length ∧ K (.sl i.size (es ++ ys) (.tok k)) { S with live := S.live.set k (es.length + ys.length, e) } else False
            | none => False
          | .full =>
            match y with
            | .sl _ _ .full =>
              match ys with
              | [] => K (.sl sz es o) S
              | c :: cs => K (.sl i.size (es ++ c :: cs) (.tok S.live.length)) { S with live := S.live ++ [(es.length + (c :: cs).length, e)] }
            | _ => (ys = [] → K (.sl sz es o) S) ∧ (ys ≠ [] → K (.sl i.size (es ++ ys) (.tok S.live.length)) { S with live := S.live ++ [(es.length + ys.length, e)] })
          | _ => False
      else False
    | _, _ => False
  | _ => False
theorem appendW_imp {P : Program} {S : St} {t tx : TypeId} {x y : AV} {K : AV → St → Prop} (h : appendW P S t tx x y K) : ∃ v S', appendA P S t tx x y = some (v, S') ∧ K v S' := by
  unfold appendW at h
  unfold appendA
  split at h
  · rename_i e hu
    split at h
    · rename_i i sz es o hi
      obtain ⟨h1, h⟩ := h
      split at h
      · rename_i h2
        obtain ⟨ys, hys, h'⟩ := someK_imp h
        clear h
        obtain ⟨h3, h⟩ := h'
        simp only [hu, hi, hys, h3, h2, h1, and_self, if_true]
        split at h
        · rename_i k hk
          split at h
          · rename_i n e' hlive
            split at h
            · rename_i h4
              obtain ⟨h6, h7⟩ := h4
              obtain ⟨h8, h9⟩ := h
              subst h6; subst h7; subst h8
              have hlt : k < S.live.length := (List.getElem?_eq_some_iff.1 hlive).1
              by_cases hnil : ys = []
              · subst hnil
                have ho : o = .tok k := by cases o <;> simp_all [Own.weak]
                subst ho
                rw [if_pos rfl]
                refine ⟨_, _, rfl, ?_⟩
                have e1 : S.live.set k (es.length, e') = S.live := by
                  apply List.ext_getElem?
                  intro j
                  rw [List.getElem?_set]
                  by_cases hj : k = j
                  · subst hj; rw [if_pos rfl, if_pos hlt, hlive]
                  · simp [hj]
                simp only [List.append_nil, List.length_nil, Nat.add_zero, e1] at h9
                exact h9
              · rw [if_neg hnil]
                simp only [hk, hlive, and_self, if_true]
                exact ⟨_, _, rfl, h9⟩
            · exact h.elim
          · exact h.elim
        · rename_i hk
          have key : (ys = [] → K (.sl sz es o) S) ∧ (ys ≠ [] → K (.sl i.size (es ++ ys) (.tok S.live.length)) { S with live := S.live ++ [(es.length + ys.length, e)] }) := by
            split at h
            · split at h
              · exact ⟨fun _ => h, fun hn => absurd rfl hn⟩
              · exact ⟨fun hn => absurd hn (by simp), fun _ => h⟩
            · exact h
          by_cases hnil : ys = []
          · rw [if_pos hnil]; exact ⟨_, _, rfl, key.1 hnil⟩
          · rw [if_neg hnil]
            simp only [hk]
            exact ⟨_, _, rfl, key.2 hnil⟩
        · exact h.elim
      · exact h.elim
    · exact h.elim
  · exact h.elim

def makeSliceW (P : Program) (S : St) (t : TypeId) (l c : AV) (K : AV → St → Prop) : Prop :=
  match P.underlying t, l, c with
  | some (.slice e), .int .i64 n, .int .i64 m =>
    someK (P.info? e) fun i => someK i.zero fun z =>
      (0 ≤ n ∧ n ≤ m ∧ m * (i.bytes + 1) ≤ roomA) ∧
      if z.cells.size = i.size ∧ 0 < i.size ∧ (absV z).closed1 ∧ (absV z).cells.length = i.size ∧ z.cells.toList.all (·.oneCell') then
        K (.sl i.size (List.replicate n.toNat (absV z)) (.tok S.live.length)) { S with live := S.live ++ [(n.toNat, e)] }
      else False
  | _, _, _ => False
theorem makeSliceW_imp {P : Program} {S : St} {t : TypeId} {l c : AV} {K : AV → St → Prop} (h : makeSliceW P S t l c K) : ∃ v S', makeSliceA P S t l c = some (v, S') ∧ K v S' := by
  unfold makeSliceW at h
  unfold makeSliceA
  split at h
  · rename_i e n m hu
    obtain ⟨i, hi, h⟩ := someK_imp h
    obtain ⟨z, hz, h⟩ := someK_imp h
    obtain ⟨h1, h⟩ := h
    split at h
    · rename_i h2
      simp only [hu, hi, hz]
      rw [if_pos ⟨h1.1, h1.2.1, h1.2.2, h2⟩]
      exact ⟨_, _, rfl, h⟩
    · exact h.elim
  · exact h.elim

/-- what a call's result looks like; whether it may be appended to -/
abbrev Shapes := FuncId → Option (Sh × Option TypeId)
def lvOf (o : Option TypeId) (r : AV) : List (Nat × TypeId) :=
  match o, r with
  | some e, .sl _ es _ => [(es.length, e)]
  | some e, .tup (.sl _ es _ :: _) => [(es.length, e)]
  | _, _ => []

/-- what a call answers -/
structure CallIs (x : Option (AV × List (Nat × TypeId))) (r : AV) (lv : List (Nat × TypeId)) : Prop where
  eq : x = some (r, lv)

def callW (X : Shapes) (R : Callee) (C : ICallee) (S : St) (f : FuncId) (args : List AV) (K : AV → St → Prop) : Prop :=
  if (args.map AV.strip1).all AV.closed1 then
    someK (X f) fun sh => exSh sh.1 fun r => CallIs (R f (args.map AV.strip1)) r (lvOf sh.2 r) ∧
      match lvOf sh.2 r with
      | [] => forkB r fun r => K r S
      | lv => K (adopt S.live.length r) { S with live := S.live ++ lv }
  else someK (C f args S) fun x => K x.1 x.2
theorem callW_imp {X : Shapes} {R : Callee} {C : ICallee} {S : St} {f : FuncId} {args : List AV} {K : AV → St → Prop} (h : callW X R C S f args K) : ∃ v S', callG R C S f args = some (v, S') ∧ K v S' := by
  unfold callW at h
  unfold callG
  split at h
  · rename_i hc
    rw [if_pos hc]
    obtain ⟨sh, _, h⟩ := someK_imp h
    obtain ⟨r, hr, h⟩ := exSh_imp h
    unfold callA
    rw [if_pos hc, hr.eq]
    split at h
    · rename_i hlv
      simp only [hlv]
      exact ⟨_, _, rfl, forkB_imp h⟩
    · rename_i lv hlv
      cases hl : lvOf sh.2 r with
      | nil => exact absurd hl hlv
      | cons p l =>
        rw [hl] at h
        exact ⟨_, _, rfl, h⟩
  · rename_i hc
    rw [if_neg hc]
    obtain ⟨x, hx, h⟩ := someK_imp h
    exact ⟨_, _, hx, h⟩

def opW (P : Program) (X : Shapes) (R : Callee) (C : ICallee) (ρ : Operand → AV) (bid : Nat) (S : St) (op : Op) (K : AV → St → Prop) : Prop :=
  match op with
  | .load t a => loadW P S t (ρ a) fun v => K v S
  | .binOp op t x y _ => binW P op t (isK x || isK y) (ρ x) (ρ y) fun v => K v S
  | .indexAddr t x i => indexAddrW P t (ρ x) (ρ i) fun v => K v S
  | .index t x i => indexW P t (ρ x) (ρ i) fun v => K v S
  | .slice t x lo hi mx => sliceW P t (ρ x) (lo.map ρ) (hi.map ρ) (mx.map ρ) fun v => K v S
  | .convert src dst x => convertW P src dst (ρ x) fun v => K v S
  | .makeSlice t l c => makeSliceW P S t (ρ l) (ρ c) K
  | .extract t i =>
    match ρ t with
    | .tup vs => someK vs[i]? fun v => forkB v fun v => K v S
    | _ => False
  | .call c =>
    match c.callee with
    | .builtin .append =>
      match c.argTypes.toList, c.args.toList with
      | [t, tx], [x, y] => appendW P S t tx (ρ x) (ρ y) K
      | _, _ => False
    | .value f =>
      match ρ f with
      | .fn g cap => callW X R C S g (c.args.toList.map ρ ++ cap) K
      | _ => False
    | _ => someK (opA P R C ρ bid S (.call c)) fun x => K x.1 x.2
  | op => someK (opA P R C ρ bid S op) fun x => K x.1 x.2

theorem opW_imp {P : Program} {X : Shapes} {R : Callee} {C : ICallee} {ρ : Operand → AV} {bid : Nat} {S : St} {op : Op} {K : AV → St → Prop} (h : opW P X R C ρ bid S op K) : ∃ v S', opA P R C ρ bid S op = some (v, S') ∧ K v S' := by
  have pr : ∀ {z : Option AV}, (∃ v, z = some v ∧ K v S) → ∃ v S', z.map (·, S) = some (v, S') ∧ K v S' := fun ⟨v, h1, h2⟩ => ⟨v, S, by rw [h1]; rfl, h2⟩
  have df : ∀ {z : Option (AV × St)}, (someK z fun x => K x.1 x.2) → ∃ v S', z = some (v, S') ∧ K v S' := fun h => by
    obtain ⟨x, h1, h2⟩ := someK_imp h
    exact ⟨x.1, x.2, h1, h2⟩
  unfold opW at h
  split at h
  · exact pr (loadW_imp h)
  · exact pr (binW_imp h)
  · exact pr (indexAddrW_imp h)
  · exact pr (indexW_imp h)
  · exact pr (sliceW_imp h)
  · exact pr (convertW_imp h)
  · exact makeSliceW_imp h
  · split at h
    · rename_i t i _ vs hv
      obtain ⟨v, h1, h2⟩ := someK_imp h
      exact ⟨v, S, by simp only [opA, hv, h1]; rfl, forkB_imp h2⟩
    · exact h.elim
  · rename_i c
    split at h
    · rename_i hc
      split at h
      · rename_i t tx x y ht hx
        obtain ⟨v, S', h1, h2⟩ := appendW_imp h
        exact ⟨v, S', by simp only [opA, hc, ht, hx, h1], h2⟩
      · exact h.elim
    · rename_i f hc
      split at h
      · rename_i g cap hg
        obtain ⟨v, S', h1, h2⟩ := callW_imp h
        exact ⟨v, S', by simp only [opA, hc, hg, h1], h2⟩
      · exact h.elim
    · exact df h
  · exact df h
end Go.Abs
