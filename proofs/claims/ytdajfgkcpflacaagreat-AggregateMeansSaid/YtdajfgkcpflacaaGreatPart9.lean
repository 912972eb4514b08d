/- Own texts, part 9. -/
import Derived.Test.YtdajfgkcpflacaaGreatPart8

namespace Go.Abs
open Go.Proofs Go.Proofs.K17 Go.Proofs.D17 Go.RowKit
def u6 : Spec := fun args => match args with
  | [.int .i64 kind, .sl sz es _] => match unL unI es with
    | some l => if (sz = 6 ∨ l = []) ∧ l.length ≤ maxLen ∧ (∀ x ∈ l, itOk x) ∧ iOk kind then some (.bool true, []) else none
    | none => none
  | _ => none
def RM : Callee := tbl [(7, s7), (8, v8), (33, v33), (34, v34), (35, s105), (36, v36), (37, v37), (38, v38), (13, v13)]
def addF (s : Int × Bool) (x : ItI) : Int × Bool := ((addD s.1 x.n).1, s.2 && (addD s.1 x.n).2)
def sumF (l : List ItI) : Int × Bool := l.foldl addF (0, true)
def metP (l : List ItI) (x : ItI) : Bool := l.any fun y => decide (itV y = itV x)
def manyP (l : List ItI) : Nat → Nat
  | 0 => 0
  | i + 1 => manyP l i + (match l[i]? with
    | some x => if metP (l.take i) x then 0 else 1
    | none => 0)
def bV (b : Bst) : VI := ⟨b.k, b.n, b.s⟩
def lowP (b : Bst) (l : List ItI) : Nat := (l.filter fun x => decide (itV x = bV b)).length
def minB (l : List ItI) : Bst := bestP bMin (ofP bMin l).its
def maxB (l : List ItI) : Bst := bestP bMax (ofP bMax l).its
/-- the dividend of the mean -/
def dvd (kind : Int) (s : Int × Bool) : Int × Bool := if kind = 2 ∧ s.2 = true then fromD s.1 else s
structure KM where
  i : Nat
  x : ItI
  k : Nat
abbrev itB (x : ItI) : List AV := [.int .i64 x.k, .int .i64 x.n, .str x.s]
def b6 (kind : Int) (l : List ItI) : Anns :=
  let vs : List AV := [.int .i64 kind, .sl 6 (itsL l) .no, .ptr 0 0, .ptr 1 0]
  let B : List (Option (List AV)) := [some (bC (minB l)), some (bC (maxB l))]
  ⟨fun j => if j = 9 then some { α := Nat, slots := [0, 1, 5, 6, 7, 8, 9, 10, 11, 12], nb := 2, vals := fun i => vs ++ [.int .i64 (sumF (l.take i)).1, .bool (sumF (l.take i)).2, .int .i64 (manyP l i), .int .i64 (lowP (minB l) (l.take i)), .int .i64 (lowP (maxB l) (l.take i)), .int .i64 i], sS := fun _ => ⟨B, []⟩, I := fun i => i ≤ l.length, μ := fun i => l.length - i }
  else if j = 1000013 then some { α := KM, slots := [0, 1, 5, 6, 7, 8, 9, 10, 11, 12, 13, 14, 15], nb := 3, vals := fun p => vs ++ [.int .i64 (sumF (l.take p.i)).1, .bool (sumF (l.take p.i)).2, .int .i64 (manyP l p.i), .int .i64 (lowP (minB l) (l.take p.i)), .int .i64 (lowP (maxB l) (l.take p.i)), .int .i64 p.i, .ptr 2 0, .int .i64 (addD (sumF (l.take p.i)).1 p.x.n).1, .bool (addD (sumF (l.take p.i)).1 p.x.n).2], sS := fun p => ⟨B ++ [some (itB p.x)], []⟩, I := fun p => l[p.i]? = some p.x, μ := fun _ => 0, bools := [8], rel := fun T p => T[12]? = some (.int .i64 p.i) }
  else if j = 16 then some { α := KM, slots := [0, 1, 5, 6, 7, 8, 9, 10, 11, 12, 13, 16, 17], nb := 3, vals := fun p => vs ++ [.int .i64 (sumF (l.take (p.i + 1))).1, .bool (sumF (l.take (p.i + 1))).2, .int .i64 (manyP l p.i), .int .i64 (lowP (minB l) (l.take p.i)), .int .i64 (lowP (maxB l) (l.take p.i)), .int .i64 p.i, .ptr 2 0, .bool (metP (l.take p.k) p.x), .int .i64 p.k], sS := fun p => ⟨B ++ [some (itB p.x)], []⟩, I := fun p => l[p.i]? = some p.x ∧ p.k ≤ p.i, μ := fun p => p.i - p.k, bools := [16], link := some fun T p => T[12]? = some (.int .i64 p.i) }
  else if j = 1000021 then some { α := KM, slots := [0, 1, 5, 6, 7, 8, 9, 10, 11, 12, 13], nb := 3, vals := fun p => vs ++ [.int .i64 (sumF (l.take (p.i + 1))).1, .bool (sumF (l.take (p.i + 1))).2, .int .i64 (manyP l (p.i + 1)), .int .i64 (lowP (minB l) (l.take p.i)), .int .i64 (lowP (maxB l) (l.take p.i)), .int .i64 p.i, .ptr 2 0], sS := fun p => ⟨B ++ [some (itB p.x)], []⟩, I := fun p => l[p.i]? = some p.x, μ := fun _ => 0, rel := fun T p => T[12]? = some (.int .i64 p.i) }
  else if j = 1000025 then some { α := KM, slots := [0, 1, 5, 6, 7, 8, 9, 10, 11, 12, 13], nb := 3, vals := fun p => vs ++ [.int .i64 (sumF (l.take (p.i + 1))).1, .bool (sumF (l.take (p.i + 1))).2, .int .i64 (manyP l (p.i + 1)), .int .i64 (lowP (minB l) (l.take (p.i + 1))), .int .i64 (lowP (maxB l) (l.take p.i)), .int .i64 p.i, .ptr 2 0], sS := fun p => ⟨B ++ [some (itB p.x)], []⟩, I := fun p => l[p.i]? = some p.x, μ := fun _ => 0, rel := fun T p => T[12]? = some (.int .i64 p.i) }
  else if j = 1000027 then some { α := Unit, slots := [0, 1, 5, 6, 7, 8, 9, 10, 11], nb := 2, vals := fun _ => vs ++ [.int .i64 (sumF l).1, .bool (sumF l).2, .int .i64 (manyP l l.length), .int .i64 (lowP (minB l) l), .int .i64 (lowP (maxB l) l)], sS := fun _ => ⟨B, []⟩, I := fun _ => True, μ := fun _ => 0, bools := [8] }
  else if j = 1000037 then some { α := Unit, slots := [0, 1, 18, 19, 20], nb := 2, vals := fun _ => [.int .i64 kind, .sl 6 (itsL l) .no, .int .i64 l.length, .int .i64 (dvd kind (sumF l)).1, .bool (dvd kind (sumF l)).2], sS := fun _ => ⟨B, []⟩, I := fun _ => True, μ := fun _ => 0, bools := [20] }
  else none, nA⟩
end Go.Abs

namespace Go.Abs
open Go.Proofs Go.Proofs.K17 Go.Proofs.D17 Go.RowKit
/-! distinct -/
def getV (L : List (VI × Int)) (v : VI) : Int := match L with
  | [] => 0
  | (u, d) :: t => if u = v then d else getV t v
theorem getV_add {v u : VI} {c : Int} : ∀ {L : List (VI × Int)}, getV (addV v c L) u = if v = u then wrap64 (getV L v + c) else getV L u
  | [] => by
    unfold addV getV
    split <;> rfl
  | (y, d) :: t => by
    unfold addV
    by_cases h : y = v
    · subst h
      simp only [if_true, getV]
      split <;> rfl
    · simp only [if_neg h, getV]
      rw [getV_add (L := t)]
      by_cases h2 : v = u
      · subst h2; simp only [if_neg h, if_true]
      · simp only [if_neg h2]
theorem getV_mem {v : VI} : ∀ {L : List (VI × Int)}, v ∉ L.map (·.1) → getV L v = 0
  | [], _ => rfl
  | (y, d) :: t, h => by
    simp only [List.map_cons, List.mem_cons, not_or] at h
    unfold getV
    rw [if_neg (fun e => h.1 e.symm)]
    exact getV_mem h.2
theorem getV_at : ∀ {L : List (VI × Int)}, (L.map (·.1)).Nodup → ∀ p ∈ L, getV L p.1 = p.2
  | (y, d) :: t, hn, p, hp => by
    obtain ⟨h1, h2⟩ := List.nodup_cons.1 hn
    unfold getV
    rcases List.mem_cons.1 hp with rfl | hp
    · simp
    · have : y ≠ p.1 := fun e => h1 (by show y ∈ _; rw [e]; exact List.mem_map.2 ⟨p, hp, rfl⟩)
      rw [if_neg this]
      exact getV_at h2 p hp
theorem sums_nodup (l : List ItI) : ((sumsV l).map (·.1)).Nodup := by
  have : ∀ (l : List ItI) (L : List (VI × Int)), (L.map (·.1)).Nodup → ((l.foldl (fun m x => addV (itV x) x.c m) L).map (·.1)).Nodup := by
    intro l
    induction l with
    | nil => exact fun L h => h
    | cons x l ih => exact fun L h => ih _ (addV_nodup h)
  exact this l [] (by simp)
def kV (v : VI) : KeyT := ([], 0, v.k, v.n, v.s)
theorem kV_iff {x : ItI} {v : VI} : itV x = v ↔ ky false x = kV v := by
  obtain ⟨k, n, s⟩ := v
  unfold itV ky kap markI kV
  simp
theorem sums_get (l : List ItI) (v : VI) : getV (sumsV l) v = wrap64 (cnt false l (kV v)) := by
  have : ∀ (l : List ItI) (L : List (VI × Int)), iOk (getV L v) → getV (l.foldl (fun m x => addV (itV x) x.c m) L) v = wrap64 (getV L v + cnt false l (kV v)) := by
    intro l
    induction l with
    | nil =>
      intro L hL
      show getV L v = wrap64 (getV L v + 0)
      rw [Int.add_zero, w64_in hL]
    | cons x l ih =>
      intro L hL
      have e : cnt false (x :: l) (kV v) = cntG false (kV v) x + cnt false l (kV v) := rfl
      rw [List.foldl_cons, e]
      by_cases hx : itV x = v
      · have hg : cntG false (kV v) x = x.c := by unfold cntG; rw [if_pos (kV_iff.1 hx)]
        have ha : getV (addV (itV x) x.c L) v = wrap64 (getV L v + x.c) := by rw [getV_add, if_pos hx, hx]
        rw [ih _ (by rw [ha]; exact w64_iOk _), ha, hg, w64_add, Int.add_assoc]
      · have hg : cntG false (kV v) x = 0 := by unfold cntG; rw [if_neg fun h => hx (kV_iff.2 h)]
        have ha : getV (addV (itV x) x.c L) v = getV L v := by rw [getV_add, if_neg hx]
        rw [ih _ (by rw [ha]; exact hL), ha, hg, Int.zero_add]
  have h := this l [] (by unfold getV iOk; omega)
  show getV (l.foldl _ []) v = _
  rw [h]
  show wrap64 (0 + _) = _
  rw [Int.zero_add]
theorem dist_ext {l m : List ItI} (h : ∀ k, wrap64 (cnt false l k) = wrap64 (cnt false m k)) : distV l = distV m := by
  have len : ∀ l, distV l = (((sumsV l).map (·.1)).filter fun v => decide (0 < getV (sumsV l) v)).length := fun l => by
    unfold distV
    rw [List.filter_map, List.length_map]
    congr 1
    refine List.filter_congr fun p hp => ?_
    show decide (0 < p.2) = decide (0 < getV (sumsV l) p.1)
    rw [getV_at (sums_nodup l) p hp]
  rw [len, len]
  refine List.Perm.length_eq ?_
  refine (List.perm_ext_iff_of_nodup ((sums_nodup l).filter _) ((sums_nodup m).filter _)).2 fun v => ?_
  have e : getV (sumsV l) v = getV (sumsV m) v := by rw [sums_get, sums_get, h]
  rw [List.mem_filter, List.mem_filter, e]
  simp only [decide_eq_true_eq]
  constructor
  · rintro ⟨_, h2⟩
    refine ⟨Classical.byContradiction fun hn => ?_, h2⟩
    rw [getV_mem hn] at h2; omega
  · rintro ⟨_, h2⟩
    refine ⟨Classical.byContradiction fun hn => ?_, h2⟩
    rw [← e, getV_mem hn] at h2; omega
/-! min, max -/
def cmpVK : Int × Int × List UInt8 → Int × Int × List UInt8 → Int := lex Lib.compareInt (lex Lib.compareInt Lib.compareBytes)
theorem ordV : Ord3 cmpVK := ord_lex ord_int (ord_lex ord_int ord_bytes)
def vK (x : ItI) : Int × Int × List UInt8 := (x.k, x.n, x.s)
def bK (b : Bst) : Int × Int × List UInt8 := (b.k, b.n, b.s)
theorem cmpV_vK (k n : Int) (s : List UInt8) (k' n' : Int) (s' : List UInt8) : cmpV k n s k' n' s' = cmpVK (k, n, s) (k', n', s') := by
  unfold cmpV or3 cmpVK lex; rfl
/-- what is best of a list -/
structure BestIs (op : List UInt8) (l : List ItI) (b : Bst) : Prop where
  f : b.f = true
  mem : ∃ x ∈ l, vK x = bK b
  all : ∀ x ∈ l, (op = bMin → 0 ≤ cmpVK (vK x) (bK b)) ∧ (op = bMax → cmpVK (vK x) (bK b) ≤ 0)
theorem irrV (k : Int × Int × List UInt8) : cmpVK k k = 0 := (ordV.eq k k).2 rfl
theorem le_transV {a b c : Int × Int × List UInt8} (h1 : cmpVK a b ≤ 0) (h2 : cmpVK b c ≤ 0) : cmpVK a c ≤ 0 := by
  by_cases e1 : cmpVK a b = 0
  · rw [(ordV.eq _ _).1 e1]; exact h2
  · by_cases e2 : cmpVK b c = 0
    · rw [← (ordV.eq _ _).1 e2]; exact h1
    · have := ordV.trans a b c (by omega) (by omega)
      omega
theorem best_is {op : List UInt8} (hop : op = bMin ∨ op = bMax) : ∀ {l : List ItI} {b : Bst} {p : List ItI}, (∀ x ∈ l, 0 < x.c) → (p = [] ∧ b = ⟨0, 0, [], false⟩ ∨ BestIs op p b) →
    (p ++ l = [] ∧ l.foldl (bstep op) b = ⟨0, 0, [], false⟩) ∨ BestIs op (p ++ l) (l.foldl (bstep op) b)
  | [], b, p, _, h => by
    rw [List.append_nil]; exact h
  | x :: l, b, p, hc, h => by
    have hx := hc x (by simp)
    have hnl : op ≠ bLast := by rcases hop with rfl | rfl <;> decide
    have hst : BestIs op (p ++ [x]) (bstep op b x) := by
      by_cases hb : b.f = false ∨ op = bLast ∨ (op = bMin ∧ cmpV x.k x.n x.s b.k b.n b.s < 0) ∨ (op = bMax ∧ 0 < cmpV x.k x.n x.s b.k b.n b.s)
      · rw [bstep_1 (by omega) hb]
        refine ⟨rfl, ⟨x, by simp, rfl⟩, fun y hy => ?_⟩
        rcases List.mem_append.1 hy with hy | hy
        · rcases h with ⟨hp, _⟩ | h
          · subst hp; cases hy
          · rcases hb with hb | hb | hb | hb
            · rw [h.f] at hb; cases hb
            · exact absurd hb hnl
            · obtain ⟨ho, hlt⟩ := hb
              subst ho
              rw [cmpV_vK] at hlt
              have hlt : cmpVK (vK x) (bK b) < 0 := hlt
              refine ⟨fun _ => ?_, fun e => absurd e (by decide)⟩
              show 0 ≤ cmpVK (vK y) (vK x)
              have h1 := (h.all y hy).1 rfl
              have h2 : cmpVK (bK b) (vK y) ≤ 0 := by rw [ordV.neg (vK y)]; omega
              have h3 := le_transV (Int.le_of_lt hlt) h2
              rw [ordV.neg (vK x)]; omega
            · obtain ⟨ho, hlt⟩ := hb
              subst ho
              rw [cmpV_vK] at hlt
              have hlt : 0 < cmpVK (vK x) (bK b) := hlt
              refine ⟨fun e => absurd e (by decide), fun _ => ?_⟩
              show cmpVK (vK y) (vK x) ≤ 0
              have h1 := (h.all y hy).2 rfl
              have h2 : cmpVK (bK b) (vK x) ≤ 0 := by rw [ordV.neg (vK x)]; omega
              exact le_transV h1 h2
        · obtain rfl := List.mem_singleton.1 hy
          exact ⟨fun _ => by show 0 ≤ cmpVK (vK y) (vK y); rw [irrV]; omega, fun _ => by show cmpVK (vK y) (vK y) ≤ 0; rw [irrV]; omega⟩
      · rw [bstep_2 hb]
        have hf : b.f = true := by
          cases hf : b.f with
          | true => rfl
          | false => exact absurd (.inl hf) hb
        rcases h with ⟨_, h0⟩ | h
        · rw [h0] at hf; cases hf
        · obtain ⟨z, hz, ez⟩ := h.mem
          refine ⟨hf, ⟨z, by simp [hz], ez⟩, fun y hy => ?_⟩
          rcases List.mem_append.1 hy with hy | hy
          · exact h.all y hy
          · obtain rfl := List.mem_singleton.1 hy
            refine ⟨fun ho => ?_, fun ho => ?_⟩
            · have : ¬ cmpV y.k y.n y.s b.k b.n b.s < 0 := fun hh => hb (.inr (.inr (.inl ⟨ho, hh⟩)))
              rw [cmpV_vK] at this
              show 0 ≤ cmpVK (y.k, y.n, y.s) (b.k, b.n, b.s)
              omega
            · have : ¬ 0 < cmpV y.k y.n y.s b.k b.n b.s := fun hh => hb (.inr (.inr (.inr ⟨ho, hh⟩)))
              rw [cmpV_vK] at this
              show cmpVK (y.k, y.n, y.s) (b.k, b.n, b.s) ≤ 0
              omega
    have := best_is hop (l := l) (b := bstep op b x) (p := p ++ [x]) (fun y hy => hc y (by simp [hy])) (.inr hst)
    rw [List.append_assoc] at this
    exact this
theorem best_ext {op : List UInt8} (hop : op = bMin ∨ op = bMax) {l m : List ItI} (hl : ∀ x ∈ l, 0 < x.c) (hm : ∀ x ∈ m, 0 < x.c) (h : ∀ v, (∃ x ∈ l, vK x = v) ↔ ∃ x ∈ m, vK x = v) : bestP op l = bestP op m := by
  have a := best_is hop (p := []) (b := ⟨0, 0, [], false⟩) hl (.inl ⟨rfl, rfl⟩)
  have b := best_is hop (p := []) (b := ⟨0, 0, [], false⟩) hm (.inl ⟨rfl, rfl⟩)
  rw [List.nil_append] at a b
  change (l = [] ∧ bestP op l = _) ∨ BestIs op l (bestP op l) at a
  change (m = [] ∧ bestP op m = _) ∨ BestIs op m (bestP op m) at b
  rcases a with ⟨al, ab⟩ | a
  · rcases b with ⟨_, bb⟩ | b
    · rw [ab, bb]
    · obtain ⟨x, hx, ex⟩ := b.mem
      obtain ⟨y, hy, _⟩ := (h _).2 ⟨x, hx, ex⟩
      rw [al] at hy; cases hy
  · rcases b with ⟨bl, _⟩ | b
    · obtain ⟨x, hx, ex⟩ := a.mem
      obtain ⟨y, hy, _⟩ := (h _).1 ⟨x, hx, ex⟩
      rw [bl] at hy; cases hy
    · obtain ⟨x, hx, ex⟩ := a.mem
      obtain ⟨y, hy, ey⟩ := b.mem
      obtain ⟨x', hx', ex'⟩ := (h _).1 ⟨x, hx, ex⟩
      obtain ⟨y', hy', ey'⟩ := (h _).2 ⟨y, hy, ey⟩
      have h1 := a.all y' hy'
      have h2 := b.all x' hx'
      rw [ey'] at h1
      rw [ex'] at h2
      have e : cmpVK (bK (bestP op m)) (bK (bestP op l)) = 0 := by
        have hn := ordV.neg (bK (bestP op l)) (bK (bestP op m))
        rcases hop with ho | ho
        · have := h1.1 ho; have := h2.1 ho; omega
        · have := h1.2 ho; have := h2.2 ho; omega
      have ek := (ordV.eq _ _).1 e
      have ef : (bestP op l).f = (bestP op m).f := by rw [a.f, b.f]
      generalize bestP op l = u at *
      generalize bestP op m = w at *
      obtain ⟨k, n, s, f⟩ := u
      obtain ⟨k', n', s', f'⟩ := w
      simp only [bK, Prod.mk.injEq] at ek
      simp only at ef
      simp [ek, ef]
end Go.Abs

namespace Go.Abs
open Go.Proofs Go.Proofs.K17 Go.Proofs.D17 Go.RowKit
theorem cnt_pos {f : Bool} {k : KeyT} : ∀ {l : List ItI}, (∀ x ∈ l, 1 ≤ x.c ∧ x.c ≤ 1000) → 0 ≤ cnt f l k ∧ cnt f l k ≤ 1000 * l.length ∧ ((∃ x ∈ l, ky f x = k) → 1 ≤ cnt f l k)
  | [], _ => by
    have e : cnt f [] k = 0 := rfl
    rw [e]
    exact ⟨Int.le_refl _, by simp, fun ⟨x, hx, _⟩ => by cases hx⟩
  | y :: l, h => by
    have hy := h y (by simp)
    obtain ⟨h1, h2, h3⟩ := cnt_pos (f := f) (k := k) (l := l) fun x hx => h x (by simp [hx])
    have e : cnt f (y :: l) k = cntG f k y + cnt f l k := rfl
    have hl : ((y :: l).length : Int) = l.length + 1 := by simp
    rw [e, hl]
    have hg : (ky f y = k → cntG f k y = y.c) ∧ (ky f y ≠ k → cntG f k y = 0) := ⟨fun e => by unfold cntG; rw [if_pos e], fun e => by unfold cntG; rw [if_neg e]⟩
    by_cases hk : ky f y = k
    · rw [hg.1 hk]
      exact ⟨by omega, by omega, fun _ => by omega⟩
    · rw [hg.2 hk]
      refine ⟨by omega, by omega, fun ⟨x, hx, ex⟩ => ?_⟩
      rcases List.mem_cons.1 hx with rfl | hx
      · exact absurd ex hk
      · have := h3 ⟨x, hx, ex⟩; omega
/-- the items kept: positive, and the values of the list -/
theorem kept_pos {s : StI} {L : List ItI} (hs : StOf (.keep false) s L) (hL : ∀ x ∈ L, 1 ≤ x.c ∧ x.c ≤ 1000) (hn : L.length ≤ 1000) : (∀ x ∈ s.its, 0 < x.c) ∧ ∀ k, (∃ x ∈ s.its, ky false x = k) ↔ ∃ x ∈ L, ky false x = k := by
  obtain ⟨i1, i2⟩ := hs.i.1 false rfl
  have hc : ∀ k, cnt false s.its k = cnt false L k := fun k => by
    obtain ⟨h1, h2, _⟩ := cnt_pos (f := false) (k := k) hL
    rw [i2, w64_in ⟨by omega, by omega⟩]
  constructor
  · intro x hx
    have h1 := srt_mem i1 hx
    rw [hc] at h1
    have h2 := (cnt_pos (f := false) (k := ky false x) hL).1
    have h3 := (i1.nrm x hx).2.1
    omega
  · intro k
    constructor
    · rintro ⟨x, hx, rfl⟩
      refine cnt_mem ?_
      rw [← hc, srt_mem i1 hx]
      exact (i1.nrm x hx).2.1
    · intro hk
      have := (cnt_pos (f := false) (k := k) hL).2.2 hk
      exact cnt_mem (by rw [hc]; omega)
theorem vK_ky {x : ItI} {v : Int × Int × List UInt8} : vK x = v ↔ ky false x = ([], 0, v.1, v.2.1, v.2.2) := by
  obtain ⟨k, n, s⟩ := v
  unfold vK ky kap markI
  simp
end Go.Abs

namespace Go.Abs
open Go.Proofs Go.Proofs.K17 Go.Proofs.D17 Go.RowKit
def u3 : Spec := fun args => match args with
  | [.int .i64 kind, .sl sz es _, .int .i64 p] => match unL unI es with
    | some l => if (sz = 6 ∨ l = []) ∧ l.length ≤ maxLen ∧ (∀ x ∈ l, itOk x) ∧ iOk kind ∧ iOk p then some (.bool true, []) else none
    | none => none
  | _ => none
def RQ : Callee := tbl [(7, s7), (8, v8), (10, s12), (9, s18), (11, v11)]
def resQ (_kind : Int) (l : List ItI) (p : Int) : Option Int := quantile (ofP bQuantile l).bks p
def valQ (kind : Int) (l : List ItI) (p : Int) : Bst := match resQ kind l p with
  | none => ⟨0, 0, [], false⟩
  | some n => ⟨kind, n, [], true⟩
def placeQ (l : List ItI) (p : Int) : Int := if (p * l.length + 999) / 1000 < 1 then 1 else (p * l.length + 999) / 1000
def b3 (kind : Int) (l : List ItI) (p : Int) : Anns :=
  let vs : List AV := [.int .i64 kind, .sl 6 (itsL l) .no, .int .i64 p]
  let S : St := ⟨[some (exC 5 bQuantile p), some (bC (valQ kind l p))], []⟩
  ⟨fun j => if j = 1000007 then some { α := Unit, slots := [0, 1, 2, 7, 8], nb := 2, vals := fun _ => vs ++ [.ptr 0 0, .ptr 1 0], sS := fun _ => S, I := fun _ => True, μ := fun _ => 0 }
  else if j = 1000010 then some { α := Unit, slots := [0, 1, 2, 7, 8, 9], nb := 2, vals := fun _ => vs ++ [.ptr 0 0, .ptr 1 0, .int .i64 (placeQ l p)], sS := fun _ => S, I := fun _ => True, μ := fun _ => 0 }
  else none, nA⟩
end Go.Abs

namespace Go.Abs
open Go.Proofs Go.Proofs.K17 Go.Proofs.D17 Go.RowKit
/-! a number and its bucket -/
theorem bk_pos {n : Nat} (h : n < 2 ^ 64) (h0 : 0 < n) : 0 < bk n := by
  by_cases h64 : n < 64
  · rw [bk_small n h64]; exact h0
  · have := sh_ge n h (by omega)
    unfold bk; omega
theorem low_near {n : Nat} (h : n < 2 ^ 64) (h0 : 0 < n) : lowN (bk n) ≤ n ∧ n - lowN (bk n) ≤ (n - 1) / 32 ∧ 0 < lowN (bk n) := by
  rw [low_bk n h]
  have hp : 0 < 2 ^ sh n := Nat.two_pow_pos _
  have e := Nat.div_add_mod n (2 ^ sh n)
  rw [Nat.mul_comm] at e
  have hm := Nat.mod_lt n hp
  by_cases h32 : 32 ≤ n
  · have h1 := sh_ge n h h32
    have h2 : 32 * 2 ^ sh n ≤ n / 2 ^ sh n * 2 ^ sh n := Nat.mul_le_mul_right _ h1
    refine ⟨by omega, ?_, by omega⟩
    rw [Nat.le_div_iff_mul_le (by decide)]
    omega
  · have : sh n = 0 := sh_small n (by omega)
    rw [this, Nat.pow_zero, Nat.div_one, Nat.mul_one]
    omega
theorem low_idx {n : Int} (h : -1152921504606846976 ≤ n ∧ n ≤ 1152921504606846976) :
    (n = 0 → low (idx n) = 0) ∧ (n < 0 → low (idx n) < 0 ∧ -low (idx n) ≤ -n ∧ -n - -low (idx n) ≤ (-n - 1) / 32) ∧ (0 < n → 0 < low (idx n) ∧ low (idx n) ≤ n ∧ n - low (idx n) ≤ (n - 1) / 32) := by
  refine ⟨fun h0 => by subst h0; decide +kernel, fun h0 => ?_, fun h0 => ?_⟩
  · obtain ⟨m, hm⟩ : ∃ m : Nat, n = -(m : Int) := ⟨n.natAbs, by omega⟩
    subst hm
    have m0 : 0 < m := by omega
    have ml : m < 9223372036854775808 := by omega
    have hb := bk_max m ml
    have hp := bk_pos (n := m) (by omega) m0
    have e : idx (-(m : Int)) = -(bk m : Int) := by unfold idx; rw [if_pos h0, show (- -(m : Int)).toNat = m by omega]
    have e2 : low (-(bk m : Int)) = -(lowN (bk m) : Int) := by unfold low; rw [if_neg (by omega), if_pos (by omega), show (- -(bk m : Int)).toNat = bk m by omega]
    rw [e, e2]
    obtain ⟨a, b, c⟩ := low_near (n := m) (by omega) m0
    omega
  · obtain ⟨m, hm⟩ : ∃ m : Nat, n = (m : Int) := ⟨n.natAbs, by omega⟩
    subst hm
    have m0 : 0 < m := by omega
    have ml : m < 9223372036854775808 := by omega
    have hb := bk_max m ml
    have e : idx (m : Int) = (bk m : Int) := by unfold idx; rw [if_neg (by omega), Int.toNat_natCast]
    have e2 : low (bk m : Int) = (lowN (bk m) : Int) := by unfold low; rw [if_neg (by omega), if_neg (by omega), Int.toNat_natCast]
    rw [e, e2]
    obtain ⟨a, b, c⟩ := low_near (n := m) (by omega) m0
    omega
theorem idx_mono {a b : Int} (ha : -1152921504606846976 ≤ a) (hb : b ≤ 1152921504606846976) (h : a ≤ b) : idx a ≤ idx b := by
  unfold idx
  split
  · split
    · have := bk_mono (-b).toNat (-a).toNat (by omega) (by omega)
      omega
    · omega
  · rw [if_neg (by omega)]
    have := bk_mono a.toNat b.toNat (by omega) (by omega)
    omega
/-! ranks of sorted buckets -/
def sumTo (k : Int) : Bks → Int
  | [] => 0
  | x :: t => (if x.1 ≤ k then x.2 else 0) + sumTo k t
def sumAll : Bks → Int
  | [] => 0
  | x :: t => x.2 + sumAll t
theorem sumTo_le {k : Int} : ∀ {l : Bks}, (∀ x ∈ l, 0 ≤ x.2) → 0 ≤ sumTo k l ∧ sumTo k l ≤ sumAll l
  | [], _ => ⟨Int.le_refl _, Int.le_refl _⟩
  | x :: t, h => by
    have h1 := h x (by simp)
    have h2 := sumTo_le (k := k) (l := t) fun y hy => h y (by simp [hy])
    unfold sumTo sumAll
    split <;> omega
theorem count_sum : ∀ {l : Bks} {s : Int}, 0 ≤ s → (∀ x ∈ l, 0 ≤ x.2) → s + sumAll l ≤ 9223372036854775807 → countFrom s l = s + sumAll l
  | [], s, _, _, _ => by show s = s + 0; omega
  | x :: t, s, h0, h, hb => by
    have h1 := h x (by simp)
    have h2 := (sumTo_le (k := 0) (l := t) fun y hy => h y (by simp [hy]))
    have hb : s + (x.2 + sumAll t) ≤ 9223372036854775807 := hb
    have h3 : 0 ≤ sumAll t := Int.le_trans h2.1 h2.2
    unfold countFrom
    rw [w64_in ⟨by omega, by omega⟩, count_sum (by omega) (fun y hy => h y (by simp [hy])) (by omega)]
    show _ = s + (x.2 + sumAll t)
    omega
theorem rank_at : ∀ {l : Bks} {s r k : Int}, l.Pairwise (fun x y => x.1 < y.1) → 0 ≤ s → (∀ x ∈ l, 0 ≤ x.2) → s + sumAll l ≤ 9223372036854775807 → (∃ x ∈ l, x.1 = k) → r ≤ s + sumTo k l → (∀ x ∈ l, x.1 < k → s + sumTo x.1 l < r) → rankFrom s r l = some (low k)
  | [], s, r, k, _, _, _, _, hk, _, _ => by obtain ⟨x, hx, _⟩ := hk; cases hx
  | x :: t, s, r, k, hp, h0, h, hb, hk, hr, hl => by
    obtain ⟨hx, ht⟩ := List.pairwise_cons.1 hp
    have h1 := h x (by simp)
    have hn : ∀ y ∈ t, 0 ≤ y.2 := fun y hy => h y (by simp [hy])
    have h2 := sumTo_le (k := 0) hn
    have h3 : 0 ≤ sumAll t := Int.le_trans h2.1 h2.2
    have hb : s + (x.2 + sumAll t) ≤ 9223372036854775807 := hb
    have hw : wrap64 (s + x.2) = s + x.2 := w64_in ⟨by omega, by omega⟩
    have zero : ∀ j, j ≤ x.1 → sumTo j t = 0 := fun j hj => by
      have : ∀ (t : Bks), (∀ y ∈ t, x.1 < y.1) → sumTo j t = 0 := by
        intro t
        induction t with
        | nil => intro _; rfl
        | cons y t ih =>
          intro hy
          have := hy y (by simp)
          unfold sumTo
          rw [if_neg (by omega), ih fun z hz => hy z (by simp [hz])]; rfl
      exact this t hx
    unfold rankFrom
    rw [hw]
    by_cases hkx : x.1 = k
    · subst hkx
      have e : sumTo x.1 (x :: t) = x.2 + sumTo x.1 t := by show (if x.1 ≤ x.1 then x.2 else 0) + _ = _; rw [if_pos (Int.le_refl _)]
      rw [e, zero x.1 (Int.le_refl _)] at hr
      rw [if_pos (by omega)]
    · obtain ⟨y, hy, ey⟩ := hk
      rcases List.mem_cons.1 hy with rfl | hy
      · exact absurd ey hkx
      have hlt := hx y hy
      rw [ey] at hlt
      have hxx := hl x (by simp) hlt
      have e : sumTo x.1 (x :: t) = x.2 + sumTo x.1 t := by show (if x.1 ≤ x.1 then x.2 else 0) + _ = _; rw [if_pos (Int.le_refl _)]
      rw [e, zero x.1 (Int.le_refl _)] at hxx
      rw [if_neg (by omega)]
      have up : ∀ j, x.1 ≤ j → sumTo j (x :: t) = x.2 + sumTo j t := fun j hj => by show (if x.1 ≤ j then x.2 else 0) + _ = _; rw [if_pos hj]
      rw [up k (by omega)] at hr
      refine rank_at ht (by omega) hn (by omega) ⟨y, hy, ey⟩ (by omega) fun z hz hzk => ?_
      have := hl z (by simp [hz]) hzk
      rw [up z.1 (by have := hx z hz; omega)] at this
      omega
/-! buckets of a list -/
def leB (l : List ItI) (k : Int) : Nat := (l.filter fun x => decide (idx x.n ≤ k)).length
def cB (l : List ItI) (k : Int) : Nat := (l.filter fun x => decide (idx x.n = k)).length
theorem leB_cons (x : ItI) (l : List ItI) (k : Int) : leB (x :: l) k = (if idx x.n ≤ k then 1 else 0) + leB l k := by
  unfold leB
  by_cases h : idx x.n ≤ k
  · simp [h]; omega
  · simp [h]
theorem cB_cons (x : ItI) (l : List ItI) (k : Int) : cB (x :: l) k = (if idx x.n = k then 1 else 0) + cB l k := by
  unfold cB
  by_cases h : idx x.n = k
  · simp [h]; omega
  · simp [h]
def sumK (l : List ItI) (k : Int) : List Int → Nat
  | [] => 0
  | j :: t => (if j ≤ k then cB l j else 0) + sumK l k t
theorem sumK_nil (k : Int) : ∀ K, sumK [] k K = 0
  | [] => rfl
  | j :: t => by unfold sumK; rw [sumK_nil k t]; split <;> rfl
theorem sumK_cons (x : ItI) (l : List ItI) (k : Int) : ∀ {K : List Int}, K.Nodup → sumK (x :: l) k K = (if idx x.n ∈ K ∧ idx x.n ≤ k then 1 else 0) + sumK l k K
  | [], _ => by simp [sumK]
  | j :: t, h => by
    obtain ⟨h1, h2⟩ := List.nodup_cons.1 h
    unfold sumK
    rw [sumK_cons x l k h2, cB_cons]
    by_cases e : idx x.n = j
    · subst e
      have h3 : ¬ (idx x.n ∈ t ∧ idx x.n ≤ k) := fun hh => h1 hh.1
      have hm : idx x.n ∈ idx x.n :: t := by simp
      rw [if_neg h3, if_pos rfl]
      by_cases hk : idx x.n ≤ k
      · have h4 : idx x.n ∈ idx x.n :: t ∧ idx x.n ≤ k := ⟨hm, hk⟩
        rw [if_pos h4]
        simp only [if_pos hk]
        omega
      · have h4 : ¬ (idx x.n ∈ idx x.n :: t ∧ idx x.n ≤ k) := fun hh => hk hh.2
        rw [if_neg h4]
        simp only [if_neg hk]
    · have hm : (idx x.n ∈ j :: t) ↔ idx x.n ∈ t := by simp [e]
      rw [if_neg e, Nat.zero_add]
      simp only [hm]
      omega
theorem sumK_le {k : Int} {K : List Int} (hK : K.Nodup) : ∀ {l : List ItI}, (∀ x ∈ l, idx x.n ∈ K) → sumK l k K = leB l k
  | [], _ => by rw [sumK_nil]; rfl
  | x :: l, h => by
    rw [sumK_cons x l k hK, leB_cons, sumK_le hK fun y hy => h y (by simp [hy])]
    have hx := h x (by simp)
    by_cases hk : idx x.n ≤ k
    · rw [if_pos hk, if_pos ⟨hx, hk⟩]
    · rw [if_neg hk, if_neg (fun hh => hk hh.2)]
end Go.Abs

namespace Go.Abs
open Go.Proofs Go.Proofs.K17 Go.Proofs.D17 Go.RowKit
def leN (l : List ItI) (n : Int) : Nat := (l.filter fun y => decide (y.n ≤ n)).length
theorem le_sum (n : Int) : ∀ l : List ItI, lessN l n + sameN l n = leN l n
  | [] => rfl
  | x :: l => by
    have ih := le_sum n l
    unfold lessN sameN leN at *
    by_cases h1 : x.n < n
    · have h2 : ¬ x.n = n := by omega
      have h3 : x.n ≤ n := by omega
      simp [h1, h2, h3]; omega
    · by_cases h2 : x.n = n
      · have h3 : x.n ≤ n := by omega
        simp [h2]; omega
      · have h3 : ¬ x.n ≤ n := by omega
        simp [h1, h2, h3]; omega
theorem ex_max : ∀ {l : List ItI}, l ≠ [] → ∃ y ∈ l, ∀ z ∈ l, z.n ≤ y.n
  | [x], _ => ⟨x, by simp, fun z hz => by obtain rfl := List.mem_singleton.1 hz; exact Int.le_refl _⟩
  | x :: y :: l, _ => by
    obtain ⟨m, hm, h⟩ := ex_max (l := y :: l) (by simp)
    by_cases hx : x.n ≤ m.n
    · refine ⟨m, by simp [List.mem_cons.1 hm], fun z hz => ?_⟩
      rcases List.mem_cons.1 hz with rfl | hz
      · exact hx
      · exact h z hz
    · refine ⟨x, by simp, fun z hz => ?_⟩
      rcases List.mem_cons.1 hz with rfl | hz
      · exact Int.le_refl _
      · have := h z hz; omega
theorem rank_ex {l : List ItI} {r : Int} (h1 : 1 ≤ r) : ∀ (m : Nat) {x : ItI}, x ∈ l → lessN l x.n ≤ m → r ≤ leN l x.n → ∃ z ∈ l, rankI l r z = true := by
  intro m
  induction m with
  | zero =>
    intro x hx hm hr
    refine ⟨x, hx, ?_⟩
    unfold rankI
    have := le_sum x.n l
    rw [decide_eq_true (by omega), decide_eq_true (by omega)]; rfl
  | succ m ih =>
    intro x hx hm hr
    have hs := le_sum x.n l
    by_cases hlt : (lessN l x.n : Int) < r
    · refine ⟨x, hx, ?_⟩
      unfold rankI
      rw [decide_eq_true hlt, decide_eq_true (by omega)]; rfl
    · have hne : (l.filter fun y => decide (y.n < x.n)) ≠ [] := fun e => by
        have : lessN l x.n = 0 := by unfold lessN; rw [e]; rfl
        omega
      obtain ⟨y, hy, hmax⟩ := ex_max hne
      obtain ⟨hyl, hyx⟩ := List.mem_filter.1 hy
      have hyx := of_decide_eq_true hyx
      have e : leN l y.n = lessN l x.n := by
        unfold leN lessN
        congr 1
        refine List.filter_congr fun z hz => ?_
        by_cases hz2 : z.n < x.n
        · have := hmax z (List.mem_filter.2 ⟨hz, decide_eq_true hz2⟩)
          rw [decide_eq_true hz2, decide_eq_true this]
        · rw [decide_eq_false hz2, decide_eq_false (by omega)]
      have hsy := le_sum y.n l
      have hsame : 1 ≤ sameN l y.n := by
        unfold sameN
        exact List.length_pos_iff.2 fun e => by
          have : y ∈ l.filter fun z => decide (z.n = y.n) := List.mem_filter.2 ⟨hyl, by simp⟩
          rw [e] at this; cases this
      exact ih hyl (by omega) (by omega)
theorem rank_in {l : List ItI} {r : Int} (h1 : 1 ≤ r) (h2 : r ≤ l.length) : ∃ x ∈ l, rankI l r x = true ∧ rankP l r = x.n := by
  have hne : l ≠ [] := fun e => by subst e; simp at h2; omega
  obtain ⟨y, hy, hmax⟩ := ex_max hne
  have hall : leN l y.n = l.length := by
    unfold leN
    rw [List.filter_eq_self.2 fun z hz => decide_eq_true (hmax z hz)]
  obtain ⟨z, hz, hr⟩ := rank_ex h1 _ hy (Nat.le_refl _) (by omega)
  unfold rankP
  cases hf : l.find? (rankI l r) with
  | none => have := List.find?_eq_none.1 hf z hz; rw [hr] at this; simp at this
  | some x => exact ⟨x, List.mem_of_find?_eq_some hf, List.find?_some hf, rfl⟩
theorem sm_one {l : List ItI} (h : ∀ x ∈ l, x.c = 1) (k : Int) : sm (gB k) l = cB l k := by
  induction l with
  | nil => rfl
  | cons x l ih =>
    rw [cB_cons]
    show gB k x + sm (gB k) l = _
    rw [ih fun y hy => h y (by simp [hy])]
    unfold gB
    rw [h x (by simp)]
    split <;> omega
theorem sumTo_K {l : List ItI} {k : Int} : ∀ {t : Bks}, (∀ x ∈ t, x.2 = cB l x.1) → sumTo k t = sumK l k (t.map (·.1))
  | [], _ => rfl
  | x :: t, h => by
    have ih := sumTo_K (k := k) (t := t) fun y hy => h y (by simp [hy])
    have hx := h x (by simp)
    show (if x.1 ≤ k then x.2 else 0) + sumTo k t = ((if x.1 ≤ k then cB l x.1 else 0) + sumK l k (t.map (·.1)) : Nat)
    rw [ih, hx]
    split <;> omega
theorem sumAll_to {k : Int} : ∀ {t : Bks}, (∀ x ∈ t, x.1 ≤ k) → sumTo k t = sumAll t
  | [], _ => rfl
  | x :: t, h => by
    have ih := sumAll_to (k := k) (t := t) fun y hy => h y (by simp [hy])
    show (if x.1 ≤ k then x.2 else 0) + sumTo k t = x.2 + sumAll t
    rw [ih, if_pos (h x (by simp))]
theorem famQ : famO bQuantile = some .smp := rfl
structure NuQ (l : List ItI) : Prop where
  len : l.length ≤ 40
  one : ∀ x ∈ l, x.c = 1
  rng : ∀ x ∈ l, -1152921504606846976 ≤ x.n ∧ x.n ≤ 1152921504606846976
  ok : ∀ x ∈ l, itOk x
theorem cB_le (l : List ItI) (k : Int) : cB l k ≤ l.length := List.length_filter_le ..
theorem bks_q {l : List ItI} (h : NuQ l) : (ofP bQuantile l).bks.Pairwise (fun x y => x.1 < y.1) ∧ (∀ x ∈ (ofP bQuantile l).bks, x.2 = cB l x.1 ∧ x.1 ≤ 1887) ∧ (∀ x ∈ l, ∃ y ∈ (ofP bQuantile l).bks, y.1 = idx x.n) ∧
    (∀ k, sumTo k (ofP bQuantile l).bks = leB l k) ∧ sumAll (ofP bQuantile l).bks = l.length := by
  obtain ⟨b1, b2, b3⟩ := (stOf_of famQ h.ok).b.1 rfl
  have hl := h.len
  have ht : ∀ k, tot (ofP bQuantile l).bks k = cB l k := fun k => by
    have := cB_le l k
    rw [b3, sm_one h.one, w64_in ⟨by omega, by omega⟩]
  have hc : ∀ x ∈ (ofP bQuantile l).bks, x.2 = cB l x.1 := fun x hx => by rw [← ht, tot_one b1 b2 hx]
  have hkey : ∀ x ∈ l, ∃ y ∈ (ofP bQuantile l).bks, y.1 = idx x.n := fun x hx => by
    refine Classical.byContradiction fun hn => ?_
    have h0 := tot_none (l := (ofP bQuantile l).bks) (k := idx x.n) fun y hy e => hn ⟨y, hy, e⟩
    rw [ht] at h0
    have : x ∈ l.filter fun z => decide (idx z.n = idx x.n) := List.mem_filter.2 ⟨hx, by simp⟩
    have : 0 < cB l (idx x.n) := List.length_pos_iff.2 fun e => by rw [e] at this; cases this
    omega
  have hle : ∀ x ∈ (ofP bQuantile l).bks, x.1 ≤ 1887 := fun x hx => by
    have h0 := b1.2 x hx
    rw [hc x hx] at h0
    have : (l.filter fun z => decide (idx z.n = x.1)) ≠ [] := fun e => h0 (by unfold cB; rw [e]; rfl)
    obtain ⟨z, hz⟩ := List.exists_mem_of_ne_nil _ this
    obtain ⟨hzl, hz⟩ := List.mem_filter.1 hz
    have hz := of_decide_eq_true hz
    have hr := h.rng z hzl
    have := (idx_range z.n (by omega) (by omega)).2
    omega
  have hnd : ((ofP bQuantile l).bks.map (·.1)).Nodup := by
    rw [List.nodup_iff_pairwise_ne, List.pairwise_map]
    exact b1.1.imp fun {a b} hab e => by omega
  have hs : ∀ k, sumTo k (ofP bQuantile l).bks = leB l k := fun k => by
    rw [sumTo_K hc, sumK_le hnd fun x hx => by obtain ⟨y, hy, e⟩ := hkey x hx; exact List.mem_map.2 ⟨y, hy, e⟩]
  refine ⟨b1.1, fun x hx => ⟨hc x hx, hle x hx⟩, hkey, hs, ?_⟩
  rw [← sumAll_to hle, hs]
  have : leB l 1887 = l.length := by
    unfold leB
    rw [List.filter_eq_self.2 fun z hz => decide_eq_true ?_]
    have hr := h.rng z hz
    exact (idx_range z.n (by omega) (by omega)).2
  rw [this]
theorem quant_law {l : List ItI} (h : NuQ l) (h0 : l ≠ []) {p : Int} (p1 : 1 ≤ p) (p2 : p ≤ 1000) : quantile (ofP bQuantile l).bks p = some (low (idx (rankP l (placeQ l p)))) ∧ -1152921504606846976 ≤ rankP l (placeQ l p) ∧ rankP l (placeQ l p) ≤ 1152921504606846976 := by
  obtain ⟨q1, q2, q3, q4, q5⟩ := bks_q h
  have hl := h.len
  have hN : 1 ≤ l.length := List.length_pos_iff.2 h0
  have hnn : ∀ x ∈ (ofP bQuantile l).bks, 0 ≤ x.2 := fun x hx => by rw [(q2 x hx).1]; omega
  have hc : count (ofP bQuantile l).bks = l.length := by
    unfold count
    rw [count_sum (Int.le_refl 0) hnn (by omega), q5, Int.zero_add]
  have hpN : 0 ≤ p * l.length ∧ p * l.length ≤ 1000 * l.length := ⟨Int.mul_nonneg (by omega) (by omega), Int.mul_le_mul_of_nonneg_right p2 (by omega)⟩
  have hpl : place (l.length : Int) p = placeQ l p := by
    unfold place placeQ
    have e1 : (l.length : Int) / 1000 = 0 := by omega
    have e2 : (l.length : Int) % 1000 = l.length := by omega
    rw [e1, e2, Int.zero_mul, Int.zero_add, Int.mul_comm]
    split <;> omega
  have hr1 : 1 ≤ placeQ l p := by unfold placeQ; split <;> omega
  have hr2 : placeQ l p ≤ l.length := by unfold placeQ; split <;> omega
  obtain ⟨x, hx, hr, hn⟩ := rank_in hr1 hr2
  have hxr := h.rng x hx
  refine ⟨?_, by rw [hn]; exact hxr.1, by rw [hn]; exact hxr.2⟩
  unfold quantile
  rw [hc, if_neg (by omega), hpl]
  unfold rank
  rw [if_neg (by omega), hn]
  unfold rankI at hr
  simp only [Bool.and_eq_true, decide_eq_true_eq] at hr
  have hls := le_sum x.n l
  obtain ⟨y, hy, ey⟩ := q3 x hx
  refine rank_at q1 (Int.le_refl 0) hnn (by omega) ⟨y, hy, ey⟩ ?_ fun z hz hzk => ?_
  · rw [q4, Int.zero_add]
    have : leN l x.n ≤ leB l (idx x.n) := by
      unfold leN leB
      rw [← List.countP_eq_length_filter, ← List.countP_eq_length_filter]
      refine List.countP_mono_left fun w hw hwx => ?_
      have hwx := of_decide_eq_true hwx
      exact decide_eq_true (idx_mono (h.rng w hw).1 hxr.2 hwx)
    omega
  · rw [q4, Int.zero_add]
    have : leB l z.1 ≤ lessN l x.n := by
      unfold leB lessN
      rw [← List.countP_eq_length_filter, ← List.countP_eq_length_filter]
      refine List.countP_mono_left fun w hw hwx => ?_
      have hwx := of_decide_eq_true hwx
      refine decide_eq_true ?_
      refine Classical.byContradiction fun hge => ?_
      have := idx_mono hxr.1 (h.rng w hw).2 (show x.n ≤ w.n by omega)
      omega
    omega
end Go.Abs

namespace Go.Abs
open Go.Proofs Go.Proofs.K17 Go.Proofs.D17 Go.RowKit
theorem sg_id {x : Int} (h : bigOk x) : sg x = x := by
  unfold bigOk at h
  unfold sg wv whi wlo wrap64
  omega
theorem nearN_scale {X Y p : Nat} (hp : 0 < p) : nearN (X * p) (Y * p) = nearN X Y := by
  unfold nearN
  rw [Nat.mul_mod_mul_right, Nat.mul_div_mul_right _ _ hp, ← Nat.sub_mul]
  have e1 : (Y - X % Y) * p < X % Y * p ↔ Y - X % Y < X % Y := Nat.mul_lt_mul_right hp
  have e2 : X % Y * p = (Y - X % Y) * p ↔ X % Y = Y - X % Y := Nat.mul_left_inj (Nat.pos_iff_ne_zero.1 hp)
  simp only [e1, e2]
theorem divP_scale {x d p : Int} (hp : 0 < p) (hd : 0 < d) : divP (x * p) (d * p) = divP x d := by
  have hdp : 0 < d * p := Int.mul_pos hd hp
  rw [divP_of (by omega), divP_of (by omega), Int.natAbs_mul, Int.natAbs_mul, nearN_scale (by omega)]
  have e : decide (x * p < 0) = decide (x < 0) := by
    by_cases h : x < 0
    · rw [decide_eq_true h, decide_eq_true (Int.mul_neg_of_neg_of_pos h hp)]
    · rw [decide_eq_false h, decide_eq_false (by have := Int.mul_nonneg (show 0 ≤ x by omega) (Int.le_of_lt hp); omega)]
  have e2 : decide (d * p < 0) = decide (d < 0) := by rw [decide_eq_false (by omega), decide_eq_false (by omega)]
  rw [e, e2]
theorem num_of {x d : Int} (h : (divP x d).2 = true) : numP 3 x d = valA 3 (divP x d).1 [] := by unfold numP; rw [if_pos h, if_neg (by decide)]
end Go.Abs

namespace Go.Abs
open Go.Proofs Go.Proofs.K17 Go.Proofs.D17 Go.RowKit
theorem smc_one : ∀ {l : List ItI}, (∀ x ∈ l, x.c = 1) → sm ItI.c l = l.length
  | [], _ => rfl
  | x :: l, hh => by
    have h1 := hh x (by simp)
    have h2 := smc_one fun y hy => hh y (List.mem_cons_of_mem _ hy)
    show x.c + sm ItI.c l = ((l.length + 1 : Nat) : Int)
    omega
theorem cnt_res {op : List UInt8} {fam : Fam} (hf : famO op = some fam) {l : List ItI} (h : NuQ l) : cntP [⟨0, ofP op l⟩] = l.length := by
  have S := stOf_of hf h.ok
  have hl := h.len
  show wrap64 (0 + (ofP op l).n) = _
  rw [S.n, smc_one h.one, Int.zero_add, w64_in (w64_iOk _), w64_in ⟨by omega, by omega⟩]
theorem res_count {kind : Int} {l : List ItI} (h : NuQ l) : resP bCount 0 kind [⟨0, ofP bCount l⟩] 0 = valA 2 l.length [] := by
  have hf : famO bCount = some .cnt := rfl
  have hc := cnt_res hf h
  unfold resP
  rw [hf]
  simp only
  rw [hc, if_neg (fun hh => hh.2.1 rfl)]
  rfl
/-! distinct -/
theorem metP_iff {l : List ItI} {x : ItI} : metP l x = true ↔ ∃ y ∈ l, itV y = itV x := by
  unfold metP; simp
theorem many_uniq (l : List ItI) : ∀ i, i ≤ l.length → ∃ U : List VI, U.Nodup ∧ U.length = manyP l i ∧ ∀ v, v ∈ U ↔ ∃ x ∈ l.take i, itV x = v
  | 0, _ => ⟨[], by simp, rfl, fun v => by simp⟩
  | i + 1, hi => by
    obtain ⟨U, h1, h2, h3⟩ := many_uniq l i (by omega)
    have hil : i < l.length := by omega
    have e : manyP l (i + 1) = manyP l i + (if metP (l.take i) l[i] then 0 else 1) := by
      show manyP l i + _ = _
      rw [List.getElem?_eq_getElem hil]
    have mem : ∀ v, (∃ x ∈ l.take (i + 1), itV x = v) ↔ (∃ x ∈ l.take i, itV x = v) ∨ itV l[i] = v := fun v => by
      rw [List.take_succ_eq_append_getElem hil]
      constructor
      · rintro ⟨x, hx, ex⟩
        rcases List.mem_append.1 hx with hx | hx
        · exact .inl ⟨x, hx, ex⟩
        · obtain rfl := List.mem_singleton.1 hx
          exact .inr ex
      · rintro (⟨x, hx, ex⟩ | ex)
        · exact ⟨x, List.mem_append_left _ hx, ex⟩
        · exact ⟨l[i], List.mem_append_right _ (List.mem_singleton.2 rfl), ex⟩
    cases hm : metP (l.take i) l[i] with
    | true =>
      refine ⟨U, h1, by rw [e, hm]; exact h2, fun v => ?_⟩
      rw [mem, h3]
      constructor
      · exact .inl
      · rintro (h | h)
        · exact h
        · obtain ⟨y, hy, ey⟩ := metP_iff.1 hm
          exact ⟨y, hy, by rw [ey, h]⟩
    | false =>
      have hn : itV l[i] ∉ U := fun hh => by
        obtain ⟨y, hy, ey⟩ := (h3 _).1 hh
        have := metP_iff.2 ⟨y, hy, ey⟩
        rw [hm] at this; cases this
      refine ⟨itV l[i] :: U, List.nodup_cons.2 ⟨hn, h1⟩, by rw [e, hm, List.length_cons, h2]; rfl, fun v => ?_⟩
      rw [mem, List.mem_cons, h3]
      constructor
      · rintro (h | h)
        · exact .inr h.symm
        · exact .inl h
      · rintro (h | h)
        · exact .inr h
        · exact .inl h.symm
theorem dist_many {l : List ItI} (h1 : ∀ x ∈ l, x.c = 1) (hl : l.length ≤ 1000) : distV l = manyP l l.length := by
  have len : distV l = (((sumsV l).map (·.1)).filter fun v => decide (0 < getV (sumsV l) v)).length := by
    unfold distV
    rw [List.filter_map, List.length_map]
    congr 1
    refine List.filter_congr fun p hp => ?_
    show decide (0 < p.2) = decide (0 < getV (sumsV l) p.1)
    rw [getV_at (sums_nodup l) p hp]
  obtain ⟨U, u1, u2, u3⟩ := many_uniq l l.length (Nat.le_refl _)
  rw [len, ← u2]
  refine List.Perm.length_eq ?_
  refine (List.perm_ext_iff_of_nodup ((sums_nodup l).filter _) u1).2 fun v => ?_
  rw [List.mem_filter, u3, List.take_length]
  simp only [decide_eq_true_eq]
  have hc := cnt_pos (f := false) (k := kV v) (l := l) fun x hx => by rw [h1 x hx]; omega
  have hg : getV (sumsV l) v = cnt false l (kV v) := by rw [sums_get, w64_in ⟨by omega, by omega⟩]
  constructor
  · rintro ⟨_, h2⟩
    rw [hg] at h2
    obtain ⟨x, hx, ex⟩ := cnt_mem (f := false) (k := kV v) (L := l) (by omega)
    exact ⟨x, hx, kV_iff.2 ex⟩
  · rintro ⟨x, hx, ex⟩
    have := hc.2.2 ⟨x, hx, kV_iff.1 ex⟩
    have h2 : 0 < getV (sumsV l) v := by omega
    exact ⟨Classical.byContradiction fun hn => by rw [getV_mem hn] at h2; omega, h2⟩
theorem one_its (s : StI) : itsOf [⟨0, s⟩] = s.its := by show s.its ++ [] = _; rw [List.append_nil]
theorem res_dist {kind : Int} {l : List ItI} (h : NuQ l) : resP bDistinct 0 kind [⟨0, ofP bDistinct l⟩] 0 = valA 2 (manyP l l.length : Nat) [] := by
  have hf : famO bDistinct = some (.keep false) := rfl
  have S := stOf_of hf h.ok
  unfold resP
  rw [hf]
  simp only
  rw [if_neg (fun hh => hh.2.2 rfl)]
  show keepV bDistinct _ = _
  unfold keepV
  have e : distV (itsOf [⟨0, ofP bDistinct l⟩]) = distV l := by
    rw [one_its]
    exact dist_ext fun k => by rw [(S.i.1 false rfl).2, w64_in (w64_iOk _)]
  rw [if_pos rfl, e, dist_many h.one (by have := h.len; omega)]
/-! min, max -/
theorem best_of {op : List UInt8} (hop : op = bMin ∨ op = bMax) {l : List ItI} (h : NuQ l) : bestP op (ofP op l).its = bestP op l := by
  have hf : famO op = some (.keep false) := by rcases hop with rfl | rfl <;> rfl
  have S := stOf_of hf h.ok
  obtain ⟨k1, k2⟩ := kept_pos S (fun x hx => by rw [h.one x hx]; omega) (by have := h.len; omega)
  refine best_ext hop k1 (fun x hx => by rw [h.one x hx]; omega) fun v => ?_
  constructor
  · rintro ⟨x, hx, ex⟩
    obtain ⟨y, hy, ey⟩ := (k2 _).1 ⟨x, hx, vK_ky.1 ex⟩
    exact ⟨y, hy, vK_ky.2 ey⟩
  · rintro ⟨x, hx, ex⟩
    obtain ⟨y, hy, ey⟩ := (k2 _).2 ⟨x, hx, vK_ky.1 ex⟩
    exact ⟨y, hy, vK_ky.2 ey⟩
theorem res_best {op : List UInt8} (hop : op = bMin ∨ op = bMax) {kind : Int} {l : List ItI} (h : NuQ l) : resP op 0 kind [⟨0, ofP op l⟩] 0 = .agg (bC (bestP op (ofP op l).its)) := by
  have hf : famO op = some (.keep false) := by rcases hop with rfl | rfl <;> rfl
  have hc := cnt_res hf h
  unfold resP
  rw [hf]
  simp only
  rw [hc]
  split
  · rename_i hh
    have h0 : l = [] := List.length_eq_zero_iff.1 (by have := hh.1; omega)
    rw [best_of hop h]
    subst h0; rfl
  · show keepV op _ = _
    unfold keepV
    rw [if_neg (by rcases hop with rfl | rfl <;> decide), one_its]
theorem best_list {op : List UInt8} (hop : op = bMin ∨ op = bMax) {l : List ItI} (h : NuQ l) (h0 : l ≠ []) : BestIs op l (bestP op (ofP op l).its) := by
  rw [best_of hop h]
  have := best_is hop (l := l) (b := ⟨0, 0, [], false⟩) (p := []) (fun x hx => by rw [h.one x hx]; omega) (.inl ⟨rfl, rfl⟩)
  rw [List.nil_append] at this
  rcases this with h1 | h1
  · exact absurd h1.1 h0
  · exact h1
theorem low_pos {op : List UInt8} {l : List ItI} {b : Bst} (h : BestIs op l b) : 1 ≤ lowP b l := by
  obtain ⟨x, hx, ex⟩ := h.mem
  unfold lowP
  refine List.length_pos_iff.2 (List.ne_nil_of_mem (a := x) (List.mem_filter.2 ⟨hx, ?_⟩))
  unfold vK bK at ex
  simp only [Prod.mk.injEq] at ex
  unfold itV bV
  rw [decide_eq_true_eq, ex.1, ex.2.1, ex.2.2]
/-! sum, mean -/
theorem sumF_ok : ∀ {l : List ItI} {s : Int × Bool}, inR s.1 = true → inR (l.foldl addF s).1 = true ∧ ((l.foldl addF s).2 = true → s.2 = true ∧ (l.foldl addF s).1 = s.1 + sm ItI.n l)
  | [], s, h => ⟨h, fun h2 => ⟨h2, by show s.1 = s.1 + 0; omega⟩⟩
  | x :: l, s, h => by
    have h1 : inR (addF s x).1 = true := by
      unfold addF addD
      split
      · rename_i hh; exact hh.2.2
      · rfl
    obtain ⟨a, b⟩ := sumF_ok (l := l) h1
    refine ⟨a, fun h2 => ?_⟩
    obtain ⟨c, d⟩ := b h2
    have c : (s.2 && (addD s.1 x.n).2) = true := c
    rw [Bool.and_eq_true] at c
    refine ⟨c.1, ?_⟩
    rw [List.foldl_cons, d]
    have e : (addF s x).1 = s.1 + x.n := by
      have c2 := c.2
      show (addD s.1 x.n).1 = _
      unfold addD at c2 ⊢
      split at c2
      · rename_i hh; rw [if_pos hh]
      · cases c2
    rw [e]
    show _ = s.1 + (x.n + sm ItI.n l)
    omega
theorem inR_iff {n : Int} : inR n = true ↔ -1152921504606846976 ≤ n ∧ n ≤ 1152921504606846976 := by unfold inR; simp
theorem sumF_in (l : List ItI) : inR (sumF l).1 = true := (sumF_ok (l := l) (s := (0, true)) (by decide)).1
theorem sumF_fine {l : List ItI} (h : (sumF l).2 = true) : (sumF l).1 = sm ItI.n l := by
  have := ((sumF_ok (l := l) (s := (0, true)) (by decide)).2 h).2
  unfold sumF; rw [this]; show 0 + _ = _; omega
theorem sm_gT : ∀ {l : List ItI}, (∀ x ∈ l, x.c = 1) → sm gT l = sm ItI.n l
  | [], _ => rfl
  | x :: l, h => by
    have h1 := h x (by simp)
    have h2 := sm_gT fun y hy => h y (List.mem_cons_of_mem _ hy)
    show x.n * x.c + sm gT l = x.n + sm ItI.n l
    rw [h1, h2]; omega
theorem sumP_one {op : List UInt8} (hf : famO op = some .sum) (hd : op ≠ bDecay) {l : List ItI} (h : NuQ l) (hs : (sumF l).2 = true) : sumP op 0 0 [⟨0, ofP op l⟩] = (sumF l).1 := by
  have S := stOf_of hf h.ok
  show 0 + partP op 0 0 ⟨0, ofP op l⟩ = _
  unfold partP
  rw [if_neg hd, Int.zero_add]
  show wv (ofP op l).h (ofP op l).l = _
  rw [sg_w (S.w.1 rfl), sm_gT h.one, ← sumF_fine hs]
  have := inR_iff.1 (sumF_in l)
  exact sg_id (by unfold bigOk; omega)
theorem res_sum {kind : Int} (hk : kind = 2 ∨ kind = 3) {l : List ItI} (h : NuQ l) (h0 : l ≠ []) (hs : (sumF l).2 = true) : resP bSum 0 kind [⟨0, ofP bSum l⟩] 0 = valA kind (sumF l).1 [] := by
  have hf : famO bSum = some .sum := rfl
  have hc := cnt_res hf h
  have hN : 1 ≤ l.length := List.length_pos_iff.2 h0
  unfold resP
  rw [hf]
  simp only
  rw [hc, if_neg (fun hh => by have := hh.1; omega)]
  show addV' bSum 0 kind 0 _ _ = _
  unfold addV'
  rw [if_pos rfl, sumP_one hf (by decide) h hs]
  have hi := inR_iff.1 (sumF_in l)
  rw [sg_id (by unfold bigOk; omega)]
  have e : divP (sumF l).1 1 = ((sumF l).1, true) := by
    rw [divP_of (by decide)]
    have e1 : nearN (sumF l).1.natAbs (1 : Int).natAbs = (sumF l).1.natAbs := by
      unfold nearN
      show (if _ ∨ _ then (sumF l).1.natAbs / 1 + 1 else (sumF l).1.natAbs / 1) = _
      rw [if_neg (by show ¬ (1 - (sumF l).1.natAbs % 1 < (sumF l).1.natAbs % 1 ∨ ((sumF l).1.natAbs % 1 = 1 - (sumF l).1.natAbs % 1 ∧ _)); omega)]
      omega
    rw [e1, if_neg (by omega)]
    congr 1
    by_cases hneg : (sumF l).1 < 0
    · rw [decide_eq_true hneg, if_neg (by decide)]; omega
    · rw [decide_eq_false hneg, if_pos (by decide)]; omega
  unfold numP
  rw [e]
  rcases hk with rfl | rfl <;> rfl
theorem res_mean {kind : Int} (hk : kind = 2 ∨ kind = 3) {l : List ItI} (h : NuQ l) (h0 : l ≠ []) (hs : (dvd kind (sumF l)).2 = true) (hd : (divD (dvd kind (sumF l)).1 (l.length * 1000000)).2 = true) :
    resP bMean 0 kind [⟨0, ofP bMean l⟩] 0 = valA 3 (divD (dvd kind (sumF l)).1 (l.length * 1000000)).1 [] := by
  have hf : famO bMean = some .sum := rfl
  have hc := cnt_res hf h
  have hN : 1 ≤ l.length := List.length_pos_iff.2 h0
  have hl := h.len
  have hs2 : (sumF l).2 = true := by
    unfold dvd at hs
    split at hs
    · rename_i hh; exact hh.2
    · exact hs
  have hi := inR_iff.1 (sumF_in l)
  unfold resP
  rw [hf]
  simp only
  rw [hc, if_neg (fun hh => by have := hh.1; omega)]
  show addV' bMean 0 kind 0 _ _ = _
  unfold addV'
  rw [if_neg (by decide), if_pos rfl, sumP_one hf (by decide) h hs2]
  generalize sumF l = s at *
  have key : ∃ X : Int, sg (if kind = 2 then s.1 * 1000000 else s.1) = X ∧ divD (dvd kind s).1 (l.length * 1000000) = divP X l.length := by
    have div : ∀ x : Int, inR x = true → divD x (l.length * 1000000) = divP x l.length := fun x hx => by
      unfold divD
      rw [if_pos ⟨hx, inR_iff.2 (by omega), by omega⟩]
      exact divP_scale (by omega) (by omega)
    rcases hk with rfl | rfl
    · rw [if_pos rfl]
      have e : dvd 2 s = fromD s.1 := by unfold dvd; rw [if_pos ⟨rfl, hs2⟩]
      rw [e] at hs ⊢
      unfold fromD at hs ⊢
      split at hs
      · rename_i hh
        rw [if_pos hh]
        exact ⟨s.1 * 1000000, sg_id (by unfold bigOk; omega), div _ (inR_iff.2 (by show -1152921504606846976 ≤ s.1 * 1000000 ∧ _; omega))⟩
      · cases hs
    · rw [if_neg (by decide)]
      have e : dvd 3 s = s := by unfold dvd; rw [if_neg (fun hh => absurd hh.1 (by decide))]
      rw [e]
      exact ⟨s.1, sg_id (by unfold bigOk; omega), div _ (inR_iff.2 hi)⟩
  obtain ⟨X, e1, e2⟩ := key
  rw [e1]
  rw [e2] at hd ⊢
  exact num_of hd
theorem res_none {op : List UInt8} (hop : op = bSum ∨ op = bMean) (kind : Int) : resP op 0 kind [⟨0, ofP op []⟩] 0 = valA 0 0 [] := by
  rcases hop with rfl | rfl
  · have hf : famO bSum = some .sum := rfl
    unfold resP; rw [hf]; simp only
    have e0 : cntP [⟨0, ofP bSum []⟩] = 0 := by kernel_rfl
    rw [e0]; exact if_pos ⟨by decide, by decide, by decide⟩
  · have hf : famO bMean = some .sum := rfl
    unfold resP; rw [hf]; simp only
    have e0 : cntP [⟨0, ofP bMean []⟩] = 0 := by kernel_rfl
    rw [e0]; exact if_pos ⟨by decide, by decide, by decide⟩
end Go.Abs
