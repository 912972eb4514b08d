/- Own texts, part 6. -/
import Derived.Test.YtdajfgkcpflacaaGreatPart5

namespace Go.Abs
open Go.Proofs Go.RowKit
theorem iw (z : Int) : IntKind.i64.wrap z = wrap64 z := by rw [IntKind.wrap_i64]; unfold wrap64; rfl
theorem addI_none {f : Bool} {m : ItI} {c : Int} : ∀ {l : List ItI}, l.all (fun y => !decide (markI f y = m)) = true → addI f m c l = none
 | [], _ => rfl
 | y :: t, h => by
  simp only [List.all_cons, Bool.and_eq_true] at h
  have h1 : ¬ markI f y = m := by simpa using h.1
  unfold addI
  rw [if_neg h1, addI_none h.2]; rfl
theorem addI_at {f : Bool} {m : ItI} {c : Int} : ∀ {l : List ItI} {i : Nat} (hi : i < l.length), (l.take i).all (fun y => !decide (markI f y = m)) = true → markI f l[i] = m →
  addI f m c l = some (if wrap64 (l[i].c + c) = 0 then l.take i ++ l.drop (i + 1) else l.set i (l[i].setC (wrap64 (l[i].c + c))))
 | [], i, hi, _, _ => by simp at hi
 | y :: t, 0, hi, _, h => by
  unfold addI
  rw [if_pos (show markI f y = m from h)]; rfl
 | y :: t, i + 1, hi, ha, h => by
  simp only [List.take_succ_cons, List.all_cons, Bool.and_eq_true] at ha
  have h1 : ¬ markI f y = m := by simpa using ha.1
  unfold addI
  rw [if_neg h1, addI_at (Nat.lt_of_succ_lt_succ hi) ha.2 h]
  simp only [List.getElem_cons_succ, Option.map_some, List.take_succ_cons, List.drop_succ_cons, List.set_cons_succ]
  split <;> rfl
theorem putI_none {f : Bool} {m : ItI} {c : Int} : ∀ {l : List ItI}, l.all (fun y => !decide (0 < cmpI (markI f y) m)) = true → putI f m c l = l ++ [m.setC c]
 | [], _ => rfl
 | y :: t, h => by
  simp only [List.all_cons, Bool.and_eq_true] at h
  have h1 : ¬ 0 < cmpI (markI f y) m := by simpa using h.1
  unfold putI
  rw [if_neg h1, putI_none h.2]; rfl
theorem putI_at {f : Bool} {m : ItI} {c : Int} : ∀ {l : List ItI} {i : Nat} (hi : i < l.length), (l.take i).all (fun y => !decide (0 < cmpI (markI f y) m)) = true → 0 < cmpI (markI f l[i]) m →
  putI f m c l = l.take i ++ [m.setC c] ++ l.drop i
 | [], i, hi, _, _ => by simp at hi
 | y :: t, 0, hi, _, h => by
  unfold putI
  rw [if_pos (show 0 < cmpI (markI f y) m from h)]; rfl
 | y :: t, i + 1, hi, ha, h => by
  simp only [List.take_succ_cons, List.all_cons, Bool.and_eq_true] at ha
  have h1 : ¬ 0 < cmpI (markI f y) m := by simpa using ha.1
  unfold putI
  rw [if_neg h1, putI_at (Nat.lt_of_succ_lt_succ hi) ha.2 h]
  simp
theorem p112z (x : ItI) : LaxOk PA GA XE (tbl []) (itbl []) nAn [] 156 [.sl 6 [] .full, .int .i64 0, .sl 6 [itA x] .full] (.sl 6 [itA x] .no, []) := by
 constructor
 rw [w112z]
 exact ⟨by decide, ⟨Nat.le_refl _, Nat.le_refl _⟩, .inl rfl, fun _ => ⟨fun h => (nomatch h), fun _ => ⟨fun _ => ⟨.inl rfl, by decide, ⟨⟨rfl, rfl, .inl rfl⟩, rfl, rfl⟩⟩, fun h => (nomatch h)⟩⟩, fun h => absurd rfl h⟩
theorem p103e (f : Bool) (x : ItI) : LaxOk PA GA XE (tbl [(150, s106), (156, s112z)]) (itbl [(147, s102), (151, s107)]) nAn [] 148 [.agg [.bool f], .sl 6 [] .no, .agg (itC x)] (.sl 6 (itsL (insI f [] x)) .no, []) := by
 constructor
 rw [w103e]
 refine ⟨_, _, _, _, _, _, callIs_iff.2 rfl, trivial, trivial, fun h => (nomatch h), fun _ => ⟨trivial, fun _ => ⟨_, callIs_iff.2 rfl, ?_⟩, fun h => (nomatch h)⟩⟩
 have e : itsL (insI f [] x) = [AV.agg [AV.int IntKind.i64 x.k, AV.int IntKind.i64 x.n, AV.str x.s, AV.str (if f = true then x.src else []), AV.int IntKind.i64 (if f = true then x.q else 0), AV.int IntKind.i64 x.c]] := by cases f <;> rfl
 rw [e]
 exact ⟨⟨rfl, rfl, .inl rfl⟩, rfl, rfl⟩
theorem p103 (f : Bool) (y x : ItI) (l : List ItI) (hl : l.length + 1 ≤ 1000000) : PureOk PA GA XE (tbl [(150, s106)]) (itbl [(147, s102), (151, s107), (153, s109), (156, s112)]) nAn [] 148 [.agg [.bool f], .sl 6 (itA y :: itsL l) .no, .agg (itC x)] (.sl 6 (itsL (insI f (y :: l) x)) .no, []) := by
 constructor
 rw [w103]
 refine ⟨_, _, _, _, _, _, callIs_iff.2 rfl, ?_⟩
 rw [mk_eq f x.k x.n x.s x.src x.q x.c]
 have e0 : (AV.agg [AV.int IntKind.i64 y.k, AV.int IntKind.i64 y.n, AV.str y.s, AV.str y.src, AV.int IntKind.i64 y.q, AV.int IntKind.i64 y.c] :: itsL l) = itsL (y :: l) := rfl
 have e1 : (⟨x.k, x.n, x.s, if f = true then x.src else [], if f = true then x.q else 0, x.c⟩ : ItI) = ((markI f x).setC x.c) := by cases f <;> rfl
 have e2 : (AV.agg [AV.int IntKind.i64 x.k, AV.int IntKind.i64 x.n, AV.str x.s, AV.str (if f = true then x.src else []), AV.int IntKind.i64 (if f = true then x.q else 0), AV.int IntKind.i64 x.c]) = itA ((markI f x).setC x.c) := by cases f <;> rfl
 rw [e0, e1, e2]
 have hL : (y :: l).length ≤ 1000000 := hl
 have hL0 : 0 < (y :: l).length := Nat.succ_pos _
 generalize y :: l = L at *
 have hcmp : ∀ z : ItI, cmpI z ((markI f x).setC x.c) = cmpI z (markI f x) := fun z => rfl
 have hm : (⟨x.k, x.n, x.s, x.src, x.q, x.c⟩ : ItI) = x := rfl
 rw [hm]
 have hk1 : keptI1 f (markI f x) (itsL L) = idxP (fun y => decide (markI f y = markI f x)) L := by unfold keptI1; rw [get_its]
 have hk2 : keptI2 f ((markI f x).setC x.c) (itsL L) = idxP (fun y => decide (0 < cmpI (markI f y) (markI f x))) L := by unfold keptI2; rw [get_its]; rfl
 rw [hk1, hk2, len_its]
 refine ⟨?_, ⟨⟨L, rfl⟩, rfl, by omega⟩, ?_, ?_⟩
 ·show L.length * 64 ≤ 140737488355328
  omega
 ·intro hge
  rcases idxP_cases (fun y => decide (markI f y = markI f x)) L with ⟨hi, _⟩ | ⟨i, hil, hi, hpre, hat⟩
  ·rw [hi] at hge; exact absurd (of_decide_eq_true hge) (by decide)
  ·rw [hi]
   simp only [Int.toNat_natCast]
   have hat := of_decide_eq_true hat
   have hadd := addI_at (f := f) (m := markI f x) (c := x.c) hil hpre hat
   have hget : (itsL L).getD i .junk = itA L[i] := by rw [List.getD_eq_getElem?_getD, its_at hil]; rfl
   have hks : ∀ z : Int, keptSetC (itA L[i]) 5 [AV.int IntKind.i64 z] = itA (L[i].setC z) := fun z => rfl
   have hins : insI f L x = if wrap64 (L[i].c + x.c) = 0 then L.take i ++ L.drop (i + 1) else L.set i (L[i].setC (wrap64 (L[i].c + x.c))) := by unfold insI; rw [hadd]; rfl
   have hib : (0 : Int) ≤ (i : Int) ∧ (i : Int) < (L.length : Int) := ⟨by omega, by omega⟩
   have hset : i < (L.set i (L[i].setC (IntKind.i64.wrap (L[i].c + x.c)))).length := by rw [List.length_set]; exact hil
   refine ⟨hib, L[i].c, take_ic hil, hib, hil, hib, IntKind.i64.wrap (L[i].c + x.c), ?_, ?_, ?_⟩
   ·rw [hget, hks, its_set, take_ic hset]
    simp [ItI.setC]
   ·intro hz
    have hz : IntKind.i64.wrap (L[i].c + x.c) = 0 := by simpa using hz
    rw [hget, hks, its_set, len_its, List.length_set, its_take, its_drop, its_app]
    refine ⟨⟨rfl, by omega, by rw [wrapN (by omega)]; omega, by rw [wrapN (by omega)]; omega⟩, ?_, retIs_iff.2 ?_⟩
    ·rw [len_its, List.length_append, List.length_take, List.length_drop, List.length_set]; omega
    ·rw [hins, if_pos (by rw [← iw]; exact hz), List.take_set_of_le (Nat.le_refl _), List.drop_set_of_lt (Nat.lt_succ_self _)]
   ·intro hz
    have hz : ¬ IntKind.i64.wrap (L[i].c + x.c) = 0 := by simpa using hz
    rw [hget, hks, its_set, len_its, List.length_set]
    refine ⟨rfl, retIs_iff.2 ?_⟩
    rw [hins, if_neg (by rw [← iw]; exact hz), iw]
 ·intro hge
  have hnone : L.all (fun y => !decide (markI f y = markI f x)) = true := by
   rcases idxP_cases (fun y => decide (markI f y = markI f x)) L with ⟨_, ha⟩ | ⟨i, hil, hi, hpre, hat⟩
   ·exact ha
   ·rw [hi] at hge; exact absurd (of_decide_eq_false hge) (by omega)
  have hins : insI f L x = putI f (markI f x) x.c L := by unfold insI; rw [addI_none hnone]; rfl
  refine ⟨⟨⟨L, rfl⟩, rfl, by omega⟩, ?_, ?_⟩
  ·intro hlt
   rcases idxP_cases (fun y => decide (0 < cmpI (markI f y) (markI f x))) L with ⟨_, ha⟩ | ⟨i, hil, hi, hpre, hat⟩
   ·refine ⟨⟨rfl, by omega, by omega, by omega, hL0⟩, retIs_iff.2 ?_⟩
    rw [hins, putI_none ha, Int.toNat_natCast, its_take, its_drop, List.take_length, List.drop_length]
    unfold itsL
    simp
   ·rw [hi] at hlt; exact absurd (of_decide_eq_true hlt) (by omega)
  ·intro hlt
   rcases idxP_cases (fun y => decide (0 < cmpI (markI f y) (markI f x))) L with ⟨hi, _⟩ | ⟨i, hil, hi, hpre, hat⟩
   ·rw [hi] at hlt; exact absurd (of_decide_eq_false hlt) (by decide)
   ·rw [hi]
    have hat := of_decide_eq_true hat
    refine ⟨⟨rfl, by omega, by omega, by omega, hL0⟩, retIs_iff.2 ?_⟩
    rw [hins, putI_at hil hpre hat, Int.toNat_natCast, its_take, its_drop]
    unfold itsL
    simp
section
variable {P : Program} {G : Glob}
open Classical in
theorem one_pure {X : Shapes} {R : Callee} {C : CCallee} {m : List Bool} {A : Anns} {f : FuncId} {args : List AV} {r : AV × List (Nat × TypeId)} (hm : P.follows .mixedOrders = true) (hR : CalleeOk P G R) (hC : ICalleeOk P G (lowC C)) (h : PureOk P G X R C A m f args r) :
  SpecOk P G f (fun a => if a = args then some r else none) := spec_of (X := X) (m := m) hm hR hC fun a r' h' => by
 split at h'
 ·rename_i e; subst e; injection h' with h'; subst h'; exact ⟨A, h⟩
 ·cases h'
open Classical in
theorem one_lax {X : Shapes} {R : Callee} {C : CCallee} {m : List Bool} {A : Anns} {f : FuncId} {args : List AV} {r : AV × List (Nat × TypeId)} (hm : P.follows .mixedOrders = true) (hR : CalleeOk P G R) (hC : ICalleeOk P G (lowC C)) (h : LaxOk P G X R C A m f args r) :
  SpecOk P G f (fun a => if a = args then some r else none) := lax_of (X := X) (m := m) hm hR hC fun a r' h' => by
 split at h'
 ·rename_i e; subst e; injection h' with h'; subst h'; exact ⟨A, h⟩
 ·cases h'
theorem spec_each {f : FuncId} {s : Spec} (h : ∀ args r, s args = some r → SpecOk P G f (fun a => open Classical in if a = args then some r else none)) : SpecOk P G f s := by
 intro g args r lv hr
 simp only at hr
 split at hr
 ·rename_i e
  subst e
  exact h args (r, lv) hr g args r lv (by simp)
 ·cases hr
end
theorem o112z : SpecOk PA GA 156 s112z := lax_of (X := XE) (m := []) mixedA tbl_nil itbl_nil fun args r h => by
 unfold s112z at h
 split at h
 case h_2 => cases h
 split at h
 case isFalse => cases h
 rename_i x hx
 obtain ⟨rfl, rfl, rfl, hu⟩ := hx
 injection h with h; subst h
 obtain ⟨y, hy⟩ := Option.isSome_iff_exists.1 hu
 obtain rfl := unI_inv _ _ hy
 exact ⟨_, p112z y⟩
theorem o103 : SpecOk PA GA 148 s103 := spec_wk [0, 6] fun args r h => by
 unfold s103 at h
 split at h
 case h_2 => cases h
 rename_i f sz es o k n s src q c
 split at h
 case h_2 => cases h
 rename_i l hl
 split at h
 case isFalse => cases h
 rename_i hc
 injection h with h; subst h
 obtain rfl := unL_inv unI_inv hl
 cases l with
 | nil => exact one_lax mixedA (tbl_cons o106 (tbl_cons o112z tbl_nil)) (itbl_cons o102 (itbl_cons o107 itbl_nil)) (p103e f ⟨k, n, s, src, q, c⟩)
 | cons y l =>
  obtain rfl : sz = 6 := hc.1.resolve_right (by simp)
  exact one_pure mixedA (tbl_cons o106 tbl_nil) (itbl_cons o102 (itbl_cons o107 (itbl_cons o109 (itbl_cons o112 itbl_nil)))) (p103 f y ⟨k, n, s, src, q, c⟩ l (by simpa using hc.2))
theorem p102p (x : AV) (es : List AV) (h : es.length ≤ 2000000) : PureOk PA GA XE (tbl []) (itbl []) nAn [] 147 [.sl 6 (x :: es) .no] (.sl 6 (x :: es) (.tok 0), [(es.length + 1, 51)]) := by
 constructor
 rw [w102p]
 refine ⟨rfl, .inl rfl, by rw [List.length_cons]; omega, fun h => (nomatch h), fun _ => ⟨by rw [List.length_cons]; omega, retIs_iff.2 (by rw [List.length_cons, Nat.zero_add])⟩⟩
theorem o102p : SpecOk PA GA 147 s102p := spec_wk [6] fun args r h => by
 unfold s102p at h
 split at h
 case h_2 => cases h
 split at h
 case isFalse => cases h
 rename_i hc
 obtain ⟨rfl, hl⟩ := hc
 injection h with h; subst h
 exact one_pure mixedA tbl_nil itbl_nil (p102p _ _ hl)
end Go.Abs
namespace Go.Abs
open Go.Proofs Go.Proofs.K17 Go.RowKit
structure StI where
 n : Int
 h : Int
 l : Int
 its : List ItI
 bks : Bks
deriving DecidableEq
abbrev stC (s : StI) : List AV := [.int .i64 s.n, .int .i64 s.h, .int .u64 s.l, .sl 6 (itsL s.its) .no, .sl 2 (bksL s.bks) .no]
abbrev nilC (n h l : Int) : List AV := [.int .i64 n, .int .i64 h, .int .u64 l, .sl 0 [] .nil, .sl 0 [] .nil]
def stA (s : StI) : AV := .agg (stC s)
def unSt : AV → Option StI
 | .agg [.int .i64 n, .int .i64 h, .int .u64 l, .sl sz es .no, .sl sz2 es2 .no] => match unL unI es, unL unBk es2 with
  | some its, some bks => if (sz = 6 ∨ its = []) ∧ (sz2 = 2 ∨ bks = []) then some ⟨n, h, l, its, bks⟩ else none
  | _, _ => none
 | _ => none
def whi (x : Int) : Int := wrap64 (x / 18446744073709551616)
def wlo (x : Int) : Int := x % 18446744073709551616
def StI.z : StI := ⟨0, 0, 0, [], []⟩
def itOk (x : ItI) : Prop := iOk x.n ∧ iOk x.c
instance (x : ItI) : Decidable (itOk x) := inferInstanceAs (Decidable (_ ∧ _))
def stOk (s : StI) : Prop := wOk s.h s.l ∧ WfB s.bks ∧ s.its.length ≤ 1000000 ∧ s.bks.length ≤ 1000000
instance (s : StI) : Decidable (stOk s) := inferInstanceAs (Decidable (_ ∧ _ ∧ _ ∧ _))
inductive Fam where
 | cnt
 | sum
 | smp
 | keep (f : Bool)
deriving DecidableEq
abbrev bCount : List UInt8 := [99, 111, 117, 110, 116]
abbrev bSum : List UInt8 := [115, 117, 109]
abbrev bMean : List UInt8 := [109, 101, 97, 110]
abbrev bDecay : List UInt8 := [100, 101, 99, 97, 121]
abbrev bQuantile : List UInt8 := [113, 117, 97, 110, 116, 105, 108, 101]
abbrev bMin : List UInt8 := [109, 105, 110]
abbrev bMax : List UInt8 := [109, 97, 120]
abbrev bDistinct : List UInt8 := [100, 105, 115, 116, 105, 110, 99, 116]
abbrev bFirst : List UInt8 := [102, 105, 114, 115, 116]
abbrev bLast : List UInt8 := [108, 97, 115, 116]
def famO (op : List UInt8) : Option Fam :=
 if op = bCount then some .cnt else if op = bSum then some .sum else if op = bMean then some .sum else if op = bDecay then some .sum
 else if op = bQuantile then some .smp else if op = bMin then some (.keep false) else if op = bMax then some (.keep false) else if op = bDistinct then some (.keep false)
 else if op = bFirst then some (.keep true) else if op = bLast then some (.keep true) else none
def famR : Option Fam → AV
 | none => .tup [.lit .nilIface, .bool false]
 | some .cnt => .tup [.lit (.iface 101 (.agg #[])), .bool true]
 | some .sum => .tup [.lit (.iface 103 (.agg #[])), .bool true]
 | some .smp => .tup [.lit (.iface 104 (.agg #[])), .bool true]
 | some (.keep f) => .tup [.lit (.iface 106 (.agg #[.bool f])), .bool true]
def putP (fam : Fam) (s : StI) (x : ItI) : StI :=
 match fam with
 | .cnt => ⟨wrap64 (s.n + x.c), 0, 0, [], []⟩
 | .sum => ⟨wrap64 (s.n + x.c), whi (wv s.h s.l + x.n * x.c), wlo (wv s.h s.l + x.n * x.c), [], []⟩
 | .smp => ⟨wrap64 (s.n + x.c), 0, 0, [], normB (s.bks ++ [(idx x.n, x.c)])⟩
 | .keep f => ⟨wrap64 (s.n + x.c), 0, 0, insI f s.its x, []⟩
def addP (op : List UInt8) (s : StI) (x : ItI) : StI :=
 match famO op with
 | none => s
 | some fam => if x.c = 0 then s else putP fam s x
def insAll (l m : List ItI) : List ItI := m.foldl (fun l x => if x.c = 0 then l else insI false l x) l
def joinP (fam : Fam) (a b : StI) : StI :=
 match fam with
 | .cnt => ⟨wrap64 (a.n + b.n), 0, 0, [], []⟩
 | .sum => ⟨wrap64 (a.n + b.n), whi (wv a.h a.l + wv b.h b.l), wlo (wv a.h a.l + wv b.h b.l), [], []⟩
 | .smp => ⟨wrap64 (a.n + b.n), 0, 0, [], normB (a.bks ++ b.bks)⟩
 | .keep true => ⟨wrap64 (a.n + b.n), 0, 0, a.its ++ b.its, []⟩
 | .keep false => ⟨wrap64 (a.n + b.n), 0, 0, insAll a.its b.its, []⟩
def mergeP (op : List UInt8) (a b : StI) : StI :=
 match famO op with
 | none => a
 | some fam => joinP fam a b
def ofP (op : List UInt8) (l : List ItI) : StI := l.foldl (addP op) StI.z
def s24 : Spec := fun args => match args with
 | [.str op] => some (famR (famO op), [])
 | _ => none
def s22 : Spec := fun args => match args with
 | [.str op] => some (.bool (famO op).isSome, [])
 | _ => none
def s42 : Spec := fun args => match args with
 | [.agg [], .int .i64 n, .int .i64 m] => some (.agg [.int .i64 (wrap64 (n + m)), .int .i64 0, .int .u64 0, .sl 6 [] .no, .sl 2 [] .no], [])
 | _ => none
def s16 : Spec := fun args => match args with
 | [.str _] => some (stA StI.z, [])
 | _ => none
def sPut (rc : List AV) (fam : Fam) : Spec := fun args => match args with
 | [.agg r, st, it] => match unSt st, unI it with
  | some s, some x => if r.length = rc.length ∧ itOk x ∧ stOk s then some (stA (putP fam s x), []) else none
  | _, _ => none
 | _ => none
def s41 : Spec := sPut [] .cnt
def s45 : Spec := sPut [] .sum
def s64 : Spec := sPut [] .smp
def s100 : Spec := fun args => match args with
 | [.agg [.bool f], st, it] => match unSt st, unI it with
  | some s, some x => if itOk x ∧ stOk s then some (stA (putP (.keep f) s x), []) else none
  | _, _ => none
 | _ => none
def sJoin (rc : List AV) (fam : Fam) : Spec := fun args => match args with
 | [.agg r, st, st2] => match unSt st, unSt st2 with
  | some a, some b => if r.length = rc.length ∧ stOk a ∧ stOk b then some (stA (joinP fam a b), []) else none
  | _, _ => none
 | _ => none
def s40 : Spec := sJoin [] .cnt
def s44 : Spec := sJoin [] .sum
def s63 : Spec := sJoin [] .smp
def s99 : Spec := fun args => match args with
 | [.agg [.bool f], st, st2] => match unSt st, unSt st2 with
  | some a, some b => if stOk a ∧ stOk b ∧ a.its.length + b.its.length ≤ 1000000 then some (stA (joinP (.keep f) a b), []) else none
  | _, _ => none
 | _ => none
def s14 : Spec := fun args => match args with
 | [.str op, st, it] => match unSt st, unI it with
  | some s, some x => if itOk x ∧ stOk s then some (stA (addP op s x), []) else none
  | _, _ => none
 | _ => none
def s15 : Spec := fun args => match args with
 | [.str op, st, st2] => match unSt st, unSt st2 with
  | some a, some b => if stOk a ∧ stOk b ∧ a.its.length + b.its.length ≤ 1000000 then some (stA (mergeP op a b), []) else none
  | _, _ => none
 | _ => none
def s12 : Spec := fun args => match args with
 | [.str op, .sl sz es _] => match unL unI es with
  | some l => if (sz = 6 ∨ l = []) ∧ l.length ≤ 1000 ∧ ∀ x ∈ l, itOk x then some (stA (ofP op l), []) else none
  | none => none
 | _ => none
def s13 : Spec := fun args => match args with
 | [st, st2] => match unSt st, unSt st2 with
  | some a, some b => if a.its.length ≤ 2000000 ∧ a.bks.length ≤ 2000000 then some (.bool (decide (a = b)), []) else none
  | _, _ => none
 | _ => none
def XH : Shapes := fun f => match f with
 | 16 | 17 => some shW
 | 112 | 113 => some (.val (.one (.sl 2 .no)), none)
 | 148 | 147 => some shIts
 | 100 | 101 | 102 | 104 | 105 | 109 | 110 | 144 | 145 | 27 | 29 | 31 | 10 => some shSt
 | 22 | 26 => some shB
 | 2000051 => some shIt
 | 2000090 => some (.val (.agg [.int .i64, .int .i64]), none)
 | _ => none
def famS : Option Fam → Sh × Option TypeId
 | none => (.tup [.one (.is (.lit .nilIface)), .one (.is (.bool false))], none)
 | some .cnt => (.tup [.one (.is (.lit (.iface 101 (.agg #[])))), .one (.is (.bool true))], none)
 | some .sum => (.tup [.one (.is (.lit (.iface 103 (.agg #[])))), .one (.is (.bool true))], none)
 | some .smp => (.tup [.one (.is (.lit (.iface 104 (.agg #[])))), .one (.is (.bool true))], none)
 | some (.keep f) => (.tup [.one (.is (.lit (.iface 106 (.agg #[.bool f])))), .one (.is (.bool true))], none)
def XF (fam : Option Fam) : Shapes := fun f => if f = 40 then some (famS fam) else XH f
end Go.Abs
namespace Go.Abs
open Go.Proofs Go.RowKit
theorem w24 (op : List UInt8) (r : AV) : (pureW PA GA XH (tbl []) (itbl []) nAn [] 40 [.str op] (r, [])) =
(((op == [(99 : UInt8), (111 : UInt8), (117 : UInt8), (110 : UInt8), (116 : UInt8)]) = true → RetIs (AV.tup [AV.lit (Value.iface (101 : Nat) ((fun (l : List Value) => Value.agg l.toArray) [])), .bool true]) [] (r, [])) ∧ ((op == [(99 : UInt8), (111 : UInt8), (117 : UInt8), (110 : UInt8), (116 : UInt8)]) = false → ((op == [(115 : UInt8), (117 : UInt8), (109 : UInt8)]) = true → RetIs (AV.tup [AV.lit (Value.iface (103 : Nat) ((fun (l : List Value) => Value.agg l.toArray) [])), .bool true]) [] (r, [])) ∧ ((op == [(115 : UInt8), (117 : UInt8), (109 : UInt8)]) = false → ((op == [(109 : UInt8), (101 : UInt8), (97 : UInt8), (110 : UInt8)]) = true → RetIs (AV.tup [AV.lit (Value.iface (103 : Nat) ((fun (l : List Value) => Value.agg l.toArray) [])), .bool true]) [] (r, [])) ∧ ((op == [(109 : UInt8), (101 : UInt8), (97 : UInt8), (110 : UInt8)]) = false → ((op == [(100 : UInt8), (101 : UInt8), (99 : UInt8), (97 : UInt8), (121 : UInt8)]) = true → RetIs (AV.tup [AV.lit (Value.iface (103 : Nat) ((fun (l : List Value) => Value.agg l.toArray) [])), .bool true]) [] (r, [])) ∧ ((op == [(100 : UInt8), (101 : UInt8), (99 : UInt8), (97 : UInt8), (121 : UInt8)]) = false → ((op == [(113 : UInt8), (117 : UInt8), (97 : UInt8), (110 : UInt8), (116 : UInt8), (105 : UInt8), (108 : UInt8), (101 : UInt8)]) = true → RetIs (AV.tup [AV.lit (Value.iface (104 : Nat) ((fun (l : List Value) => Value.agg l.toArray) [])), .bool true]) [] (r, [])) ∧ ((op == [(113 : UInt8), (117 : UInt8), (97 : UInt8), (110 : UInt8), (116 : UInt8), (105 : UInt8), (108 : UInt8), (101 : UInt8)]) = false →
 ((op == [(109 : UInt8), (105 : UInt8), (110 : UInt8)]) = true → RetIs (AV.tup [AV.lit (Value.iface (106 : Nat) ((fun (l : List Value) => Value.agg l.toArray) [Value.bool false])), .bool true]) [] (r, [])) ∧ ((op == [(109 : UInt8), (105 : UInt8), (110 : UInt8)]) = false → ((op == [(109 : UInt8), (97 : UInt8), (120 : UInt8)]) = true → RetIs (AV.tup [AV.lit (Value.iface (106 : Nat) ((fun (l : List Value) => Value.agg l.toArray) [Value.bool false])), .bool true]) [] (r, [])) ∧ ((op == [(109 : UInt8), (97 : UInt8), (120 : UInt8)]) = false → ((op == [(100 : UInt8), (105 : UInt8), (115 : UInt8), (116 : UInt8), (105 : UInt8), (110 : UInt8), (99 : UInt8), (116 : UInt8)]) = true → RetIs (AV.tup [AV.lit (Value.iface (106 : Nat) ((fun (l : List Value) => Value.agg l.toArray) [Value.bool false])), .bool true]) [] (r, [])) ∧ ((op == [(100 : UInt8), (105 : UInt8), (115 : UInt8), (116 : UInt8), (105 : UInt8), (110 : UInt8), (99 : UInt8), (116 : UInt8)]) = false → ((op == [(102 : UInt8), (105 : UInt8), (114 : UInt8), (115 : UInt8), (116 : UInt8)]) = true → RetIs (AV.tup [AV.lit (Value.iface (106 : Nat) ((fun (l : List Value) => Value.agg l.toArray) [Value.bool true])), .bool true]) [] (r, [])) ∧ ((op == [(102 : UInt8), (105 : UInt8), (114 : UInt8), (115 : UInt8), (116 : UInt8)]) = false → ((op == [(108 : UInt8), (97 : UInt8), (115 : UInt8), (116 : UInt8)]) = true → RetIs (AV.tup [AV.lit (Value.iface (106 : Nat) ((fun (l : List Value) => Value.agg l.toArray) [Value.bool true])), .bool true]) [] (r, [])) ∧
 ((op == [(108 : UInt8), (97 : UInt8), (115 : UInt8), (116 : UInt8)]) = false → RetIs (AV.tup [AV.lit Value.nilIface, .bool false]) [] (r, [])))))))))))) := by kernel_rfl
theorem w42 (n m : Int) (r : AV) : (laxW PA GA XH (tbl []) (itbl []) nAn [] 102 [.agg [], .int .i64 n, .int .i64 m] (r, [])) =
(RetLax (AV.agg (nilC (IntKind.i64.wrap (n + m)) 0 0)) (r, [])) := by kernel_rfl
theorem w16 (op : List UInt8) (r : AV) : (laxW PA GA XH (tbl []) (itbl []) nAn [] 27 [.str op] (r, [])) =
(RetLax (AV.agg (nilC 0 0 0)) (r, [])) := by kernel_rfl
theorem w41 (s : StI) (x : ItI) (r : AV) : (laxW PA GA XH (tbl [(102, s42)]) (itbl []) nAn [] 101 [.agg [], .agg (stC s), .agg (itC x)] (r, [])) =
(∃ (n : Int) (n_1 : Int) (n_2 : Int) (es : List AV) (es_1 : List AV), CallIs (some (AV.agg [.int .i64 (wrap64 (s.n + x.c)), .int .i64 0, .int .u64 0, .sl 6 [] .no, .sl 2 [] .no], [])) (AV.agg [.int .i64 n, .int .i64 n_1, .int .u64 n_2, .sl 6 es .no, .sl 2 es_1 .no]) [] ∧ RetLax (AV.agg [.int .i64 n, .int .i64 n_1, .int .u64 n_2, .sl 6 es .no, .sl 2 es_1 .no]) (r, [])) := by kernel_rfl
theorem w45 (s : StI) (x : ItI) (r : AV) : (laxW PA GA XH (tbl [(102, s42), (16, s47), (17, s48)]) (itbl []) nAn [] 105 [.agg [], .agg (stC s), .agg (itC x)] (r, [])) =
(some (AV.agg []) = some (AV.agg []) ∧ ∃ (n : Int) (n_1 : Int) (n_2 : Int) (es : List AV) (es_1 : List AV), CallIs (some (AV.agg [.int .i64 (wrap64 (s.n + x.c)), .int .i64 0, .int .u64 0, .sl 6 [] .no, .sl 2 [] .no], [])) (AV.agg [.int .i64 n, .int .i64 n_1, .int .u64 n_2, .sl 6 es .no, .sl 2 es_1 .no]) [] ∧ ∃ (n_3 : Int) (n_4 : Int), CallIs (tbl [(102, s42), (16, s47), (17, s48)] 17 [.int .i64 x.n, .int .i64 x.c]) (AV.agg [.int .i64 n_3, .int .u64 n_4]) [] ∧ ∃ (n_5 : Int) (n_6 : Int), CallIs (tbl [(102, s42), (16, s47), (17, s48)] 16 [.agg [.int .i64 s.h, .int .u64 s.l], .agg [.int .i64 n_3, .int .u64 n_4]]) (AV.agg [.int .i64 n_5, .int .u64 n_6]) [] ∧ RetLax (AV.agg [.int .i64 n, .int .i64 n_5, .int .u64 n_6, .sl 6 es .no, .sl 2 es_1 .no]) (r, [])) := by kernel_rfl
theorem w64 (s : StI) (x : ItI) (r : AV) : (laxW PA GA XH (tbl [(102, s42), (113, s67)]) (itbl []) nAn [] 110 [.agg [], .agg (stC s), .agg (itC x)] (r, [])) =
(some (AV.agg []) = some (AV.agg []) ∧ ∃ (n : Int) (n_1 : Int) (n_2 : Int) (es : List AV) (es_1 : List AV), CallIs (some (AV.agg [.int .i64 (wrap64 (s.n + x.c)), .int .i64 0, .int .u64 0, .sl 6 [] .no, .sl 2 [] .no], [])) (AV.agg [.int .i64 n, .int .i64 n_1, .int .u64 n_2, .sl 6 es .no, .sl 2 es_1 .no]) [] ∧ ∃ (es_2 : List AV), CallIs (tbl [(102, s42), (113, s67)] 113 [.sl 2 (bksL s.bks) .no, .int .i64 x.n, .int .i64 x.c]) (AV.sl 2 es_2 .no) [] ∧ RetLax (AV.agg [.int .i64 n, .int .i64 n_1, .int .u64 n_2, .sl 6 es .no, .sl 2 es_2 .no]) (r, [])) := by kernel_rfl
theorem w100 (f : Bool) (s : StI) (x : ItI) (r : AV) : (laxW PA GA XH (tbl [(102, s42), (148, s103)]) (itbl []) nAn [] 145 [.agg [.bool f], .agg (stC s), .agg (itC x)] (r, [])) =
(some (AV.agg []) = some (AV.agg []) ∧ ∃ (n : Int) (n_1 : Int) (n_2 : Int) (es : List AV) (es_1 : List AV), CallIs (some (AV.agg [.int .i64 (wrap64 (s.n + x.c)), .int .i64 0, .int .u64 0, .sl 6 [] .no, .sl 2 [] .no], [])) (AV.agg [.int .i64 n, .int .i64 n_1, .int .u64 n_2, .sl 6 es .no, .sl 2 es_1 .no]) [] ∧ ∃ (es : List AV), CallIs (tbl [(102, s42), (148, s103)] 148 [.agg [.bool f], .sl 6 (itsL s.its) .no, .agg (itC x)]) (AV.sl 6 es .no) [] ∧ RetLax (AV.agg [.int .i64 n, .int .i64 n_1, .int .u64 n_2, .sl 6 es .no, .sl 2 es_1 .no]) (r, [])) := by kernel_rfl
theorem w40 (a b : StI) (r : AV) : (laxW PA GA XH (tbl [(102, s42)]) (itbl []) nAn [] 100 [.agg [], .agg (stC a), .agg (stC b)] (r, [])) =
(∃ (n : Int) (n_1 : Int) (n_2 : Int) (es : List AV) (es_1 : List AV), CallIs (some (AV.agg [.int .i64 (wrap64 (a.n + b.n)), .int .i64 0, .int .u64 0, .sl 6 [] .no, .sl 2 [] .no], [])) (AV.agg [.int .i64 n, .int .i64 n_1, .int .u64 n_2, .sl 6 es .no, .sl 2 es_1 .no]) [] ∧ RetLax (AV.agg [.int .i64 n, .int .i64 n_1, .int .u64 n_2, .sl 6 es .no, .sl 2 es_1 .no]) (r, [])) := by kernel_rfl
theorem w44 (a b : StI) (r : AV) : (laxW PA GA XH (tbl [(102, s42), (16, s47)]) (itbl []) nAn [] 104 [.agg [], .agg (stC a), .agg (stC b)] (r, [])) =
(some (AV.agg []) = some (AV.agg []) ∧ ∃ (n : Int) (n_1 : Int) (n_2 : Int) (es : List AV) (es_1 : List AV), CallIs (some (AV.agg [.int .i64 (wrap64 (a.n + b.n)), .int .i64 0, .int .u64 0, .sl 6 [] .no, .sl 2 [] .no], [])) (AV.agg [.int .i64 n, .int .i64 n_1, .int .u64 n_2, .sl 6 es .no, .sl 2 es_1 .no]) [] ∧ ∃ (n_3 : Int) (n_4 : Int), CallIs (tbl [(102, s42), (16, s47)] 16 [.agg [.int .i64 a.h, .int .u64 a.l], .agg [.int .i64 b.h, .int .u64 b.l]]) (AV.agg [.int .i64 n_3, .int .u64 n_4]) [] ∧ RetLax (AV.agg [.int .i64 n, .int .i64 n_3, .int .u64 n_4, .sl 6 es .no, .sl 2 es_1 .no]) (r, [])) := by kernel_rfl
theorem w63 (a b : StI) (r : AV) : (laxW PA GA XH (tbl [(102, s42), (112, s66)]) (itbl []) nAn [] 109 [.agg [], .agg (stC a), .agg (stC b)] (r, [])) =
(some (AV.agg []) = some (AV.agg []) ∧ ∃ (n : Int) (n_1 : Int) (n_2 : Int) (es : List AV) (es_1 : List AV), CallIs (some (AV.agg [.int .i64 (wrap64 (a.n + b.n)), .int .i64 0, .int .u64 0, .sl 6 [] .no, .sl 2 [] .no], [])) (AV.agg [.int .i64 n, .int .i64 n_1, .int .u64 n_2, .sl 6 es .no, .sl 2 es_1 .no]) [] ∧ ∃ (es_2 : List AV), CallIs (tbl [(102, s42), (112, s66)] 112 [.sl 2 (bksL a.bks) .no, .sl 2 (bksL b.bks) .no]) (AV.sl 2 es_2 .no) [] ∧ RetLax (AV.agg [.int .i64 n, .int .i64 n_1, .int .u64 n_2, .sl 6 es .no, .sl 2 es_2 .no]) (r, [])) := by kernel_rfl
theorem w14N (op : List UInt8) (s : StI) (x : ItI) (r : AV) : (laxW PA GA (XF none) (tbl [(40, s24)]) (itbl []) nAn [] 29 [.str op, .agg (stC s), .agg (itC x)] (r, [])) =
(CallIs (some (famR (famO op), [])) (AV.tup [AV.lit Value.nilIface, .bool false]) [] ∧ (false = true → ((x.c == (0 : Int)) = true → RetLax (AV.agg (stC s)) (r, [])) ∧ ((x.c == (0 : Int)) = false → False)) ∧ (false = false → RetLax (AV.agg (stC s)) (r, []))) := by kernel_rfl
theorem w15N (op : List UInt8) (a b : StI) (r : AV) : (laxW PA GA (XF none) (tbl [(40, s24)]) (itbl []) nAn [] 31 [.str op, .agg (stC a), .agg (stC b)] (r, [])) =
(CallIs (some (famR (famO op), [])) (AV.tup [AV.lit Value.nilIface, .bool false]) [] ∧ (false = true → False) ∧ (false = false → RetLax (AV.agg (stC a)) (r, []))) := by kernel_rfl
theorem w22N (op : List UInt8) (r : AV) : (pureW PA GA (XF none) (tbl [(40, s24)]) (itbl []) nAn [] 22 [.str op] (r, [])) =
(CallIs (some (famR (famO op), [])) (AV.tup [AV.lit Value.nilIface, .bool false]) [] ∧ (false = true → RetIs (AV.bool true) [] (r, [])) ∧ (false = false → RetIs (AV.bool false) [] (r, []))) := by kernel_rfl
theorem w14C (op : List UInt8) (s : StI) (x : ItI) (r : AV) : (laxW PA GA (XF (some .cnt)) (tbl [(40, s24), (101, s41)]) (itbl []) nAn [] 29 [.str op, .agg (stC s), .agg (itC x)] (r, [])) =
(CallIs (some (famR (famO op), [])) (AV.tup [AV.lit (Value.iface (101 : TypeId) (Value.agg #[])), .bool true]) [] ∧ (true = true → ((x.c == (0 : Int)) = true → RetLax (AV.agg (stC s)) (r, [])) ∧ ((x.c == (0 : Int)) = false → ∃ (n : Int) (n_1 : Int) (n_2 : Int) (es : List AV) (es_1 : List AV), CallIs (tbl [(40, s24), (101, s41)] 101 [.agg [], .agg (stC s), .agg (itC x)]) (AV.agg [.int .i64 n, .int .i64 n_1, .int .u64 n_2, .sl 6 es .no, .sl 2 es_1 .no]) [] ∧ RetLax (AV.agg [.int .i64 n, .int .i64 n_1, .int .u64 n_2, .sl 6 es .no, .sl 2 es_1 .no]) (r, []))) ∧ (true = false → RetLax (AV.agg (stC s)) (r, []))) := by kernel_rfl
theorem w15C (op : List UInt8) (a b : StI) (r : AV) : (laxW PA GA (XF (some .cnt)) (tbl [(40, s24), (100, s40)]) (itbl []) nAn [] 31 [.str op, .agg (stC a), .agg (stC b)] (r, [])) =
(CallIs (some (famR (famO op), [])) (AV.tup [AV.lit (Value.iface (101 : TypeId) (Value.agg #[])), .bool true]) [] ∧ (true = true → ∃ (n : Int) (n_1 : Int) (n_2 : Int) (es : List AV) (es_1 : List AV), CallIs (tbl [(40, s24), (100, s40)] 100 [.agg [], .agg (stC a), .agg (stC b)]) (AV.agg [.int .i64 n, .int .i64 n_1, .int .u64 n_2, .sl 6 es .no, .sl 2 es_1 .no]) [] ∧ RetLax (AV.agg [.int .i64 n, .int .i64 n_1, .int .u64 n_2, .sl 6 es .no, .sl 2 es_1 .no]) (r, [])) ∧ (true = false → RetLax (AV.agg (stC a)) (r, []))) := by kernel_rfl
theorem w22C (op : List UInt8) (r : AV) : (pureW PA GA (XF (some .cnt)) (tbl [(40, s24)]) (itbl []) nAn [] 22 [.str op] (r, [])) =
(CallIs (some (famR (famO op), [])) (AV.tup [AV.lit (Value.iface (101 : TypeId) (Value.agg #[])), .bool true]) [] ∧ (true = true → RetIs (AV.bool true) [] (r, [])) ∧ (true = false → RetIs (AV.bool false) [] (r, []))) := by kernel_rfl
theorem w14S (op : List UInt8) (s : StI) (x : ItI) (r : AV) : (laxW PA GA (XF (some .sum)) (tbl [(40, s24), (105, s45)]) (itbl []) nAn [] 29 [.str op, .agg (stC s), .agg (itC x)] (r, [])) =
(CallIs (some (famR (famO op), [])) (AV.tup [AV.lit (Value.iface (103 : TypeId) (Value.agg #[])), .bool true]) [] ∧ (true = true → ((x.c == (0 : Int)) = true → RetLax (AV.agg (stC s)) (r, [])) ∧ ((x.c == (0 : Int)) = false → ∃ (n : Int) (n_1 : Int) (n_2 : Int) (es : List AV) (es_1 : List AV), CallIs (tbl [(40, s24), (105, s45)] 105 [.agg [], .agg (stC s), .agg (itC x)]) (AV.agg [.int .i64 n, .int .i64 n_1, .int .u64 n_2, .sl 6 es .no, .sl 2 es_1 .no]) [] ∧ RetLax (AV.agg [.int .i64 n, .int .i64 n_1, .int .u64 n_2, .sl 6 es .no, .sl 2 es_1 .no]) (r, []))) ∧ (true = false → RetLax (AV.agg (stC s)) (r, []))) := by kernel_rfl
theorem w15S (op : List UInt8) (a b : StI) (r : AV) : (laxW PA GA (XF (some .sum)) (tbl [(40, s24), (104, s44)]) (itbl []) nAn [] 31 [.str op, .agg (stC a), .agg (stC b)] (r, [])) =
(CallIs (some (famR (famO op), [])) (AV.tup [AV.lit (Value.iface (103 : TypeId) (Value.agg #[])), .bool true]) [] ∧ (true = true → ∃ (n : Int) (n_1 : Int) (n_2 : Int) (es : List AV) (es_1 : List AV), CallIs (tbl [(40, s24), (104, s44)] 104 [.agg [], .agg (stC a), .agg (stC b)]) (AV.agg [.int .i64 n, .int .i64 n_1, .int .u64 n_2, .sl 6 es .no, .sl 2 es_1 .no]) [] ∧ RetLax (AV.agg [.int .i64 n, .int .i64 n_1, .int .u64 n_2, .sl 6 es .no, .sl 2 es_1 .no]) (r, [])) ∧ (true = false → RetLax (AV.agg (stC a)) (r, []))) := by kernel_rfl
theorem w22S (op : List UInt8) (r : AV) : (pureW PA GA (XF (some .sum)) (tbl [(40, s24)]) (itbl []) nAn [] 22 [.str op] (r, [])) =
(CallIs (some (famR (famO op), [])) (AV.tup [AV.lit (Value.iface (103 : TypeId) (Value.agg #[])), .bool true]) [] ∧ (true = true → RetIs (AV.bool true) [] (r, [])) ∧ (true = false → RetIs (AV.bool false) [] (r, []))) := by kernel_rfl
theorem w14Q (op : List UInt8) (s : StI) (x : ItI) (r : AV) : (laxW PA GA (XF (some .smp)) (tbl [(40, s24), (110, s64)]) (itbl []) nAn [] 29 [.str op, .agg (stC s), .agg (itC x)] (r, [])) =
(CallIs (some (famR (famO op), [])) (AV.tup [AV.lit (Value.iface (104 : TypeId) (Value.agg #[])), .bool true]) [] ∧ (true = true → ((x.c == (0 : Int)) = true → RetLax (AV.agg (stC s)) (r, [])) ∧ ((x.c == (0 : Int)) = false → ∃ (n : Int) (n_1 : Int) (n_2 : Int) (es : List AV) (es_1 : List AV), CallIs (tbl [(40, s24), (110, s64)] 110 [.agg [], .agg (stC s), .agg (itC x)]) (AV.agg [.int .i64 n, .int .i64 n_1, .int .u64 n_2, .sl 6 es .no, .sl 2 es_1 .no]) [] ∧ RetLax (AV.agg [.int .i64 n, .int .i64 n_1, .int .u64 n_2, .sl 6 es .no, .sl 2 es_1 .no]) (r, []))) ∧ (true = false → RetLax (AV.agg (stC s)) (r, []))) := by kernel_rfl
theorem w15Q (op : List UInt8) (a b : StI) (r : AV) : (laxW PA GA (XF (some .smp)) (tbl [(40, s24), (109, s63)]) (itbl []) nAn [] 31 [.str op, .agg (stC a), .agg (stC b)] (r, [])) =
(CallIs (some (famR (famO op), [])) (AV.tup [AV.lit (Value.iface (104 : TypeId) (Value.agg #[])), .bool true]) [] ∧ (true = true → ∃ (n : Int) (n_1 : Int) (n_2 : Int) (es : List AV) (es_1 : List AV), CallIs (tbl [(40, s24), (109, s63)] 109 [.agg [], .agg (stC a), .agg (stC b)]) (AV.agg [.int .i64 n, .int .i64 n_1, .int .u64 n_2, .sl 6 es .no, .sl 2 es_1 .no]) [] ∧ RetLax (AV.agg [.int .i64 n, .int .i64 n_1, .int .u64 n_2, .sl 6 es .no, .sl 2 es_1 .no]) (r, [])) ∧ (true = false → RetLax (AV.agg (stC a)) (r, []))) := by kernel_rfl
theorem w22Q (op : List UInt8) (r : AV) : (pureW PA GA (XF (some .smp)) (tbl [(40, s24)]) (itbl []) nAn [] 22 [.str op] (r, [])) =
(CallIs (some (famR (famO op), [])) (AV.tup [AV.lit (Value.iface (104 : TypeId) (Value.agg #[])), .bool true]) [] ∧ (true = true → RetIs (AV.bool true) [] (r, [])) ∧ (true = false → RetIs (AV.bool false) [] (r, []))) := by kernel_rfl
theorem w14K (op : List UInt8) (s : StI) (x : ItI) (r : AV) : (laxW PA GA (XF (some (.keep false))) (tbl [(40, s24), (145, s100)]) (itbl []) nAn [] 29 [.str op, .agg (stC s), .agg (itC x)] (r, [])) =
(CallIs (some (famR (famO op), [])) (AV.tup [AV.lit (Value.iface (106 : TypeId) (Value.agg #[Value.bool false])), .bool true]) [] ∧ (true = true → ((x.c == (0 : Int)) = true → RetLax (AV.agg (stC s)) (r, [])) ∧ ((x.c == (0 : Int)) = false → ∃ (n : Int) (n_1 : Int) (n_2 : Int) (es : List AV) (es_1 : List AV), CallIs (tbl [(40, s24), (145, s100)] 145 [.agg [.bool false], .agg (stC s), .agg (itC x)]) (AV.agg [.int .i64 n, .int .i64 n_1, .int .u64 n_2, .sl 6 es .no, .sl 2 es_1 .no]) [] ∧ RetLax (AV.agg [.int .i64 n, .int .i64 n_1, .int .u64 n_2, .sl 6 es .no, .sl 2 es_1 .no]) (r, []))) ∧ (true = false → RetLax (AV.agg (stC s)) (r, []))) := by kernel_rfl
theorem w15K (op : List UInt8) (a b : StI) (r : AV) : (laxW PA GA (XF (some (.keep false))) (tbl [(40, s24), (144, s99)]) (itbl []) nAn [] 31 [.str op, .agg (stC a), .agg (stC b)] (r, [])) =
(CallIs (some (famR (famO op), [])) (AV.tup [AV.lit (Value.iface (106 : TypeId) (Value.agg #[Value.bool false])), .bool true]) [] ∧ (true = true → ∃ (n : Int) (n_1 : Int) (n_2 : Int) (es : List AV) (es_1 : List AV), CallIs (tbl [(40, s24), (144, s99)] 144 [.agg [.bool false], .agg (stC a), .agg (stC b)]) (AV.agg [.int .i64 n, .int .i64 n_1, .int .u64 n_2, .sl 6 es .no, .sl 2 es_1 .no]) [] ∧ RetLax (AV.agg [.int .i64 n, .int .i64 n_1, .int .u64 n_2, .sl 6 es .no, .sl 2 es_1 .no]) (r, [])) ∧ (true = false → RetLax (AV.agg (stC a)) (r, []))) := by kernel_rfl
theorem w22K (op : List UInt8) (r : AV) : (pureW PA GA (XF (some (.keep false))) (tbl [(40, s24)]) (itbl []) nAn [] 22 [.str op] (r, [])) =
(CallIs (some (famR (famO op), [])) (AV.tup [AV.lit (Value.iface (106 : TypeId) (Value.agg #[Value.bool false])), .bool true]) [] ∧ (true = true → RetIs (AV.bool true) [] (r, [])) ∧ (true = false → RetIs (AV.bool false) [] (r, []))) := by kernel_rfl
theorem w14O (op : List UInt8) (s : StI) (x : ItI) (r : AV) : (laxW PA GA (XF (some (.keep true))) (tbl [(40, s24), (145, s100)]) (itbl []) nAn [] 29 [.str op, .agg (stC s), .agg (itC x)] (r, [])) =
(CallIs (some (famR (famO op), [])) (AV.tup [AV.lit (Value.iface (106 : TypeId) (Value.agg #[Value.bool true])), .bool true]) [] ∧ (true = true → ((x.c == (0 : Int)) = true → RetLax (AV.agg (stC s)) (r, [])) ∧ ((x.c == (0 : Int)) = false → ∃ (n : Int) (n_1 : Int) (n_2 : Int) (es : List AV) (es_1 : List AV), CallIs (tbl [(40, s24), (145, s100)] 145 [.agg [.bool true], .agg (stC s), .agg (itC x)]) (AV.agg [.int .i64 n, .int .i64 n_1, .int .u64 n_2, .sl 6 es .no, .sl 2 es_1 .no]) [] ∧ RetLax (AV.agg [.int .i64 n, .int .i64 n_1, .int .u64 n_2, .sl 6 es .no, .sl 2 es_1 .no]) (r, []))) ∧ (true = false → RetLax (AV.agg (stC s)) (r, []))) := by kernel_rfl
theorem w15O (op : List UInt8) (a b : StI) (r : AV) : (laxW PA GA (XF (some (.keep true))) (tbl [(40, s24), (144, s99)]) (itbl []) nAn [] 31 [.str op, .agg (stC a), .agg (stC b)] (r, [])) =
(CallIs (some (famR (famO op), [])) (AV.tup [AV.lit (Value.iface (106 : TypeId) (Value.agg #[Value.bool true])), .bool true]) [] ∧ (true = true → ∃ (n : Int) (n_1 : Int) (n_2 : Int) (es : List AV) (es_1 : List AV), CallIs (tbl [(40, s24), (144, s99)] 144 [.agg [.bool true], .agg (stC a), .agg (stC b)]) (AV.agg [.int .i64 n, .int .i64 n_1, .int .u64 n_2, .sl 6 es .no, .sl 2 es_1 .no]) [] ∧ RetLax (AV.agg [.int .i64 n, .int .i64 n_1, .int .u64 n_2, .sl 6 es .no, .sl 2 es_1 .no]) (r, [])) ∧ (true = false → RetLax (AV.agg (stC a)) (r, []))) := by kernel_rfl
theorem w22O (op : List UInt8) (r : AV) : (pureW PA GA (XF (some (.keep true))) (tbl [(40, s24)]) (itbl []) nAn [] 22 [.str op] (r, [])) =
(CallIs (some (famR (famO op), [])) (AV.tup [AV.lit (Value.iface (106 : TypeId) (Value.agg #[Value.bool true])), .bool true]) [] ∧ (true = true → RetIs (AV.bool true) [] (r, [])) ∧ (true = false → RetIs (AV.bool false) [] (r, []))) := by kernel_rfl
end Go.Abs
namespace Go.Abs
open Go.Proofs Go.Proofs.K17 Go.RowKit
def s102x : Spec := fun args => match args with
 | [.sl sz es _] => if (sz = 6 ∨ es.isEmpty = true) ∧ es.length ≤ 2000000 then some (.sl 6 es .no, []) else none
 | _ => none
abbrev zC : List AV := [.int .i64 0, .int .i64 0, .int .u64 0, .sl 0 [] .nil, .sl 0 [] .nil]
def a99 (a b : StI) : Anns := ⟨fun k => if k = 7 then some { α := Nat, slots := [3, 6, 7, 31, 32, 33], nb := 5, vals := fun i => [.ptr 0 0, .ptr 3 0, .ptr 4 0, .sl 6 (itsL b.its) .no, .int .i64 b.its.length, .int .i64 i], sS := fun i => ⟨[some (typB 106 [.bool false]), some (stC a), some (stC b), some zC, some [.int .i64 (wrap64 (a.n + b.n)), .int .i64 0, .int .u64 0, .sl 6 (itsL (insAll a.its (b.its.take i))) .no, .sl 2 [] .no]], []⟩, I := fun i => i ≤ b.its.length, μ := fun i => b.its.length - i } else none, nA⟩
def XO : Shapes := fun f => if f = 147 then some (.val (.one (.sl 6 (.tok 0))), some 51) else XH f
def XOz : Shapes := fun f => if f = 147 then some (.val (.one (.is (.sl 6 [] .full))), none) else XH f
def a12 (op : List UInt8) (l : List ItI) : Anns := ⟨fun k => if k = 3 then some { α := Nat, slots := [0, 1, 4, 5, 6], nb := 2, vals := fun i => [.str op, .sl 6 (itsL l) .no, .ptr 0 0, .ptr 1 0, .int .i64 i], sS := fun i => ⟨[some zC, some (stC (ofP op (l.take i)))], []⟩, I := fun i => i ≤ l.length, μ := fun i => l.length - i } else none, nA⟩
def a13 (a b : StI) : Anns := ⟨fun k => if k = 4 then some { α := Nat, slots := [2, 3, 5], nb := 2, vals := fun i => [.ptr 0 0, .ptr 1 0, .int .i64 i], sS := fun _ => ⟨[some (stC a), some (stC b)], []⟩, I := fun i => i ≤ a.its.length ∧ a.its.take i = b.its.take i, μ := fun i => a.its.length - i }
 else if k = 9 then some { α := Nat, slots := [2, 3, 6], nb := 2, vals := fun i => [.ptr 0 0, .ptr 1 0, .int .i64 i], sS := fun _ => ⟨[some (stC a), some (stC b)], []⟩, I := fun i => i ≤ a.bks.length ∧ a.bks.take i = b.bks.take i, μ := fun i => a.bks.length - i } else none, nA⟩
theorem w102x (x : AV) (es : List AV) : (laxW PA GA XH (tbl []) (itbl []) nAn [] 147 [.sl 6 (x :: es) .no] (.sl 6 (x :: es) .no, [])) =
((x :: es).isEmpty = false ∧ ((6 : Nat) = (6 : Nat) ∨ ([] : List AV) = []) ∧ ((0 : Nat) + (x :: es).length) * (65 : Nat) ≤ (70368744177664 : Nat) ∧ (x :: es = [] → RetLax (AV.sl 6 [] .full) (AV.sl 6 (x :: es) .no, [])) ∧ (x :: es ≠ [] → RetLax (AV.sl 6 (x :: es) (.tok 0)) (AV.sl 6 (x :: es) .no, []))) := by kernel_rfl
theorem w99K (a b : StI) (r : AV) : (laxW PA GA XH (tbl [(102, s42), (147, s102x), (148, s103)]) (itbl []) (a99 a b) [] 144 [.agg [.bool false], .agg (stC a), .agg (stC b)] (r, [])) =
(some (AV.agg []) = some (AV.agg []) ∧ ∃ (n : Int) (n_1 : Int) (n_2 : Int) (es : List AV) (es_1 : List AV), CallIs (some (AV.agg [.int .i64 (wrap64 (a.n + b.n)), .int .i64 0, .int .u64 0, .sl 6 [] .no, .sl 2 [] .no], [])) (AV.agg [.int .i64 n, .int .i64 n_1, .int .u64 n_2, .sl 6 es .no, .sl 2 es_1 .no]) [] ∧ ∃ (es : List AV), CallIs (tbl [(102, s42), (147, s102x), (148, s103)] 147 [.sl 6 (itsL a.its) .no]) (AV.sl 6 es .no) [] ∧ (false = true → ((6 : Nat) = (6 : Nat) ∨ es = []) ∧ (es.length + (itsL b.its).length) * (65 : Nat) ≤ (70368744177664 : Nat) ∧ False) ∧ (false = false → (∃ (y : Nat), ValsAre [.ptr 0 0, .ptr 3 0, .ptr 4 0, .sl 6 (itsL b.its) .no, .int .i64 (↑(itsL b.its).length : Int), .int .i64 0] [.ptr 0 0, .ptr 3 0, .ptr 4 0, .sl 6 (itsL b.its) .no, .int .i64 (↑b.its.length : Int), .int .i64 (↑y : Int)] ∧ StIs { boxes := [some [.tup [.int .i64 106, .agg [.bool false]]], some (stC a), some (stC b), some (nilC 0 0 0), some [.int .i64 n, .int .i64 n_1, .int .u64 n_2, .sl 6 es .no, .sl 2 es_1 .no]], live := [] } { boxes := [some [.tup [.int .i64 106, .agg [.bool false]]], some (stC a), some (stC b), some (nilC 0 0 0), some [.int .i64 (wrap64 (a.n + b.n)), .int .i64 0, .int .u64 0, .sl 6 (itsL (insAll a.its (List.take y b.its))) .no, .sl 2 [] .no]], live := [] } ∧ y ≤ b.its.length ∧ True) ∧ ∀ (x : Nat), x ≤ b.its.length → (decide ((↑x : Int) < (↑b.its.length : Int)) = true → ((0 : Int) ≤ (↑x : Int) ∧ (↑x : Int) < (↑(itsL b.its).length : Int)) ∧ ∃ (n : Int) (n_3 : Int) (s : List UInt8) (s_1 : List UInt8) (n_4 : Int) (n_5 : Int),
 takeAt PA 51 (itsL b.its) (↑x : Int).toNat 0 = some (AV.agg [.int .i64 n, .int .i64 n_3, .str s, .str s_1, .int .i64 n_4, .int .i64 n_5]) ∧ ((n_5 != (0 : Int)) = true → ∃ (es : List AV), CallIs (tbl [(102, s42), (147, s102x), (148, s103)] 148 [.agg [.bool false], .sl 6 (itsL (insAll a.its (List.take x b.its))) .no, .agg [.int .i64 n, .int .i64 n_3, .str s, .str s_1, .int .i64 n_4, .int .i64 n_5]]) (AV.sl 6 es .no) [] ∧ ∃ (y : Nat), ValsAre [.ptr 0 0, .ptr 3 0, .ptr 4 0, .sl 6 (itsL b.its) .no, .int .i64 (↑b.its.length : Int), .int .i64 (IntKind.i64.wrap ((↑x : Int) + (1 : Int)))] [.ptr 0 0, .ptr 3 0, .ptr 4 0, .sl 6 (itsL b.its) .no, .int .i64 (↑b.its.length : Int), .int .i64 (↑y : Int)] ∧ StIs { boxes := [some [.tup [.int .i64 106, .agg [.bool false]]], some (stC a), some (stC b), some (nilC 0 0 0), some [.int .i64 (wrap64 (a.n + b.n)), .int .i64 0, .int .u64 0, .sl 6 es .no, .sl 2 [] .no]], live := [] } { boxes := [some [.tup [.int .i64 106, .agg [.bool false]]], some (stC a), some (stC b), some (nilC 0 0 0), some [.int .i64 (wrap64 (a.n + b.n)), .int .i64 0, .int .u64 0, .sl 6 (itsL (insAll a.its (List.take y b.its))) .no, .sl 2 [] .no]], live := [] } ∧ y ≤ b.its.length ∧ b.its.length - y < b.its.length - x) ∧ ((n_5 != (0 : Int)) = false → ∃ (y : Nat), ValsAre [.ptr 0 0, .ptr 3 0, .ptr 4 0, .sl 6 (itsL b.its) .no, .int .i64 (↑b.its.length : Int), .int .i64 (IntKind.i64.wrap ((↑x : Int) + (1 : Int)))] [.ptr 0 0, .ptr 3 0, .ptr 4 0, .sl 6 (itsL b.its) .no, .int .i64 (↑b.its.length : Int),
 .int .i64 (↑y : Int)] ∧ StIs { boxes := [some [.tup [.int .i64 106, .agg [.bool false]]], some (stC a), some (stC b), some (nilC 0 0 0), some [.int .i64 (wrap64 (a.n + b.n)), .int .i64 0, .int .u64 0, .sl 6 (itsL (insAll a.its (List.take x b.its))) .no, .sl 2 [] .no]], live := [] } { boxes := [some [.tup [.int .i64 106, .agg [.bool false]]], some (stC a), some (stC b), some (nilC 0 0 0), some [.int .i64 (wrap64 (a.n + b.n)), .int .i64 0, .int .u64 0, .sl 6 (itsL (insAll a.its (List.take y b.its))) .no, .sl 2 [] .no]], live := [] } ∧ y ≤ b.its.length ∧ b.its.length - y < b.its.length - x)) ∧ (decide ((↑x : Int) < (↑b.its.length : Int)) = false → RetLax (AV.agg [.int .i64 (wrap64 (a.n + b.n)), .int .i64 0, .int .u64 0, .sl 6 (itsL (insAll a.its (List.take x b.its))) .no, .sl 2 [] .no]) (r, [])))) := by kernel_rfl
theorem w99O (n h l : Int) (y : ItI) (its : List ItI) (bks : Bks) (b : StI) (r : AV) : (laxW PA GA XO (tbl [(102, s42), (147, s102p)]) (itbl []) nAn [] 144 [.agg [.bool true], .agg [.int .i64 n, .int .i64 h, .int .u64 l, .sl 6 (itA y :: itsL its) .no, .sl 2 (bksL bks) .no], .agg (stC b)] (r, [])) =
(some (AV.agg []) = some (AV.agg []) ∧ ∃ (n_1 : Int) (n_2 : Int) (n_3 : Int) (es : List AV) (es_1 : List AV), CallIs (some (AV.agg [.int .i64 (wrap64 (n + b.n)), .int .i64 0, .int .u64 0, .sl 6 [] .no, .sl 2 [] .no], [])) (AV.agg [.int .i64 n_1, .int .i64 n_2, .int .u64 n_3, .sl 6 es .no, .sl 2 es_1 .no]) [] ∧ ∃ (es : List AV), CallIs (tbl [(102, s42), (147, s102p)] 147 [.sl 6 (AV.agg (itC y) :: itsL its) .no]) (AV.sl 6 es (.tok 0)) [(es.length, (51 : Nat))] ∧ (true = true → ((6 : Nat) = (6 : Nat) ∨ es = []) ∧ (es.length + (itsL b.its).length) * (65 : Nat) ≤ (70368744177664 : Nat) ∧ es.length = es.length ∧ RetLax (AV.agg [.int .i64 n_1, .int .i64 n_2, .int .u64 n_3, .sl 6 (es ++ itsL b.its) (.tok 0), .sl 2 es_1 .no]) (r, [])) ∧ (true = false → False)) := by kernel_rfl
theorem w99Oz (n h l : Int) (bks : Bks) (b : StI) (r : AV) : (laxW PA GA XOz (tbl [(102, s42), (147, s102z)]) (itbl []) nAn [] 144 [.agg [.bool true], .agg [.int .i64 n, .int .i64 h, .int .u64 l, .sl 6 [] .no, .sl 2 (bksL bks) .no], .agg (stC b)] (r, [])) =
(some (AV.agg []) = some (AV.agg []) ∧ ∃ (n_1 : Int) (n_2 : Int) (n_3 : Int) (es : List AV) (es_1 : List AV), CallIs (some (AV.agg [.int .i64 (wrap64 (n + b.n)), .int .i64 0, .int .u64 0, .sl 6 [] .no, .sl 2 [] .no], [])) (AV.agg [.int .i64 n_1, .int .i64 n_2, .int .u64 n_3, .sl 6 es .no, .sl 2 es_1 .no]) [] ∧ CallIs (some (AV.sl 6 [] .full, [])) (AV.sl 6 [] .full) [] ∧ (true = true → ((6 : Nat) = (6 : Nat) ∨ ([] : List AV) = []) ∧ ((0 : Nat) + (itsL b.its).length) * (65 : Nat) ≤ (70368744177664 : Nat) ∧ (itsL b.its = [] → RetLax (AV.agg [.int .i64 n_1, .int .i64 n_2, .int .u64 n_3, .sl 6 [] .full, .sl 2 es_1 .no]) (r, [])) ∧ (itsL b.its ≠ [] → RetLax (AV.agg [.int .i64 n_1, .int .i64 n_2, .int .u64 n_3, .sl 6 ([] ++ itsL b.its) (.tok 0), .sl 2 es_1 .no]) (r, []))) ∧ (true = false → False)) := by kernel_rfl
theorem w12 (op : List UInt8) (l : List ItI) (r : AV) : (laxW PA GA XH (tbl [(27, s16), (29, s14)]) (itbl []) (a12 op l) [] 10 [.str op, .sl 6 (itsL l) .no] (r, [])) =
(∃ (n : Int) (n_1 : Int) (n_2 : Int) (es : List AV) (es_1 : List AV), CallIs (some (AV.agg [.int .i64 0, .int .i64 0, .int .u64 0, .sl 6 [] .no, .sl 2 [] .no], [])) (AV.agg [.int .i64 n, .int .i64 n_1, .int .u64 n_2, .sl 6 es .no, .sl 2 es_1 .no]) [] ∧ (∃ (y : Nat), ValsAre [.str op, .sl 6 (itsL l) .no, .ptr 0 0, .ptr 1 0, .int .i64 0] [.str op, .sl 6 (itsL l) .no, .ptr 0 0, .ptr 1 0, .int .i64 (↑y : Int)] ∧ StIs { boxes := [some (nilC 0 0 0), some [.int .i64 n, .int .i64 n_1, .int .u64 n_2, .sl 6 es .no, .sl 2 es_1 .no]], live := [] } { boxes := [some (nilC 0 0 0), some (stC (ofP op (List.take y l)))], live := [] } ∧ y ≤ l.length ∧ True) ∧ ∀ (x : Nat), x ≤ l.length → (decide ((↑x : Int) < (↑(itsL l).length : Int)) = true → ((0 : Int) ≤ (↑x : Int) ∧ (↑x : Int) < (↑(itsL l).length : Int)) ∧ ∃ (n : Int) (n_3 : Int) (s : List UInt8) (s_1 : List UInt8) (n_4 : Int) (n_5 : Int), takeAt PA 51 (itsL l) (↑x : Int).toNat 0 = some (AV.agg [.int .i64 n, .int .i64 n_3, .str s, .str s_1, .int .i64 n_4, .int .i64 n_5]) ∧ ∃ (n_6 : Int) (n_7 : Int) (n_8 : Int) (es : List AV) (es_2 : List AV), CallIs (tbl [(27, s16), (29, s14)] 29 [.str op, .agg (stC (ofP op (List.take x l))), .agg [.int .i64 n, .int .i64 n_3, .str s, .str s_1, .int .i64 n_4, .int .i64 n_5]]) (AV.agg [.int .i64 n_6, .int .i64 n_7, .int .u64 n_8, .sl 6 es .no, .sl 2 es_2 .no]) [] ∧ ∃ (y : Nat), ValsAre [.str op, .sl 6 (itsL l) .no, .ptr 0 0, .ptr 1 0, .int .i64 (IntKind.i64.wrap ((↑x : Int) + (1 : Int)))] [.str op, .sl 6 (itsL l) .no, .ptr 0 0,
 .ptr 1 0, .int .i64 (↑y : Int)] ∧ StIs { boxes := [some (nilC 0 0 0), some [.int .i64 n_6, .int .i64 n_7, .int .u64 n_8, .sl 6 es .no, .sl 2 es_2 .no]], live := [] } { boxes := [some (nilC 0 0 0), some (stC (ofP op (List.take y l)))], live := [] } ∧ y ≤ l.length ∧ l.length - y < l.length - x) ∧ (decide ((↑x : Int) < (↑(itsL l).length : Int)) = false → RetLax (AV.agg (stC (ofP op (List.take x l)))) (r, []))) := by kernel_rfl
theorem w13 (a b : StI) (r : AV) : (pureW PA GA XH (tbl []) (itbl []) (a13 a b) [] 26 [.agg (stC a), .agg (stC b)] (r, [])) =
(((a.n != b.n) = true → RetIs (AV.bool false) [] (r, [])) ∧ ((a.n != b.n) = false → ((!(a.h == b.h && (a.l == b.l && true))) = true → RetIs (AV.bool false) [] (r, [])) ∧ ((!(a.h == b.h && (a.l == b.l && true))) = false → (((↑(itsL a.its).length : Int) != (↑(itsL b.its).length : Int)) = true → RetIs (AV.bool false) [] (r, [])) ∧ (((↑(itsL a.its).length : Int) != (↑(itsL b.its).length : Int)) = false → (((↑(bksL a.bks).length : Int) != (↑(bksL b.bks).length : Int)) = true → RetIs (AV.bool false) [] (r, [])) ∧ (((↑(bksL a.bks).length : Int) != (↑(bksL b.bks).length : Int)) = false → (∃ (y : Nat), ValsAre [.ptr 0 0, .ptr 1 0, .int .i64 0] [.ptr 0 0, .ptr 1 0, .int .i64 (↑y : Int)] ∧ StIs { boxes := [some (stC a), some (stC b)], live := [] } { boxes := [some (stC a), some (stC b)], live := [] } ∧ (y ≤ a.its.length ∧ List.take y a.its = List.take y b.its) ∧ True) ∧ ∀ (x : Nat), x ≤ a.its.length ∧ List.take x a.its = List.take x b.its → (decide ((↑x : Int) < (↑(itsL a.its).length : Int)) = true → ((0 : Int) ≤ (↑x : Int) ∧ (↑x : Int) < (↑(itsL a.its).length : Int)) ∧ ∃ (n : Int) (n_1 : Int) (s : List UInt8) (s_1 : List UInt8) (n_2 : Int) (n_3 : Int), takeAt PA 51 (itsL a.its) (↑x : Int).toNat 0 = some (AV.agg [.int .i64 n, .int .i64 n_1, .str s, .str s_1, .int .i64 n_2, .int .i64 n_3]) ∧ ((0 : Int) ≤ (↑x : Int) ∧ (↑x : Int) < (↑(itsL b.its).length : Int)) ∧ ∃ (n_4 : Int) (n_5 : Int) (s_2 : List UInt8) (s_3 : List UInt8) (n_6 : Int) (n_7 : Int), takeAt PA 51 (itsL b.its) (↑x : Int).toNat 0 =
 some (AV.agg [.int .i64 n_4, .int .i64 n_5, .str s_2, .str s_3, .int .i64 n_6, .int .i64 n_7]) ∧ ((!(n == n_4 && (n_1 == n_5 && (s == s_2 && true)) && (s_1 == s_3 && (n_2 == n_6 && true) && (n_3 == n_7 && true)))) = true → RetIs (AV.bool false) [] (r, [])) ∧ ((!(n == n_4 && (n_1 == n_5 && (s == s_2 && true)) && (s_1 == s_3 && (n_2 == n_6 && true) && (n_3 == n_7 && true)))) = false → ∃ (y : Nat), ValsAre [.ptr 0 0, .ptr 1 0, .int .i64 (IntKind.i64.wrap ((↑x : Int) + (1 : Int)))] [.ptr 0 0, .ptr 1 0, .int .i64 (↑y : Int)] ∧ StIs { boxes := [some (stC a), some (stC b)], live := [] } { boxes := [some (stC a), some (stC b)], live := [] } ∧ (y ≤ a.its.length ∧ List.take y a.its = List.take y b.its) ∧ a.its.length - y < a.its.length - x)) ∧ (decide ((↑x : Int) < (↑(itsL a.its).length : Int)) = false → (∃ (y : Nat), ValsAre [.ptr 0 0, .ptr 1 0, .int .i64 0] [.ptr 0 0, .ptr 1 0, .int .i64 (↑y : Int)] ∧ StIs { boxes := [some (stC a), some (stC b)], live := [] } { boxes := [some (stC a), some (stC b)], live := [] } ∧ (y ≤ List.length a.bks ∧ List.take y a.bks = List.take y b.bks) ∧ True) ∧ ∀ (x : Nat), x ≤ List.length a.bks ∧ List.take x a.bks = List.take x b.bks → (decide ((↑x : Int) < (↑(bksL a.bks).length : Int)) = true → ((0 : Int) ≤ (↑x : Int) ∧ (↑x : Int) < (↑(bksL a.bks).length : Int)) ∧ ∃ (n : Int) (n_1 : Int), takeAt PA 90 (bksL a.bks) (↑x : Int).toNat 0 = some (AV.agg [.int .i64 n, .int .i64 n_1]) ∧ ((0 : Int) ≤ (↑x : Int) ∧ (↑x : Int) < (↑(bksL b.bks).length : Int)) ∧ ∃ (n_2 : Int) (n_3 : Int),
 takeAt PA 90 (bksL b.bks) (↑x : Int).toNat 0 = some (AV.agg [.int .i64 n_2, .int .i64 n_3]) ∧ ((!(n == n_2 && (n_1 == n_3 && true))) = true → RetIs (AV.bool false) [] (r, [])) ∧ ((!(n == n_2 && (n_1 == n_3 && true))) = false → ∃ (y : Nat), ValsAre [.ptr 0 0, .ptr 1 0, .int .i64 (IntKind.i64.wrap ((↑x : Int) + (1 : Int)))] [.ptr 0 0, .ptr 1 0, .int .i64 (↑y : Int)] ∧ StIs { boxes := [some (stC a), some (stC b)], live := [] } { boxes := [some (stC a), some (stC b)], live := [] } ∧ (y ≤ List.length a.bks ∧ List.take y a.bks = List.take y b.bks) ∧ List.length a.bks - y < List.length a.bks - x)) ∧ (decide ((↑x : Int) < (↑(bksL a.bks).length : Int)) = false → RetIs (AV.bool true) [] (r, [])))))))) := by kernel_rfl
theorem unSt_ok (s : StI) : unSt (stA s) = some s := by
 unfold stA unSt
 simp only [show unL unI (itsL s.its) = some s.its from unL_map unI_ok s.its, show unL unBk (bksL s.bks) = some s.bks from unL_map unBk_ok s.bks, true_or, and_self, if_true]
theorem unSt_inv {a : AV} {s : StI} (h : unSt a = some s) : Lax1 a (stA s) := by
 unfold unSt at h
 split at h
 ·rename_i n hh l sz es sz2 es2
  split at h
  ·rename_i its bks h1 h2
   split at h
   ·rename_i hc
    injection h with h; subst h
    obtain rfl := unL_inv unI_inv h1
    obtain rfl := unL_inv unBk_inv h2
    refine ⟨rfl, rfl, rfl, ⟨rfl, rfl, ?_⟩, ⟨rfl, rfl, ?_⟩, trivial⟩
    ·rcases hc.1 with h | h
     ·exact .inl h
     ·exact .inr (by simp only [h]; rfl)
    ·rcases hc.2 with h | h
     ·exact .inl h
     ·exact .inr (by simp only [h]; rfl)
   ·cases h
  ·cases h
 ·cases h
def wkSt (a : AV) : AV := match unSt a with
 | some s => stA s
 | none => wkA 6 a
theorem rep_wkSt {E : Env} {w : World} {a : AV} {v : Value} (h : Rep E w a v) : Rep E w (wkSt a) v := by
 unfold wkSt
 split
 ·rename_i s hs; exact (unSt_inv hs).rep h
 ·exact rep_wk h
theorem closed_wkSt {a : AV} (h : a.closed1 = true) : (wkSt a).closed1 = true := by
 unfold wkSt
 split
 ·rfl
 ·exact closed_wk h
theorem wkSt_of {a : AV} {s : StI} (h : unSt a = some s) : wkSt a = stA s := by unfold wkSt; rw [h]
section
variable {P : Program} {G : Glob}
theorem spec_wkS {f : FuncId} {s : Spec} (h : ∀ args r, s args = some r → SpecOk P G f (fun a => open Classical in if a = args.map wkSt then some r else none)) : SpecOk P G f s := by
 intro g args r lv hr
 simp only at hr
 split at hr
 ·rename_i e
  subst e
  have := h args (r, lv) hr g (args.map wkSt) r lv (by simp)
  intro E w vs hI hG hn hv hcl
  refine this E w vs hI hG (by rw [List.length_map]; exact hn) (fun i c v hi hv' => ?_) fun c hc => ?_
  ·rw [List.getElem?_map] at hi
   cases ha : args[i]? with
   | none => rw [ha] at hi; cases hi
   | some a =>
    rw [ha] at hi
    simp only [Option.map_some, Option.some.injEq] at hi
    subst hi
    exact rep_wkSt (hv i a v ha hv')
  ·obtain ⟨a, ha, rfl⟩ := List.mem_map.1 hc
   exact closed_wkSt (hcl a ha)
 ·cases hr
end
theorem lax_st (s : StI) : RetLax (.agg (stC s)) (stA s, []) := ⟨⟨rfl, rfl, rfl, ⟨rfl, rfl, .inl rfl⟩, ⟨rfl, rfl, .inl rfl⟩, trivial⟩, rfl, rfl⟩
theorem lax_st' {n h l : Int} {es es2 : List AV} {s : StI} (h1 : n = s.n) (h2 : h = s.h) (h3 : l = s.l) (h4 : es = itsL s.its) (h5 : es2 = bksL s.bks) : RetLax (.agg [.int .i64 n, .int .i64 h, .int .u64 l, .sl 6 es .no, .sl 2 es2 .no]) (stA s, []) := by
 subst h1 h2 h3 h4 h5; exact lax_st s
theorem wideA_st (x : Int) : wideA x = .agg [.int .i64 (whi x), .int .u64 (wlo x)] := by unfold wideA whi wlo; rw [iw]
theorem w_ok (x : Int) : wOk (whi x) (wlo x) := by
 have h1 := w64_range (x / 18446744073709551616)
 unfold wOk whi wlo; omega
theorem p42 (n m : Int) : LaxOk PA GA XH (tbl []) (itbl []) nAn [] 102 [.agg [], .int .i64 n, .int .i64 m] (.agg [.int .i64 (wrap64 (n + m)), .int .i64 0, .int .u64 0, .sl 6 [] .no, .sl 2 [] .no], []) := by
 constructor
 rw [w42, iw]
 exact ⟨⟨rfl, rfl, rfl, ⟨rfl, rfl, .inr rfl⟩, ⟨rfl, rfl, .inr rfl⟩, trivial⟩, rfl, rfl⟩
theorem o42 : SpecOk PA GA 102 s42 := lax_of (X := XH) (m := []) mixedA tbl_nil itbl_nil fun args r h => by
 unfold s42 at h
 split at h
 case h_2 => cases h
 injection h with h; subst h
 exact ⟨_, p42 _ _⟩
theorem p16 (op : List UInt8) : LaxOk PA GA XH (tbl []) (itbl []) nAn [] 27 [.str op] (stA StI.z, []) := by
 constructor
 rw [w16]
 exact ⟨⟨rfl, rfl, rfl, ⟨rfl, rfl, .inr rfl⟩, ⟨rfl, rfl, .inr rfl⟩, trivial⟩, rfl, rfl⟩
theorem o16 : SpecOk PA GA 27 s16 := lax_of (X := XH) (m := []) mixedA tbl_nil itbl_nil fun args r h => by
 unfold s16 at h
 split at h
 case h_2 => cases h
 injection h with h; subst h
 exact ⟨_, p16 _⟩
theorem p24 (op : List UInt8) : PureOk PA GA XH (tbl []) (itbl []) nAn [] 40 [.str op] (famR (famO op), []) := by
 constructor
 rw [w24]
 have e1 : ∀ {x : List UInt8}, (op == x) = true → op = x := fun h => by simpa using h
 have e2 : ∀ {x : List UInt8}, (op == x) = false → ¬ op = x := fun h => by simpa using h
 refine ⟨fun h => retIs_iff.2 ?_, fun a1 => ⟨fun h => retIs_iff.2 ?_, fun a2 => ⟨fun h => retIs_iff.2 ?_, fun a3 => ⟨fun h => retIs_iff.2 ?_, fun a4 => ⟨fun h => retIs_iff.2 ?_, fun a5 => ⟨fun h => retIs_iff.2 ?_, fun a6 => ⟨fun h => retIs_iff.2 ?_, fun a7 => ⟨fun h => retIs_iff.2 ?_, fun a8 => ⟨fun h => retIs_iff.2 ?_, fun a9 => ⟨fun h => retIs_iff.2 ?_, fun a10 => retIs_iff.2 ?_⟩⟩⟩⟩⟩⟩⟩⟩⟩⟩
 ·obtain rfl := e1 h; rfl
 ·obtain rfl := e1 h; rfl
 ·obtain rfl := e1 h; rfl
 ·obtain rfl := e1 h; rfl
 ·obtain rfl := e1 h; rfl
 ·obtain rfl := e1 h; rfl
 ·obtain rfl := e1 h; rfl
 ·obtain rfl := e1 h; rfl
 ·obtain rfl := e1 h; rfl
 ·obtain rfl := e1 h; rfl
 ·unfold famO
  rw [if_neg (e2 a1), if_neg (e2 a2), if_neg (e2 a3), if_neg (e2 a4), if_neg (e2 a5), if_neg (e2 a6), if_neg (e2 a7), if_neg (e2 a8), if_neg (e2 a9), if_neg (e2 a10)]
  rfl
theorem o24 : SpecOk PA GA 40 s24 := spec_of (X := XH) (m := []) mixedA tbl_nil itbl_nil fun args r h => by
 unfold s24 at h
 split at h
 case h_2 => cases h
 injection h with h; subst h
 exact ⟨_, p24 _⟩
theorem wv_prod {a b : Int} (ha : iOk a) (hb : iOk b) : bigOk (a * b) := by
 unfold iOk at ha hb
 unfold bigOk
 have h1 : (a * b).natAbs ≤ 9223372036854775808 * 9223372036854775808 := by
  rw [Int.natAbs_mul]
  exact Nat.mul_le_mul (by omega) (by omega)
 omega
theorem p41 (s : StI) (x : ItI) : LaxOk PA GA XH (tbl [(102, s42)]) (itbl []) nAn [] 101 [.agg [], .agg (stC s), .agg (itC x)] (stA (putP .cnt s x), []) := by
 constructor
 rw [w41]
 first
  | exact ⟨_, _, _, _, _, callIs_iff.2 rfl, lax_st' rfl rfl rfl rfl rfl⟩
  | exact ⟨_, _, _, _, _, _, callIs_iff.2 rfl, lax_st' rfl rfl rfl rfl rfl⟩
theorem p45 (s : StI) (x : ItI) (hx : itOk x) (hs : stOk s) : LaxOk PA GA XH (tbl [(102, s42), (16, s47), (17, s48)]) (itbl []) nAn [] 105 [.agg [], .agg (stC s), .agg (itC x)] (stA (putP .sum s x), []) := by
 constructor
 rw [w45]
 obtain ⟨a, b, e1, e2, e3⟩ := wideA_big (wv_prod hx.1 hx.2)
 refine ⟨rfl, _, _, _, _, _, callIs_iff.2 rfl, a, b, callIs_iff.2 ?_, whi (wv s.h s.l + x.n * x.c), wlo (wv s.h s.l + x.n * x.c), callIs_iff.2 ?_, lax_st' rfl rfl rfl rfl rfl⟩
 ·rw [tb_miss (by decide), tb_miss (by decide), tb_hit]; simp only [s48]; rw [if_pos (show iOk x.n ∧ iOk x.c from hx), e1]
 ·rw [tb_miss (by decide), tb_hit]; simp only [s47, sW2]; rw [if_pos ⟨hs.1, e2⟩, e3, wideA_st]
theorem p64 (s : StI) (x : ItI) (hx : itOk x) (hs : stOk s) : LaxOk PA GA XH (tbl [(102, s42), (113, s67)]) (itbl []) nAn [] 110 [.agg [], .agg (stC s), .agg (itC x)] (stA (putP .smp s x), []) := by
 constructor
 rw [w64]
 refine ⟨rfl, _, _, _, _, _, callIs_iff.2 rfl, bksL (normB (s.bks ++ [(idx x.n, x.c)])), callIs_iff.2 ?_, lax_st' rfl rfl rfl rfl rfl⟩
 rw [tb_miss (by decide), tb_hit]; simp only [s67, show unL unBk (bksL s.bks) = some s.bks from unL_map unBk_ok s.bks]
 unfold itOk iOk at hx
 rw [if_pos ⟨.inl trivial, hs.2.1, by have := hs.2.2.2; omega, by unfold I64; omega, by unfold I64; omega⟩]
theorem p100 (f : Bool) (s : StI) (x : ItI) (hs : stOk s) : LaxOk PA GA XH (tbl [(102, s42), (148, s103)]) (itbl []) nAn [] 145 [.agg [.bool f], .agg (stC s), .agg (itC x)] (stA (putP (.keep f) s x), []) := by
 constructor
 rw [w100]
 refine ⟨rfl, _, _, _, _, _, callIs_iff.2 rfl, itsL (insI f s.its x), callIs_iff.2 ?_, lax_st' rfl rfl rfl rfl rfl⟩
 rw [tb_miss (by decide), tb_hit]; simp only [s103, show unL unI (itsL s.its) = some s.its from unL_map unI_ok s.its]
 rw [if_pos ⟨.inl trivial, hs.2.2.1⟩]
theorem p40 (a b : StI) : LaxOk PA GA XH (tbl [(102, s42)]) (itbl []) nAn [] 100 [.agg [], .agg (stC a), .agg (stC b)] (stA (joinP .cnt a b), []) := by
 constructor
 rw [w40]
 first
  | exact ⟨_, _, _, _, _, callIs_iff.2 rfl, lax_st' rfl rfl rfl rfl rfl⟩
  | exact ⟨_, _, _, _, _, _, callIs_iff.2 rfl, lax_st' rfl rfl rfl rfl rfl⟩
theorem p44 (a b : StI) (ha : stOk a) (hb : stOk b) : LaxOk PA GA XH (tbl [(102, s42), (16, s47)]) (itbl []) nAn [] 104 [.agg [], .agg (stC a), .agg (stC b)] (stA (joinP .sum a b), []) := by
 constructor
 rw [w44]
 refine ⟨rfl, _, _, _, _, _, callIs_iff.2 rfl, whi (wv a.h a.l + wv b.h b.l), wlo (wv a.h a.l + wv b.h b.l), callIs_iff.2 ?_, lax_st' rfl rfl rfl rfl rfl⟩
 rw [tb_miss (by decide), tb_hit]; simp only [s47, sW2]; rw [if_pos ⟨ha.1, hb.1⟩, wideA_st]
theorem p63 (a b : StI) (ha : stOk a) (hb : stOk b) : LaxOk PA GA XH (tbl [(102, s42), (112, s66)]) (itbl []) nAn [] 109 [.agg [], .agg (stC a), .agg (stC b)] (stA (joinP .smp a b), []) := by
 constructor
 rw [w63]
 refine ⟨rfl, _, _, _, _, _, callIs_iff.2 rfl, bksL (normB (a.bks ++ b.bks)), callIs_iff.2 ?_, lax_st' rfl rfl rfl rfl rfl⟩
 rw [tb_miss (by decide), tb_hit]; simp only [s66, show unL unBk (bksL a.bks) = some a.bks from unL_map unBk_ok a.bks, show unL unBk (bksL b.bks) = some b.bks from unL_map unBk_ok b.bks]
 rw [if_pos ⟨.inl trivial, .inl trivial, ha.2.1, hb.2.1, by have := ha.2.2.2; have := hb.2.2.2; omega⟩]
theorem wk_it (x : ItI) : wkSt (itA x) = itA x := rfl
theorem o41 : SpecOk PA GA 101 s41 := spec_wkS fun args r h => by
 unfold s41 sPut at h
 split at h
 case h_2 => cases h
 rename_i r0 st it
 split at h
 case h_2 => cases h
 rename_i s x hs hx
 split at h
 case isFalse => cases h
 rename_i hc
 obtain ⟨h0, hc1, hc2⟩ := hc
 injection h with h; subst h
 obtain rfl := List.length_eq_zero_iff.1 h0
 obtain rfl := unI_inv _ _ hx
 have e : [AV.agg [], st, itA x].map wkSt = [.agg [], stA s, itA x] := by simp only [List.map_cons, List.map_nil, wkSt_of hs, wk_it]; rfl
 rw [e]
 exact one_lax mixedA (tbl_cons o42 tbl_nil) itbl_nil (p41 s x)
theorem o45 : SpecOk PA GA 105 s45 := spec_wkS fun args r h => by
 unfold s45 sPut at h
 split at h
 case h_2 => cases h
 rename_i r0 st it
 split at h
 case h_2 => cases h
 rename_i s x hs hx
 split at h
 case isFalse => cases h
 rename_i hc
 obtain ⟨h0, hc1, hc2⟩ := hc
 injection h with h; subst h
 obtain rfl := List.length_eq_zero_iff.1 h0
 obtain rfl := unI_inv _ _ hx
 have e : [AV.agg [], st, itA x].map wkSt = [.agg [], stA s, itA x] := by simp only [List.map_cons, List.map_nil, wkSt_of hs, wk_it]; rfl
 rw [e]
 exact one_lax mixedA (tbl_cons o42 (tbl_cons o47 (tbl_cons o48 tbl_nil))) itbl_nil (p45 s x hc1 hc2)
theorem o64 : SpecOk PA GA 110 s64 := spec_wkS fun args r h => by
 unfold s64 sPut at h
 split at h
 case h_2 => cases h
 rename_i r0 st it
 split at h
 case h_2 => cases h
 rename_i s x hs hx
 split at h
 case isFalse => cases h
 rename_i hc
 obtain ⟨h0, hc1, hc2⟩ := hc
 injection h with h; subst h
 obtain rfl := List.length_eq_zero_iff.1 h0
 obtain rfl := unI_inv _ _ hx
 have e : [AV.agg [], st, itA x].map wkSt = [.agg [], stA s, itA x] := by simp only [List.map_cons, List.map_nil, wkSt_of hs, wk_it]; rfl
 rw [e]
 exact one_lax mixedA (tbl_cons o42 (tbl_cons o67 tbl_nil)) itbl_nil (p64 s x hc1 hc2)
theorem o100 : SpecOk PA GA 145 s100 := spec_wkS fun args r h => by
 unfold s100 at h
 split at h
 case h_2 => cases h
 rename_i f st it
 split at h
 case h_2 => cases h
 rename_i s x hs hx
 split at h
 case isFalse => cases h
 rename_i hc
 injection h with h; subst h
 obtain rfl := unI_inv _ _ hx
 have e : [AV.agg [.bool f], st, itA x].map wkSt = [.agg [.bool f], stA s, itA x] := by simp only [List.map_cons, List.map_nil, wkSt_of hs, wk_it]; rfl
 rw [e]
 exact one_lax mixedA (tbl_cons o42 (tbl_cons o103 tbl_nil)) itbl_nil (p100 f s x hc.2)
theorem o40 : SpecOk PA GA 100 s40 := spec_wkS fun args r h => by
 unfold s40 sJoin at h
 split at h
 case h_2 => cases h
 rename_i r0 st st2
 split at h
 case h_2 => cases h
 rename_i a b ha hb
 split at h
 case isFalse => cases h
 rename_i hc
 obtain ⟨h0, hc1, hc2⟩ := hc
 injection h with h; subst h
 obtain rfl := List.length_eq_zero_iff.1 h0
 have e : [AV.agg [], st, st2].map wkSt = [.agg [], stA a, stA b] := by simp only [List.map_cons, List.map_nil, wkSt_of ha, wkSt_of hb]; rfl
 rw [e]
 exact one_lax mixedA (tbl_cons o42 tbl_nil) itbl_nil (p40 a b)
theorem o44 : SpecOk PA GA 104 s44 := spec_wkS fun args r h => by
 unfold s44 sJoin at h
 split at h
 case h_2 => cases h
 rename_i r0 st st2
 split at h
 case h_2 => cases h
 rename_i a b ha hb
 split at h
 case isFalse => cases h
 rename_i hc
 obtain ⟨h0, hc1, hc2⟩ := hc
 injection h with h; subst h
 obtain rfl := List.length_eq_zero_iff.1 h0
 have e : [AV.agg [], st, st2].map wkSt = [.agg [], stA a, stA b] := by simp only [List.map_cons, List.map_nil, wkSt_of ha, wkSt_of hb]; rfl
 rw [e]
 exact one_lax mixedA (tbl_cons o42 (tbl_cons o47 tbl_nil)) itbl_nil (p44 a b hc1 hc2)
theorem o63 : SpecOk PA GA 109 s63 := spec_wkS fun args r h => by
 unfold s63 sJoin at h
 split at h
 case h_2 => cases h
 rename_i r0 st st2
 split at h
 case h_2 => cases h
 rename_i a b ha hb
 split at h
 case isFalse => cases h
 rename_i hc
 obtain ⟨h0, hc1, hc2⟩ := hc
 injection h with h; subst h
 obtain rfl := List.length_eq_zero_iff.1 h0
 have e : [AV.agg [], st, st2].map wkSt = [.agg [], stA a, stA b] := by simp only [List.map_cons, List.map_nil, wkSt_of ha, wkSt_of hb]; rfl
 rw [e]
 exact one_lax mixedA (tbl_cons o42 (tbl_cons o66 tbl_nil)) itbl_nil (p63 a b hc1 hc2)
/-! bounds -/
theorem addI_len {f : Bool} {m : ItI} {c : Int} : ∀ {l l' : List ItI}, addI f m c l = some l' → l'.length ≤ l.length
 | [], l', h => by simp [addI] at h
 | y :: t, l', h => by
  unfold addI at h
  split at h
  ·injection h with h; subst h
   split <;> simp
  ·cases ha : addI f m c t with
   | none => rw [ha] at h; cases h
   | some l2 =>
    rw [ha] at h
    simp only [Option.map_some, Option.some.injEq] at h
    subst h
    have := addI_len ha
    simp; omega
theorem putI_len {f : Bool} {m : ItI} {c : Int} : ∀ {l : List ItI}, (putI f m c l).length = l.length + 1
 | [] => rfl
 | y :: t => by
  unfold putI
  split
  ·rfl
  ·simp only [List.length_cons, putI_len]
theorem insI_len (f : Bool) (l : List ItI) (x : ItI) : (insI f l x).length ≤ l.length + 1 := by
 unfold insI
 cases h : addI f (markI f x) x.c l with
 | none => simp only [Option.getD_none, putI_len]; omega
 | some l2 => have := addI_len h; simp only [Option.getD_some]; omega
theorem insAll_len (a : List ItI) : ∀ (m l : List ItI), (m.foldl (fun l x => if x.c = 0 then l else insI false l x) l).length ≤ l.length + m.length
 | [], l => by simp
 | x :: m, l => by
  simp only [List.foldl_cons, List.length_cons]
  refine Nat.le_trans (insAll_len a m _) ?_
  split
  ·omega
  ·have := insI_len false l x; omega
theorem insAll_le (a b : List ItI) : (insAll a b).length ≤ a.length + b.length := insAll_len a b a
theorem putB_len {i n : Int} : ∀ {l : Bks}, (putB i n l).length ≤ l.length + 1
 | [] => by unfold putB; split <;> simp
 | (j, c) :: t => by
  unfold putB
  split
  ·split <;> simp
  ·split
   ·split <;> simp; omega
   ·simp only [List.length_cons]; have := @putB_len i n t; omega
theorem norm_len : ∀ (l m : Bks), (l.foldl (fun m x => putB x.1 x.2 m) m).length ≤ m.length + l.length
 | [], m => by simp
 | x :: l, m => by
  simp only [List.foldl_cons, List.length_cons]
  refine Nat.le_trans (norm_len l _) ?_
  have := @putB_len x.1 x.2 m; omega
theorem normB_len (l : Bks) : (normB l).length ≤ l.length := by have := norm_len l []; simpa [normB] using this
theorem one_wf {x : ItI} (hx : itOk x) {l : Bks} (h : WfB l) : WfB (l ++ [(idx x.n, x.c)]) := fun y hy => by
 unfold itOk iOk at hx
 rcases List.mem_append.1 hy with h' | h'
 ·exact h y h'
 ·have hi := idx_range x.n (by omega) (by omega)
  simp at h'; subst h'; exact ⟨⟨by simp; omega, by simp; omega⟩, by unfold I64; simp; omega⟩
theorem app_wf {l m : Bks} (h : WfB l) (k : WfB m) : WfB (l ++ m) := fun y hy => by
 rcases List.mem_append.1 hy with h' | h'
 ·exact h y h'
 ·exact k y h'
theorem nil_wf : WfB [] := fun y hy => by simp at hy
theorem w0_ok : wOk 0 0 := by unfold wOk; omega
structure StB (s : StI) (n : Nat) : Prop where
 w : wOk s.h s.l
 b : WfB s.bks
 i : s.its.length ≤ n
 k : s.bks.length ≤ n
theorem StB.ok {s : StI} {n : Nat} (h : StB s n) (hn : n ≤ 1000000) : stOk s := ⟨h.w, h.b, by have := h.i; omega, by have := h.k; omega⟩
theorem stB_z : StB StI.z 0 := ⟨w0_ok, nil_wf, Nat.le_refl _, Nat.le_refl _⟩
theorem stB_put {s : StI} {n : Nat} (h : StB s n) {x : ItI} (hx : itOk x) (fam : Fam) : StB (putP fam s x) (n + 1) := by
 cases fam with
 | cnt => exact ⟨w0_ok, nil_wf, Nat.zero_le _, Nat.zero_le _⟩
 | sum => exact ⟨w_ok _, nil_wf, Nat.zero_le _, Nat.zero_le _⟩
 | smp => exact ⟨w0_ok, (norm_ok (one_wf hx h.b)).2.1, Nat.zero_le _, by
   have h1 := normB_len (s.bks ++ [(idx x.n, x.c)])
   have h2 := h.k
   simp only [List.length_append, List.length_cons, List.length_nil] at h1
   show (normB _).length ≤ n + 1
   omega⟩
 | keep f => exact ⟨w0_ok, nil_wf, by have h1 := insI_len f s.its x; have h2 := h.i; show (insI f s.its x).length ≤ n + 1; omega, Nat.zero_le _⟩
theorem stB_add {s : StI} {n : Nat} (h : StB s n) {x : ItI} (hx : itOk x) (op : List UInt8) : StB (addP op s x) (n + 1) := by
 have h' : StB s (n + 1) := ⟨h.w, h.b, Nat.le_succ_of_le h.i, Nat.le_succ_of_le h.k⟩
 unfold addP
 split
 ·exact h'
 ·split
  ·exact h'
  ·exact stB_put h hx _
theorem stB_of (op : List UInt8) : ∀ (l : List ItI) (s : StI) (n : Nat), StB s n → (∀ x ∈ l, itOk x) → StB (l.foldl (addP op) s) (n + l.length)
 | [], s, n, h, _ => h
 | x :: l, s, n, h, hx => by
  have := stB_of op l (addP op s x) (n + 1) (stB_add h (hx x (by simp)) op) fun y hy => hx y (by simp [hy])
  simp only [List.foldl_cons, List.length_cons]
  rwa [show n + (l.length + 1) = n + 1 + l.length by omega]
theorem ofP_ok (op : List UInt8) {l : List ItI} (hx : ∀ x ∈ l, itOk x) : StB (ofP op l) l.length := by
 have := stB_of op l StI.z 0 stB_z hx
 rwa [Nat.zero_add] at this
theorem stB_join {a b : StI} {n m : Nat} (ha : StB a n) (hb : StB b m) (fam : Fam) : StB (joinP fam a b) (n + m) := by
 cases fam with
 | cnt => exact ⟨w0_ok, nil_wf, Nat.zero_le _, Nat.zero_le _⟩
 | sum => exact ⟨w_ok _, nil_wf, Nat.zero_le _, Nat.zero_le _⟩
 | smp => exact ⟨w0_ok, (norm_ok (app_wf ha.b hb.b)).2.1, Nat.zero_le _, by
   have h1 := normB_len (a.bks ++ b.bks)
   have h2 := ha.k
   have h3 := hb.k
   rw [List.length_append] at h1
   show (normB _).length ≤ n + m
   omega⟩
 | keep f => cases f with
  | true => exact ⟨w0_ok, nil_wf, by have h2 := ha.i; have h3 := hb.i; show (a.its ++ b.its).length ≤ n + m; rw [List.length_append]; omega, Nat.zero_le _⟩
  | false => exact ⟨w0_ok, nil_wf, by have h1 := insAll_le a.its b.its; have h2 := ha.i; have h3 := hb.i; show (insAll a.its b.its).length ≤ n + m; omega, Nat.zero_le _⟩
theorem stB_merge {a b : StI} {n m : Nat} (ha : StB a n) (hb : StB b m) (op : List UInt8) : StB (mergeP op a b) (n + m) := by
 unfold mergeP
 split
 ·exact ⟨ha.w, ha.b, Nat.le_add_right_of_le ha.i, Nat.le_add_right_of_le ha.k⟩
 ·exact stB_join ha hb _
/-! Clone, told in one form -/
theorem SpecOk.lax {P : Program} {G : Glob} {f : FuncId} {s s' : Spec} (hs : SpecOk P G f s) (h : ∀ args r', s' args = some r' → ∃ r, s args = some (r, []) ∧ Lax2 r r'.1 ∧ r'.2 = []) : SpecOk P G f s' := by
 intro g args r' lv hr
 by_cases e : g = f
 ·subst e
  simp only [if_true] at hr
  obtain ⟨r, h1, h2, h3⟩ := h args _ hr
  simp only at h2 h3
  subst h3
  intro E w vs hI hG hn hv hcl
  refine (hs g args r [] (by simp only [if_true]; exact h1) E w vs hI hG hn hv hcl).mono ?_
  rintro e w' ⟨v, he, I', k1, k2, k3, k4⟩
  refine ⟨v, he, I', k1, k2, k3, .inl ⟨rfl, fun B K => ?_⟩⟩
  rcases k4 with ⟨_, k4⟩ | ⟨n, e', hv', sz, xs, k5, _⟩
  ·exact h2.rep (k4 B K)
  ·cases k5
 ·simp only [if_neg e] at hr
  cases hr
theorem o102z : SpecOk PA GA 147 s102z := by
 intro g args r lv h E w vs hI hG hn' hv hcl
 simp only at h
 split at h
 case isFalse => cases h
 case isTrue e =>
 subst e
 unfold s102z at h
 split at h
 case h_2 => cases h
 case h_1 sz o =>
 simp only [Option.some.injEq, Prod.mk.injEq] at h
 obtain ⟨rfl, rfl⟩ := h
 obtain ⟨a, rfl⟩ := vs_one hn'
 obtain ⟨A, cap, rfl⟩ : ∃ A cap, a = .slice A 0 cap := by
  have h0 := hv 0 _ _ rfl rfl
  simp only [List.getElem_toArray, List.getElem_cons_zero] at h0
  cases h0 with | sl _ _ _ A cap => exact ⟨A, cap, rfl⟩
 have hrep : ∀ (A : Option Addr) (w' : World) (B : Nat → Option Nat) (K : Nat → Nat → Value → Prop), Rep ⟨E.I, B, K⟩ w' (.sl 6 [] .full) (.slice A 0 0) := fun A w' B K => .sl 6 [] .full A 0 (fun _ _ => .bool true) (Nat.le_refl _) (Nat.zero_le _) (.inl rfl) (by simp) (by simp) rfl (fun i e j c hi => by simp at hi) (fun _ _ => rfl)
 cases A with
 | none => exact .inl ⟨I17.good102, (I17.cloneNil102 _ cap w).mono fun e w' ⟨he, hw⟩ => ⟨_, he, by subst hw; exact res_same fun B K => hrep none _ B K⟩⟩
 | some a => exact .inl ⟨I17.good102, (I17.cloneEmpty102 a cap w).mono fun e w' ⟨A, he, hw⟩ => ⟨_, he, res_below hw fun B K => hrep A _ B K⟩⟩
theorem p102x (x : AV) (es : List AV) (h : es.length + 1 ≤ 2000000) (hcl : (AV.sl 6 (x :: es) .no).closed2 = true) : LaxOk PA GA XH (tbl []) (itbl []) nAn [] 147 [.sl 6 (x :: es) .no] (.sl 6 (x :: es) .no, []) := by
 constructor
 rw [w102x]
 refine ⟨rfl, .inl rfl, by rw [List.length_cons]; omega, fun h => (nomatch h), fun _ => ⟨⟨rfl, rfl, .inl rfl⟩, hcl, rfl⟩⟩
theorem o102x : SpecOk PA GA 147 s102x := spec_each fun args r h => by
 unfold s102x at h
 split at h
 case h_2 => cases h
 rename_i sz es o
 split at h
 case isFalse => cases h
 rename_i hc
 injection h with h; subst h
 cases es with
 | nil =>
  refine o102z.lax fun a r' h' => ?_
  split at h'
  ·rename_i e; subst e; injection h' with h'; subst h'
   exact ⟨_, rfl, ⟨rfl, rfl, .inl rfl⟩, rfl⟩
  ·cases h'
 | cons x es =>
  obtain rfl : sz = 6 := hc.1.resolve_right (by simp)
  have hk : SpecOk PA GA 147 (fun a => open Classical in if a = [AV.sl 6 (x :: es) .no] then some (AV.sl 6 (x :: es) .no, []) else none) := one_lax mixedA tbl_nil itbl_nil (p102x x es (by simpa using hc.2) rfl)
  intro g args r lv hr
  simp only at hr
  split at hr
  case isFalse => cases hr
  rename_i e
  subst e
  split at hr
  case isFalse => cases hr
  rename_i e
  subst e
  have := hk 147 [AV.sl 6 (x :: es) .no] r lv (by simpa using hr)
  intro E w vs hI hG hn hv hcl
  refine this E w vs hI hG hn (fun i c v hi hv' => ?_) fun c hc => ?_
  ·match i, hi with
   | 0, hi =>
    simp at hi; subst hi
    exact Lax0.rep (a := .sl 6 (x :: es) o) ⟨rfl, rfl, .inl rfl⟩ (hv 0 _ v rfl hv')
   | i + 1, hi => simp at hi
  ·simp at hc; subst hc; rfl
end Go.Abs
namespace Go.Abs
open Go.Proofs Go.Proofs.K17 Go.Proofs.D17 Go.RowKit
structure CeI where
 ev : Int
 st : StI
deriving DecidableEq
abbrev ceC (c : CeI) : List AV := .int .i64 c.ev :: stC c.st
def ceA (c : CeI) : AV := .agg (ceC c)
def cesL (l : List CeI) : List AV := l.map ceA
def unCe : AV → Option CeI
 | .agg [.int .i64 ev, .int .i64 n, .int .i64 h, .int .u64 l, .sl sz es .no, .sl sz2 es2 .no] => match unL unI es, unL unBk es2 with
  | some its, some bks => if sz = 6 ∧ sz2 = 2 then some ⟨ev, ⟨n, h, l, its, bks⟩⟩ else none
  | _, _ => none
 | _ => none
theorem unCe_ok (c : CeI) : unCe (ceA c) = some c := by
 unfold ceA unCe
 simp only [show unL unI (itsL c.st.its) = some c.st.its from unL_map unI_ok c.st.its, show unL unBk (bksL c.st.bks) = some c.st.bks from unL_map unBk_ok c.st.bks, and_self, if_true]
theorem unCe_inv (a : AV) (x : CeI) (h : unCe a = some x) : a = ceA x := by
 unfold unCe at h
 split at h
 ·split at h
  ·rename_i h1 h2
   split at h
   ·rename_i hc
    injection h with h; subst h
    obtain rfl := unL_inv unI_inv h1
    obtain rfl := unL_inv unBk_inv h2
    obtain ⟨rfl, rfl⟩ := hc
    rfl
   ·cases h
  ·cases h
 ·cases h
def itW (x : ItI) : Prop := itOk x ∧ iOk x.k ∧ x.s.length ≤ maxLen
instance (x : ItI) : Decidable (itW x) := inferInstanceAs (Decidable (_ ∧ _ ∧ _))
def itsOf (l : List CeI) : List ItI := l.flatMap (·.st.its)
section
variable {E : Env} {w : World}
theorem rep_its {sz : Nat} {l : List ItI} {o : Own} {v : Value} (h : Rep E w (.sl sz (itsL l) o) v) (hsz : sz = 6 ∨ l = []) (hI : ∀ b o, E.I b o → b < w.heap.size) :
  ∃ A cap, v = .slice A l.length cap ∧ Arr w itenc 6 A l := by
 generalize hes : itsL l = es at h
 cases h with | sl _ _ _ A cap u hcap hmax hA hsz' hcl ho hr h1 =>
 have hlen : es.length = l.length := by rw [← hes]; exact len_its l
 refine ⟨A, cap, by rw [hlen], ?_⟩
 by_cases hb : l = []
 ·exact .inl hb
 ·have hsz1 : sz = 6 := hsz.resolve_right hb
  subst hsz1
  rcases hA with hA | ⟨b, off, hA, hc⟩
  ·exact absurd (by rw [← hes] at hA; simpa [itsL] using hA) hb
  ·have hat : ∀ (k : Nat) (x : ItI), l[k]? = some x → es[k]? = some (itA x) := fun k x hk => by rw [← hes]; unfold itsL; rw [List.getElem?_map, hk]; rfl
   refine .inr ⟨b, off, hA, ?_, fun k x hk j y hj => ?_⟩
   ·have hl : 0 < l.length := List.length_pos_iff.2 hb
    exact hI b _ (hc 0 _ 0 (.int .i64 (l[0]).k) (hat 0 l[0] (List.getElem?_eq_getElem hl)) rfl).1
   ·have str : ∀ {s : List UInt8} {v : Value}, Rep E w (.str s) v → v = .string ⟨s.toArray⟩ := fun h => by
     obtain ⟨b, rfl, hb⟩ := rep_str h
     subst hb; rfl
    match j, hj with
    | 0, hj => simp [itenc] at hj; subst hj; rw [(hc k _ 0 _ (hat k x hk) rfl).2, rep_int (hr k _ 0 (.int .i64 x.k) (hat k x hk) rfl)]
    | 1, hj => simp [itenc] at hj; subst hj; rw [(hc k _ 1 _ (hat k x hk) rfl).2, rep_int (hr k _ 1 (.int .i64 x.n) (hat k x hk) rfl)]
    | 2, hj => simp [itenc] at hj; subst hj; rw [(hc k _ 2 _ (hat k x hk) rfl).2, str (hr k _ 2 (.str x.s) (hat k x hk) rfl)]
    | 3, hj => simp [itenc] at hj; subst hj; rw [(hc k _ 3 _ (hat k x hk) rfl).2, str (hr k _ 3 (.str x.src) (hat k x hk) rfl)]
    | 4, hj => simp [itenc] at hj; subst hj; rw [(hc k _ 4 _ (hat k x hk) rfl).2, rep_int (hr k _ 4 (.int .i64 x.q) (hat k x hk) rfl)]
    | 5, hj => simp [itenc] at hj; subst hj; rw [(hc k _ 5 _ (hat k x hk) rfl).2, rep_int (hr k _ 5 (.int .i64 x.c) (hat k x hk) rfl)]
    | j + 6, hj => simp [itenc] at hj
theorem rep_slice {sz : Nat} {es : List AV} {o : Own} {v : Value} (h : Rep E w (.sl sz es o) v) : ∃ A n c, v = .slice A n c := by
 cases h with | sl _ _ _ A cap => exact ⟨_, _, _, rfl⟩
theorem rep_ces {sz : Nat} {l : List CeI} {o : Own} {v : Value} (h : Rep E w (.sl sz (cesL l) o) v) (hsz : sz = 6 ∨ l = []) (hI : ∀ b o, E.I b o → b < w.heap.size) :
  ∃ A cap L, v = .slice A (List.length (α := CX) L) cap ∧ Arr w cenc 6 A L ∧ (∀ x ∈ L, Arr w itenc 6 x.A x.its) ∧ flatC L = itsOf l ∧ L.length = l.length := by
 generalize hes : cesL l = es at h
 cases h with | sl _ _ _ A cap u hcap hmax hA hsz' hcl ho hr h1 =>
 have hlen : es.length = l.length := by rw [← hes]; exact List.length_map ..
 have hat : ∀ (k : Nat) (x : CeI), l[k]? = some x → es[k]? = some (ceA x) := fun k x hk => by rw [← hes]; unfold cesL; rw [List.getElem?_map, hk]; rfl
 have each : ∀ (k : Nat) (x : CeI), l[k]? = some x → ∃ y : CX, y.its = x.st.its ∧ Arr w itenc 6 y.A y.its ∧ ∀ j z, (cenc y)[j]? = some z → j < 6 ∧ u k j = z := fun k x hk => by
  have r0 := rep_int (hr k _ 0 (.int .i64 x.ev) (hat k x hk) rfl)
  have r1 := rep_int (hr k _ 1 (.int .i64 x.st.n) (hat k x hk) rfl)
  have r2 := rep_int (hr k _ 2 (.int .i64 x.st.h) (hat k x hk) rfl)
  have r3 := rep_int (hr k _ 3 (.int .u64 x.st.l) (hat k x hk) rfl)
  obtain ⟨A1, c1, r4, hA1⟩ := rep_its (hr k _ 4 (.sl 6 (itsL x.st.its) .no) (hat k x hk) rfl) (.inl rfl) hI
  obtain ⟨A2, n2, c2, r5⟩ := rep_slice (hr k _ 5 (.sl 2 (bksL x.st.bks) .no) (hat k x hk) rfl)
  refine ⟨⟨x.ev, x.st.n, x.st.h, x.st.l, A1, c1, x.st.its, A2, n2, c2⟩, rfl, hA1, fun j z hj => ?_⟩
  match j, hj with
  | 0, hj => simp [cenc] at hj; subst hj; exact ⟨by omega, r0⟩
  | 1, hj => simp [cenc] at hj; subst hj; exact ⟨by omega, r1⟩
  | 2, hj => simp [cenc] at hj; subst hj; exact ⟨by omega, r2⟩
  | 3, hj => simp [cenc] at hj; subst hj; exact ⟨by omega, r3⟩
  | 4, hj => simp [cenc] at hj; subst hj; exact ⟨by omega, r4⟩
  | 5, hj => simp [cenc] at hj; subst hj; exact ⟨by omega, r5⟩
  | j + 6, hj => simp [cenc] at hj
 obtain ⟨L, hL1, hL2⟩ : ∃ L : List CX, L.length = l.length ∧ ∀ k (x : CeI) (y : CX), l[k]? = some x → L[k]? = some y → y.its = x.st.its ∧ Arr w itenc 6 y.A y.its ∧ ∀ j z, (cenc y)[j]? = some z → j < 6 ∧ u k j = z := by
  have hg : ∀ i : Fin l.length, ∃ y : CX, y.its = (l[i]).st.its ∧ Arr w itenc 6 y.A y.its ∧ ∀ j z, (cenc y)[j]? = some z → j < 6 ∧ u i j = z := fun i => each i _ (List.getElem?_eq_getElem i.2)
  refine ⟨List.ofFn fun i => (hg i).choose, by simp, fun k x y hx hy => ?_⟩
  have hk : k < l.length := (List.getElem?_eq_some_iff.1 hx).1
  rw [List.getElem?_eq_getElem hk] at hx
  injection hx with hx
  subst hx
  rw [List.getElem?_ofFn, dif_pos hk] at hy
  injection hy with hy
  subst hy
  exact (hg ⟨k, hk⟩).choose_spec
 have hflat : flatC L = itsOf l := by
  unfold flatC itsOf
  rw [List.flatMap_def, List.flatMap_def]
  congr 1
  apply List.ext_getElem
  ·simp [hL1]
  ·intro k h1 h2
   rw [List.getElem_map, List.getElem_map]
   rw [List.length_map] at h1 h2
   exact (hL2 k _ _ (List.getElem?_eq_getElem h2) (List.getElem?_eq_getElem h1)).1
 refine ⟨A, cap, L, by rw [hlen, hL1], ?_, fun x hx => ?_, hflat, hL1⟩
 ·by_cases hb : l = []
  ·subst hb; exact .inl (List.length_eq_zero_iff.1 hL1)
  ·have hsz1 : sz = 6 := hsz.resolve_right hb
   subst hsz1
   rcases hA with hA | ⟨b, off, hA, hc⟩
   ·exact absurd (by rw [← hes] at hA; simpa [cesL] using hA) hb
   ·refine .inr ⟨b, off, hA, ?_, fun k y hk j z hj => ?_⟩
    ·have hl : 0 < l.length := List.length_pos_iff.2 hb
     exact hI b _ (hc 0 _ 0 (.int .i64 (l[0]).ev) (hat 0 l[0] (List.getElem?_eq_getElem hl)) rfl).1
    ·have hkl : k < l.length := by have := (List.getElem?_eq_some_iff.1 hk).1; omega
     obtain ⟨_, _, h3⟩ := hL2 k _ y (List.getElem?_eq_getElem hkl) hk
     obtain ⟨h4, h5⟩ := h3 j z hj
     have hcj : (ceA l[k]).cells[j]? = some ((ceA l[k]).cells[j]'h4) := List.getElem?_eq_getElem h4
     rw [(hc k _ j _ (hat k _ (List.getElem?_eq_getElem hkl)) hcj).2, h5]
 ·obtain ⟨k, hk⟩ := List.mem_iff_getElem?.1 hx
  have hkl : k < l.length := by have := (List.getElem?_eq_some_iff.1 hk).1; omega
  exact (hL2 k _ x (List.getElem?_eq_getElem hkl) hk).2.1
end
def s104 : Spec := fun args => match args with
 | [.sl sz es _] => match unL unCe es with
  | some l => if (sz = 6 ∨ l = []) ∧ (∀ x ∈ itsOf l, itW x) ∧ (itsOf l).length ≤ 100000000000000 ∧ l.length ≤ 100000000000000 then some (.int .i64 (distV (itsOf l) : Nat), []) else none
  | none => none
 | _ => none
theorem o104 : SpecOk PA GA 149 s104 := by
 intro g args r lv h E w vs hI hG hn' hv hcl
 simp only at h
 split at h
 case isFalse => cases h
 case isTrue e =>
 subst e
 unfold s104 at h
 split at h
 case h_2 => cases h
 case h_1 sz es _ =>
 split at h
 case h_2 => cases h
 case h_1 l hl =>
 split at h
 case isFalse => cases h
 case isTrue hc =>
 obtain ⟨c1, c2, c3, c4⟩ := hc
 simp only [Option.some.injEq, Prod.mk.injEq] at h
 obtain ⟨rfl, rfl⟩ := h
 obtain rfl := unL_inv unCe_inv hl
 obtain ⟨a, rfl⟩ := vs_one hn'
 obtain ⟨A, cap, L, rfl, h1, h2, h3, h4⟩ := rep_ces (hv 0 _ _ rfl rfl) c1 hI
 refine .inl ⟨goodA (by kernel_rfl), (distinct_any A cap L w h1 h2 (fun x hx => ?_) (by rw [h3]; exact c3) (by rw [h4]; exact c4)).mono fun e w' ⟨he, hb⟩ => ⟨_, he, res_below hb fun B K => ?_⟩⟩
 ·rw [h3] at hx
  obtain ⟨⟨q1, q2⟩, q3, q4⟩ := c2 x hx
  unfold iOk at q1 q2 q3
  exact ⟨⟨by unfold I64; simp only [itV]; omega, by unfold I64; simp only [itV]; omega, q4⟩, by unfold I64; omega⟩
 ·rw [h3]; exact .int _ _
end Go.Abs
namespace Go.Abs
open Go.Proofs Go.Proofs.K17 Go.RowKit
theorem insAll_succ {a b : List ItI} {i : Nat} (h : i < b.length) : insAll a (b.take (i + 1)) = if b[i].c = 0 then insAll a (b.take i) else insI false (insAll a (b.take i)) b[i] := by
 unfold insAll
 rw [List.take_succ_eq_append_getElem h, List.foldl_append]; rfl
theorem ofP_succ {op : List UInt8} {l : List ItI} {i : Nat} (h : i < l.length) : ofP op (l.take (i + 1)) = addP op (ofP op (l.take i)) l[i] := by
 unfold ofP
 rw [List.take_succ_eq_append_getElem h, List.foldl_append]; rfl
theorem p99K (a b : StI) (_ha : stOk a) (hl : a.its.length + b.its.length ≤ 1000000) : LaxOk PA GA XH (tbl [(102, s42), (147, s102x), (148, s103)]) (itbl []) (a99 a b) [] 144 [.agg [.bool false], .agg (stC a), .agg (stC b)] (stA (joinP (.keep false) a b), []) := by
 constructor
 rw [w99K]
 refine ⟨rfl, _, _, _, _, _, callIs_iff.2 rfl, itsL a.its, callIs_iff.2 ?_, fun h => (nomatch h), fun _ => ⟨⟨0, ⟨by rw [len_its]; rfl⟩, ⟨rfl⟩, Nat.zero_le _, trivial⟩, fun i hi => ⟨fun hlt => ?_, fun hge => ?_⟩⟩⟩
 ·rw [tb_miss (by decide), tb_hit]; simp only [s102x]
  rw [if_pos ⟨.inl trivial, by rw [len_its]; omega⟩]
 ·have hlt := of_decide_eq_true hlt
  have hil : i < b.its.length := by omega
  refine ⟨⟨by omega, by rw [len_its]; omega⟩, _, _, _, _, _, _, by rw [Int.toNat_natCast]; exact take_it hil, fun hc => ?_, fun hc => ?_⟩
  ·have hc : ¬ b.its[i].c = 0 := by simpa using hc
   refine ⟨itsL (insI false (insAll a.its (b.its.take i)) b.its[i]), callIs_iff.2 ?_, i + 1, ⟨by rw [wrapN (by omega)]⟩, ⟨by rw [insAll_succ hil, if_neg hc]⟩, hil, by omega⟩
   rw [tb_miss (by decide), tb_miss (by decide), tb_hit]; simp only [s103, show unL unI (itsL (insAll a.its (b.its.take i))) = some (insAll a.its (b.its.take i)) from unL_map unI_ok _]
   have := insAll_le a.its (b.its.take i)
   rw [List.length_take] at this
   rw [if_pos ⟨.inl trivial, by omega⟩]
  ·have hc : b.its[i].c = 0 := by simpa using hc
   exact ⟨i + 1, ⟨by rw [wrapN (by omega)]⟩, ⟨by rw [insAll_succ hil, if_pos hc]⟩, hil, by omega⟩
 ·have hge := of_decide_eq_false hge
  refine lax_st' rfl rfl rfl ?_ rfl
  rw [List.take_of_length_le (by omega)]; rfl
theorem p99O (n h l : Int) (y : ItI) (its : List ItI) (bks : Bks) (b : StI) (hl : its.length + 1 + b.its.length ≤ 1000000) : LaxOk PA GA XO (tbl [(102, s42), (147, s102p)]) (itbl []) nAn [] 144 [.agg [.bool true], .agg [.int .i64 n, .int .i64 h, .int .u64 l, .sl 6 (itA y :: itsL its) .no, .sl 2 (bksL bks) .no], .agg (stC b)] (stA (joinP (.keep true) ⟨n, h, l, y :: its, bks⟩ b), []) := by
 constructor
 rw [w99O]
 refine ⟨rfl, _, _, _, _, _, callIs_iff.2 rfl, itA y :: itsL its, callIs_iff.2 ?_, fun _ => ⟨.inl rfl, ?_, rfl, ?_⟩, fun h => (nomatch h)⟩
 ·rw [tb_miss (by decide), tb_hit]; simp only [s102p]
  rw [if_pos ⟨trivial, by rw [len_its]; omega⟩]; rfl
 ·rw [List.length_cons, len_its, len_its]; omega
 ·refine ⟨⟨rfl, rfl, rfl, ⟨rfl, ?_, .inl rfl⟩, ⟨rfl, rfl, .inl rfl⟩, trivial⟩, rfl, rfl⟩
  exact its_app (y :: its) b.its
theorem p99Oz (n h l : Int) (bks : Bks) (b : StI) (hl : b.its.length ≤ 1000000) : LaxOk PA GA XOz (tbl [(102, s42), (147, s102z)]) (itbl []) nAn [] 144 [.agg [.bool true], .agg [.int .i64 n, .int .i64 h, .int .u64 l, .sl 6 [] .no, .sl 2 (bksL bks) .no], .agg (stC b)] (stA (joinP (.keep true) ⟨n, h, l, [], bks⟩ b), []) := by
 constructor
 rw [w99Oz]
 refine ⟨rfl, _, _, _, _, _, callIs_iff.2 rfl, callIs_iff.2 rfl, fun _ => ⟨.inl rfl, by rw [len_its]; omega, fun h => ?_, fun h => ?_⟩, fun h => (nomatch h)⟩
 ·refine ⟨⟨rfl, rfl, rfl, ⟨rfl, ?_, .inl rfl⟩, ⟨rfl, rfl, .inl rfl⟩, trivial⟩, rfl, rfl⟩
  exact h.symm
 ·exact ⟨⟨rfl, rfl, rfl, ⟨rfl, rfl, .inl rfl⟩, ⟨rfl, rfl, .inl rfl⟩, trivial⟩, rfl, rfl⟩
theorem o99 : SpecOk PA GA 144 s99 := spec_wkS fun args r h => by
 unfold s99 at h
 split at h
 case h_2 => cases h
 rename_i f st st2
 split at h
 case h_2 => cases h
 rename_i a b ha hb
 split at h
 case isFalse => cases h
 rename_i hc
 injection h with h; subst h
 have e : [AV.agg [.bool f], st, st2].map wkSt = [.agg [.bool f], stA a, stA b] := by simp only [List.map_cons, List.map_nil, wkSt_of ha, wkSt_of hb]; rfl
 rw [e]
 cases f with
 | false => exact one_lax mixedA (tbl_cons o42 (tbl_cons o102x (tbl_cons o103 tbl_nil))) itbl_nil (p99K a b hc.1 hc.2.2)
 | true =>
  obtain ⟨n, h, l, its, bks⟩ := a
  cases its with
  | nil => exact one_lax mixedA (tbl_cons o42 (tbl_cons o102z tbl_nil)) itbl_nil (p99Oz n h l bks b (by have := hc.2.2; simp at this; omega))
  | cons y its => exact one_lax mixedA (tbl_cons o42 (tbl_cons o102p tbl_nil)) itbl_nil (p99O n h l y its bks b (by have := hc.2.2; simpa using this))
theorem p14N (op : List UInt8) (s : StI) (x : ItI) (hf : famO op = none) : LaxOk PA GA (XF none) (tbl [(40, s24)]) (itbl []) nAn [] 29 [.str op, .agg (stC s), .agg (itC x)] (stA (addP op s x), []) := by
 constructor
 rw [w14N, hf]
 have e : addP op s x = s := by unfold addP; rw [hf]
 rw [e]
 exact ⟨callIs_iff.2 rfl, fun h => (nomatch h), fun _ => lax_st s⟩
theorem p15N (op : List UInt8) (a b : StI) (hf : famO op = none) : LaxOk PA GA (XF none) (tbl [(40, s24)]) (itbl []) nAn [] 31 [.str op, .agg (stC a), .agg (stC b)] (stA (mergeP op a b), []) := by
 constructor
 rw [w15N, hf]
 have e : mergeP op a b = a := by unfold mergeP; rw [hf]
 rw [e]
 first
  | exact ⟨callIs_iff.2 rfl, lax_st a⟩
  | exact ⟨callIs_iff.2 rfl, fun h => (nomatch h), fun _ => lax_st a⟩
  | exact ⟨callIs_iff.2 rfl, fun _ => lax_st a, fun h => (nomatch h)⟩
theorem p22N (op : List UInt8) (hf : famO op = none) : PureOk PA GA (XF none) (tbl [(40, s24)]) (itbl []) nAn [] 22 [.str op] (.bool (famO op).isSome, []) := by
 constructor
 rw [w22N, hf]
 exact ⟨callIs_iff.2 rfl, fun h => (nomatch h), fun _ => retIs_iff.2 rfl⟩
theorem p14C (op : List UInt8) (s : StI) (x : ItI) (hf : famO op = (some .cnt)) (hx : itOk x) (hs : stOk s) : LaxOk PA GA (XF (some .cnt)) (tbl [(40, s24), (101, s41)]) (itbl []) nAn [] 29 [.str op, .agg (stC s), .agg (itC x)] (stA (addP op s x), []) := by
 constructor
 rw [w14C, hf]
 refine ⟨callIs_iff.2 rfl, fun _ => ⟨fun h0 => ?_, fun h0 => ?_⟩, fun h => (nomatch h)⟩
 ·have h0 : x.c = 0 := by simpa using h0
  have e : addP op s x = s := by unfold addP; rw [hf]; simp only; rw [if_pos h0]
  rw [e]; exact lax_st s
 ·have h0 : ¬ x.c = 0 := by simpa using h0
  have e : addP op s x = putP .cnt s x := by unfold addP; rw [hf]; simp only; rw [if_neg h0]
  rw [e]
  refine ⟨_, _, _, _, _, callIs_iff.2 ?_, lax_st _⟩
  have eu : unSt (.agg (stC s)) = some s := unSt_ok s
  have ei : unI (.agg (itC x)) = some x := unI_ok x
  rw [tb_miss (by decide), tb_hit]; simp only [s41, sPut, eu, ei]
  rw [if_pos ⟨trivial, hx, hs⟩]; rfl
theorem p15C (op : List UInt8) (a b : StI) (hf : famO op = (some .cnt)) (ha : stOk a) (hb : stOk b) : LaxOk PA GA (XF (some .cnt)) (tbl [(40, s24), (100, s40)]) (itbl []) nAn [] 31 [.str op, .agg (stC a), .agg (stC b)] (stA (mergeP op a b), []) := by
 constructor
 rw [w15C, hf]
 have e : mergeP op a b = joinP .cnt a b := by unfold mergeP; rw [hf]
 rw [e]
 have ea : unSt (.agg (stC a)) = some a := unSt_ok a
 have eb : unSt (.agg (stC b)) = some b := unSt_ok b
 have ec : tbl [(40, s24), (100, s40)] 100 [.agg [], .agg (stC a), .agg (stC b)] = some (stA (joinP .cnt a b), []) := by
  rw [tb_miss (by decide), tb_hit]; simp only [s40, sJoin, ea, eb]
  rw [if_pos ⟨trivial, ha, hb⟩]
 first
  | exact ⟨callIs_iff.2 rfl, fun _ => ⟨_, _, _, _, _, callIs_iff.2 ec, lax_st _⟩, fun h => (nomatch h)⟩
  | exact ⟨callIs_iff.2 rfl, fun h => (nomatch h), fun _ => ⟨_, _, _, _, _, callIs_iff.2 ec, lax_st _⟩⟩
theorem p22C (op : List UInt8) (hf : famO op = (some .cnt)) : PureOk PA GA (XF (some .cnt)) (tbl [(40, s24)]) (itbl []) nAn [] 22 [.str op] (.bool (famO op).isSome, []) := by
 constructor
 rw [w22C, hf]
 exact ⟨callIs_iff.2 rfl, fun _ => retIs_iff.2 rfl, fun h => (nomatch h)⟩
theorem p14S (op : List UInt8) (s : StI) (x : ItI) (hf : famO op = (some .sum)) (hx : itOk x) (hs : stOk s) : LaxOk PA GA (XF (some .sum)) (tbl [(40, s24), (105, s45)]) (itbl []) nAn [] 29 [.str op, .agg (stC s), .agg (itC x)] (stA (addP op s x), []) := by
 constructor
 rw [w14S, hf]
 refine ⟨callIs_iff.2 rfl, fun _ => ⟨fun h0 => ?_, fun h0 => ?_⟩, fun h => (nomatch h)⟩
 ·have h0 : x.c = 0 := by simpa using h0
  have e : addP op s x = s := by unfold addP; rw [hf]; simp only; rw [if_pos h0]
  rw [e]; exact lax_st s
 ·have h0 : ¬ x.c = 0 := by simpa using h0
  have e : addP op s x = putP .sum s x := by unfold addP; rw [hf]; simp only; rw [if_neg h0]
  rw [e]
  refine ⟨_, _, _, _, _, callIs_iff.2 ?_, lax_st _⟩
  have eu : unSt (.agg (stC s)) = some s := unSt_ok s
  have ei : unI (.agg (itC x)) = some x := unI_ok x
  rw [tb_miss (by decide), tb_hit]; simp only [s45, sPut, eu, ei]
  rw [if_pos ⟨trivial, hx, hs⟩]; rfl
theorem p15S (op : List UInt8) (a b : StI) (hf : famO op = (some .sum)) (ha : stOk a) (hb : stOk b) : LaxOk PA GA (XF (some .sum)) (tbl [(40, s24), (104, s44)]) (itbl []) nAn [] 31 [.str op, .agg (stC a), .agg (stC b)] (stA (mergeP op a b), []) := by
 constructor
 rw [w15S, hf]
 have e : mergeP op a b = joinP .sum a b := by unfold mergeP; rw [hf]
 rw [e]
 have ea : unSt (.agg (stC a)) = some a := unSt_ok a
 have eb : unSt (.agg (stC b)) = some b := unSt_ok b
 have ec : tbl [(40, s24), (104, s44)] 104 [.agg [], .agg (stC a), .agg (stC b)] = some (stA (joinP .sum a b), []) := by
  rw [tb_miss (by decide), tb_hit]; simp only [s44, sJoin, ea, eb]
  rw [if_pos ⟨trivial, ha, hb⟩]
 first
  | exact ⟨callIs_iff.2 rfl, fun _ => ⟨_, _, _, _, _, callIs_iff.2 ec, lax_st _⟩, fun h => (nomatch h)⟩
  | exact ⟨callIs_iff.2 rfl, fun h => (nomatch h), fun _ => ⟨_, _, _, _, _, callIs_iff.2 ec, lax_st _⟩⟩
theorem p22S (op : List UInt8) (hf : famO op = (some .sum)) : PureOk PA GA (XF (some .sum)) (tbl [(40, s24)]) (itbl []) nAn [] 22 [.str op] (.bool (famO op).isSome, []) := by
 constructor
 rw [w22S, hf]
 exact ⟨callIs_iff.2 rfl, fun _ => retIs_iff.2 rfl, fun h => (nomatch h)⟩
theorem p14Q (op : List UInt8) (s : StI) (x : ItI) (hf : famO op = (some .smp)) (hx : itOk x) (hs : stOk s) : LaxOk PA GA (XF (some .smp)) (tbl [(40, s24), (110, s64)]) (itbl []) nAn [] 29 [.str op, .agg (stC s), .agg (itC x)] (stA (addP op s x), []) := by
 constructor
 rw [w14Q, hf]
 refine ⟨callIs_iff.2 rfl, fun _ => ⟨fun h0 => ?_, fun h0 => ?_⟩, fun h => (nomatch h)⟩
 ·have h0 : x.c = 0 := by simpa using h0
  have e : addP op s x = s := by unfold addP; rw [hf]; simp only; rw [if_pos h0]
  rw [e]; exact lax_st s
 ·have h0 : ¬ x.c = 0 := by simpa using h0
  have e : addP op s x = putP .smp s x := by unfold addP; rw [hf]; simp only; rw [if_neg h0]
  rw [e]
  refine ⟨_, _, _, _, _, callIs_iff.2 ?_, lax_st _⟩
  have eu : unSt (.agg (stC s)) = some s := unSt_ok s
  have ei : unI (.agg (itC x)) = some x := unI_ok x
  rw [tb_miss (by decide), tb_hit]; simp only [s64, sPut, eu, ei]
  rw [if_pos ⟨trivial, hx, hs⟩]; rfl
theorem p15Q (op : List UInt8) (a b : StI) (hf : famO op = (some .smp)) (ha : stOk a) (hb : stOk b) : LaxOk PA GA (XF (some .smp)) (tbl [(40, s24), (109, s63)]) (itbl []) nAn [] 31 [.str op, .agg (stC a), .agg (stC b)] (stA (mergeP op a b), []) := by
 constructor
 rw [w15Q, hf]
 have e : mergeP op a b = joinP .smp a b := by unfold mergeP; rw [hf]
 rw [e]
 have ea : unSt (.agg (stC a)) = some a := unSt_ok a
 have eb : unSt (.agg (stC b)) = some b := unSt_ok b
 have ec : tbl [(40, s24), (109, s63)] 109 [.agg [], .agg (stC a), .agg (stC b)] = some (stA (joinP .smp a b), []) := by
  rw [tb_miss (by decide), tb_hit]; simp only [s63, sJoin, ea, eb]
  rw [if_pos ⟨trivial, ha, hb⟩]
 first
  | exact ⟨callIs_iff.2 rfl, fun _ => ⟨_, _, _, _, _, callIs_iff.2 ec, lax_st _⟩, fun h => (nomatch h)⟩
  | exact ⟨callIs_iff.2 rfl, fun h => (nomatch h), fun _ => ⟨_, _, _, _, _, callIs_iff.2 ec, lax_st _⟩⟩
theorem p22Q (op : List UInt8) (hf : famO op = (some .smp)) : PureOk PA GA (XF (some .smp)) (tbl [(40, s24)]) (itbl []) nAn [] 22 [.str op] (.bool (famO op).isSome, []) := by
 constructor
 rw [w22Q, hf]
 exact ⟨callIs_iff.2 rfl, fun _ => retIs_iff.2 rfl, fun h => (nomatch h)⟩
theorem p14K (op : List UInt8) (s : StI) (x : ItI) (hf : famO op = (some (.keep false))) (hx : itOk x) (hs : stOk s) : LaxOk PA GA (XF (some (.keep false))) (tbl [(40, s24), (145, s100)]) (itbl []) nAn [] 29 [.str op, .agg (stC s), .agg (itC x)] (stA (addP op s x), []) := by
 constructor
 rw [w14K, hf]
 refine ⟨callIs_iff.2 rfl, fun _ => ⟨fun h0 => ?_, fun h0 => ?_⟩, fun h => (nomatch h)⟩
 ·have h0 : x.c = 0 := by simpa using h0
  have e : addP op s x = s := by unfold addP; rw [hf]; simp only; rw [if_pos h0]
  rw [e]; exact lax_st s
 ·have h0 : ¬ x.c = 0 := by simpa using h0
  have e : addP op s x = putP (.keep false) s x := by unfold addP; rw [hf]; simp only; rw [if_neg h0]
  rw [e]
  refine ⟨_, _, _, _, _, callIs_iff.2 ?_, lax_st _⟩
  have eu : unSt (.agg (stC s)) = some s := unSt_ok s
  have ei : unI (.agg (itC x)) = some x := unI_ok x
  rw [tb_miss (by decide), tb_hit]; simp only [s100, eu, ei]
  rw [if_pos ⟨hx, hs⟩]; rfl
theorem p15K (op : List UInt8) (a b : StI) (hf : famO op = (some (.keep false))) (ha : stOk a) (hb : stOk b) (hl : a.its.length + b.its.length ≤ 1000000) : LaxOk PA GA (XF (some (.keep false))) (tbl [(40, s24), (144, s99)]) (itbl []) nAn [] 31 [.str op, .agg (stC a), .agg (stC b)] (stA (mergeP op a b), []) := by
 constructor
 rw [w15K, hf]
 have e : mergeP op a b = joinP (.keep false) a b := by unfold mergeP; rw [hf]
 rw [e]
 have ea : unSt (.agg (stC a)) = some a := unSt_ok a
 have eb : unSt (.agg (stC b)) = some b := unSt_ok b
 have ec : tbl [(40, s24), (144, s99)] 144 [.agg [.bool false], .agg (stC a), .agg (stC b)] = some (stA (joinP (.keep false) a b), []) := by
  rw [tb_miss (by decide), tb_hit]; simp only [s99, ea, eb]
  rw [if_pos ⟨ha, hb, hl⟩]
 first
  | exact ⟨callIs_iff.2 rfl, fun _ => ⟨_, _, _, _, _, callIs_iff.2 ec, lax_st _⟩, fun h => (nomatch h)⟩
  | exact ⟨callIs_iff.2 rfl, fun h => (nomatch h), fun _ => ⟨_, _, _, _, _, callIs_iff.2 ec, lax_st _⟩⟩
theorem p22K (op : List UInt8) (hf : famO op = (some (.keep false))) : PureOk PA GA (XF (some (.keep false))) (tbl [(40, s24)]) (itbl []) nAn [] 22 [.str op] (.bool (famO op).isSome, []) := by
 constructor
 rw [w22K, hf]
 exact ⟨callIs_iff.2 rfl, fun _ => retIs_iff.2 rfl, fun h => (nomatch h)⟩
theorem p14O (op : List UInt8) (s : StI) (x : ItI) (hf : famO op = (some (.keep true))) (hx : itOk x) (hs : stOk s) : LaxOk PA GA (XF (some (.keep true))) (tbl [(40, s24), (145, s100)]) (itbl []) nAn [] 29 [.str op, .agg (stC s), .agg (itC x)] (stA (addP op s x), []) := by
 constructor
 rw [w14O, hf]
 refine ⟨callIs_iff.2 rfl, fun _ => ⟨fun h0 => ?_, fun h0 => ?_⟩, fun h => (nomatch h)⟩
 ·have h0 : x.c = 0 := by simpa using h0
  have e : addP op s x = s := by unfold addP; rw [hf]; simp only; rw [if_pos h0]
  rw [e]; exact lax_st s
 ·have h0 : ¬ x.c = 0 := by simpa using h0
  have e : addP op s x = putP (.keep true) s x := by unfold addP; rw [hf]; simp only; rw [if_neg h0]
  rw [e]
  refine ⟨_, _, _, _, _, callIs_iff.2 ?_, lax_st _⟩
  have eu : unSt (.agg (stC s)) = some s := unSt_ok s
  have ei : unI (.agg (itC x)) = some x := unI_ok x
  rw [tb_miss (by decide), tb_hit]; simp only [s100, eu, ei]
  rw [if_pos ⟨hx, hs⟩]; rfl
theorem p15O (op : List UInt8) (a b : StI) (hf : famO op = (some (.keep true))) (ha : stOk a) (hb : stOk b) (hl : a.its.length + b.its.length ≤ 1000000) : LaxOk PA GA (XF (some (.keep true))) (tbl [(40, s24), (144, s99)]) (itbl []) nAn [] 31 [.str op, .agg (stC a), .agg (stC b)] (stA (mergeP op a b), []) := by
 constructor
 rw [w15O, hf]
 have e : mergeP op a b = joinP (.keep true) a b := by unfold mergeP; rw [hf]
 rw [e]
 have ea : unSt (.agg (stC a)) = some a := unSt_ok a
 have eb : unSt (.agg (stC b)) = some b := unSt_ok b
 have ec : tbl [(40, s24), (144, s99)] 144 [.agg [.bool true], .agg (stC a), .agg (stC b)] = some (stA (joinP (.keep true) a b), []) := by
  rw [tb_miss (by decide), tb_hit]; simp only [s99, ea, eb]
  rw [if_pos ⟨ha, hb, hl⟩]
 first
  | exact ⟨callIs_iff.2 rfl, fun _ => ⟨_, _, _, _, _, callIs_iff.2 ec, lax_st _⟩, fun h => (nomatch h)⟩
  | exact ⟨callIs_iff.2 rfl, fun h => (nomatch h), fun _ => ⟨_, _, _, _, _, callIs_iff.2 ec, lax_st _⟩⟩
theorem p22O (op : List UInt8) (hf : famO op = (some (.keep true))) : PureOk PA GA (XF (some (.keep true))) (tbl [(40, s24)]) (itbl []) nAn [] 22 [.str op] (.bool (famO op).isSome, []) := by
 constructor
 rw [w22O, hf]
 exact ⟨callIs_iff.2 rfl, fun _ => retIs_iff.2 rfl, fun h => (nomatch h)⟩
theorem o14 : SpecOk PA GA 29 s14 := spec_wkS fun args r h => by
 unfold s14 at h
 split at h
 case h_2 => cases h
 rename_i op st it
 split at h
 case h_2 => cases h
 rename_i s x hs hx
 split at h
 case isFalse => cases h
 rename_i hc
 injection h with h; subst h
 obtain rfl := unI_inv _ _ hx
 have e : [AV.str op, st, itA x].map wkSt = [.str op, stA s, itA x] := by simp only [List.map_cons, List.map_nil, wkSt_of hs, wk_it]; rfl
 rw [e]
 rcases hf : famO op with _ | fam
 ·exact one_lax mixedA (tbl_cons o24 tbl_nil) itbl_nil (p14N op s x hf)
 ·rcases fam with _ | _ | _ | f
  ·exact one_lax mixedA (tbl_cons o24 (tbl_cons o41 tbl_nil)) itbl_nil (p14C op s x hf hc.1 hc.2)
  ·exact one_lax mixedA (tbl_cons o24 (tbl_cons o45 tbl_nil)) itbl_nil (p14S op s x hf hc.1 hc.2)
  ·exact one_lax mixedA (tbl_cons o24 (tbl_cons o64 tbl_nil)) itbl_nil (p14Q op s x hf hc.1 hc.2)
  ·cases f with
   | false => exact one_lax mixedA (tbl_cons o24 (tbl_cons o100 tbl_nil)) itbl_nil (p14K op s x hf hc.1 hc.2)
   | true => exact one_lax mixedA (tbl_cons o24 (tbl_cons o100 tbl_nil)) itbl_nil (p14O op s x hf hc.1 hc.2)
theorem o15 : SpecOk PA GA 31 s15 := spec_wkS fun args r h => by
 unfold s15 at h
 split at h
 case h_2 => cases h
 rename_i op st st2
 split at h
 case h_2 => cases h
 rename_i a b ha hb
 split at h
 case isFalse => cases h
 rename_i hc
 injection h with h; subst h
 have e : [AV.str op, st, st2].map wkSt = [.str op, stA a, stA b] := by simp only [List.map_cons, List.map_nil, wkSt_of ha, wkSt_of hb]; rfl
 rw [e]
 rcases hf : famO op with _ | fam
 ·exact one_lax mixedA (tbl_cons o24 tbl_nil) itbl_nil (p15N op a b hf)
 ·rcases fam with _ | _ | _ | f
  ·exact one_lax mixedA (tbl_cons o24 (tbl_cons o40 tbl_nil)) itbl_nil (p15C op a b hf hc.1 hc.2.1)
  ·exact one_lax mixedA (tbl_cons o24 (tbl_cons o44 tbl_nil)) itbl_nil (p15S op a b hf hc.1 hc.2.1)
  ·exact one_lax mixedA (tbl_cons o24 (tbl_cons o63 tbl_nil)) itbl_nil (p15Q op a b hf hc.1 hc.2.1)
  ·cases f with
   | false => exact one_lax mixedA (tbl_cons o24 (tbl_cons o99 tbl_nil)) itbl_nil (p15K op a b hf hc.1 hc.2.1 hc.2.2)
   | true => exact one_lax mixedA (tbl_cons o24 (tbl_cons o99 tbl_nil)) itbl_nil (p15O op a b hf hc.1 hc.2.1 hc.2.2)
theorem o22 : SpecOk PA GA 22 s22 := spec_each fun args r h => by
 unfold s22 at h
 split at h
 case h_2 => cases h
 rename_i op
 injection h with h; subst h
 rcases hf : famO op with _ | fam
 ·rw [← hf]; exact one_pure mixedA (tbl_cons o24 tbl_nil) itbl_nil (p22N op hf)
 ·rw [← hf]
  rcases fam with _ | _ | _ | f
  ·exact one_pure mixedA (tbl_cons o24 tbl_nil) itbl_nil (p22C op hf)
  ·exact one_pure mixedA (tbl_cons o24 tbl_nil) itbl_nil (p22S op hf)
  ·exact one_pure mixedA (tbl_cons o24 tbl_nil) itbl_nil (p22Q op hf)
  ·cases f with
   | false => exact one_pure mixedA (tbl_cons o24 tbl_nil) itbl_nil (p22K op hf)
   | true => exact one_pure mixedA (tbl_cons o24 tbl_nil) itbl_nil (p22O op hf)
theorem p12 (op : List UInt8) (l : List ItI) (hl : l.length ≤ 1000) (hx : ∀ x ∈ l, itOk x) : LaxOk PA GA XH (tbl [(27, s16), (29, s14)]) (itbl []) (a12 op l) [] 10 [.str op, .sl 6 (itsL l) .no] (stA (ofP op l), []) := by
 constructor
 rw [w12]
 refine ⟨_, _, _, _, _, callIs_iff.2 rfl, ⟨0, ⟨rfl⟩, ⟨rfl⟩, Nat.zero_le _, trivial⟩, fun i hi => ⟨fun hlt => ?_, fun hge => ?_⟩⟩
 ·have hlt := of_decide_eq_true hlt
  rw [len_its] at hlt
  have hil : i < l.length := by omega
  have hit : itOk l[i] := hx _ (List.getElem_mem hil)
  have hst : stOk (ofP op (l.take i)) := (ofP_ok op fun x hx' => hx x (List.mem_of_mem_take hx')).ok (by rw [List.length_take]; omega)
  refine ⟨⟨by omega, by rw [len_its]; omega⟩, _, _, _, _, _, _, by rw [Int.toNat_natCast]; exact take_it hil, _, _, _, _, _, callIs_iff.2 ?_, i + 1, ⟨by rw [wrapN (by omega)]⟩, ⟨by rw [ofP_succ hil]⟩, hil, by omega⟩
  have eu : unSt (.agg (stC (ofP op (l.take i)))) = some (ofP op (l.take i)) := unSt_ok _
  have ei : unI (.agg (itC l[i])) = some l[i] := unI_ok _
  rw [tb_miss (by decide), tb_hit]; simp only [s14, eu, ei]
  rw [if_pos ⟨hit, hst⟩]; rfl
 ·have hge := of_decide_eq_false hge
  rw [len_its] at hge
  rw [List.take_of_length_le (by omega)]
  exact lax_st _
theorem o12 : SpecOk PA GA 10 s12 := spec_wkS fun args r h => by
 unfold s12 at h
 split at h
 case h_2 => cases h
 rename_i op sz es o
 split at h
 case h_2 => cases h
 rename_i l hl
 split at h
 case isFalse => cases h
 rename_i hc
 injection h with h; subst h
 obtain rfl := unL_inv unI_inv hl
 have e : [AV.str op, .sl sz (l.map itA) o].map wkSt = [.str op, .sl 6 (itsL l) .no] := by
  cases l with
  | nil => rfl
  | cons x l =>
   obtain rfl : sz = 6 := hc.1.resolve_right (by simp)
   rfl
 rw [e]
 exact one_lax mixedA (tbl_cons o16 (tbl_cons o14 tbl_nil)) itbl_nil (p12 op l hc.2.1 hc.2.2)
theorem agg65 : aggA PA 90 = some true := by kernel_rfl
theorem size65 : sizeA PA 90 = some 2 := by kernel_rfl
theorem len_bks (l : Bks) : (bksL l).length = l.length := List.length_map ..
theorem take_bk {l : Bks} {i : Nat} (h : i < l.length) : takeAt PA 90 (bksL l) i 0 = some (.agg [.int .i64 l[i].1, .int .i64 l[i].2]) := by
 unfold takeAt
 rw [show (bksL l)[i]? = some (bkA l[i]) by rw [List.getElem?_map, List.getElem?_eq_getElem h]; rfl]
 simp only [agg65, size65, takeA]
 rfl
theorem it_eq (a b : ItI) : ((a.k == b.k && (a.n == b.n && (a.s == b.s && true)) && (a.src == b.src && (a.q == b.q && true) && (a.c == b.c && true)))) = decide (a = b) := by
 obtain ⟨k, n, s, src, q, c⟩ := a
 obtain ⟨k', n', s', src', q', c'⟩ := b
 rw [Bool.eq_iff_iff]
 simp [and_assoc]
theorem st_eq {a b : StI} : a = b ↔ a.n = b.n ∧ a.h = b.h ∧ a.l = b.l ∧ a.its = b.its ∧ a.bks = b.bks := by
 obtain ⟨n, h, l, i, k⟩ := a
 obtain ⟨n', h', l', i', k'⟩ := b
 simp
theorem take_ne {α : Type} {a b : List α} {i : Nat} (h1 : i < a.length) (h2 : i < b.length) (h : a[i] ≠ b[i]) : a ≠ b := fun e => by subst e; exact h rfl
theorem take_all {α : Type} {a b : List α} {i : Nat} (hl : a.length = b.length) (hi : a.length ≤ i) (h : a.take i = b.take i) : a = b := by
 rw [List.take_of_length_le hi, List.take_of_length_le (by omega)] at h; exact h
theorem take_step {α : Type} {a b : List α} {i : Nat} (h1 : i < a.length) (h2 : i < b.length) (h : a.take i = b.take i) (he : a[i] = b[i]) : a.take (i + 1) = b.take (i + 1) := by
 rw [List.take_succ_eq_append_getElem h1, List.take_succ_eq_append_getElem h2, h, he]
theorem p13 (a b : StI) (h1 : a.its.length ≤ 2000000) (h2 : a.bks.length ≤ 2000000) : PureOk PA GA XH (tbl []) (itbl []) (a13 a b) [] 26 [.agg (stC a), .agg (stC b)] (.bool (decide (a = b)), []) := by
 constructor
 rw [w13]
 have no : ¬ a = b → RetIs (AV.bool false) [] (AV.bool (decide (a = b)), []) := fun h => retIs_iff.2 (by rw [decide_eq_false h])
 refine ⟨fun h => no fun e => ?_, fun a1 => ⟨fun h => no fun e => ?_, fun a2 => ⟨fun h => no fun e => ?_, fun a3 => ⟨fun h => no fun e => ?_, fun a4 => ⟨⟨0, ⟨rfl⟩, ⟨rfl⟩, ⟨Nat.zero_le _, rfl⟩, trivial⟩, fun i hi => ⟨fun hlt => ?_, fun hge => ?_⟩⟩⟩⟩⟩⟩
 ·subst e; simp at h
 ·subst e; simp at h
 ·subst e; simp at h
 ·subst e; simp at h
 ·have hlt := of_decide_eq_true hlt
  have a3 : a.its.length = b.its.length := by rw [len_its, len_its] at a3; simp only [bne_eq_false_iff_eq] at a3; omega
  rw [len_its] at hlt
  have ha : i < a.its.length := by omega
  have hb : i < b.its.length := by omega
  refine ⟨⟨by omega, by rw [len_its]; omega⟩, _, _, _, _, _, _, by rw [Int.toNat_natCast]; exact take_it ha, ⟨by omega, by rw [len_its]; omega⟩, _, _, _, _, _, _, by rw [Int.toNat_natCast]; exact take_it hb, fun h => ?_, fun h => ?_⟩
  ·rw [it_eq] at h
   have h : ¬ a.its[i] = b.its[i] := by simpa using h
   exact no fun e => take_ne ha hb h (st_eq.1 e).2.2.2.1
  ·rw [it_eq] at h
   have h : a.its[i] = b.its[i] := by simpa using h
   exact ⟨i + 1, ⟨by rw [wrapN (by omega)]⟩, ⟨rfl⟩, ⟨ha, take_step ha hb hi.2 h⟩, by omega⟩
 ·have hge := of_decide_eq_false hge
  have a3 : a.its.length = b.its.length := by rw [len_its, len_its] at a3; simp only [bne_eq_false_iff_eq] at a3; omega
  have a4 : a.bks.length = b.bks.length := by rw [len_bks, len_bks] at a4; simp only [bne_eq_false_iff_eq] at a4; omega
  rw [len_its] at hge
  have hits : a.its = b.its := take_all a3 (by omega) hi.2
  refine ⟨⟨0, ⟨rfl⟩, ⟨rfl⟩, ⟨Nat.zero_le _, rfl⟩, trivial⟩, fun j hj => ⟨fun hlt => ?_, fun hge2 => ?_⟩⟩
  ·have hlt := of_decide_eq_true hlt
   rw [len_bks] at hlt
   have ha : j < a.bks.length := by omega
   have hb : j < b.bks.length := by omega
   refine ⟨⟨by omega, by rw [len_bks]; omega⟩, _, _, by rw [Int.toNat_natCast]; exact take_bk ha, ⟨by omega, by rw [len_bks]; omega⟩, _, _, by rw [Int.toNat_natCast]; exact take_bk hb, fun h => ?_, fun h => ?_⟩
   ·exact no fun e => take_ne ha hb (fun e2 => by rw [e2] at h; simp at h) (st_eq.1 e).2.2.2.2
   ·have h : a.bks[j] = b.bks[j] := by
     simp at h
     exact Prod.ext h.1 h.2
    exact ⟨j + 1, ⟨by rw [wrapN (by omega)]⟩, ⟨rfl⟩, ⟨ha, take_step ha hb hj.2 h⟩, by omega⟩
  ·have hge2 := of_decide_eq_false hge2
   rw [len_bks] at hge2
   have hbks : a.bks = b.bks := take_all a4 (by omega) hj.2
   refine retIs_iff.2 ?_
   have a1 : a.n = b.n := by simpa using a1
   have a2 : a.h = b.h ∧ a.l = b.l := by simpa using a2
   rw [decide_eq_true (st_eq.2 ⟨a1, a2.1, a2.2, hits, hbks⟩)]
theorem o13 : SpecOk PA GA 26 s13 := spec_wkS fun args r h => by
 unfold s13 at h
 split at h
 case h_2 => cases h
 rename_i st st2
 split at h
 case h_2 => cases h
 rename_i a b ha hb
 split at h
 case isFalse => cases h
 rename_i hc
 injection h with h; subst h
 have e : [st, st2].map wkSt = [stA a, stA b] := by simp only [List.map_cons, List.map_nil, wkSt_of ha, wkSt_of hb]
 rw [e]
 exact one_pure mixedA tbl_nil itbl_nil (p13 a b hc.1 hc.2)
end Go.Abs
namespace Go.Abs
open Go.Proofs Go.Proofs.K17 Go.Proofs.D17 Go.RowKit
def weightP (half age : Int) : Int := if half < 1 ∨ 1073741824 < half ∨ age < 0 ∨ 32 ≤ age / half then 0 else ((2 * half - age % half) * 2147483648 / half) / 2 ^ (age / half).toNat
def s8 : Spec := fun args => match args with
 | [.int .i64 h, .int .i64 a] => if iOk h ∧ iOk a then some (.int .i64 (weightP h a), []) else none
 | _ => none
def wref (half age : Int) (i : Nat) : Int := ((2 * half - age % half) * 2147483648 / half) / 2 ^ i
def a9 (half age : Int) : Anns := ⟨fun k => if k = 9 then some { α := Nat, slots := [5, 7, 8], nb := 0, vals := fun i => [.int .i64 (age / half), .int .i64 (wref half age i), .int .i64 i], sS := fun _ => ⟨[], []⟩, I := fun i => (i : Int) ≤ age / half, μ := fun i => (age / half).toNat - i } else none, nA⟩
def ageP (t e : Int) : Int := if e ≤ t ∧ 0 ≤ wrap64 (t - e) then wrap64 (t - e) else -1
def s50 : Spec := fun args => match args with
 | [.int .i64 t, .int .i64 e] => some (.int .i64 (ageP t e), [])
 | _ => none
abbrev valA (k n : Int) (s : List UInt8) : AV := .agg [.int .i64 k, .int .i64 n, .str s]
def numP (kind x d : Int) : AV := if (divP x d).2 then valA (if kind = 2 then 2 else 3) (divP x d).1 [] else valA 0 0 []
def s51 : Spec := fun args => match args with
 | [.int .i64 kind, .agg [.int .i64 h, .int .u64 l], .int .i64 d] => if wOk h l ∧ iOk d then some (numP kind (wv h l) d, []) else none
 | _ => none
def sg (x : Int) : Int := wv (whi x) (wlo x)
def partP (op : List UInt8) (param t : Int) (c : CeI) : Int := if op = bDecay then wv c.st.h c.st.l * weightP param (ageP t c.ev) else wv c.st.h c.st.l
def sumP (op : List UInt8) (param t : Int) (l : List CeI) : Int := l.foldl (fun s c => s + partP op param t c) 0
def cntP (l : List CeI) : Int := l.foldl (fun s c => wrap64 (s + c.st.n)) 0
def addV' (op : List UInt8) (param kind t n : Int) (l : List CeI) : AV :=
 if op = bSum then numP kind (sg (sumP op param t l)) 1 else
 if op = bMean then numP 3 (sg (if kind = 2 then sumP op param t l * 1000000 else sumP op param t l)) n else
 numP 3 (sg (if kind = 2 then sumP op param t l * 1000000 else sumP op param t l)) 4294967296
def mrgB (l : List CeI) : Bks := l.foldl (fun b c => normB (b ++ c.st.bks)) []
def smpV (param kind : Int) (l : List CeI) : AV :=
 match quantile (mrgB l) param with
 | none => valA 0 0 []
 | some n => if kind = 2 then valA 2 n [] else valA 3 n []
structure Bst where
 k : Int
 n : Int
 s : List UInt8
 f : Bool
deriving DecidableEq
def bstep (op : List UInt8) (b : Bst) (x : ItI) : Bst :=
 if x.c ≤ 0 then b else
 if b.f = false ∨ op = bLast ∨ (op = bMin ∧ cmpV x.k x.n x.s b.k b.n b.s < 0) ∨ (op = bMax ∧ 0 < cmpV x.k x.n x.s b.k b.n b.s) then ⟨x.k, x.n, x.s, true⟩ else b
def bestP (op : List UInt8) (l : List ItI) : Bst := l.foldl (bstep op) ⟨0, 0, [], false⟩
def keepV (op : List UInt8) (l : List CeI) : AV := if op = bDistinct then valA 2 (distV (itsOf l) : Nat) [] else valA (bestP op (itsOf l)).k (bestP op (itsOf l)).n (bestP op (itsOf l)).s
def valP (fam : Fam) (op : List UInt8) (param kind t n : Int) (l : List CeI) : AV :=
 match fam with
 | .cnt => valA 2 n []
 | .sum => addV' op param kind t n l
 | .smp => smpV param kind l
 | .keep _ => keepV op l
abbrev qC (op : List UInt8) (param kind t n : Int) (l : List CeI) : List AV := [.str op, .int .i64 param, .int .i64 kind, .int .i64 t, .int .i64 n, .sl 6 (cesL l) .no]
abbrev zV : Option (List AV) := some [.int .i64 0, .int .i64 0, .str []]
abbrev kT (f : Bool) : Option (List AV) := some [.tup [.int .i64 106, .agg [.bool f]]]
abbrev ceS (l : List CeI) : AV := .sl 6 (cesL l) .no
abbrev lnA (l : List CeI) : AV := .int .i64 l.length
def ceOk (c : CeI) : Prop := wOk c.st.h c.st.l ∧ WfB c.st.bks ∧ (∀ x ∈ c.st.its, itW x) ∧ c.st.its.length ≤ 100000 ∧ c.st.bks.length ≤ 100000
instance (c : CeI) : Decidable (ceOk c) := inferInstanceAs (Decidable (_ ∧ _ ∧ (∀ x ∈ c.st.its, _) ∧ _ ∧ _))
def cesOk (l : List CeI) : Prop := l.length ≤ 1000 ∧ ∀ c ∈ l, ceOk c
instance (l : List CeI) : Decidable (cesOk l) := inferInstanceAs (Decidable (_ ∧ ∀ c ∈ l, _))
def rcOk : Fam → List AV → Bool
 | .keep _, [.bool _] => true
 | .keep _, _ => false
 | _, [] => true
 | _, _ => false
def sVal (fam : Fam) : Spec := fun args => match args with
 | [.agg rc, .agg [.str op, .int .i64 param, .int .i64 kind, .int .i64 t, .int .i64 n, .sl sz es _]] => match unL unCe es with
  | some l => if rcOk fam rc = true ∧ (sz = 6 ∨ l = []) ∧ cesOk l ∧ iOk n ∧ iOk param then some (valP fam op param kind t n l, []) else none
  | none => none
 | _ => none
def s43 : Spec := sVal .cnt
def s46 : Spec := sVal .sum
def s65 : Spec := sVal .smp
def s101 : Spec := sVal (.keep false)
def resP (op : List UInt8) (param kind : Int) (l : List CeI) (t : Int) : AV :=
 match famO op with
 | none => valA 0 0 []
 | some fam => if cntP l < 1 ∧ op ≠ bCount ∧ op ≠ bDistinct then valA 0 0 [] else valP fam op param kind t (cntP l) l
abbrev exC (k0 : Int) (op : List UInt8) (param : Int) : List AV := [.int .i64 k0, .str op, .str [], .str [], .int .i64 0, .int .i64 0, .str [], .sl 0 [] .nil, .int .i64 param, .int .i64 0, .int .i64 0, .sl 0 [] .nil]
abbrev k18 (k0 : Int) (op : List UInt8) (param kind : Int) (l : List CeI) (t : Int) (r : List AV) : List AV := .agg (exC k0 op param) :: .int .i64 kind :: ceS l :: .int .i64 t :: .ptr 0 0 :: .ptr 1 0 :: r
def s18 : Spec := fun args => match args with
 | [.agg [.int .i64 _, .str op, .str a, .str b, .int .i64 c, .int .i64 d, .str e, .sl z1 [] .nil, .int .i64 param, .int .i64 f, .int .i64 g, .sl z2 [] .nil], .int .i64 kind, .sl sz es _, .int .i64 t] => match unL unCe es with
  | some l => if ((a.isEmpty = true ∧ b.isEmpty = true ∧ e.isEmpty = true) ∧ (c = 0 ∧ d = 0 ∧ f = 0 ∧ g = 0 ∧ z1 = 0 ∧ z2 = 0)) ∧ (sz = 6 ∨ l = []) ∧ cesOk l ∧ iOk param then some (resP op param kind l t, []) else none
  | none => none
 | _ => none
def shCe : Sh × Option TypeId := (.val (.agg [.int .i64, .int .i64, .int .i64, .int .u64, .sl 6 .no, .sl 2 .no]), none)
def XN : Shapes := fun f => match f with
 | 16 | 17 | 45 => some shW
 | 112 | 113 => some (.val (.one (.sl 2 .no)), none)
 | 114 | 14 => some shIB
 | 18 | 107 | 149 | 35 => some shI
 | 108 | 103 | 106 | 111 | 146 => some shV
 | 2000051 => some shIt
 | 2000042 => some shCe
 | _ => none
def XR (fam : Option Fam) : Shapes := fun f => if f = 40 then some (famS fam) else XN f
def a46 (op : List UInt8) (param kind t n : Int) (l : List CeI) : Anns := ⟨fun k => if k = 3 then some { α := Nat, slots := [3, 4, 5, 10, 11, 12], nb := 4, vals := fun i => [.ptr 1 0, .ptr 2 0, .ptr 3 0, .sl 6 (cesL l) .no, .int .i64 l.length, .int .i64 i], sS := fun i => ⟨[some (typB 103 []), some (qC op param kind t n l), some [.int .i64 0, .int .i64 0, .str []], some [.int .i64 (whi (sumP op param t (l.take i))), .int .u64 (wlo (sumP op param t (l.take i)))]], []⟩, I := fun i => i ≤ l.length, μ := fun i => l.length - i } else none, nA⟩
def a65 (op : List UInt8) (param kind t n : Int) (l : List CeI) : Anns := ⟨fun k => if k = 3 then some { α := Nat × CeI, slots := [3, 4, 5, 11, 12, 13], nb := 4, vals := fun p => [.ptr 1 0, .ptr 2 0, .sl 2 (bksL (mrgB (l.take p.1))) .no, .sl 6 (cesL l) .no, .int .i64 l.length, .int .i64 p.1], sS := fun p => ⟨[some (typB 104 []), some (qC op param kind t n l), some [.int .i64 0, .int .i64 0, .str []], some (ceC p.2)], []⟩, I := fun p => 1 ≤ p.1 ∧ p.1 ≤ l.length ∧ l[0]? = some p.2, μ := fun p => l.length - p.1, peel := 1 } else none, nA⟩
abbrev bC (b : Bst) : List AV := [.int .i64 b.k, .int .i64 b.n, .str b.s]
structure K9 where
 i : Nat
 c : CeI
 j : Nat
 b : Bst
def a101 (f : Bool) (op : List UInt8) (param kind t n : Int) (l : List CeI) : Anns := ⟨fun k => if k = 6 then some { α := Nat × Bst, slots := [3, 4, 5, 6, 20, 21, 22], nb := 4, vals := fun p => [.ptr 1 0, .ptr 2 0, .ptr 3 0, .bool p.2.f, .sl 6 (cesL l) .no, .int .i64 l.length, .int .i64 p.1], sS := fun p => ⟨[some (typB 106 [.bool f]), some (qC op param kind t n l), some [.int .i64 0, .int .i64 0, .str []], some (bC p.2)], []⟩, I := fun p => p.1 ≤ l.length ∧ bestP op (itsOf (l.take p.1)) = p.2, μ := fun p => l.length - p.1, bools := [6] }
 else if k = 9 then some { α := K9, slots := [3, 4, 5, 6, 20, 21, 22, 28, 29, 30], nb := 5, vals := fun p => [.ptr 1 0, .ptr 2 0, .ptr 3 0, .bool p.b.f, .sl 6 (cesL l) .no, .int .i64 l.length, .int .i64 p.i, .sl 6 (itsL p.c.st.its) .no, .int .i64 p.c.st.its.length, .int .i64 p.j], sS := fun p => ⟨[some (typB 106 [.bool f]), some (qC op param kind t n l), some [.int .i64 0, .int .i64 0, .str []], some (bC p.b), some (ceC p.c)], []⟩, I := fun p => l[p.i]? = some p.c ∧ p.j ≤ p.c.st.its.length ∧ bestP op (itsOf (l.take p.i) ++ p.c.st.its.take p.j) = p.b, μ := fun p => p.c.st.its.length - p.j, bools := [6], link := some fun T p => T[22]? = some (.int .i64 p.i) } else none, nA⟩
def a18 (k0 : Int) (op : List UInt8) (param kind t : Int) (l : List CeI) (v : AV) (ok : Bool) : Anns := ⟨fun k => if k = 4 then some { α := Nat, slots := [0, 1, 2, 3, 4, 8, 9, 10, 11, 28, 29, 30], nb := 3, vals := fun i => [.agg (exC k0 op param), .int .i64 kind, .sl 6 (cesL l) .no, .int .i64 t, .ptr 0 0, .ptr 1 0, v, .bool ok, .ptr 2 0, .sl 6 (cesL l) .no, .int .i64 l.length, .int .i64 i], sS := fun i => ⟨[some (exC k0 op param), some [.int .i64 0, .int .i64 0, .str []], some (qC op param kind t (cntP (l.take i)) l)], []⟩, I := fun i => i ≤ l.length, μ := fun i => l.length - i } else none, nA⟩
end Go.Abs
