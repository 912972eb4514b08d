/- Own texts, part 5. -/
import Derived.Test.YtooobfhjklcnjaaGreatDoorPart4
import Derived.Test.YtooobfhjklcnjaaGreatDoorPart3
import Derived.Test.YtooobfhjklcnjaaGreatDoorPart2
import Derived.Laws.BitsAllLaws

namespace Go.Abs
open Go.Proofs L8

theorem ft_imp {p : Prop} : (false = true → p) ↔ True := ⟨fun _ => trivial, fun _ h => nomatch h⟩
theorem ib_iff (c : UInt8) : 0 ≤ Lib.indexByte [34, 10] c ↔ (c = 34 ∨ c = 10) := by
  simp only [Lib.indexByte]
  by_cases h1 : c = 34
  · subst h1; decide
  · by_cases h2 : c = 10
    · subst h2; decide
    · have e1 : ¬ 34 = c := fun h => h1 h.symm
      have e2 : ¬ 10 = c := fun h => h2 h.symm
      simp [h1, h2, e1, e2]
theorem lineB_iff (c : UInt8) : lineB c = true ↔ ¬ (c = 34 ∨ c = 10) := by simp [lineB]
theorem lineB_false (c : UInt8) : lineB c = false ↔ (c = 34 ∨ c = 10) := by
  rw [← Bool.not_eq_true, lineB_iff]; exact ⟨fun h => Classical.byContradiction fun h' => h h', fun h h' => h' h⟩
theorem u8_of (c : UInt8) : ((c.toNat : Int)).toNat.toUInt8 = c := by simp
theorem nat_eq_u8 {c : UInt8} {k : Nat} (hk : k < 256) : ((c.toNat : Int) = k) ↔ c = UInt8.ofNat k := by
  rw [← UInt8.toNat_inj]; simp; omega
theorem st_stop {bs : List UInt8} {x : Nat} (hx : x ≤ stL bs) (hlt : x < bs.length) (h : bs.getD x 0 = 34 ∨ bs.getD x 0 = 10) : (x : Int) = if stL bs < bs.length then (stL bs : Int) else -1 := by
  have : x = stL bs := tw_stop hx fun _ => (lineB_false _).2 h
  rw [if_pos (by omega), this]
theorem st_next {bs : List UInt8} {x : Nat} (hx : x ≤ stL bs) (hlt : x < bs.length) (h : ¬ (bs.getD x 0 = 34 ∨ bs.getD x 0 = 10)) : x + 1 ≤ stL bs := tw_next hx hlt ((lineB_iff _).2 h)
set_option maxHeartbeats 4000000 in
theorem p44 (m : Int) (bs : List UInt8) (hl : bs.length ≤ 1000000) : PureOk PP (G8 m) XA (tbl [(62, sIndexByteString), (64, s64), (65, s65), (67, s67), (68, s68 m)]) (itbl [(66, s66)]) (a44 bs) [] 44 [.sl 1 (bytesL bs) .no, .str [34, 10]] (.int .i64 (if stL bs < bs.length then (stL bs : Int) else -1), []) := by
  constructor
  rw [w44]
  have e02 : (0 < 2) = True := by simp
  have e12 : (1 < 2) = True := by simp
  have e22 : (2 < 2) = False := by simp
  have f22 : (2 ≤ 2) = True := by simp
  have f21 : (2 ≤ 1) = False := by simp
  have f20 : (2 ≤ 0) = False := by simp
  simp only [callIs_iff, valsAre_iff, stIs_iff, retIs_iff, bytesL_length, Option.some.injEq, Prod.mk.injEq, AV.int.injEq, AV.bool.injEq, List.cons.injEq, and_true, true_and, decide_eq_true_eq, decide_eq_false_iff_not, beq_iff_eq, beq_eq_false_iff_ne, bne_iff_ne, bne_eq_false_iff_eq, tf_imp, ft_imp, true_implies, Int.toNat_natCast, ge_iff_le, e02, e12, e22, f22, f21, f20, false_implies, true_or, ne_eq]
  have hle : stL bs ≤ bs.length := tw_le bs
  have hb : ∀ i, (bs.getD i 0).toNat < 256 := fun i => (bs.getD i 0).toNat_lt
  have fin : ∀ x : Nat, x ≤ stL bs → ¬ (x : Int) < bs.length → (-1 : Int) = if stL bs < bs.length then (stL bs : Int) else -1 := fun x hx h => by rw [if_neg (by omega)]
  have h32 : ∀ i, (((bs.getD i 0).toNat : Int) = 34 ↔ bs.getD i 0 = 34) := fun i => nat_eq_u8 (k := 34) (by omega)
  have h10 : ∀ i, (((bs.getD i 0).toNat : Int) = 10 ↔ bs.getD i 0 = 10) := fun i => nat_eq_u8 (k := 10) (by omega)
  have w32 : ∀ i, IntKind.i32.wrap ((bs.getD i 0).toNat : Int) = ((bs.getD i 0).toNat : Int) := fun i => wrap32_in (by omega) (by have := hb i; omega)
  have low : ∀ i, 128 ≤ (bs.getD i 0).toNat → lineB (bs.getD i 0) = true := fun i h => by
    rw [lineB_iff]; rintro (h' | h') <;> rw [h'] at h <;> simp at h
  have land : ∀ x k : Nat, x < bs.length → 1 ≤ k → x + k ≤ stL bs → ∃ y : Nat, IntKind.i64.wrap ((x : Int) + (k : Int)) = y ∧ y ≤ stL bs ∧ bs.length - y < bs.length - x := fun x k h0 h1 h2 =>
    ⟨x + k, by rw [wrap64_in (by omega) (by omega)]; simp, h2, by omega⟩
  refine ⟨fun h1 => ⟨by omega, _, u8at (i := 0) (by omega), fun hhi => ?_, fun hlo => ⟨by omega, _, u8at (i := 0) (by omega), _, rfl, fun h => ?_, fun h => ?_⟩⟩, fun h1 => ⟨_, rfl, fun h8 => ⟨⟨0, rfl, Nat.zero_le _⟩, fun x hx => ⟨fun hlt => ⟨by omega, _, u8at (i := x) (by omega), ⟨by omega, by have := hb x; omega⟩, fun h => ?_, fun h => ?_⟩, fin x hx⟩⟩, fun h8 => ⟨⟨0, rfl, Nat.zero_le _⟩, fun x hx => ⟨fun hlt => ⟨by omega, _, u8at (i := x) (by omega), fun hlo => ⟨by omega, _, u8at (i := x) (by omega), _, rfl, fun h => ?_, fun h => ?_⟩, fun hhi => ⟨by omega, by omega, ?_⟩⟩, fin x hx⟩⟩⟩⟩
  · rw [w32] at hhi
    have := tw_next (p := lineB) (l := bs) (k := 0) (by omega) (by omega) (low 0 (by omega))
    have : 1 ≤ stL bs := this
    rw [if_neg (by omega)]
  · rw [u8_of, ib_iff] at h
    exact st_stop (x := 0) (by omega) (by omega) h
  · rw [u8_of, ib_iff] at h
    have := st_next (x := 0) (by omega) (by omega) h
    rw [if_neg (by omega)]
  · rw [h32, h10] at h
    exact st_stop hx (by omega) h.symm
  · rw [h32, h10] at h
    have := st_next hx (by omega) fun h' => h h'.symm
    exact land x 1 (by omega) (by omega) this
  · rw [u8_of, ib_iff] at h
    exact st_stop hx (by omega) h
  · rw [u8_of, ib_iff] at h
    exact land x 1 (by omega) (by omega) (st_next hx (by omega) h)
  · rw [w32] at hhi
    have hd := decF (n := (bs.drop x).length) (b0 := ((bs.drop x).getD 0 0).toNat) (b1 := ((bs.drop x).getD 1 0).toNat) (b2 := ((bs.drop x).getD 2 0).toNat) (b3 := ((bs.drop x).getD 3 0).toNat) (by rw [List.length_drop]; omega) (by rw [getD_drop', Nat.add_zero]; omega) (UInt8.toNat_lt _) (UInt8.toNat_lt _) (UInt8.toNat_lt _) (UInt8.toNat_lt _)
    rw [← decodeL_eq] at hd
    have t58 : tbl [(62, sIndexByteString), (64, s64), (65, s65), (67, s67), (68, s68 m)] 67 [AV.sl 1 (List.drop x (List.take bs.length (bytesL bs))) Own.no] = some (decA (bs.drop x), []) := by
      rw [tbl_miss (fun h => absurd h (by decide)), tbl_miss (fun h => absurd h (by decide)), tbl_miss (fun h => absurd h (by decide)), tbl_hit]
      have e : List.drop x (List.take bs.length (bytesL bs)) = bytesL (bs.drop x) := by
        rw [List.take_of_length_le (by rw [bytesL_length]; exact Nat.le_refl _)]; simp [bytesL]
      rw [e]
      simp only [s67, onBs, onBytes, unBytes_mk, if_true]
      rw [if_pos ⟨by rw [← List.length_pos_iff, List.length_drop]; omega, by rw [List.length_drop]; omega⟩]
    refine ⟨_, _, t58, ?_⟩
    obtain ⟨d1, d2, d3, d4, d5, d6, d7, d8, d9⟩ := hd
    simp only [getD_drop', List.length_drop] at d3 d5 d6 d7
    generalize decodeL (bs.drop x) 0 = d at *
    obtain ⟨e0, u, he, hge, hlen⟩ := encF d.1 d4
    have hadv : x + d.2 ≤ stL bs := tw_add hx fun i hi => by
      refine ⟨by omega, low _ ?_⟩
      have hi4 : i = 0 ∨ i = 1 ∨ i = 2 ∨ i = 3 := by omega
      rcases hi4 with rfl | rfl | rfl | rfl
      · rw [Nat.add_zero]; omega
      · exact d5 (by omega)
      · exact d6 (by omega)
      · exact d7 (by omega)
    have hland := land x d.2 (by omega) d1 hadv
    have n34 : ¬ (d.1 : Int) = 34 := by omega
    have n10 : ¬ (d.1 : Int) = 10 := by omega
    refine ⟨fun h3 => ⟨fun h2 => ⟨fun h => ?_, fun _ => hland⟩, fun h2 => ⟨m, rfl, fun hm => ⟨-1, ?_, fun h => absurd h (by omega), fun _ => hland⟩, fun _ => ⟨fun h => absurd h n34, fun _ => ⟨fun h => absurd h n10, fun _ => hland⟩⟩⟩⟩, fun _ => ⟨fun h => absurd h n34, fun _ => ⟨fun h => absurd h n10, fun _ => hland⟩⟩⟩
    · rw [he] at h
      have h0 : 34 = e0 := (List.cons.inj h).1
      rw [← h0] at hge
      exact absurd hge (by decide)
    · rw [tbl_miss (fun h => absurd h (by decide)), tbl_miss (fun h => absurd h (by decide)), tbl_miss (fun h => absurd h (by decide)), tbl_miss (fun h => absurd h (by decide)), tbl_hit, he]
      simp only [s68]
      have hsz := d8 (by omega)
      obtain ⟨l2, l3, l4⟩ := hlen (by omega)
      have hu : u.length + 1 = d.2 := by
        rcases hsz with ⟨a, b⟩ | ⟨a, b, c⟩ | ⟨a, b⟩
        · rw [l2 b]; omega
        · rw [l3 b c]; omega
        · rw [l4 b]; omega
      rw [if_pos ⟨by simp only [List.length_cons]; omega, by simp only [List.length_cons]; omega, by simp only [List.length_cons, List.length_nil]; omega⟩, idx_none hge]

theorem p67 (m : Int) (bs : List UInt8) (hne : bs ≠ []) (hl : bs.length ≤ 1000000) : PureOk PP (G8 m) XA (tbl [(85, s85)]) (itbl []) (a67 bs) [] 67 [.sl 1 (bytesL bs) .no] (decA bs, []) := by
  constructor
  rw [w67]
  have hlen : 0 < bs.length := List.length_pos_iff.2 hne
  simp only [callIs_iff, valsAre_iff, stIs_iff, retIs_iff, bytesL_length, Prod.mk.injEq, AV.int.injEq, AV.tup.injEq, List.cons.injEq, and_true, true_and, and_self, decide_eq_true_eq, decide_eq_false_iff_not, true_implies]
  refine ⟨⟨(), trivial⟩, fun _ => ⟨fun _ => ⟨by omega, _, u8at (i := 0) hlen, fun hlo => ?_, fun hhi => ?_⟩, fun h => by omega⟩⟩
  · rw [decodeL_eq, Lib.decodeN, if_pos (by omega)]
    exact ⟨wrap32_in (by omega) (by omega), rfl⟩
  · refine ⟨_, _, ?_, rfl, rfl⟩
    rw [tbl_hit]
    simp only [s85, onBs, onBytes, unBytes_mk, if_true]
    have hh : hiB bs := by
      cases bs with
      | nil => exact absurd rfl hne
      | cons c t => exact ⟨c, t, rfl, by simp at hhi; omega⟩
    rw [if_pos ⟨hh, hl⟩]
    rfl
theorem p66 (m c : Int) (h0 : 0 ≤ c) (h1 : c < 256) : OpenOk PP (G8 m) XA (tbl []) (itbl []) nAn [] 66 [.ptr 0 0, .int .u8 c] ⟨[some keptSet], []⟩ (.bool (decide (c = 10 ∨ c = 34)), ⟨[some keptSet], []⟩) := by
  constructor
  rw [w66]
  refine ⟨⟨h0, h1⟩, decide (c = 10 ∨ c = 34), ?_, fun h => ⟨rfl, by rw [h]⟩, fun h => ⟨rfl, by rw [h]⟩⟩
  have hlt : c.toNat < 256 := by omega
  simp only [takeA, Nat.zero_add, Nat.mul_one, keptSet, List.getElem?_map, List.getElem?_range hlt, Option.map_some]
  have e : decide (c.toNat = 10 ∨ c.toNat = 34) = decide (c = 10 ∨ c = 34) := decide_eq_decide.2 (by omega)
  rw [e]
set_option maxRecDepth 100000 in
theorem run65 (m : Int) : (evs PP (G8 m) (tbl lib8) (fun _ => []) 60).1 65 [.str [34, 10]] = some (.tup [keptSetA, .bool true], []) := by kernel_rfl
theorem o65 (m : Int) : SpecOk PP (G8 m) 65 s65 := spec_run mixed8 (lib8_ok m) fun args r h => by
  unfold s65 at h
  split at h
  · injection h with h; subst h; exact ⟨60, run65 m⟩
  · cases h
theorem o64 (m : Int) : SpecOk PP (G8 m) 64 s64 := spec_of (X := XA) (m := []) mixed8 tbl_nil itbl_nil fun args r h => by
  unfold s64 at h
  split at h
  · injection h with h; subst h; exact ⟨nAn, p64 m _⟩
  · cases h
theorem onBs_some {f : List UInt8 → Option (AV × List (Nat × TypeId))} {args : List AV} {r : AV × List (Nat × TypeId)} (h : onBs f args = some r) : ∃ bs, args = [.sl 1 (bytesL bs) .no] ∧ f bs = some r := by
  unfold onBs at h
  split at h
  · split at h
    · rename_i hsz
      subst hsz
      unfold onBytes at h
      split at h
      · rename_i bs hb
        obtain rfl := unBytes_some hb
        exact ⟨bs, rfl, h⟩
      · cases h
    · cases h
  · cases h
theorem o85 (m : Int) : SpecOk PP (G8 m) 85 s85 := spec_of (X := XA) (m := []) mixed8 tbl_nil itbl_nil fun args r h => by
  obtain ⟨bs, rfl, h2⟩ := onBs_some h
  clear h
  split at h2
  · rename_i hc; injection h2 with h2; subst h2; exact ⟨nAn, p85 m _ hc.1 hc.2⟩
  · cases h2
theorem o67 (m : Int) : SpecOk PP (G8 m) 67 s67 := spec_of (X := XA) (m := []) mixed8 (tbl_cons (o85 m) tbl_nil) itbl_nil fun args r h => by
  obtain ⟨bs, rfl, h2⟩ := onBs_some h
  clear h
  split at h2
  · rename_i hc; injection h2 with h2; subst h2; exact ⟨a67 bs, p67 m _ hc.1 hc.2⟩
  · cases h2
theorem o66 (m : Int) : ISpecOk PP (G8 m) 66 s66 := ispec_of (X := XA) (m := []) mixed8 tbl_nil itbl_nil fun args S p r h hp => by
  unfold s66 at h
  split at h
  · simp only [Option.some.injEq, Prod.mk.injEq] at h
    obtain ⟨h1, h2⟩ := h
    subst h1
    obtain ⟨rfl, k1, k2⟩ := hp
    rw [← h2]
    exact ⟨nAn, p66 m _ k1 k2⟩
  · cases h
theorem o68 (m : Int) : SpecOk PP (G8 m) 68 (s68 m) := by
  intro g args r lv h E w vs hI hG hn' hv hcl
  simp only at h
  split at h
  case isFalse => cases h
  case isTrue e =>
  subst e
  unfold s68 at h
  split at h
  case h_2 => cases h
  case h_1 a b =>
  split at h
  case isFalse => cases h
  case isTrue hc =>
  simp only [Option.some.injEq, Prod.mk.injEq] at h
  obtain ⟨rfl, rfl⟩ := h
  obtain ⟨x, y, rfl⟩ := vs_two hn'
  obtain ⟨s, rfl, hs⟩ := rep_str (hv 0 _ _ rfl rfl)
  obtain ⟨t, rfl, ht⟩ := rep_str (hv 1 _ _ rfl rfl)
  have h1 : s.size = a.length := by rw [size_data, hs]
  have h2 : t.size = b.length := by rw [size_data, ht]
  refine .inr ⟨_, w, extern_value (fn := Tryz.f68) (by kernel_rfl) (by kernel_rfl) (by kernel_rfl) (by kernel_rfl) (by kernel_rfl) (Lib.run_indexString s t w 1 m (by kernel_rfl) (glob_int hG rfl) (by omega) (by omega) (by omega)), _, rfl, res_same fun B K => ?_⟩
  rw [hs, ht]
  exact .int _ _
theorem o44 (m : Int) : SpecOk PP (G8 m) 44 s44 := spec_of (X := XA) (m := []) mixed8 (tbl_cons (o_indexByteString (f := 62) (fn := Tryz.f62) (by kernel_rfl) (by kernel_rfl) (by kernel_rfl) (by kernel_rfl) (by kernel_rfl)) (tbl_cons (o64 m) (tbl_cons (o65 m) (tbl_cons (o67 m) (tbl_cons (o68 m) tbl_nil))))) (itbl_cons (o66 m) itbl_nil) fun args r h => by
  unfold s44 at h
  split at h
  · split at h
    · rename_i hsz
      subst hsz
      unfold onBytes at h
      split at h
      · rename_i bs hb
        obtain rfl := unBytes_some hb
        simp only at h
        split at h
        · rename_i hl
          injection h with h; subst h; exact ⟨a44 bs, p44 m bs hl⟩
        · cases h
      · cases h
    · cases h
  · cases h
end Go.Abs

namespace Go.Abs
open Go.Proofs L8

theorem o7' (m : Int) : SpecOk PP (G8 m) 7 s7 := o7 m (o43' m) (o44 m)
end Go.Abs

namespace Go.Abs
open Go.Proofs L8

structure TI where
  kind : Int
  text : List UInt8
  at_ : Int
  deriving DecidableEq
structure PI where
  at_ : Int
  code : Int
  deriving DecidableEq
def tiA (t : TI) : AV := .agg [.int .i64 t.kind, .str t.text, .int .i64 t.at_]
def piA (p : PI) : AV := .agg [.int .i64 p.at_, .int .i64 p.code]
def toTI (t : Tk) : TI := ⟨t.kind, t.text, t.at_⟩
def toPI (p : Pb) : PI := ⟨p.at_, p.code⟩
theorem tokA_ti (t : Tk) : tokA t = tiA (toTI t) := rfl
theorem pbA_pi (p : Pb) : pbA p = piA (toPI p) := rfl
abbrev tksL (l : List TI) : List AV := l.map tiA
abbrev pbsL (l : List PI) : List AV := l.map piA
def unTI : AV → Option TI
  | .agg [.int .i64 k, .str s, .int .i64 a] => some ⟨k, s, a⟩
  | _ => none
def unPI : AV → Option PI
  | .agg [.int .i64 a, .int .i64 c] => some ⟨a, c⟩
  | _ => none
def unL {α : Type} (f : AV → Option α) : List AV → Option (List α)
  | [] => some []
  | x :: l => match f x, unL f l with
    | some a, some b => some (a :: b)
    | _, _ => none
theorem unTI_some {x : AV} {t : TI} (h : unTI x = some t) : x = tiA t := by
  unfold unTI at h
  split at h
  · injection h with h; subst h; rfl
  · cases h
theorem unPI_some {x : AV} {t : PI} (h : unPI x = some t) : x = piA t := by
  unfold unPI at h
  split at h
  · injection h with h; subst h; rfl
  · cases h
theorem unL_mk {α : Type} {f : AV → Option α} {g : α → AV} (h : ∀ a, f (g a) = some a) : ∀ l : List α, unL f (l.map g) = some l
  | [] => rfl
  | a :: l => by simp only [List.map_cons, unL, h, unL_mk h l]
theorem unL_some {α : Type} {f : AV → Option α} {g : α → AV} (h : ∀ x a, f x = some a → x = g a) : ∀ {es : List AV} {l : List α}, unL f es = some l → es = l.map g
  | [], l, he => by simp only [unL, Option.some.injEq] at he; subst he; rfl
  | x :: es, l, he => by
    simp only [unL] at he
    split at he
    · rename_i a b h1 h2
      injection he with he; subst he
      rw [h x a h1, unL_some h h2]; rfl
    · cases he
theorem unTIs (l : List TI) : unL unTI (tksL l) = some l := unL_mk (g := tiA) (fun _ => rfl) l
theorem unPIs (l : List PI) : unL unPI (pbsL l) = some l := unL_mk (g := piA) (fun _ => rfl) l
def sameT (far : Bool) (more : Int) (a b : TI) : Bool := a.kind == b.kind && a.text == b.text && (!far || IntKind.i64.wrap (a.at_ + more) == b.at_)
def all2B {α : Type} (p : α → α → Bool) : List α → List α → Bool
  | [], [] => true
  | a :: l, b :: m => p a b && all2B p l m
  | _, _ => false
def s11 : Spec := fun args => match args with
  | [.sl sz es .no, .sl sz' fs .no, .bool far, .int .i64 more] => if sz = 3 ∧ sz' = 3 then match unL unTI es, unL unTI fs with
    | some l, some k => if l.length ≤ 1000000 ∧ k.length ≤ 1000000 then some (.bool (all2B (sameT far more) l k), []) else none
    | _, _ => none else none
  | _ => none
def s31 : Spec := fun args => match args with
  | [.sl sz es .no, .sl sz' fs .no] => if sz = 2 ∧ sz' = 2 then match unL unPI es, unL unPI fs with
    | some l, some k => if l.length ≤ 1000000 ∧ k.length ≤ 1000000 then some (.bool (all2B (fun a b => decide (a = b)) l k), []) else none
    | _, _ => none else none
  | _ => none
def shToks : Sh × Option TypeId := (.tup [.one (.sl 3 .no), .one (.sl 2 .no), .one (.int .i64)], none)
def XS : Shapes := fun f => match f with
  | 4 | 11 | 31 | 14 | 15 => some shB
  | 7 => some shToks
  | _ => none
def a11 (l k : List TI) (far : Bool) (more : Int) : Anns := ⟨fun r => if r = 4 then some { α := Nat, slots := [0, 1, 2, 3, 9], nb := 0, vals := fun i => [.sl 3 (tksL l) .no, .sl 3 (tksL k) .no, .bool far, .int .i64 more, .int .i64 i], sS := fun _ => ⟨[], []⟩, I := fun i => i ≤ l.length ∧ all2B (sameT far more) (l.take i) (k.take i) = true, μ := fun i => l.length - i, bools := [2] } else none, nA⟩
def a31 (l k : List PI) : Anns := ⟨fun r => if r = 4 then some { α := Nat, slots := [0, 1, 5], nb := 0, vals := fun i => [.sl 2 (pbsL l) .no, .sl 2 (pbsL k) .no, .int .i64 i], sS := fun _ => ⟨[], []⟩, I := fun i => i ≤ l.length ∧ l.take i = k.take i, μ := fun i => l.length - i } else none, nA⟩
end Go.Abs

namespace Go.Abs
open Go.Proofs L8
theorem w11 (m : Int) (l k : List TI) (far : Bool) (more : Int) : (pureW PP (G8 m) XS (tbl []) (itbl []) (a11 l k far more) [] 11 [.sl 3 (tksL l) .no, .sl 3 (tksL k) .no, .bool far, .int .i64 more] (.bool (all2B (sameT far more) l k), [])) =
((((↑(tksL l).length : Int) != (↑(tksL k).length : Int)) = true → RetIs (AV.bool false) [] (AV.bool (all2B (sameT far more) l k), [])) ∧
  (((↑(tksL l).length : Int) != (↑(tksL k).length : Int)) = false →
    (∃ (y : Nat),
        ValsAre [AV.sl (nat_lit 3) (tksL l) Own.no, AV.sl (nat_lit 3) (tksL k) Own.no, AV.bool far, AV.int IntKind.i64 more, AV.int IntKind.i64 (0 : Int)]
 [AV.sl (nat_lit 3) (tksL l) Own.no, AV.sl (nat_lit 3) (tksL k) Own.no, AV.bool far, AV.int IntKind.i64 more, AV.int IntKind.i64 (↑y : Int)] ∧
 StIs { boxes := [], live := [] } { boxes := [], live := [] } ∧
 (y ≤ l.length ∧ all2B (sameT far more) (List.take y l) (List.take y k) = true) ∧ True) ∧
      ∀ (x : Nat),
        x ≤ l.length ∧ all2B (sameT far more) (List.take x l) (List.take x k) = true →
 (far = true →
 (decide ((↑x : Int) < (↑(tksL l).length : Int)) = true →
 ((0 : Int) ≤ (↑x : Int) ∧ (↑x : Int) < (↑(tksL l).length : Int)) ∧
 ∃ (n : Int),
 takeAt PP (nat_lit 3) (tksL l) (↑x : Int).toNat (nat_lit 0) = some (AV.int IntKind.i64 n) ∧
 ((0 : Int) ≤ (↑x : Int) ∧ (↑x : Int) < (↑(tksL k).length : Int)) ∧
 ∃ (n_1 : Int),
 takeAt PP (nat_lit 3) (tksL k) (↑x : Int).toNat (nat_lit 0) = some (AV.int IntKind.i64 n_1) ∧
 ((n != n_1) = true → RetIs (AV.bool false) [] (AV.bool (all2B (sameT far more) l k), [])) ∧
 ((n != n_1) = false →
 ((0 : Int) ≤ (↑x : Int) ∧ (↑x : Int) < (↑(tksL l).length : Int)) ∧
 ∃ (s : List UInt8),
 takeAt PP (nat_lit 9) (tksL l) (↑x : Int).toNat (nat_lit 1) = some (AV.str s) ∧
 ((0 : Int) ≤ (↑x : Int) ∧ (↑x : Int) < (↑(tksL k).length : Int)) ∧
 ∃ (s_1 : List UInt8),
 takeAt PP (nat_lit 9) (tksL k) (↑x : Int).toNat (nat_lit 1) = some (AV.str s_1) ∧
 ((!s == s_1) = true → RetIs (AV.bool false) [] (AV.bool (all2B (sameT far more) l k), [])) ∧
 ((!s == s_1) = false →
 ((0 : Int) ≤ (↑x : Int) ∧ (↑x : Int) < (↑(tksL l).length : Int)) ∧
 ∃ (n : Int),
 takeAt PP (nat_lit 3) (tksL l) (↑x : Int).toNat (nat_lit 2) = some (AV.int IntKind.i64 n) ∧
 ((0 : Int) ≤ (↑x : Int) ∧ (↑x : Int) < (↑(tksL k).length : Int)) ∧
 ∃ (n_2 : Int),
 takeAt PP (nat_lit 3) (tksL k) (↑x : Int).toNat (nat_lit 2) = some (AV.int IntKind.i64 n_2) ∧
 ((IntKind.i64.wrap (n + more) != n_2) = true →
 RetIs (AV.bool false) [] (AV.bool (all2B (sameT far more) l k), [])) ∧
 ((IntKind.i64.wrap (n + more) != n_2) = false →
 ∃ (y : Nat),
 ValsAre
 [AV.sl (nat_lit 3) (tksL l) Own.no, AV.sl (nat_lit 3) (tksL k) Own.no, AV.bool true,
 AV.int IntKind.i64 more,
 AV.int IntKind.i64 (IntKind.i64.wrap ((↑x : Int) + (1 : Int)))]
 [AV.sl (nat_lit 3) (tksL l) Own.no, AV.sl (nat_lit 3) (tksL k) Own.no, AV.bool far,
 AV.int IntKind.i64 more, AV.int IntKind.i64 (↑y : Int)] ∧
 StIs { boxes := [], live := [] } { boxes := [], live := [] } ∧
 (y ≤ l.length ∧ all2B (sameT far more) (List.take y l) (List.take y k) = true) ∧
 l.length - y < l.length - x)))) ∧
 (decide ((↑x : Int) < (↑(tksL l).length : Int)) = false → RetIs (AV.bool true) [] (AV.bool (all2B (sameT far more) l k), []))) ∧
 (far = false →
 (decide ((↑x : Int) < (↑(tksL l).length : Int)) = true →
 ((0 : Int) ≤ (↑x : Int) ∧ (↑x : Int) < (↑(tksL l).length : Int)) ∧
 ∃ (n : Int),
 takeAt PP (nat_lit 3) (tksL l) (↑x : Int).toNat (nat_lit 0) = some (AV.int IntKind.i64 n) ∧
 ((0 : Int) ≤ (↑x : Int) ∧ (↑x : Int) < (↑(tksL k).length : Int)) ∧
 ∃ (n_1 : Int),
 takeAt PP (nat_lit 3) (tksL k) (↑x : Int).toNat (nat_lit 0) = some (AV.int IntKind.i64 n_1) ∧
 ((n != n_1) = true → RetIs (AV.bool false) [] (AV.bool (all2B (sameT far more) l k), [])) ∧
 ((n != n_1) = false →
 ((0 : Int) ≤ (↑x : Int) ∧ (↑x : Int) < (↑(tksL l).length : Int)) ∧
 ∃ (s : List UInt8),
 takeAt PP (nat_lit 9) (tksL l) (↑x : Int).toNat (nat_lit 1) = some (AV.str s) ∧
 ((0 : Int) ≤ (↑x : Int) ∧ (↑x : Int) < (↑(tksL k).length : Int)) ∧
 ∃ (s_1 : List UInt8),
 takeAt PP (nat_lit 9) (tksL k) (↑x : Int).toNat (nat_lit 1) = some (AV.str s_1) ∧
 ((!s == s_1) = true → RetIs (AV.bool false) [] (AV.bool (all2B (sameT far more) l k), [])) ∧
 ((!s == s_1) = false →
 ∃ (y : Nat),
 ValsAre
 [AV.sl (nat_lit 3) (tksL l) Own.no, AV.sl (nat_lit 3) (tksL k) Own.no, AV.bool false,
 AV.int IntKind.i64 more, AV.int IntKind.i64 (IntKind.i64.wrap ((↑x : Int) + (1 : Int)))]
 [AV.sl (nat_lit 3) (tksL l) Own.no, AV.sl (nat_lit 3) (tksL k) Own.no, AV.bool far,
 AV.int IntKind.i64 more, AV.int IntKind.i64 (↑y : Int)] ∧
 StIs { boxes := [], live := [] } { boxes := [], live := [] } ∧
 (y ≤ l.length ∧ all2B (sameT far more) (List.take y l) (List.take y k) = true) ∧
 l.length - y < l.length - x))) ∧
 (decide ((↑x : Int) < (↑(tksL l).length : Int)) = false → RetIs (AV.bool true) [] (AV.bool (all2B (sameT far more) l k), []))))) := by kernel_rfl
end Go.Abs

namespace Go.Abs
open Go.Proofs
def e12_0 : AV × List (Nat × TypeId) := (AV.tup
      [AV.sl 3
          [AV.agg [AV.int IntKind.i64 1, AV.str [UInt8.ofNat (↑(UInt8.toNat 97) : Int).toNat], AV.int IntKind.i64 0],
            AV.agg [AV.int IntKind.i64 5, AV.str [UInt8.ofNat (↑(UInt8.toNat 60) : Int).toNat, UInt8.ofNat (↑(UInt8.toNat 61) : Int).toNat], AV.int IntKind.i64 1],
            AV.agg
              [AV.int IntKind.i64 3, AV.str [UInt8.ofNat (↑(UInt8.toNat 49) : Int).toNat, UInt8.ofNat (↑(UInt8.toNat 46) : Int).toNat, UInt8.ofNat (↑(UInt8.toNat 53) : Int).toNat],
                AV.int IntKind.i64 3],
            AV.agg [AV.int IntKind.i64 6, AV.str [], AV.int IntKind.i64 13]]
          (Own.tok 0),
        AV.sl 0 [] Own.nil, AV.int IntKind.i64 0],
    [([AV.agg [AV.int IntKind.i64 1, AV.str [UInt8.ofNat (↑(UInt8.toNat 97) : Int).toNat], AV.int IntKind.i64 0],
              AV.agg [AV.int IntKind.i64 5, AV.str [UInt8.ofNat (↑(UInt8.toNat 60) : Int).toNat, UInt8.ofNat (↑(UInt8.toNat 61) : Int).toNat], AV.int IntKind.i64 1],
              AV.agg
                [AV.int IntKind.i64 3, AV.str [UInt8.ofNat (↑(UInt8.toNat 49) : Int).toNat, UInt8.ofNat (↑(UInt8.toNat 46) : Int).toNat, UInt8.ofNat (↑(UInt8.toNat 53) : Int).toNat],
                  AV.int IntKind.i64 3]].length +
          [AV.agg [AV.int IntKind.i64 6, AV.str [], AV.int IntKind.i64 13]].length,
        34)])
set_option maxRecDepth 100000 in
theorem r7_0 (m : Int) : (evs PP (G8 m) (tbl lib8b) (fun _ => []) 200).1 7 [bytesA [97, 60, 61, 49, 46, 53, 32, 35, 32, 110, 111, 116, 101]] = some e12_0 := by kernel_rfl
def e12_1 : AV × List (Nat × TypeId) := (AV.tup
      [AV.sl 3
          [AV.agg [AV.int IntKind.i64 1, AV.str [UInt8.ofNat (↑(UInt8.toNat 120) : Int).toNat], AV.int IntKind.i64 0],
            AV.agg [AV.int IntKind.i64 5, AV.str [UInt8.ofNat (↑(UInt8.toNat 61) : Int).toNat, UInt8.ofNat (↑(UInt8.toNat 61) : Int).toNat], AV.int IntKind.i64 1],
            AV.agg [AV.int IntKind.i64 5, AV.str [UInt8.ofNat (↑(UInt8.toNat 45) : Int).toNat], AV.int IntKind.i64 3],
            AV.agg [AV.int IntKind.i64 2, AV.str [UInt8.ofNat (↑(UInt8.toNat 49) : Int).toNat], AV.int IntKind.i64 4],
            AV.agg [AV.int IntKind.i64 5, AV.str [UInt8.ofNat (↑(UInt8.toNat 59) : Int).toNat], AV.int IntKind.i64 5], AV.agg [AV.int IntKind.i64 6, AV.str [], AV.int IntKind.i64 6]]
          (Own.tok 0),
        AV.sl 0 [] Own.nil, AV.int IntKind.i64 0],
    [([AV.agg [AV.int IntKind.i64 1, AV.str [UInt8.ofNat (↑(UInt8.toNat 120) : Int).toNat], AV.int IntKind.i64 0],
              AV.agg [AV.int IntKind.i64 5, AV.str [UInt8.ofNat (↑(UInt8.toNat 61) : Int).toNat, UInt8.ofNat (↑(UInt8.toNat 61) : Int).toNat], AV.int IntKind.i64 1],
              AV.agg [AV.int IntKind.i64 5, AV.str [UInt8.ofNat (↑(UInt8.toNat 45) : Int).toNat], AV.int IntKind.i64 3],
              AV.agg [AV.int IntKind.i64 2, AV.str [UInt8.ofNat (↑(UInt8.toNat 49) : Int).toNat], AV.int IntKind.i64 4],
              AV.agg [AV.int IntKind.i64 5, AV.str [UInt8.ofNat (↑(UInt8.toNat 59) : Int).toNat], AV.int IntKind.i64 5]].length +
          [AV.agg [AV.int IntKind.i64 6, AV.str [], AV.int IntKind.i64 6]].length,
        34)])
set_option maxRecDepth 100000 in
theorem r7_1 (m : Int) : (evs PP (G8 m) (tbl lib8b) (fun _ => []) 200).1 7 [bytesA [120, 61, 61, 45, 49, 59]] = some e12_1 := by kernel_rfl
def e12_2 : AV × List (Nat × TypeId) := (AV.tup
      [AV.sl 3
          [AV.agg [AV.int IntKind.i64 2, AV.str [UInt8.ofNat (↑(UInt8.toNat 49) : Int).toNat, UInt8.ofNat (↑(UInt8.toNat 50) : Int).toNat], AV.int IntKind.i64 0],
            AV.agg [AV.int IntKind.i64 1, AV.str [UInt8.ofNat (↑(UInt8.toNat 97) : Int).toNat, UInt8.ofNat (↑(UInt8.toNat 98) : Int).toNat], AV.int IntKind.i64 2],
            AV.agg [AV.int IntKind.i64 2, AV.str [UInt8.ofNat (↑(UInt8.toNat 49) : Int).toNat], AV.int IntKind.i64 5], AV.agg [AV.int IntKind.i64 6, AV.str [], AV.int IntKind.i64 7]]
          (Own.tok 0),
        AV.sl 2 [AV.agg [AV.int IntKind.i64 6, AV.int IntKind.i64 80]] Own.no, AV.int IntKind.i64 0],
    [([AV.agg [AV.int IntKind.i64 2, AV.str [UInt8.ofNat (↑(UInt8.toNat 49) : Int).toNat, UInt8.ofNat (↑(UInt8.toNat 50) : Int).toNat], AV.int IntKind.i64 0],
              AV.agg [AV.int IntKind.i64 1, AV.str [UInt8.ofNat (↑(UInt8.toNat 97) : Int).toNat, UInt8.ofNat (↑(UInt8.toNat 98) : Int).toNat], AV.int IntKind.i64 2],
              AV.agg [AV.int IntKind.i64 2, AV.str [UInt8.ofNat (↑(UInt8.toNat 49) : Int).toNat], AV.int IntKind.i64 5]].length +
          [AV.agg [AV.int IntKind.i64 6, AV.str [], AV.int IntKind.i64 7]].length,
        34)])
set_option maxRecDepth 100000 in
theorem r7_2 (m : Int) : (evs PP (G8 m) (tbl lib8b) (fun _ => []) 200).1 7 [bytesA [49, 50, 97, 98, 32, 49, 46]] = some e12_2 := by kernel_rfl
def e12_3 : AV × List (Nat × TypeId) := (AV.tup
      [AV.sl 3
          [AV.agg [AV.int IntKind.i64 1, AV.str [UInt8.ofNat (↑(UInt8.toNat 97) : Int).toNat], AV.int IntKind.i64 0],
            AV.agg [AV.int IntKind.i64 1, AV.str [UInt8.ofNat (↑(UInt8.toNat 98) : Int).toNat], AV.int IntKind.i64 5], AV.agg [AV.int IntKind.i64 6, AV.str [], AV.int IntKind.i64 8]]
          (Own.tok 0),
        AV.sl 2 [AV.agg [AV.int IntKind.i64 2, AV.int IntKind.i64 80], AV.agg [AV.int IntKind.i64 7, AV.int IntKind.i64 80]] Own.no, AV.int IntKind.i64 0],
    [([AV.agg [AV.int IntKind.i64 1, AV.str [UInt8.ofNat (↑(UInt8.toNat 97) : Int).toNat], AV.int IntKind.i64 0],
              AV.agg [AV.int IntKind.i64 1, AV.str [UInt8.ofNat (↑(UInt8.toNat 98) : Int).toNat], AV.int IntKind.i64 5]].length +
          [AV.agg [AV.int IntKind.i64 6, AV.str [], AV.int IntKind.i64 8]].length,
        34)])
set_option maxRecDepth 100000 in
theorem r7_3 (m : Int) : (evs PP (G8 m) (tbl lib8b) (fun _ => []) 200).1 7 [bytesA [97, 32, 36, 36, 32, 98, 32, 36]] = some e12_3 := by kernel_rfl
def e12_4 : AV × List (Nat × TypeId) := (AV.tup
      [AV.sl 3
          [AV.agg
              [AV.int IntKind.i64 4, AV.str [UInt8.ofNat (↑(UInt8.toNat 97) : Int).toNat, UInt8.ofNat (↑(UInt8.toNat 32) : Int).toNat, UInt8.ofNat (↑(UInt8.toNat 98) : Int).toNat],
                AV.int IntKind.i64 0],
            AV.agg [AV.int IntKind.i64 1, AV.str [UInt8.ofNat (↑(UInt8.toNat 99) : Int).toNat], AV.int IntKind.i64 7], AV.agg [AV.int IntKind.i64 6, AV.str [], AV.int IntKind.i64 8]]
          (Own.tok 0),
        AV.sl 2 [AV.agg [AV.int IntKind.i64 6, AV.int IntKind.i64 80]] Own.no, AV.int IntKind.i64 0],
    [([AV.agg
                [AV.int IntKind.i64 4, AV.str [UInt8.ofNat (↑(UInt8.toNat 97) : Int).toNat, UInt8.ofNat (↑(UInt8.toNat 32) : Int).toNat, UInt8.ofNat (↑(UInt8.toNat 98) : Int).toNat],
                  AV.int IntKind.i64 0],
              AV.agg [AV.int IntKind.i64 1, AV.str [UInt8.ofNat (↑(UInt8.toNat 99) : Int).toNat], AV.int IntKind.i64 7]].length +
          [AV.agg [AV.int IntKind.i64 6, AV.str [], AV.int IntKind.i64 8]].length,
        34)])
set_option maxRecDepth 100000 in
theorem r7_4 (m : Int) : (evs PP (G8 m) (tbl lib8b) (fun _ => []) 200).1 7 [bytesA [34, 97, 32, 98, 34, 32, 34, 99]] = some e12_4 := by kernel_rfl
def e12_5 : AV × List (Nat × TypeId) := (AV.tup [AV.sl 3 [AV.agg [AV.int IntKind.i64 6, AV.str [], AV.int IntKind.i64 9]] (Own.tok 0), AV.sl 2 [AV.agg [AV.int IntKind.i64 0, AV.int IntKind.i64 3]] Own.no, AV.int IntKind.i64 0],
    [(0 + [AV.agg [AV.int IntKind.i64 6, AV.str [], AV.int IntKind.i64 9]].length, 34)])
set_option maxRecDepth 100000 in
theorem r7_5 (m : Int) : (evs PP (G8 m) (tbl lib8b) (fun _ => []) 200).1 7 [bytesA [48, 46, 49, 50, 51, 52, 53, 54, 55]] = some e12_5 := by kernel_rfl
def e12_6 : AV × List (Nat × TypeId) := (AV.tup
      [AV.sl 3 [AV.agg [AV.int IntKind.i64 1, AV.str [UInt8.ofNat (↑(UInt8.toNat 97) : Int).toNat], AV.int IntKind.i64 0], AV.agg [AV.int IntKind.i64 6, AV.str [], AV.int IntKind.i64 1]] (Own.tok 0),
        AV.sl 0 [] Own.nil, AV.int IntKind.i64 0],
    [([AV.agg [AV.int IntKind.i64 1, AV.str [UInt8.ofNat (↑(UInt8.toNat 97) : Int).toNat], AV.int IntKind.i64 0]].length + [AV.agg [AV.int IntKind.i64 6, AV.str [], AV.int IntKind.i64 1]].length,
        34)])
set_option maxRecDepth 100000 in
theorem r7_6 (m : Int) : (evs PP (G8 m) (tbl lib8b) (fun _ => []) 200).1 7 [bytesA [97]] = some e12_6 := by kernel_rfl
def e12_7 : AV × List (Nat × TypeId) := (AV.tup
      [AV.sl 3
          [AV.agg
              [AV.int IntKind.i64 4, AV.str [UInt8.ofNat (↑(UInt8.toNat 98) : Int).toNat, UInt8.ofNat (↑(UInt8.toNat 32) : Int).toNat, UInt8.ofNat (↑(UInt8.toNat 99) : Int).toNat],
                AV.int IntKind.i64 0],
            AV.agg [AV.int IntKind.i64 6, AV.str [], AV.int IntKind.i64 5]]
          (Own.tok 0),
        AV.sl 0 [] Own.nil, AV.int IntKind.i64 0],
    [([AV.agg
                [AV.int IntKind.i64 4, AV.str [UInt8.ofNat (↑(UInt8.toNat 98) : Int).toNat, UInt8.ofNat (↑(UInt8.toNat 32) : Int).toNat, UInt8.ofNat (↑(UInt8.toNat 99) : Int).toNat],
                  AV.int IntKind.i64 0]].length +
          [AV.agg [AV.int IntKind.i64 6, AV.str [], AV.int IntKind.i64 5]].length,
        34)])
set_option maxRecDepth 100000 in
theorem r7_7 (m : Int) : (evs PP (G8 m) (tbl lib8b) (fun _ => []) 200).1 7 [bytesA [34, 98, 32, 99, 34]] = some e12_7 := by kernel_rfl
def e12_8 : AV × List (Nat × TypeId) := (AV.tup [AV.sl 3 [AV.agg [AV.int IntKind.i64 6, AV.str [], AV.int IntKind.i64 1]] (Own.tok 0), AV.sl 2 [AV.agg [AV.int IntKind.i64 0, AV.int IntKind.i64 80]] Own.no, AV.int IntKind.i64 0],
    [(0 + [AV.agg [AV.int IntKind.i64 6, AV.str [], AV.int IntKind.i64 1]].length, 34)])
set_option maxRecDepth 100000 in
theorem r7_8 (m : Int) : (evs PP (G8 m) (tbl lib8b) (fun _ => []) 200).1 7 [bytesA [65]] = some e12_8 := by kernel_rfl
def tab7 : List (List UInt8 × (AV × List (Nat × TypeId))) := [([97, 60, 61, 49, 46, 53, 32, 35, 32, 110, 111, 116, 101], e12_0), ([120, 61, 61, 45, 49, 59], e12_1), ([49, 50, 97, 98, 32, 49, 46], e12_2), ([97, 32, 36, 36, 32, 98, 32, 36], e12_3), ([34, 97, 32, 98, 34, 32, 34, 99], e12_4), ([48, 46, 49, 50, 51, 52, 53, 54, 55], e12_5), ([97], e12_6), ([34, 98, 32, 99, 34], e12_7), ([65], e12_8)]
theorem run7 (m : Int) : ∀ p ∈ tab7, (evs PP (G8 m) (tbl lib8b) (fun _ => []) 200).1 7 [bytesA p.1] = some p.2 := by
  simp only [tab7, List.forall_mem_cons]
  exact ⟨r7_0 m, r7_1 m, r7_2 m, r7_3 m, r7_4 m, r7_5 m, r7_6 m, r7_7 m, r7_8 m, fun p h => absurd h (by simp)⟩
end Go.Abs

namespace Go.Abs
open Go.Proofs
def s7c : Spec := fun args => match args with
  | [.sl sz es .no] => if sz = 1 then match unBytes es with
    | some bs => tab7.lookup bs
    | none => none else none
  | _ => none
theorem lookup_mem {α β : Type} [BEq α] [LawfulBEq α] : ∀ {l : List (α × β)} {a : α} {b : β}, l.lookup a = some b → (a, b) ∈ l
  | [], a, b, h => by simp at h
  | (x, y) :: l, a, b, h => by
    rw [List.lookup_cons] at h
    split at h
    · rename_i e
      injection h with h
      have := eq_of_beq e
      subst this; subst h
      exact List.mem_cons_self
    · exact List.mem_cons_of_mem _ (lookup_mem h)
set_option maxRecDepth 100000 in
theorem o7c (m : Int) : SpecOk PP (G8 m) 7 s7c := spec_run mixed8 (lib8b_ok m) fun args r h => by
  unfold s7c at h
  split at h
  · rename_i sz es
    split at h
    · rename_i hs
      subst hs
      split at h
      · rename_i bs hb
        obtain rfl := unBytes_some hb
        exact ⟨200, run7 m (bs, r) (lookup_mem h)⟩
      · cases h
    · cases h
  · cases h
def lib8c : List (FuncId × Spec) := (7, s7c) :: lib8b
theorem lib8c_ok (m : Int) : CalleeOk PP (G8 m) (tbl lib8c) := tbl_cons (o7c m) (lib8b_ok m)
set_option maxRecDepth 100000 in
theorem run4 (m : Int) : (evs PP (G8 m) (tbl lib8c) (fun _ => []) 100).1 4 [] = some (.bool true, []) := by kernel_rfl
def s4 : Spec := fun args => match args with
  | [] => some (.bool true, [])
  | _ => none
theorem o4 (m : Int) : SpecOk PP (G8 m) 4 s4 := spec_run mixed8 (lib8c_ok m) fun args r h => by
  unfold s4 at h
  split at h
  · injection h with h; subst h; exact ⟨100, run4 m⟩
  · cases h
end Go.Abs

namespace Go.Abs
open Go.Proofs L8

theorem tk_at {P : Program} {t : TypeId} (ha : aggA P t = some false) {s : Nat} (hs : sizeA P t = some s) {l : List TI} {i : Nat} (h : i < l.length) :
    takeAt P t (tksL l) i 0 = some (.int .i64 l[i].kind) ∧ takeAt P t (tksL l) i 1 = some (.str l[i].text) ∧ takeAt P t (tksL l) i 2 = some (.int .i64 l[i].at_) := by
  have he : (tksL l)[i]? = some (tiA l[i]) := by simp [h]
  simp only [takeAt, he, ha, hs, takeA, tiA, AV.cells]
  exact ⟨rfl, rfl, rfl⟩
theorem agg3 : aggA PP 3 = some false := by kernel_rfl
theorem size3 : sizeA PP 3 = some 1 := by kernel_rfl
theorem agg9 : aggA PP 9 = some false := by kernel_rfl
theorem size9 : sizeA PP 9 = some 1 := by kernel_rfl
theorem tksL_length {l : List TI} : (tksL l).length = l.length := List.length_map ..
theorem all2B_len {α : Type} {p : α → α → Bool} : ∀ {l k : List α}, all2B p l k = true → l.length = k.length
  | [], [], _ => rfl
  | [], b :: k, h => by simp [all2B] at h
  | a :: l, [], h => by simp [all2B] at h
  | a :: l, b :: k, h => by
    simp only [all2B, Bool.and_eq_true] at h
    simp [all2B_len h.2]
theorem all2B_succ {α : Type} {p : α → α → Bool} : ∀ {l k : List α} {i : Nat} (h1 : i < l.length) (h2 : i < k.length), all2B p (l.take (i + 1)) (k.take (i + 1)) = (all2B p (l.take i) (k.take i) && p l[i] k[i])
  | a :: l, b :: k, 0, h1, h2 => by simp [all2B]
  | a :: l, b :: k, i + 1, h1, h2 => by
    have ih := all2B_succ (p := p) (l := l) (k := k) (i := i) (by simpa using h1) (by simpa using h2)
    simp only [List.take_succ_cons, all2B, List.getElem_cons_succ]
    rw [ih, Bool.and_assoc]
theorem all2B_at {α : Type} {p : α → α → Bool} : ∀ {l k : List α} {i : Nat} (h1 : i < l.length) (h2 : i < k.length), all2B p l k = true → p l[i] k[i] = true
  | a :: l, b :: k, 0, h1, h2, h => by simp only [all2B, Bool.and_eq_true] at h; exact h.1
  | a :: l, b :: k, i + 1, h1, h2, h => by
    simp only [all2B, Bool.and_eq_true] at h
    exact all2B_at (l := l) (k := k) (i := i) (by simpa using h1) (by simpa using h2) h.2
theorem all2B_no {α : Type} {p : α → α → Bool} {l k : List α} {i : Nat} (h1 : i < l.length) (h2 : i < k.length) (h : p l[i] k[i] = false) : all2B p l k = false := by
  cases hx : all2B p l k with
  | false => rfl
  | true => rw [all2B_at h1 h2 hx] at h; cases h
theorem p11 (m : Int) (l k : List TI) (far : Bool) (more : Int) (hl : l.length ≤ 1000000) (_hk : k.length ≤ 1000000) : PureOk PP (G8 m) XS (tbl []) (itbl []) (a11 l k far more) [] 11 [.sl 3 (tksL l) .no, .sl 3 (tksL k) .no, .bool far, .int .i64 more] (.bool (all2B (sameT far more) l k), []) := by
  constructor
  rw [w11]
  simp only [valsAre_iff, stIs_iff, retIs_iff, tksL_length, Prod.mk.injEq, AV.int.injEq, AV.bool.injEq, List.cons.injEq, and_true, true_and, decide_eq_true_eq, decide_eq_false_iff_not, beq_iff_eq, beq_eq_false_iff_ne, bne_iff_ne, bne_eq_false_iff_eq, Bool.not_eq_true', Bool.not_eq_false', Int.toNat_natCast, ne_eq]
  refine ⟨fun h => ?_, fun h => ⟨⟨0, rfl, Nat.zero_le _, by simp [all2B]⟩, fun x hx => ⟨fun hf => ⟨fun hlt => ?_, fun hge => ?_⟩, fun hf => ⟨fun hlt => ?_, fun hge => ?_⟩⟩⟩⟩
  · cases hx : all2B (sameT far more) l k with
    | false => rfl
    | true => have := all2B_len hx; omega
  · have h1 : x < l.length := by omega
    have h2 : x < k.length := by omega
    obtain ⟨k1, k2, k3⟩ := tk_at agg3 size3 h1
    obtain ⟨q1, q2, q3⟩ := tk_at agg3 size3 h2
    obtain ⟨_, t2, _⟩ := tk_at agg9 size9 h1
    obtain ⟨_, u2, _⟩ := tk_at agg9 size9 h2
    have no : sameT far more l[x] k[x] = false → all2B (sameT far more) l k = false := all2B_no h1 h2
    subst hf
    refine ⟨by omega, _, k1, by omega, _, q1, fun hc => (no (by simp [sameT, hc])).symm, fun hc => ⟨by omega, _, t2, by omega, _, u2, fun ht => (no (by simp [sameT, ht])).symm, fun ht => ⟨by omega, _, k3, by omega, _, q3, fun ha => (no (by simp [sameT, ha])).symm, fun ha => ⟨x + 1, by rw [wrap64_in (by omega) (by omega)]; exact ⟨rfl, rfl⟩, ⟨by omega, ?_⟩, by omega⟩⟩⟩⟩
    rw [all2B_succ h1 h2, hx.2]
    simp [sameT, hc, ht, ha]
  · have h1 : x = l.length := by omega
    have h2 : x = k.length := by omega
    have := hx.2
    rw [h1, List.take_length, show l.length = k.length by omega, List.take_length] at this
    exact this.symm
  · have h1 : x < l.length := by omega
    have h2 : x < k.length := by omega
    obtain ⟨k1, k2, k3⟩ := tk_at agg3 size3 h1
    obtain ⟨q1, q2, q3⟩ := tk_at agg3 size3 h2
    obtain ⟨_, t2, _⟩ := tk_at agg9 size9 h1
    obtain ⟨_, u2, _⟩ := tk_at agg9 size9 h2
    have no : sameT far more l[x] k[x] = false → all2B (sameT far more) l k = false := all2B_no h1 h2
    subst hf
    refine ⟨by omega, _, k1, by omega, _, q1, fun hc => (no (by simp [sameT, hc])).symm, fun hc => ⟨by omega, _, t2, by omega, _, u2, fun ht => (no (by simp [sameT, ht])).symm, fun ht => ⟨x + 1, by rw [wrap64_in (by omega) (by omega)]; exact ⟨rfl, rfl⟩, ⟨by omega, ?_⟩, by omega⟩⟩⟩
    rw [all2B_succ h1 h2, hx.2]
    simp [sameT, hc, ht]
  · have h1 : x = l.length := by omega
    have h2 : x = k.length := by omega
    have := hx.2
    rw [h1, List.take_length, show l.length = k.length by omega, List.take_length] at this
    exact this.symm
theorem o11 (m : Int) : SpecOk PP (G8 m) 11 s11 := spec_of (X := XS) (m := []) mixed8 tbl_nil itbl_nil fun args r h => by
  unfold s11 at h
  split at h
  · split at h
    · rename_i hsz
      obtain ⟨rfl, rfl⟩ := hsz
      split at h
      · rename_i l k h1 h2
        obtain rfl := unL_some (g := tiA) (fun _ _ => unTI_some) h1
        obtain rfl := unL_some (g := tiA) (fun _ _ => unTI_some) h2
        split at h
        · rename_i hc
          injection h with h; subst h; exact ⟨_, p11 m l k _ _ hc.1 hc.2⟩
        · cases h
      · cases h
    · cases h
  · cases h
end Go.Abs

namespace Go.Abs
open Go.Proofs L8

theorem all2B_refl {α : Type} {p : α → α → Bool} : ∀ {l : List α}, (∀ a ∈ l, p a a = true) → all2B p l l = true
  | [], _ => rfl
  | a :: l, h => by
    simp only [all2B, Bool.and_eq_true]
    exact ⟨h a List.mem_cons_self, all2B_refl fun b hb => h b (List.mem_cons_of_mem _ hb)⟩
theorem scan_ind {P : List UInt8 → Nat → Bool → Prop} (h0 : ∀ a adj, P [] a adj)
    (h1 : ∀ l a adj, l ≠ [] → P (l.drop (piece l).2.1) (a + (piece l).2.1) (adjOf l) → P l a adj) (l : List UInt8) (a : Nat) (adj : Bool) : P l a adj := by
  have key : ∀ n (l : List UInt8) a adj, l.length = n → P l a adj := by
    intro n
    induction n using Nat.strongRecOn with
    | _ n ih =>
      intro l a adj hl
      cases l with
      | nil => exact h0 a adj
      | cons c t =>
        have hp := piece_pos c t
        exact h1 (c :: t) a adj (by simp) (ih _ (by rw [← hl, List.length_drop]; simp only [List.length_cons]; omega) _ _ _ rfl)
  exact key _ l a adj rfl
theorem tkOf_at {l : List UInt8} {a : Nat} {t : Tk} (h : t ∈ tkOf l a) : t.at_ = a := by
  unfold tkOf at h
  split at h
  · simp at h; subst h; rfl
  · simp at h
theorem pbOf_at {l : List UInt8} {a : Nat} {adj : Bool} {t : Pb} (h : t ∈ pbOf l a adj) : t.at_ = a := by
  unfold pbOf at h
  split at h
  · split at h
    · simp at h
    · simp at h; subst h; rfl
  · split at h
    · simp at h
    · simp at h; subst h; rfl
theorem tkOf_len (l : List UInt8) (a : Nat) : (tkOf l a).length ≤ 1 := by unfold tkOf; split <;> simp
theorem pbOf_len (l : List UInt8) (a : Nat) (adj : Bool) : (pbOf l a adj).length ≤ 1 := by unfold pbOf; repeat' split
                                                                                           all_goals simp
structure ScanB (l : List UInt8) (a : Nat) (adj : Bool) : Prop where
  tk : ∀ t ∈ (scan l a adj).1, a ≤ t.at_ ∧ t.at_ < a + l.length
  pb : ∀ t ∈ (scan l a adj).2, a ≤ t.at_ ∧ t.at_ < a + l.length
  ltk : (scan l a adj).1.length ≤ l.length
  lpb : (scan l a adj).2.length ≤ l.length
theorem scanB (l : List UInt8) (a : Nat) (adj : Bool) : ScanB l a adj := by
  refine scan_ind (P := ScanB) (fun a adj => ?_) (fun l a adj hne ih => ?_) l a adj
  · exact ⟨by simp [scan_nil], by simp [scan_nil], by simp [scan_nil], by simp [scan_nil]⟩
  · obtain ⟨i1, i2, i3, i4⟩ := ih
    have hp : 1 ≤ (piece l).2.1 := by cases l with
      | nil => exact absurd rfl hne
      | cons c t => exact piece_pos c t
    have hle := piece_le l
    have h1 := tkOf_len l a
    have h2 := pbOf_len l a adj
    have hl : 0 < l.length := List.length_pos_iff.2 hne
    simp only [List.length_drop] at i1 i2 i3 i4
    refine ⟨fun t ht => ?_, fun t ht => ?_, ?_, ?_⟩
    · rw [scan_step hne] at ht
      rcases List.mem_append.1 ht with ht | ht
      · rw [tkOf_at ht]; omega
      · have := i1 t ht; omega
    · rw [scan_step hne] at ht
      rcases List.mem_append.1 ht with ht | ht
      · rw [pbOf_at ht]; omega
      · have := i2 t ht; omega
    · rw [scan_step hne, List.length_append]; omega
    · rw [scan_step hne, List.length_append]; omega
abbrev toksI (bs : List UInt8) : List TI := (toksL bs).map toTI
abbrev probsI (bs : List UInt8) : List PI := (probsL bs).map toPI
theorem toks_A (bs : List UInt8) : (toksL bs).map tokA = tksL (toksI bs) := by simp [tksL, toksI, tokA_ti, Function.comp_def]
theorem probs_A (bs : List UInt8) : (probsL bs).map pbA = pbsL (probsI bs) := by simp [pbsL, probsI, pbA_pi, Function.comp_def]
theorem toksI_len (bs : List UInt8) : (toksI bs).length ≤ bs.length + 1 := by
  have := (scanB bs 0 false).ltk
  simp [toksI, toksL]; omega
theorem probsI_len (bs : List UInt8) : (probsI bs).length ≤ 32 := by
  simp [probsI, probsL]; omega
theorem toksI_at {bs : List UInt8} {t : TI} (h : t ∈ toksI bs) : 0 ≤ t.at_ ∧ t.at_ ≤ bs.length := by
  simp only [toksI, toksL, List.map_append, List.mem_append, List.mem_map] at h
  rcases h with ⟨u, hu, rfl⟩ | ⟨u, hu, rfl⟩
  · have := (scanB bs 0 false).tk u hu
    simp only [toTI]; omega
  · simp at hu; subst hu; simp [toTI]
theorem same_refl {bs : List UInt8} (hl : bs.length ≤ 1000000) : all2B (sameT true 0) (toksI bs) (toksI bs) = true := all2B_refl fun t ht => by
  have := toksI_at ht
  simp only [sameT]
  rw [wrap64_in (by omega) (by omega)]
  simp
/-- what Tokens returns -/
theorem s12_ok {bs : List UInt8} (h : bs.length ≤ 16384) : s7 [bytesA bs] = some (.tup [.sl 3 (tksL (toksI bs)) .no, .sl 2 (pbsL (probsI bs)) .no, .int .i64 0], []) := by
  simp only [s7, onBytes, unBytes_mk, if_true, r7, if_pos h, tkA, badA, toks_A, probs_A]
theorem s12_no {bs : List UInt8} (h : ¬ bs.length ≤ 16384) : s7 [bytesA bs] = some (.tup [.sl 3 [] .no, .sl 2 [] .no, .int .i64 2], []) := by
  simp only [s7, onBytes, unBytes_mk, if_true, r7, if_neg h]
theorem s14_ok {l k : List TI} {far : Bool} {more : Int} (h1 : l.length ≤ 1000000) (h2 : k.length ≤ 1000000) : s11 [.sl 3 (tksL l) .no, .sl 3 (tksL k) .no, .bool far, .int .i64 more] = some (.bool (all2B (sameT far more) l k), []) := by
  simp only [s11, and_self, if_true, unTIs, if_pos (And.intro h1 h2)]
theorem s15_ok {l k : List PI} (h1 : l.length ≤ 1000000) (h2 : k.length ≤ 1000000) : s31 [.sl 2 (pbsL l) .no, .sl 2 (pbsL k) .no] = some (.bool (all2B (fun a b => decide (a = b)) l k), []) := by
  simp only [s31, and_self, if_true, unPIs, if_pos (And.intro h1 h2)]
end Go.Abs

namespace Go.Abs
open Go.Proofs L8

def srcT (t : TI) : List UInt8 := if t.kind = 4 then 34 :: (t.text ++ [34]) else t.text
def s9 : Spec := fun args => match args with
  | [.int .i64 k, .str s, .int .i64 a] => some (tiA ⟨k, s, a⟩, [])
  | _ => none
def properB (t : TI) : Bool := decide ((srcT t).length ≤ 16384) && (decide (probsI (srcT t) = []) && decide (toksI (srcT t) = [⟨t.kind, t.text, 0⟩, ⟨6, [], (srcT t).length⟩]))
def shTI1 : Sh × Option TypeId := (.val (.agg [.int .i64, .str, .int .i64]), none)
def shJoin : Sh × Option TypeId := (.tup [.one (.sl 1 .no), .one (.int .i64)], none)
def XJ : Shapes := fun f => match f with
  | 4 | 11 | 31 | 14 | 15 => some shB
  | 7 => some shToks
  | 13 => some shJoin
  | 32 => some (.val (.one .str), none)
  | 9 => some shTI1
  | _ => none
end Go.Abs

namespace Go.Abs
open Go.Proofs L8
theorem w9 (m k a : Int) (s : List UInt8) : (pureW PP (G8 m) XJ (tbl []) (itbl []) nAn [] 9 [.int .i64 k, .str s, .int .i64 a] (tiA ⟨k, s, a⟩, [])) =
(RetIs (AV.agg [AV.int IntKind.i64 k, AV.str s, AV.int IntKind.i64 a]) []
  (AV.agg
      [AV.int IntKind.i64 ({ kind := k, text := s, at_ := a } : TI).kind, AV.str ({ kind := k, text := s, at_ := a } : TI).text,
        AV.int IntKind.i64 ({ kind := k, text := s, at_ := a } : TI).at_],
    [])) := by kernel_rfl
end Go.Abs

namespace Go.Abs
open Go.Proofs L8

theorem p9 (m k a : Int) (s : List UInt8) : PureOk PP (G8 m) XJ (tbl []) (itbl []) nAn [] 9 [.int .i64 k, .str s, .int .i64 a] (tiA ⟨k, s, a⟩, []) := by
  constructor
  rw [w9]
  exact ⟨rfl⟩
theorem o9 (m : Int) : SpecOk PP (G8 m) 9 s9 := spec_of (X := XJ) (m := []) mixed8 tbl_nil itbl_nil fun args r h => by
  unfold s9 at h
  split at h
  · injection h with h; subst h; exact ⟨nAn, p9 m _ _ _⟩
  · cases h
end Go.Abs

namespace Go.Abs
open Go.Proofs L8

theorem tw_app {p : UInt8 → Bool} {c : UInt8} (hc : p c = false) (b : List UInt8) : ∀ l : List UInt8, (l ++ c :: b).takeWhile p = l.takeWhile p
  | [] => by simp [hc]
  | x :: l => by
    rw [List.cons_append, List.takeWhile_cons, List.takeWhile_cons, tw_app hc b l]
theorem drop_app {n : Nat} {l : List UInt8} (h : n ≤ l.length) (b : List UInt8) : (l ++ b).drop n = l.drop n ++ b := by
  rw [List.drop_append, show n - l.length = 0 by omega]; rfl
theorem take_app {n : Nat} {l : List UInt8} (h : n ≤ l.length) (b : List UInt8) : (l ++ b).take n = l.take n := by
  rw [List.take_append, show n - l.length = 0 by omega]; simp
/-- the digits' piece, split -/
def numP (l : List UInt8) : Int × Nat × Int :=
  match l.drop (l.takeWhile digitB).length with
  | 46 :: u =>
    if (u.takeWhile digitB).length = 0 then (2, (l.takeWhile digitB).length, intErr (l.take (l.takeWhile digitB).length))
    else (3, (l.takeWhile digitB).length + 1 + (u.takeWhile digitB).length, decErr (l.take ((l.takeWhile digitB).length + 1 + (u.takeWhile digitB).length)))
  | _ => (2, (l.takeWhile digitB).length, intErr (l.take (l.takeWhile digitB).length))
def quoP (t : List UInt8) : Int × Nat × Int :=
  match t.drop (t.takeWhile lineB).length with
  | 34 :: _ => (4, (t.takeWhile lineB).length + 2, txtErr (t.takeWhile lineB))
  | _ => (-1, 1, 80)
theorem piece_eq (c : UInt8) (t : List UInt8) : piece (c :: t) =
    if blankB c then (0, 1, 0)
    else if c == 35 then (0, 1 + (t.takeWhile (· != 10)).length, 0)
    else if letterB c then (1, 1 + (t.takeWhile innerB).length, if 24 < 1 + (t.takeWhile innerB).length then 2 else 0)
    else if digitB c then numP (c :: t)
    else if c == 34 then quoP t
    else if eqB c && (t.head?.getD 0 == 61) then (5, 2, 0)
    else if signB c then (5, 1, 0)
    else (-1, 1, 80) := by
  have e : digitB c = true → numP (c :: t) = (match (c :: t).drop (1 + (t.takeWhile digitB).length) with
      | 46 :: u =>
        if (u.takeWhile digitB).length = 0 then (2, 1 + (t.takeWhile digitB).length, intErr ((c :: t).take (1 + (t.takeWhile digitB).length)))
        else (3, 1 + (t.takeWhile digitB).length + 1 + (u.takeWhile digitB).length, decErr ((c :: t).take (1 + (t.takeWhile digitB).length + 1 + (u.takeWhile digitB).length)))
      | _ => (2, 1 + (t.takeWhile digitB).length, intErr ((c :: t).take (1 + (t.takeWhile digitB).length)))) := fun h => by
    have e1 : (c :: t).takeWhile digitB = c :: t.takeWhile digitB := by rw [List.takeWhile_cons, if_pos h]
    unfold numP
    rw [e1, List.length_cons, Nat.add_comm _ 1]
  simp only [piece]
  by_cases h1 : blankB c = true
  · rw [if_pos h1, if_pos h1]
  rw [if_neg h1, if_neg h1]
  by_cases h2 : (c == 35) = true
  · rw [if_pos h2, if_pos h2]
  rw [if_neg h2, if_neg h2]
  by_cases h3 : letterB c = true
  · rw [if_pos h3, if_pos h3]
  rw [if_neg h3, if_neg h3]
  by_cases h4 : digitB c = true
  · rw [if_pos h4, if_pos h4, e h4]
    rfl
  rw [if_neg h4, if_neg h4]
  by_cases h5 : (c == 34) = true
  · rw [if_pos h5, if_pos h5]
    rfl
  rw [if_neg h5, if_neg h5]
/-- a number followed by what does not go on -/
theorem numP_app {l : List UInt8} {c : UInt8} (h1 : digitB c = false) (h2 : c ≠ 46) (b : List UInt8) : numP (l ++ c :: b) = numP l := by
  have hle := tw_le (p := digitB) l
  unfold numP
  rw [tw_app h1 b l, drop_app hle]
  cases hd : l.drop (l.takeWhile digitB).length with
  | nil =>
    rw [List.nil_append, take_app hle]
    split
    · rename_i u he; injection he with he; exact absurd he h2
    · rfl
  | cons x u =>
    have hlen := drop_cons_lt hd
    by_cases hx : x = 46
    · subst hx
      have hu := tw_le (p := digitB) u
      simp only [List.cons_append]
      rw [tw_app h1 b u, take_app hle, take_app (by omega)]
    · simp only [List.cons_append]
      rw [take_app hle]
      split
      · rename_i he; injection he with he; exact absurd he hx
      · split
        · rename_i he; injection he with he; exact absurd he hx
        · rfl

theorem tw_take {p : UInt8 → Bool} : ∀ {l : List UInt8} {k : Nat}, (l.takeWhile p).length ≤ k → (l.take k).takeWhile p = l.takeWhile p
  | [], k, _ => by simp
  | c :: l, 0, h => by
    rw [List.takeWhile_cons] at h ⊢
    split at h
    · simp at h
    · rename_i hc; rw [if_neg hc]; rfl
  | c :: l, k + 1, h => by
    rw [List.take_succ_cons, List.takeWhile_cons, List.takeWhile_cons]
    rw [List.takeWhile_cons] at h
    split
    · rename_i hc
      rw [if_pos hc] at h
      simp only [List.length_cons] at h
      rw [tw_take (by omega)]
    · rfl
theorem tw_in {p : UInt8 → Bool} : ∀ {l : List UInt8} (b : List UInt8), (l.takeWhile p).length < l.length → (l ++ b).takeWhile p = l.takeWhile p
  | [], b, h => by simp at h
  | c :: l, b, h => by
    rw [List.cons_append, List.takeWhile_cons, List.takeWhile_cons]
    rw [List.takeWhile_cons] at h
    split
    · rename_i hc
      rw [if_pos hc] at h
      simp only [List.length_cons] at h
      rw [tw_in b (by omega)]
    · rfl
theorem take_drop' {l : List UInt8} {a k : Nat} : (l.take (a + k)).drop a = (l.drop a).take k := by
  rw [List.drop_take, show a + k - a = k by omega]
theorem numP_take {l : List UInt8} : numP (l.take (numP l).2.1) = numP l := by
  have hle := tw_le (p := digitB) l
  have key : ∀ r : Int × Nat × Int, numP l = r → numP (l.take r.2.1) = r := fun r hr => by
    have hr' := hr
    unfold numP at hr
    cases hd : l.drop (l.takeWhile digitB).length with
    | nil =>
      rw [hd] at hr
      simp only at hr
      subst hr
      have : l.take (l.takeWhile digitB).length = l := List.take_of_length_le (by
        have := congrArg List.length hd
        simp at this; omega)
      simp only [this] at hr' ⊢
      exact hr'
    | cons x u =>
      have hlen := drop_cons_lt hd
      have short : r = (2, (l.takeWhile digitB).length, intErr (l.take (l.takeWhile digitB).length)) → numP (l.take r.2.1) = r := fun e => by
        subst e
        simp only
        unfold numP
        rw [tw_take (Nat.le_refl _), List.take_take, Nat.min_self]
        have : (l.take (l.takeWhile digitB).length).drop (l.takeWhile digitB).length = [] := by
          rw [List.drop_eq_nil_iff, List.length_take]; omega
        rw [this]
      by_cases hx : x = 46
      · subst hx
        rw [hd] at hr
        simp only at hr
        by_cases hu0 : (u.takeWhile digitB).length = 0
        · rw [if_pos hu0] at hr
          exact short hr.symm
        · rw [if_neg hu0] at hr
          subst hr
          have hu := tw_le (p := digitB) u
          simp only
          unfold numP
          rw [tw_take (by omega)]
          have e1 : (l.take ((l.takeWhile digitB).length + 1 + (u.takeWhile digitB).length)).drop (l.takeWhile digitB).length = 46 :: u.take (u.takeWhile digitB).length := by
            rw [Nat.add_assoc, take_drop', hd, Nat.add_comm 1, List.take_succ_cons]
          rw [e1]
          simp only
          rw [tw_take (Nat.le_refl _), if_neg hu0, List.take_take, Nat.min_self]
      · rw [hd] at hr
        refine short ?_
        rw [← hr]
        split
        · rename_i he; injection he with he; exact absurd he hx
        · rfl
  exact key _ rfl
/-- kinds of pieces that are tokens -/
def isTk (k : Int) : Prop := k ≠ 0 ∧ k ≠ -1
theorem quoP_form (t : List UInt8) : (quoP t = (-1, 1, 80)) ∨ (∃ r, t.drop (t.takeWhile lineB).length = 34 :: r ∧ quoP t = (4, (t.takeWhile lineB).length + 2, txtErr (t.takeWhile lineB))) := by
  unfold quoP
  cases hd : t.drop (t.takeWhile lineB).length with
  | nil => exact .inl rfl
  | cons x u =>
    by_cases hx : x = 34
    · subst hx; exact .inr ⟨u, rfl, rfl⟩
    · left
      split
      · rename_i he; injection he with he; exact absurd he hx
      · rfl
theorem quoP_of {t r : List UInt8} (h : t.drop (t.takeWhile lineB).length = 34 :: r) : quoP t = (4, (t.takeWhile lineB).length + 2, txtErr (t.takeWhile lineB)) := by
  unfold quoP
  rw [h]
  rfl
theorem numP_pos {c : UInt8} {t : List UInt8} (h : digitB c = true) : 1 ≤ (numP (c :: t)).2.1 := by
  have e : (c :: t).takeWhile digitB = c :: t.takeWhile digitB := by rw [List.takeWhile_cons, if_pos h]
  unfold numP
  rw [e, List.length_cons]
  split
  · split <;> simp <;> omega
  · simp
theorem piece_take {l : List UInt8} (hk : isTk (piece l).1) : piece (l.take (piece l).2.1) = piece l := by
  cases l with
  | nil => rfl
  | cons c t =>
    have h0 := piece_eq c t
    by_cases h1 : blankB c = true
    · rw [if_pos h1] at h0
      rw [h0] at hk; exact absurd rfl hk.1
    rw [if_neg h1] at h0
    by_cases h2 : (c == 35) = true
    · rw [if_pos h2] at h0
      rw [h0] at hk; exact absurd rfl hk.1
    rw [if_neg h2] at h0
    by_cases h3 : letterB c = true
    · rw [if_pos h3] at h0
      rw [h0]
      simp only
      rw [Nat.add_comm 1, List.take_succ_cons, piece_eq, if_neg h1, if_neg h2, if_pos h3, tw_take (Nat.le_refl _), Nat.add_comm 1]
    rw [if_neg h3] at h0
    by_cases h4 : digitB c = true
    · rw [if_pos h4] at h0
      rw [h0]
      have hp := numP_pos (t := t) h4
      obtain ⟨n, hn⟩ : ∃ n, (numP (c :: t)).2.1 = n + 1 := ⟨(numP (c :: t)).2.1 - 1, by omega⟩
      have ht := numP_take (l := c :: t)
      rw [hn, List.take_succ_cons] at ht
      rw [hn, List.take_succ_cons, piece_eq, if_neg h1, if_neg h2, if_neg h3, if_pos h4, ht]
    rw [if_neg h4] at h0
    by_cases h5 : (c == 34) = true
    · rw [if_pos h5] at h0
      rcases quoP_form t with hq | ⟨r, hd, hq⟩
      · rw [h0, hq] at hk; exact absurd rfl hk.2
      · rw [h0, hq]
        simp only
        have hlen := drop_cons_lt hd
        have e1 : (t.take ((t.takeWhile lineB).length + 1)).takeWhile lineB = t.takeWhile lineB := tw_take (by omega)
        have e2 : (t.take ((t.takeWhile lineB).length + 1)).drop ((t.take ((t.takeWhile lineB).length + 1)).takeWhile lineB).length = 34 :: [] := by
          rw [e1, take_drop', hd]; rfl
        rw [show (t.takeWhile lineB).length + 2 = ((t.takeWhile lineB).length + 1) + 1 from rfl, List.take_succ_cons, piece_eq, if_neg h1, if_neg h2, if_neg h3, if_neg h4, if_pos h5, quoP_of e2, e1]
    rw [if_neg h5] at h0
    by_cases h6 : (eqB c && (t.head?.getD 0 == 61)) = true
    · rw [if_pos h6] at h0
      rw [h0]
      simp only
      have e : (t.take 1).head?.getD 0 = t.head?.getD 0 := by cases t <;> rfl
      rw [show (2 : Nat) = 1 + 1 from rfl, List.take_succ_cons, piece_eq, if_neg h1, if_neg h2, if_neg h3, if_neg h4, if_neg h5, e, if_pos h6]
    rw [if_neg h6] at h0
    by_cases h7 : signB c = true
    · rw [if_pos h7] at h0
      rw [h0]
      simp only
      have e : (eqB c && (([] : List UInt8).head?.getD 0 == 61)) = false := by simp
      rw [show (1 : Nat) = 0 + 1 from rfl, List.take_succ_cons, List.take_zero, piece_eq, if_neg h1, if_neg h2, if_neg h3, if_neg h4, if_neg h5, e, if_neg (by decide), if_pos h7]
    · rw [if_neg h7] at h0
      rw [h0] at hk; exact absurd rfl hk.2
/-- a whole token followed by a blank -/
theorem piece_sep {l : List UInt8} (hk : isTk (piece l).1) (hw : (piece l).2.1 = l.length) (b : List UInt8) : piece (l ++ 32 :: b) = piece l := by
  cases l with
  | nil => exact absurd rfl hk.1
  | cons c t =>
    have h0 := piece_eq c t
    have g0 := piece_eq c (t ++ 32 :: b)
    rw [List.cons_append]
    by_cases h1 : blankB c = true
    · rw [if_pos h1] at h0
      rw [h0] at hk; exact absurd rfl hk.1
    rw [if_neg h1] at h0 g0
    by_cases h2 : (c == 35) = true
    · rw [if_pos h2] at h0
      rw [h0] at hk; exact absurd rfl hk.1
    rw [if_neg h2] at h0 g0
    by_cases h3 : letterB c = true
    · rw [if_pos h3] at h0 g0
      rw [h0, g0, tw_app (by rfl) b t]
    rw [if_neg h3] at h0 g0
    by_cases h4 : digitB c = true
    · rw [if_pos h4] at h0 g0
      rw [h0, g0, ← List.cons_append, numP_app (by rfl) (by decide) b]
    rw [if_neg h4] at h0 g0
    by_cases h5 : (c == 34) = true
    · rw [if_pos h5] at h0 g0
      rcases quoP_form t with hq | ⟨r, hd, hq⟩
      · rw [h0, hq] at hk; exact absurd rfl hk.2
      · have hlen := drop_cons_lt hd
        have e1 : (t ++ 32 :: b).takeWhile lineB = t.takeWhile lineB := tw_in _ (by omega)
        have e2 : (t ++ 32 :: b).drop ((t ++ 32 :: b).takeWhile lineB).length = 34 :: (r ++ 32 :: b) := by
          rw [e1, drop_app (by omega), hd]; rfl
        rw [h0, g0, hq, quoP_of e2, e1]
    rw [if_neg h5] at h0 g0
    by_cases h6 : (eqB c && (t.head?.getD 0 == 61)) = true
    · rw [if_pos h6] at h0
      rw [h0] at hw
      have : t ≠ [] := by rintro rfl; simp at hw
      have e : (t ++ 32 :: b).head?.getD 0 = t.head?.getD 0 := by cases t with
        | nil => exact absurd rfl this
        | cons x t => rfl
      rw [e, if_pos h6] at g0
      rw [h0, g0]
    rw [if_neg h6] at h0
    by_cases h7 : signB c = true
    · rw [if_pos h7] at h0
      rw [h0] at hw
      have : t = [] := by simpa using hw.symm
      subst this
      have e : (eqB c && (([] ++ 32 :: b : List UInt8).head?.getD 0 == 61)) = false := by simp
      rw [e, if_neg (by decide), if_pos h7] at g0
      rw [h0, g0]
    · rw [if_neg h7] at h0
      rw [h0] at hk; exact absurd rfl hk.2
end Go.Abs

namespace Go.Abs
open Go.Proofs L8

theorem tkOf_isTk {l : List UInt8} {a : Nat} {t : Tk} (h : t ∈ tkOf l a) : isTk (piece l).1 ∧ (piece l).2.2 = 0 ∧ t = ⟨(piece l).1, txtOf l, a⟩ := by
  unfold tkOf at h
  split at h
  · rename_i hc
    simp at h
    exact ⟨⟨hc.2.2, hc.1⟩, hc.2.1, h⟩
  · simp at h
theorem numP_kind (l : List UInt8) : (numP l).1 = 2 ∨ (numP l).1 = 3 := by
  unfold numP
  split
  · split
    · exact .inl rfl
    · exact .inr rfl
  · exact .inl rfl
/-- which kinds there are; what a text looks like -/
theorem piece_kinds (l : List UInt8) : (piece l).1 = 0 ∨ (piece l).1 = -1 ∨ ((piece l).1 = 1 ∧ ∃ c t, l = c :: t ∧ letterB c = true ∧ piece l = (1, 1 + (t.takeWhile innerB).length, if 24 < 1 + (t.takeWhile innerB).length then 2 else 0)) ∨ (piece l).1 = 2 ∨ (piece l).1 = 3 ∨ (piece l).1 = 5 ∨
    (∃ t r, l = 34 :: t ∧ t.drop (t.takeWhile lineB).length = 34 :: r ∧ piece l = (4, (t.takeWhile lineB).length + 2, txtErr (t.takeWhile lineB))) := by
  cases l with
  | nil => exact .inl rfl
  | cons c t =>
    rw [piece_eq]
    by_cases h1 : blankB c = true
    · rw [if_pos h1]; exact .inl rfl
    rw [if_neg h1]
    by_cases h2 : (c == 35) = true
    · rw [if_pos h2]; exact .inl rfl
    rw [if_neg h2]
    by_cases h3 : letterB c = true
    · rw [if_pos h3]; exact .inr (.inr (.inl ⟨rfl, c, t, rfl, h3, rfl⟩))
    rw [if_neg h3]
    by_cases h4 : digitB c = true
    · rw [if_pos h4]
      rcases numP_kind (c :: t) with h | h
      · exact .inr (.inr (.inr (.inl h)))
      · exact .inr (.inr (.inr (.inr (.inl h))))
    rw [if_neg h4]
    by_cases h5 : (c == 34) = true
    · rw [if_pos h5]
      have hc : c = 34 := by simpa using h5
      subst hc
      rcases quoP_form t with hq | ⟨r, hd, hq⟩
      · rw [hq]; exact .inr (.inl rfl)
      · exact .inr (.inr (.inr (.inr (.inr (.inr ⟨t, r, rfl, hd, hq⟩)))))
    rw [if_neg h5]
    by_cases h6 : (eqB c && (t.head?.getD 0 == 61)) = true
    · rw [if_pos h6]; exact .inr (.inr (.inr (.inr (.inr (.inl rfl)))))
    rw [if_neg h6]
    by_cases h7 : signB c = true
    · rw [if_pos h7]; exact .inr (.inr (.inr (.inr (.inr (.inl rfl)))))
    · rw [if_neg h7]; exact .inr (.inl rfl)
theorem srcT_piece {l : List UInt8} {at_ : Int} (hk : isTk (piece l).1) : srcT ⟨(piece l).1, txtOf l, at_⟩ = l.take (piece l).2.1 := by
  by_cases h4 : (piece l).1 = 4
  · rcases piece_kinds l with h | h | ⟨h, _⟩ | h | h | h | ⟨t, r, hl, hd, hp⟩
    · rw [h] at h4; cases h4
    · rw [h] at h4; cases h4
    · rw [h] at h4; cases h4
    · rw [h] at h4; cases h4
    · rw [h] at h4; cases h4
    · rw [h] at h4; cases h4
    · have hlen := drop_cons_lt hd
      have e1 : t.take ((t.takeWhile lineB).length + 1) = t.takeWhile lineB ++ [34] := by
        have e0 : t.take (t.takeWhile lineB).length = t.takeWhile lineB := (List.prefix_iff_eq_take.1 (List.takeWhile_prefix lineB)).symm
        rw [List.take_add, hd, e0]
        rfl
      simp only [srcT, if_true, txtOf, hp]
      subst hl
      rw [show (t.takeWhile lineB).length + 2 = ((t.takeWhile lineB).length + 1) + 1 from rfl, List.take_succ_cons, e1]
      simp
  · show (if (piece l).1 = 4 then _ else txtOf l) = _
    rw [if_neg h4]
    unfold txtOf
    rw [if_neg h4]
theorem piece_n_pos {l : List UInt8} (h : l ≠ []) : 1 ≤ (piece l).2.1 := by
  cases l with
  | nil => exact absurd rfl h
  | cons c t => exact piece_pos c t
/-- a token stands at its place -/
theorem tok_at (l : List UInt8) (a : Nat) (adj : Bool) : ∀ t ∈ (scan l a adj).1, ∃ k, t.at_ = a + k ∧ k < l.length ∧ t ∈ tkOf (l.drop k) t.at_ := by
  refine scan_ind (P := fun l a adj => ∀ t ∈ (scan l a adj).1, ∃ k, t.at_ = a + k ∧ k < l.length ∧ t ∈ tkOf (l.drop k) t.at_) (fun a adj t ht => by simp [scan_nil] at ht) (fun l a adj hne ih t ht => ?_) l a adj
  rw [scan_step hne] at ht
  have hpos := List.length_pos_iff.2 hne
  rcases List.mem_append.1 ht with ht | ht
  · exact ⟨0, by rw [tkOf_at ht]; rfl, hpos, by rw [List.drop_zero, tkOf_at ht]; exact ht⟩
  · obtain ⟨k, h1, h2, h3⟩ := ih t ht
    rw [List.length_drop] at h2
    rw [List.drop_drop] at h3
    exact ⟨(piece l).2.1 + k, by omega, by omega, h3⟩
/-- the source of a token is this token -/
theorem tok_alone {l : List UInt8} (hk : isTk (piece l).1) (_h0 : (piece l).2.2 = 0) : piece (l.take (piece l).2.1) = piece l ∧ (piece l).2.1 = (l.take (piece l).2.1).length ∧ txtOf (l.take (piece l).2.1) = txtOf l := by
  have hle := piece_le l
  have ht := piece_take hk
  refine ⟨ht, by rw [List.length_take]; omega, ?_⟩
  simp only [txtOf, ht, List.take_take, Nat.min_self]
structure PropP (t : TI) : Prop where
  tk : isTk (piece (srcT t)).1
  kind : (piece (srcT t)).1 = t.kind
  len : (piece (srcT t)).2.1 = (srcT t).length
  ok : (piece (srcT t)).2.2 = 0
  txt : txtOf (srcT t) = t.text
theorem properP {t : TI} (h : properB t = true) : PropP t := by
  simp only [properB, Bool.and_eq_true, decide_eq_true_eq] at h
  obtain ⟨_, _, h⟩ := h
  have hne : srcT t ≠ [] := by
    intro e
    rw [e] at h
    simp [toksI, toksL, scan_nil] at h
  have h' : (scan (srcT t) 0 false).1.map toTI = [⟨t.kind, t.text, 0⟩] := by
    have e := h
    simp only [toksI, toksL, List.map_append, List.map_cons, List.map_nil, toTI] at e
    exact (List.append_inj' (t₂ := [(⟨6, [], (srcT t).length⟩ : TI)]) e rfl).1
  rw [scan_step hne] at h'
  simp only [List.map_append] at h'
  have hp := piece_n_pos hne
  cases htk : tkOf (srcT t) 0 with
  | nil =>
    rw [htk, List.map_nil, List.nil_append] at h'
    have hb := (scanB ((srcT t).drop (piece (srcT t)).2.1) (0 + (piece (srcT t)).2.1) (adjOf (srcT t))).tk
    cases hs : (scan ((srcT t).drop (piece (srcT t)).2.1) (0 + (piece (srcT t)).2.1) (adjOf (srcT t))).1 with
    | nil => rw [hs] at h'; simp at h'
    | cons u r =>
      rw [hs] at h' hb
      have h1 := hb u List.mem_cons_self
      simp only [List.map_cons, List.cons.injEq, toTI, TI.mk.injEq] at h'
      have := h'.1.2.2
      omega
  | cons u r =>
    have hu : u ∈ tkOf (srcT t) 0 := by rw [htk]; exact List.mem_cons_self
    obtain ⟨hk, h0, he⟩ := tkOf_isTk hu
    rw [htk] at h'
    simp only [List.map_cons, List.cons_append, List.cons.injEq, toTI, TI.mk.injEq] at h'
    obtain ⟨⟨k1, k2, _⟩, _⟩ := h'
    rw [he] at k1 k2
    simp only at k1 k2
    have hs := srcT_piece (at_ := t.at_) hk
    rw [k1, k2] at hs
    have hst : srcT (⟨t.kind, t.text, t.at_⟩ : TI) = srcT t := rfl
    rw [hst] at hs
    have hlen := congrArg List.length hs
    rw [List.length_take] at hlen
    have hle := piece_le (srcT t)
    exact ⟨hk, k1, by omega, h0, k2⟩
theorem scan_join {t : TI} (h : properB t = true) (r : List UInt8) (a : Nat) (adj : Bool) : scan (srcT t ++ 32 :: r) a adj = (⟨t.kind, t.text, a⟩ :: (scan (32 :: r) (a + (srcT t).length) false).1, (scan (32 :: r) (a + (srcT t).length) false).2) := by
  obtain ⟨hk, h1, h2, h3, h4⟩ := properP h
  have hp := piece_sep hk h2 r
  have htx : txtOf (srcT t ++ 32 :: r) = t.text := by
    rw [← h4]
    simp only [txtOf, hp, h2, take_app (Nat.le_refl _)]
  rw [scan_step (by simp)]
  have e1 : tkOf (srcT t ++ 32 :: r) a = [⟨t.kind, t.text, a⟩] := by
    simp only [tkOf, hp, htx]
    rw [if_pos ⟨hk.2, h3, hk.1⟩, h1]
  have e2 : pbOf (srcT t ++ 32 :: r) a adj = [] := by
    simp only [pbOf, hp]
    rw [if_neg hk.2, if_pos h3]
  have e3 : adjOf (srcT t ++ 32 :: r) = false := by
    simp only [adjOf, hp]
    exact decide_eq_false hk.2
  rw [e1, e2, e3, hp, h2, drop_app (Nat.le_refl _), List.drop_length]
  rfl
end Go.Abs

namespace Go.Abs
open Go.Proofs Go.RowKit Go.Wire
variable {E : Env} {w w' : World} {G : Glob}
end Go.Abs

namespace Go.Abs
open Go.Proofs Go.Wire
def shS : Sh × Option TypeId := (.val (.one .str), none)
abbrev vA (k n : Int) (s : List UInt8) : AV := .agg [.int .i64 k, .int .i64 n, .str s]
def printB (low : Nat) (c : UInt8) : Bool := decide (low ≤ c.toNat) && decide (c.toNat ≤ 126) && decide (c.toNat ≠ 34) && decide (c.toNat ≠ 92)
def inR (n : Int) : Bool := decide (-1152921504606846976 ≤ n ∧ n ≤ 1152921504606846976)
def fieldsB (k n : Int) (s : List UInt8) : Bool :=
  if k = 0 then decide (n = 0 ∧ s = []) else if k = 1 then decide ((n = 0 ∨ n = 1) ∧ s = []) else if k = 2 ∨ k = 3 then decide (s = []) else if k = 4 ∨ k = 5 then decide (n = 0) else false
def textB (s : List UInt8) : Bool := decide (s.length ≤ 64) && s.all (printB 32)
def keyB (s : List UInt8) : Bool := decide (s ≠ []) && decide (s.length ≤ 32) && s.all (printB 33)
def checkI (k n : Int) (s : List UInt8) : Int :=
  if fieldsB k n s = false then 1
  else if inR n = false ∨ (k = 4 ∧ 64 < s.length) ∨ (k = 5 ∧ 32 < s.length) then 2
  else if (k = 4 ∧ textB s = false) ∨ (k = 5 ∧ keyB s = false) then 3 else 0
def validB (k n : Int) (s : List UInt8) : Bool := decide (checkI k n s = 0)
/-- a bound on texts: none that a machine can hold comes near it -/
def strOk (s : List UInt8) : Prop := s.length ≤ 1000000
instance (s : List UInt8) : Decidable (strOk s) := inferInstanceAs (Decidable (_ ≤ _))
def sVal (f : Int → Int → List UInt8 → AV) : Spec := fun args => match args with
  | [.agg [.int .i64 k, .int .i64 n, .str s]] => if strOk s then some (f k n s, []) else none
  | _ => none
def s17 : Spec := sVal fun k n s => .int .i64 (checkI k n s)
def s5 : Spec := sVal fun k n s => .bool (validB k n s)
def s33 : Spec := sVal fun k n s => .bool (fieldsB k n s)
def s34 : Spec := fun args => match args with | [.int .i64 n] => some (.bool (inR n), []) | _ => none
def s35 : Spec := fun args => match args with | [.str s] => if strOk s then some (.bool (textB s), []) else none | _ => none
def s32 : Spec := fun args => match args with | [.str s] => if strOk s then some (.bool (keyB s), []) else none | _ => none
def s58 : Spec := fun args => match args with | [.str s, .int .u8 c] => if strOk s ∧ 0 ≤ c ∧ c < 256 then some (.bool (s.all (printB c.toNat)), []) else none | _ => none
def XZ : Shapes := fun f => match f with
  | 17 | 16 => some shI
  | 5 | 33 | 34 | 35 | 36 | 58 => some shB
  | _ => none
def a58 (s : List UInt8) (c : Int) : Anns := ⟨fun k => if k = 2 then some { α := Nat, slots := [0, 1, 5], nb := 0, vals := fun i => [.str s, .int .u8 c, .int .i64 i], sS := fun _ => ⟨[], []⟩, I := fun i => i ≤ s.length ∧ (s.take i).all (printB c.toNat) = true, μ := fun i => s.length - i } else none, nA⟩
def lowOf (k : Int) : Int := if k = 5 then 33 else 32
def mostOf (k : Int) : Int := if k = 5 then 32 else 64
def st12 (k n : Int) (s : List UInt8) : St := ⟨[some [.int .i64 k, .int .i64 n, .str s]], []⟩
def numK (k : Int) : Bool := decide (k = 2 ∨ k = 3)
def letK (k : Int) : Bool := decide (k = 4 ∨ k = 5)
structure Q17 (k n : Int) (s : List UInt8) : Prop where
  f : fieldsB k n s = true
  r : inR n = true
structure L12 (k n : Int) (s : List UInt8) : Prop where
  f : fieldsB k n s = true
  r : inR n = true
  k : k = 4 ∨ k = 5
structure M17 (k n : Int) (s : List UInt8) : Prop where
  q : L12 k n s
  l : (s.length : Int) ≤ mostOf k
  e : k = 5 → s ≠ []
structure I17 (k n : Int) (s : List UInt8) (i : Nat) : Prop where
  q : M17 k n s
  le : i ≤ s.length
  a : (s.take i).all (printB (lowOf k).toNat) = true
def a17 (k n : Int) (s : List UInt8) : Anns := ⟨fun q => match q with
  | 20 => some { α := Nat, slots := [1, 6, 88, 89], nb := 1, vals := fun i => [.ptr 0 0, .int .u8 (lowOf k), .int .i64 s.length, .int .i64 i], sS := fun _ => st12 k n s, I := fun i => I17 k n s i, μ := fun i => s.length - i }
  | 1000002 => some { α := Unit, slots := [1, 3], nb := 1, vals := fun _ => [.ptr 0 0, .bool (numK k)], sS := fun _ => st12 k n s, I := fun _ => True, μ := fun _ => 0, bools := [] }
  | 1000003 => some { α := Unit, slots := [1, 3, 4], nb := 1, vals := fun _ => [.ptr 0 0, .bool (numK k), .bool (letK k)], sS := fun _ => st12 k n s, I := fun _ => True, μ := fun _ => 0, bools := [3, 4] }
  | 1000010 => some { α := Unit, slots := [1, 4], nb := 1, vals := fun _ => [.ptr 0 0, .bool (letK k)], sS := fun _ => st12 k n s, I := fun _ => Q17 k n s, μ := fun _ => 0, bools := [4] }
  | 1000015 => some { α := Unit, slots := [1, 5, 6], nb := 1, vals := fun _ => [.ptr 0 0, .int .i64 (mostOf k), .int .u8 (lowOf k)], sS := fun _ => st12 k n s, I := fun _ => L12 k n s, μ := fun _ => 0 }
  | 1000019 => some { α := Unit, slots := [1, 6], nb := 1, vals := fun _ => [.ptr 0 0, .int .u8 (lowOf k)], sS := fun _ => st12 k n s, I := fun _ => M17 k n s, μ := fun _ => 0 }
  | _ => none, nA⟩
end Go.Abs

namespace Go.Abs
open Go.Proofs
theorem w33 (m k n : Int) (s : List UInt8) : (pureW PP (G8 m) XZ (tbl []) (itbl []) nAn [] 33 [vA k n s] (.bool (fieldsB k n s), [])) =
(((k == (0 : Int)) = true →
    ((n == (0 : Int)) = true →
        ((s == []) = true → RetIs (AV.bool true) [] (AV.bool (fieldsB k n s), [])) ∧
 ((s == []) = false → RetIs (AV.bool false) [] (AV.bool (fieldsB k n s), []))) ∧
      ((n == (0 : Int)) = false → RetIs (AV.bool false) [] (AV.bool (fieldsB k n s), []))) ∧
  ((k == (0 : Int)) = false →
    ((k == (1 : Int)) = true →
        ((n == (0 : Int)) = true →
 ((s == []) = true → RetIs (AV.bool true) [] (AV.bool (fieldsB k n s), [])) ∧
 ((s == []) = false → RetIs (AV.bool false) [] (AV.bool (fieldsB k n s), []))) ∧
 ((n == (0 : Int)) = false →
 ((n == (1 : Int)) = true →
 ((s == []) = true → RetIs (AV.bool true) [] (AV.bool (fieldsB k n s), [])) ∧
 ((s == []) = false → RetIs (AV.bool false) [] (AV.bool (fieldsB k n s), []))) ∧
 ((n == (1 : Int)) = false → RetIs (AV.bool false) [] (AV.bool (fieldsB k n s), [])))) ∧
      ((k == (1 : Int)) = false →
        ((k == (2 : Int)) = true →
 ((s == []) = true → RetIs (AV.bool true) [] (AV.bool (fieldsB k n s), [])) ∧
 ((s == []) = false → RetIs (AV.bool false) [] (AV.bool (fieldsB k n s), []))) ∧
 ((k == (2 : Int)) = false →
 ((k == (3 : Int)) = true →
 ((s == []) = true → RetIs (AV.bool true) [] (AV.bool (fieldsB k n s), [])) ∧
 ((s == []) = false → RetIs (AV.bool false) [] (AV.bool (fieldsB k n s), []))) ∧
 ((k == (3 : Int)) = false →
 ((k == (4 : Int)) = true →
 ((n == (0 : Int)) = true → RetIs (AV.bool true) [] (AV.bool (fieldsB k n s), [])) ∧
 ((n == (0 : Int)) = false → RetIs (AV.bool false) [] (AV.bool (fieldsB k n s), []))) ∧
 ((k == (4 : Int)) = false →
 ((k == (5 : Int)) = true →
 ((n == (0 : Int)) = true → RetIs (AV.bool true) [] (AV.bool (fieldsB k n s), [])) ∧
 ((n == (0 : Int)) = false → RetIs (AV.bool false) [] (AV.bool (fieldsB k n s), []))) ∧
 ((k == (5 : Int)) = false → RetIs (AV.bool false) [] (AV.bool (fieldsB k n s), [])))))))) := by kernel_rfl
theorem w34 (m n : Int) : (pureW PP (G8 m) XZ (tbl []) (itbl []) nAn [] 34 [.int .i64 n] (.bool (inR n), [])) =
((decide (n ≥ (-1152921504606846976 : Int)) = true →
    (decide (n ≤ (1152921504606846976 : Int)) = true → RetIs (AV.bool true) [] (AV.bool (inR n), [])) ∧
      (decide (n ≤ (1152921504606846976 : Int)) = false → RetIs (AV.bool false) [] (AV.bool (inR n), []))) ∧
  (decide (n ≥ (-1152921504606846976 : Int)) = false → RetIs (AV.bool false) [] (AV.bool (inR n), []))) := by kernel_rfl
theorem w58 (m c : Int) (s : List UInt8) : (pureW PP (G8 m) XZ (tbl []) (itbl []) (a58 s c) [] 58 [.str s, .int .u8 c] (.bool (s.all (printB c.toNat)), [])) =
((∃ (y : Nat),
    ValsAre [AV.str s, AV.int IntKind.u8 c, AV.int IntKind.i64 (0 : Int)] [AV.str s, AV.int IntKind.u8 c, AV.int IntKind.i64 (↑y : Int)] ∧
      StIs { boxes := [], live := [] } { boxes := [], live := [] } ∧ (y ≤ s.length ∧ (List.take y s).all (printB c.toNat) = true) ∧ True) ∧
  ∀ (x : Nat),
    x ≤ s.length ∧ (List.take x s).all (printB c.toNat) = true →
      (decide ((↑x : Int) < (↑s.length : Int)) = true →
 (0 : Int) ≤ (↑x : Int) ∧
 ∃ (c_1 : UInt8),
 s[(↑x : Int).toNat]? = some c_1 ∧
 (decide ((↑c_1.toNat : Int) < c) = true → RetIs (AV.bool false) [] (AV.bool (s.all (printB c.toNat)), [])) ∧
 (decide ((↑c_1.toNat : Int) < c) = false →
 (0 : Int) ≤ (↑x : Int) ∧
 ∃ (c_2 : UInt8),
 s[(↑x : Int).toNat]? = some c_2 ∧
 (decide ((↑c_2.toNat : Int) > (126 : Int)) = true → RetIs (AV.bool false) [] (AV.bool (s.all (printB c.toNat)), [])) ∧
 (decide ((↑c_2.toNat : Int) > (126 : Int)) = false →
 (0 : Int) ≤ (↑x : Int) ∧
 ∃ (c_3 : UInt8),
 s[(↑x : Int).toNat]? = some c_3 ∧
 (((↑c_3.toNat : Int) == (34 : Int)) = true → RetIs (AV.bool false) [] (AV.bool (s.all (printB c.toNat)), [])) ∧
 (((↑c_3.toNat : Int) == (34 : Int)) = false →
 (0 : Int) ≤ (↑x : Int) ∧
 ∃ (c_4 : UInt8),
 s[(↑x : Int).toNat]? = some c_4 ∧
 (((↑c_4.toNat : Int) == (92 : Int)) = true → RetIs (AV.bool false) [] (AV.bool (s.all (printB c.toNat)), [])) ∧
 (((↑c_4.toNat : Int) == (92 : Int)) = false →
 ∃ (y : Nat),
 ValsAre [AV.str s, AV.int IntKind.u8 c, AV.int IntKind.i64 (IntKind.i64.wrap ((↑x : Int) + (1 : Int)))]
 [AV.str s, AV.int IntKind.u8 c, AV.int IntKind.i64 (↑y : Int)] ∧
 StIs { boxes := [], live := [] } { boxes := [], live := [] } ∧
 (y ≤ s.length ∧ (List.take y s).all (printB c.toNat) = true) ∧ s.length - y < s.length - x))))) ∧
        (decide ((↑x : Int) < (↑s.length : Int)) = false → RetIs (AV.bool true) [] (AV.bool (s.all (printB c.toNat)), []))) := by kernel_rfl
theorem w35 (m : Int) (s : List UInt8) : (pureW PP (G8 m) XZ (tbl [(58, s58)]) (itbl []) nAn [] 35 [.str s] (.bool (textB s), [])) =
((decide ((↑s.length : Int) ≤ (64 : Int)) = true →
    ∃ (b : Bool),
      CallIs (tbl [(nat_lit 58, s58)] (nat_lit 58) [AV.str s, AV.int IntKind.u8 (32 : Int)]) (AV.bool b) [] ∧
        (b = true → RetIs (AV.bool true) [] (AV.bool (textB s), [])) ∧ (b = false → RetIs (AV.bool false) [] (AV.bool (textB s), []))) ∧
  (decide ((↑s.length : Int) ≤ (64 : Int)) = false → RetIs (AV.bool false) [] (AV.bool (textB s), []))) := by kernel_rfl
theorem w32 (m : Int) (s : List UInt8) : (pureW PP (G8 m) XZ (tbl [(58, s58)]) (itbl []) nAn [] 36 [.str s] (.bool (keyB s), [])) =
(((!s == []) = true →
    (decide ((↑s.length : Int) ≤ (32 : Int)) = true →
        ∃ (b : Bool),
 CallIs (tbl [(nat_lit 58, s58)] (nat_lit 58) [AV.str s, AV.int IntKind.u8 (33 : Int)]) (AV.bool b) [] ∧
 (b = true → RetIs (AV.bool true) [] (AV.bool (keyB s), [])) ∧ (b = false → RetIs (AV.bool false) [] (AV.bool (keyB s), []))) ∧
      (decide ((↑s.length : Int) ≤ (32 : Int)) = false → RetIs (AV.bool false) [] (AV.bool (keyB s), []))) ∧
  ((!s == []) = false → RetIs (AV.bool false) [] (AV.bool (keyB s), []))) := by kernel_rfl
theorem w16 (m k n : Int) (s : List UInt8) : (pureW PP (G8 m) XZ (tbl [(33, s33), (34, s34), (35, s35), (36, s32)]) (itbl []) nAn [] 16 [vA k n s] (.int .i64 (checkI k n s), [])) =
(∃ (b : Bool),
  CallIs
      (tbl [(nat_lit 33, s33), (nat_lit 34, s34), (nat_lit 35, s35), (nat_lit 36, s32)] (nat_lit 33)
        [AV.agg [AV.int IntKind.i64 k, AV.int IntKind.i64 n, AV.str s]])
      (AV.bool b) [] ∧
    (b = true →
        ∃ (b : Bool),
 CallIs (some (AV.bool (inR n), [])) (AV.bool b) [] ∧
 (b = true →
 ((k == (4 : Int)) = true →
 (decide ((↑s.length : Int) > (64 : Int)) = true → RetIs (AV.int IntKind.i64 (2 : Int)) [] (AV.int IntKind.i64 (checkI k n s), [])) ∧
 (decide ((↑s.length : Int) > (64 : Int)) = false →
 ((k == (5 : Int)) = true →
 (decide ((↑s.length : Int) > (32 : Int)) = true → RetIs (AV.int IntKind.i64 (2 : Int)) [] (AV.int IntKind.i64 (checkI k n s), [])) ∧
 (decide ((↑s.length : Int) > (32 : Int)) = false →
 ((k == (4 : Int)) = true →
 ∃ (b : Bool),
 CallIs (tbl [(nat_lit 33, s33), (nat_lit 34, s34), (nat_lit 35, s35), (nat_lit 36, s32)] (nat_lit 35) [AV.str s])
 (AV.bool b) [] ∧
 (b = true →
 ((k == (5 : Int)) = true →
 ∃ (b : Bool),
 CallIs
 (tbl [(nat_lit 33, s33), (nat_lit 34, s34), (nat_lit 35, s35), (nat_lit 36, s32)] (nat_lit 36) [AV.str s])
 (AV.bool b) [] ∧
 (b = true → RetIs (AV.int IntKind.i64 (0 : Int)) [] (AV.int IntKind.i64 (checkI k n s), [])) ∧
 (b = false → RetIs (AV.int IntKind.i64 (3 : Int)) [] (AV.int IntKind.i64 (checkI k n s), []))) ∧
 ((k == (5 : Int)) = false → RetIs (AV.int IntKind.i64 (0 : Int)) [] (AV.int IntKind.i64 (checkI k n s), []))) ∧
 (b = false → RetIs (AV.int IntKind.i64 (3 : Int)) [] (AV.int IntKind.i64 (checkI k n s), []))) ∧
 ((k == (4 : Int)) = false →
 ((k == (5 : Int)) = true →
 ∃ (b : Bool),
 CallIs (tbl [(nat_lit 33, s33), (nat_lit 34, s34), (nat_lit 35, s35), (nat_lit 36, s32)] (nat_lit 36) [AV.str s])
 (AV.bool b) [] ∧
 (b = true → RetIs (AV.int IntKind.i64 (0 : Int)) [] (AV.int IntKind.i64 (checkI k n s), [])) ∧
 (b = false → RetIs (AV.int IntKind.i64 (3 : Int)) [] (AV.int IntKind.i64 (checkI k n s), []))) ∧
 ((k == (5 : Int)) = false → RetIs (AV.int IntKind.i64 (0 : Int)) [] (AV.int IntKind.i64 (checkI k n s), []))))) ∧
 ((k == (5 : Int)) = false →
 ((k == (4 : Int)) = true →
 ∃ (b : Bool),
 CallIs (tbl [(nat_lit 33, s33), (nat_lit 34, s34), (nat_lit 35, s35), (nat_lit 36, s32)] (nat_lit 35) [AV.str s]) (AV.bool b)
 [] ∧
 (b = true →
 ((k == (5 : Int)) = true →
 ∃ (b : Bool),
 CallIs (tbl [(nat_lit 33, s33), (nat_lit 34, s34), (nat_lit 35, s35), (nat_lit 36, s32)] (nat_lit 36) [AV.str s])
 (AV.bool b) [] ∧
 (b = true → RetIs (AV.int IntKind.i64 (0 : Int)) [] (AV.int IntKind.i64 (checkI k n s), [])) ∧
 (b = false → RetIs (AV.int IntKind.i64 (3 : Int)) [] (AV.int IntKind.i64 (checkI k n s), []))) ∧
 ((k == (5 : Int)) = false → RetIs (AV.int IntKind.i64 (0 : Int)) [] (AV.int IntKind.i64 (checkI k n s), []))) ∧
 (b = false → RetIs (AV.int IntKind.i64 (3 : Int)) [] (AV.int IntKind.i64 (checkI k n s), []))) ∧
 ((k == (4 : Int)) = false →
 ((k == (5 : Int)) = true →
 ∃ (b : Bool),
 CallIs (tbl [(nat_lit 33, s33), (nat_lit 34, s34), (nat_lit 35, s35), (nat_lit 36, s32)] (nat_lit 36) [AV.str s])
 (AV.bool b) [] ∧
 (b = true → RetIs (AV.int IntKind.i64 (0 : Int)) [] (AV.int IntKind.i64 (checkI k n s), [])) ∧
 (b = false → RetIs (AV.int IntKind.i64 (3 : Int)) [] (AV.int IntKind.i64 (checkI k n s), []))) ∧
 ((k == (5 : Int)) = false → RetIs (AV.int IntKind.i64 (0 : Int)) [] (AV.int IntKind.i64 (checkI k n s), [])))))) ∧
 ((k == (4 : Int)) = false →
 ((k == (5 : Int)) = true →
 (decide ((↑s.length : Int) > (32 : Int)) = true → RetIs (AV.int IntKind.i64 (2 : Int)) [] (AV.int IntKind.i64 (checkI k n s), [])) ∧
 (decide ((↑s.length : Int) > (32 : Int)) = false →
 ((k == (4 : Int)) = true →
 ∃ (b : Bool),
 CallIs (tbl [(nat_lit 33, s33), (nat_lit 34, s34), (nat_lit 35, s35), (nat_lit 36, s32)] (nat_lit 35) [AV.str s]) (AV.bool b)
 [] ∧
 (b = true →
 ((k == (5 : Int)) = true →
 ∃ (b : Bool),
 CallIs (tbl [(nat_lit 33, s33), (nat_lit 34, s34), (nat_lit 35, s35), (nat_lit 36, s32)] (nat_lit 36) [AV.str s])
 (AV.bool b) [] ∧
 (b = true → RetIs (AV.int IntKind.i64 (0 : Int)) [] (AV.int IntKind.i64 (checkI k n s), [])) ∧
 (b = false → RetIs (AV.int IntKind.i64 (3 : Int)) [] (AV.int IntKind.i64 (checkI k n s), []))) ∧
 ((k == (5 : Int)) = false → RetIs (AV.int IntKind.i64 (0 : Int)) [] (AV.int IntKind.i64 (checkI k n s), []))) ∧
 (b = false → RetIs (AV.int IntKind.i64 (3 : Int)) [] (AV.int IntKind.i64 (checkI k n s), []))) ∧
 ((k == (4 : Int)) = false →
 ((k == (5 : Int)) = true →
 ∃ (b : Bool),
 CallIs (tbl [(nat_lit 33, s33), (nat_lit 34, s34), (nat_lit 35, s35), (nat_lit 36, s32)] (nat_lit 36) [AV.str s])
 (AV.bool b) [] ∧
 (b = true → RetIs (AV.int IntKind.i64 (0 : Int)) [] (AV.int IntKind.i64 (checkI k n s), [])) ∧
 (b = false → RetIs (AV.int IntKind.i64 (3 : Int)) [] (AV.int IntKind.i64 (checkI k n s), []))) ∧
 ((k == (5 : Int)) = false → RetIs (AV.int IntKind.i64 (0 : Int)) [] (AV.int IntKind.i64 (checkI k n s), []))))) ∧
 ((k == (5 : Int)) = false →
 ((k == (4 : Int)) = true →
 ∃ (b : Bool),
 CallIs (tbl [(nat_lit 33, s33), (nat_lit 34, s34), (nat_lit 35, s35), (nat_lit 36, s32)] (nat_lit 35) [AV.str s]) (AV.bool b) [] ∧
 (b = true →
 ((k == (5 : Int)) = true →
 ∃ (b : Bool),
 CallIs (tbl [(nat_lit 33, s33), (nat_lit 34, s34), (nat_lit 35, s35), (nat_lit 36, s32)] (nat_lit 36) [AV.str s])
 (AV.bool b) [] ∧
 (b = true → RetIs (AV.int IntKind.i64 (0 : Int)) [] (AV.int IntKind.i64 (checkI k n s), [])) ∧
 (b = false → RetIs (AV.int IntKind.i64 (3 : Int)) [] (AV.int IntKind.i64 (checkI k n s), []))) ∧
 ((k == (5 : Int)) = false → RetIs (AV.int IntKind.i64 (0 : Int)) [] (AV.int IntKind.i64 (checkI k n s), []))) ∧
 (b = false → RetIs (AV.int IntKind.i64 (3 : Int)) [] (AV.int IntKind.i64 (checkI k n s), []))) ∧
 ((k == (4 : Int)) = false →
 ((k == (5 : Int)) = true →
 ∃ (b : Bool),
 CallIs (tbl [(nat_lit 33, s33), (nat_lit 34, s34), (nat_lit 35, s35), (nat_lit 36, s32)] (nat_lit 36) [AV.str s]) (AV.bool b)
 [] ∧
 (b = true → RetIs (AV.int IntKind.i64 (0 : Int)) [] (AV.int IntKind.i64 (checkI k n s), [])) ∧
 (b = false → RetIs (AV.int IntKind.i64 (3 : Int)) [] (AV.int IntKind.i64 (checkI k n s), []))) ∧
 ((k == (5 : Int)) = false → RetIs (AV.int IntKind.i64 (0 : Int)) [] (AV.int IntKind.i64 (checkI k n s), [])))))) ∧
 (b = false → RetIs (AV.int IntKind.i64 (2 : Int)) [] (AV.int IntKind.i64 (checkI k n s), []))) ∧
      (b = false → RetIs (AV.int IntKind.i64 (1 : Int)) [] (AV.int IntKind.i64 (checkI k n s), []))) := by kernel_rfl
theorem w5 (m k n : Int) (s : List UInt8) : (pureW PP (G8 m) XZ (tbl [(16, s17)]) (itbl []) nAn [] 5 [vA k n s] (.bool (validB k n s), [])) =
(∃ (n_1 : Int),
  CallIs (tbl [(nat_lit 16, s17)] (nat_lit 16) [AV.agg [AV.int IntKind.i64 k, AV.int IntKind.i64 n, AV.str s]]) (AV.int IntKind.i64 n_1) [] ∧
    ((n_1 == (0 : Int)) = true → RetIs (AV.bool true) [] (AV.bool (validB k n s), [])) ∧
      ((n_1 == (0 : Int)) = false → RetIs (AV.bool false) [] (AV.bool (validB k n s), []))) := by kernel_rfl
end Go.Abs

namespace Go.Abs
open Go.Proofs
theorem w17 (m k n c : Int) (s : List UInt8) : (pureW PP (G8 m) XZ (tbl []) (itbl []) (a17 k n s) [] 17 [vA k n s] (.int .i64 c, [])) =
((((k == (2 : Int)) = true →
      ∃ (_y : Unit),
        ValsAre [AV.ptr (nat_lit 0) (nat_lit 0), AV.bool true] [AV.ptr (nat_lit 0) (nat_lit 0), AV.bool (numK k)] ∧
 StIs { boxes := [some [AV.int IntKind.i64 k, AV.int IntKind.i64 n, AV.str s]], live := [] }
 { boxes := [some [AV.int IntKind.i64 k, AV.int IntKind.i64 n, AV.str s]], live := [] } ∧
 True ∧ True) ∧
    ((k == (2 : Int)) = false →
      ((k == (3 : Int)) = true →
 ∃ (_y : Unit),
 ValsAre [AV.ptr (nat_lit 0) (nat_lit 0), AV.bool true] [AV.ptr (nat_lit 0) (nat_lit 0), AV.bool (numK k)] ∧
 StIs { boxes := [some [AV.int IntKind.i64 k, AV.int IntKind.i64 n, AV.str s]], live := [] }
 { boxes := [some [AV.int IntKind.i64 k, AV.int IntKind.i64 n, AV.str s]], live := [] } ∧
 True ∧ True) ∧
        ((k == (3 : Int)) = false →
 ∃ (_y : Unit),
 ValsAre [AV.ptr (nat_lit 0) (nat_lit 0), AV.bool false] [AV.ptr (nat_lit 0) (nat_lit 0), AV.bool (numK k)] ∧
 StIs { boxes := [some [AV.int IntKind.i64 k, AV.int IntKind.i64 n, AV.str s]], live := [] }
 { boxes := [some [AV.int IntKind.i64 k, AV.int IntKind.i64 n, AV.str s]], live := [] } ∧
 True ∧ True))) ∧
  ∀ (_x : Unit),
    True →
      True →
        (((k == (4 : Int)) = true →
 ∃ (_y : Unit),
 ValsAre [AV.ptr (nat_lit 0) (nat_lit 0), AV.bool (numK k), AV.bool true] [AV.ptr (nat_lit 0) (nat_lit 0), AV.bool (numK k), AV.bool (letK k)] ∧
 StIs { boxes := [some [AV.int IntKind.i64 k, AV.int IntKind.i64 n, AV.str s]], live := [] }
 { boxes := [some [AV.int IntKind.i64 k, AV.int IntKind.i64 n, AV.str s]], live := [] } ∧
 True ∧ True) ∧
 ((k == (4 : Int)) = false →
 ((k == (5 : Int)) = true →
 ∃ (_y : Unit),
 ValsAre [AV.ptr (nat_lit 0) (nat_lit 0), AV.bool (numK k), AV.bool true]
 [AV.ptr (nat_lit 0) (nat_lit 0), AV.bool (numK k), AV.bool (letK k)] ∧
 StIs { boxes := [some [AV.int IntKind.i64 k, AV.int IntKind.i64 n, AV.str s]], live := [] }
 { boxes := [some [AV.int IntKind.i64 k, AV.int IntKind.i64 n, AV.str s]], live := [] } ∧
 True ∧ True) ∧
 ((k == (5 : Int)) = false →
 ∃ (_y : Unit),
 ValsAre [AV.ptr (nat_lit 0) (nat_lit 0), AV.bool (numK k), AV.bool false]
 [AV.ptr (nat_lit 0) (nat_lit 0), AV.bool (numK k), AV.bool (letK k)] ∧
 StIs { boxes := [some [AV.int IntKind.i64 k, AV.int IntKind.i64 n, AV.str s]], live := [] }
 { boxes := [some [AV.int IntKind.i64 k, AV.int IntKind.i64 n, AV.str s]], live := [] } ∧
 True ∧ True))) ∧
 ∀ (_x : Unit),
 True →
 True →
 (numK k = true →
 (letK k = true →
 ((decide (k < (0 : Int)) = true → RetIs (AV.int IntKind.i64 (1 : Int)) [] (AV.int IntKind.i64 c, [])) ∧
 (decide (k < (0 : Int)) = false →
 (decide (k > (5 : Int)) = true → RetIs (AV.int IntKind.i64 (1 : Int)) [] (AV.int IntKind.i64 c, [])) ∧
 (decide (k > (5 : Int)) = false →
 (decide (n < (-1152921504606846976 : Int)) = true → RetIs (AV.int IntKind.i64 (2 : Int)) [] (AV.int IntKind.i64 c, [])) ∧
 (decide (n < (-1152921504606846976 : Int)) = false →
 (decide (n > (1152921504606846976 : Int)) = true → RetIs (AV.int IntKind.i64 (2 : Int)) [] (AV.int IntKind.i64 c, [])) ∧
 (decide (n > (1152921504606846976 : Int)) = false →
 ∃ (_y : Unit),
 ValsAre [AV.ptr (nat_lit 0) (nat_lit 0), AV.bool true] [AV.ptr (nat_lit 0) (nat_lit 0), AV.bool (letK k)] ∧
 StIs { boxes := [some [AV.int IntKind.i64 k, AV.int IntKind.i64 n, AV.str s]], live := [] }
 { boxes := [some [AV.int IntKind.i64 k, AV.int IntKind.i64 n, AV.str s]], live := [] } ∧
 Q17 k n s ∧ True))))) ∧
 ∀ (_x : Unit),
 Q17 k n s →
 True →
 (letK k = true →
 (((k == (5 : Int)) = true →
 ∃ (_y : Unit),
 ValsAre [AV.ptr (nat_lit 0) (nat_lit 0), AV.int IntKind.i64 (32 : Int), AV.int IntKind.u8 (33 : Int)]
 [AV.ptr (nat_lit 0) (nat_lit 0), AV.int IntKind.i64 (mostOf k), AV.int IntKind.u8 (lowOf k)] ∧
 StIs { boxes := [some [AV.int IntKind.i64 k, AV.int IntKind.i64 n, AV.str s]], live := [] }
 { boxes := [some [AV.int IntKind.i64 k, AV.int IntKind.i64 n, AV.str s]], live := [] } ∧
 L12 k n s ∧ True) ∧
 ((k == (5 : Int)) = false →
 ∃ (_y : Unit),
 ValsAre [AV.ptr (nat_lit 0) (nat_lit 0), AV.int IntKind.i64 (64 : Int), AV.int IntKind.u8 (32 : Int)]
 [AV.ptr (nat_lit 0) (nat_lit 0), AV.int IntKind.i64 (mostOf k), AV.int IntKind.u8 (lowOf k)] ∧
 StIs { boxes := [some [AV.int IntKind.i64 k, AV.int IntKind.i64 n, AV.str s]], live := [] }
 { boxes := [some [AV.int IntKind.i64 k, AV.int IntKind.i64 n, AV.str s]], live := [] } ∧
 L12 k n s ∧ True)) ∧
 ∀ (_x : Unit),
 L12 k n s →
 True →
 (decide ((↑s.length : Int) > mostOf k) = true →
 RetIs (AV.int IntKind.i64 (2 : Int)) [] (AV.int IntKind.i64 c, [])) ∧
 (decide ((↑s.length : Int) > mostOf k) = false →
 (((k == (5 : Int)) = true →
 ((s == []) = true → RetIs (AV.int IntKind.i64 (3 : Int)) [] (AV.int IntKind.i64 c, [])) ∧
 ((s == []) = false →
 ∃ (_y : Unit),
 ValsAre [AV.ptr (nat_lit 0) (nat_lit 0), AV.int IntKind.u8 (lowOf k)]
 [AV.ptr (nat_lit 0) (nat_lit 0), AV.int IntKind.u8 (lowOf k)] ∧
 StIs { boxes := [some [AV.int IntKind.i64 k, AV.int IntKind.i64 n, AV.str s]], live := [] }
 { boxes := [some [AV.int IntKind.i64 k, AV.int IntKind.i64 n, AV.str s]], live := [] } ∧
 M17 k n s ∧ True)) ∧
 ((k == (5 : Int)) = false →
 ∃ (_y : Unit),
 ValsAre [AV.ptr (nat_lit 0) (nat_lit 0), AV.int IntKind.u8 (lowOf k)]
 [AV.ptr (nat_lit 0) (nat_lit 0), AV.int IntKind.u8 (lowOf k)] ∧
 StIs { boxes := [some [AV.int IntKind.i64 k, AV.int IntKind.i64 n, AV.str s]], live := [] }
 { boxes := [some [AV.int IntKind.i64 k, AV.int IntKind.i64 n, AV.str s]], live := [] } ∧
 M17 k n s ∧ True)) ∧
 ∀ (_x : Unit),
 M17 k n s →
 True →
 (∃ (y : Nat),
 ValsAre
 [AV.ptr (nat_lit 0) (nat_lit 0), AV.int IntKind.u8 (lowOf k),
 AV.int IntKind.i64 (↑s.length : Int), AV.int IntKind.i64 (0 : Int)]
 [AV.ptr (nat_lit 0) (nat_lit 0), AV.int IntKind.u8 (lowOf k),
 AV.int IntKind.i64 (↑s.length : Int), AV.int IntKind.i64 (↑y : Int)] ∧
 StIs { boxes := [some [AV.int IntKind.i64 k, AV.int IntKind.i64 n, AV.str s]], live := [] }
 { boxes := [some [AV.int IntKind.i64 k, AV.int IntKind.i64 n, AV.str s]], live := [] } ∧
 I17 k n s y ∧ True) ∧
 ∀ (x : Nat),
 I17 k n s x →
 (decide ((↑x : Int) < (↑s.length : Int)) = true →
 (0 : Int) ≤ (↑x : Int) ∧
 ∃ (c_1 : UInt8),
 s[(↑x : Int).toNat]? = some c_1 ∧
 (decide ((↑c_1.toNat : Int) < lowOf k) = true →
 RetIs (AV.int IntKind.i64 (3 : Int)) [] (AV.int IntKind.i64 c, [])) ∧
 (decide ((↑c_1.toNat : Int) < lowOf k) = false →
 (decide ((↑c_1.toNat : Int) > (126 : Int)) = true →
 RetIs (AV.int IntKind.i64 (3 : Int)) [] (AV.int IntKind.i64 c, [])) ∧
 (decide ((↑c_1.toNat : Int) > (126 : Int)) = false →
 (((↑c_1.toNat : Int) == (34 : Int)) = true →
 RetIs (AV.int IntKind.i64 (3 : Int)) [] (AV.int IntKind.i64 c, [])) ∧
 (((↑c_1.toNat : Int) == (34 : Int)) = false →
 (((↑c_1.toNat : Int) == (92 : Int)) = true →
 RetIs (AV.int IntKind.i64 (3 : Int)) [] (AV.int IntKind.i64 c, [])) ∧
 (((↑c_1.toNat : Int) == (92 : Int)) = false →
 ∃ (y : Nat),
 ValsAre
 [AV.ptr (nat_lit 0) (nat_lit 0), AV.int IntKind.u8 (lowOf k),
 AV.int IntKind.i64 (↑s.length : Int),
 AV.int IntKind.i64 (IntKind.i64.wrap ((↑x : Int) + (1 : Int)))]
 [AV.ptr (nat_lit 0) (nat_lit 0), AV.int IntKind.u8 (lowOf k),
 AV.int IntKind.i64 (↑s.length : Int),
 AV.int IntKind.i64 (↑y : Int)] ∧
 StIs
 { boxes := [some [AV.int IntKind.i64 k, AV.int IntKind.i64 n, AV.str s]], live := [] }
 { boxes := [some [AV.int IntKind.i64 k, AV.int IntKind.i64 n, AV.str s]], live := [] } ∧
 I17 k n s y ∧ s.length - y < s.length - x))))) ∧
 (decide ((↑x : Int) < (↑s.length : Int)) = false →
 RetIs (AV.int IntKind.i64 (0 : Int)) [] (AV.int IntKind.i64 c, [])))) ∧
 (letK k = false → RetIs (AV.int IntKind.i64 (0 : Int)) [] (AV.int IntKind.i64 c, []))) ∧
 (letK k = false →
 ((decide (k < (0 : Int)) = true → RetIs (AV.int IntKind.i64 (1 : Int)) [] (AV.int IntKind.i64 c, [])) ∧
 (decide (k < (0 : Int)) = false →
 (decide (k > (5 : Int)) = true → RetIs (AV.int IntKind.i64 (1 : Int)) [] (AV.int IntKind.i64 c, [])) ∧
 (decide (k > (5 : Int)) = false →
 ((!s == []) = true → RetIs (AV.int IntKind.i64 (1 : Int)) [] (AV.int IntKind.i64 c, [])) ∧
 ((!s == []) = false →
 (decide (n < (-1152921504606846976 : Int)) = true → RetIs (AV.int IntKind.i64 (2 : Int)) [] (AV.int IntKind.i64 c, [])) ∧
 (decide (n < (-1152921504606846976 : Int)) = false →
 (decide (n > (1152921504606846976 : Int)) = true →
 RetIs (AV.int IntKind.i64 (2 : Int)) [] (AV.int IntKind.i64 c, [])) ∧
 (decide (n > (1152921504606846976 : Int)) = false →
 ∃ (_y : Unit),
 ValsAre [AV.ptr (nat_lit 0) (nat_lit 0), AV.bool false] [AV.ptr (nat_lit 0) (nat_lit 0), AV.bool (letK k)] ∧
 StIs { boxes := [some [AV.int IntKind.i64 k, AV.int IntKind.i64 n, AV.str s]], live := [] }
 { boxes := [some [AV.int IntKind.i64 k, AV.int IntKind.i64 n, AV.str s]], live := [] } ∧
 Q17 k n s ∧ True)))))) ∧
 ∀ (_x : Unit),
 Q17 k n s →
 True →
 (letK k = true →
 (((k == (5 : Int)) = true →
 ∃ (_y : Unit),
 ValsAre [AV.ptr (nat_lit 0) (nat_lit 0), AV.int IntKind.i64 (32 : Int), AV.int IntKind.u8 (33 : Int)]
 [AV.ptr (nat_lit 0) (nat_lit 0), AV.int IntKind.i64 (mostOf k), AV.int IntKind.u8 (lowOf k)] ∧
 StIs { boxes := [some [AV.int IntKind.i64 k, AV.int IntKind.i64 n, AV.str s]], live := [] }
 { boxes := [some [AV.int IntKind.i64 k, AV.int IntKind.i64 n, AV.str s]], live := [] } ∧
 L12 k n s ∧ True) ∧
 ((k == (5 : Int)) = false →
 ∃ (_y : Unit),
 ValsAre [AV.ptr (nat_lit 0) (nat_lit 0), AV.int IntKind.i64 (64 : Int), AV.int IntKind.u8 (32 : Int)]
 [AV.ptr (nat_lit 0) (nat_lit 0), AV.int IntKind.i64 (mostOf k), AV.int IntKind.u8 (lowOf k)] ∧
 StIs { boxes := [some [AV.int IntKind.i64 k, AV.int IntKind.i64 n, AV.str s]], live := [] }
 { boxes := [some [AV.int IntKind.i64 k, AV.int IntKind.i64 n, AV.str s]], live := [] } ∧
 L12 k n s ∧ True)) ∧
 ∀ (_x : Unit),
 L12 k n s →
 True →
 (decide ((↑s.length : Int) > mostOf k) = true →
 RetIs (AV.int IntKind.i64 (2 : Int)) [] (AV.int IntKind.i64 c, [])) ∧
 (decide ((↑s.length : Int) > mostOf k) = false →
 (((k == (5 : Int)) = true →
 ((s == []) = true → RetIs (AV.int IntKind.i64 (3 : Int)) [] (AV.int IntKind.i64 c, [])) ∧
 ((s == []) = false →
 ∃ (_y : Unit),
 ValsAre [AV.ptr (nat_lit 0) (nat_lit 0), AV.int IntKind.u8 (lowOf k)]
 [AV.ptr (nat_lit 0) (nat_lit 0), AV.int IntKind.u8 (lowOf k)] ∧
 StIs { boxes := [some [AV.int IntKind.i64 k, AV.int IntKind.i64 n, AV.str s]], live := [] }
 { boxes := [some [AV.int IntKind.i64 k, AV.int IntKind.i64 n, AV.str s]], live := [] } ∧
 M17 k n s ∧ True)) ∧
 ((k == (5 : Int)) = false →
 ∃ (_y : Unit),
 ValsAre [AV.ptr (nat_lit 0) (nat_lit 0), AV.int IntKind.u8 (lowOf k)]
 [AV.ptr (nat_lit 0) (nat_lit 0), AV.int IntKind.u8 (lowOf k)] ∧
 StIs { boxes := [some [AV.int IntKind.i64 k, AV.int IntKind.i64 n, AV.str s]], live := [] }
 { boxes := [some [AV.int IntKind.i64 k, AV.int IntKind.i64 n, AV.str s]], live := [] } ∧
 M17 k n s ∧ True)) ∧
 ∀ (_x : Unit),
 M17 k n s →
 True →
 (∃ (y : Nat),
 ValsAre
 [AV.ptr (nat_lit 0) (nat_lit 0), AV.int IntKind.u8 (lowOf k),
 AV.int IntKind.i64 (↑s.length : Int), AV.int IntKind.i64 (0 : Int)]
 [AV.ptr (nat_lit 0) (nat_lit 0), AV.int IntKind.u8 (lowOf k),
 AV.int IntKind.i64 (↑s.length : Int), AV.int IntKind.i64 (↑y : Int)] ∧
 StIs { boxes := [some [AV.int IntKind.i64 k, AV.int IntKind.i64 n, AV.str s]], live := [] }
 { boxes := [some [AV.int IntKind.i64 k, AV.int IntKind.i64 n, AV.str s]], live := [] } ∧
 I17 k n s y ∧ True) ∧
 ∀ (x : Nat),
 I17 k n s x →
 (decide ((↑x : Int) < (↑s.length : Int)) = true →
 (0 : Int) ≤ (↑x : Int) ∧
 ∃ (c_1 : UInt8),
 s[(↑x : Int).toNat]? = some c_1 ∧
 (decide ((↑c_1.toNat : Int) < lowOf k) = true →
 RetIs (AV.int IntKind.i64 (3 : Int)) [] (AV.int IntKind.i64 c, [])) ∧
 (decide ((↑c_1.toNat : Int) < lowOf k) = false →
 (decide ((↑c_1.toNat : Int) > (126 : Int)) = true →
 RetIs (AV.int IntKind.i64 (3 : Int)) [] (AV.int IntKind.i64 c, [])) ∧
 (decide ((↑c_1.toNat : Int) > (126 : Int)) = false →
 (((↑c_1.toNat : Int) == (34 : Int)) = true →
 RetIs (AV.int IntKind.i64 (3 : Int)) [] (AV.int IntKind.i64 c, [])) ∧
 (((↑c_1.toNat : Int) == (34 : Int)) = false →
 (((↑c_1.toNat : Int) == (92 : Int)) = true →
 RetIs (AV.int IntKind.i64 (3 : Int)) [] (AV.int IntKind.i64 c, [])) ∧
 (((↑c_1.toNat : Int) == (92 : Int)) = false →
 ∃ (y : Nat),
 ValsAre
 [AV.ptr (nat_lit 0) (nat_lit 0), AV.int IntKind.u8 (lowOf k),
 AV.int IntKind.i64 (↑s.length : Int),
 AV.int IntKind.i64 (IntKind.i64.wrap ((↑x : Int) + (1 : Int)))]
 [AV.ptr (nat_lit 0) (nat_lit 0), AV.int IntKind.u8 (lowOf k),
 AV.int IntKind.i64 (↑s.length : Int),
 AV.int IntKind.i64 (↑y : Int)] ∧
 StIs
 { boxes := [some [AV.int IntKind.i64 k, AV.int IntKind.i64 n, AV.str s]], live := [] }
 { boxes := [some [AV.int IntKind.i64 k, AV.int IntKind.i64 n, AV.str s]], live := [] } ∧
 I17 k n s y ∧ s.length - y < s.length - x))))) ∧
 (decide ((↑x : Int) < (↑s.length : Int)) = false →
 RetIs (AV.int IntKind.i64 (0 : Int)) [] (AV.int IntKind.i64 c, [])))) ∧
 (letK k = false → RetIs (AV.int IntKind.i64 (0 : Int)) [] (AV.int IntKind.i64 c, [])))) ∧
 (numK k = false →
 (letK k = true →
 ((decide (k < (0 : Int)) = true → RetIs (AV.int IntKind.i64 (1 : Int)) [] (AV.int IntKind.i64 c, [])) ∧
 (decide (k < (0 : Int)) = false →
 (decide (k > (5 : Int)) = true → RetIs (AV.int IntKind.i64 (1 : Int)) [] (AV.int IntKind.i64 c, [])) ∧
 (decide (k > (5 : Int)) = false →
 ((n != (0 : Int)) = true →
 ((k != (1 : Int)) = true → RetIs (AV.int IntKind.i64 (1 : Int)) [] (AV.int IntKind.i64 c, [])) ∧
 ((k != (1 : Int)) = false →
 ((n != (1 : Int)) = true → RetIs (AV.int IntKind.i64 (1 : Int)) [] (AV.int IntKind.i64 c, [])) ∧
 ((n != (1 : Int)) = false →
 (decide (n < (-1152921504606846976 : Int)) = true →
 RetIs (AV.int IntKind.i64 (2 : Int)) [] (AV.int IntKind.i64 c, [])) ∧
 (decide (n < (-1152921504606846976 : Int)) = false →
 (decide (n > (1152921504606846976 : Int)) = true →
 RetIs (AV.int IntKind.i64 (2 : Int)) [] (AV.int IntKind.i64 c, [])) ∧
 (decide (n > (1152921504606846976 : Int)) = false →
 ∃ (_y : Unit),
 ValsAre [AV.ptr (nat_lit 0) (nat_lit 0), AV.bool true]
 [AV.ptr (nat_lit 0) (nat_lit 0), AV.bool (letK k)] ∧
 StIs { boxes := [some [AV.int IntKind.i64 k, AV.int IntKind.i64 n, AV.str s]], live := [] }
 { boxes := [some [AV.int IntKind.i64 k, AV.int IntKind.i64 n, AV.str s]], live := [] } ∧
 Q17 k n s ∧ True))))) ∧
 ((n != (0 : Int)) = false →
 (decide (n < (-1152921504606846976 : Int)) = true → RetIs (AV.int IntKind.i64 (2 : Int)) [] (AV.int IntKind.i64 c, [])) ∧
 (decide (n < (-1152921504606846976 : Int)) = false →
 (decide (n > (1152921504606846976 : Int)) = true →
 RetIs (AV.int IntKind.i64 (2 : Int)) [] (AV.int IntKind.i64 c, [])) ∧
 (decide (n > (1152921504606846976 : Int)) = false →
 ∃ (_y : Unit),
 ValsAre [AV.ptr (nat_lit 0) (nat_lit 0), AV.bool true] [AV.ptr (nat_lit 0) (nat_lit 0), AV.bool (letK k)] ∧
 StIs { boxes := [some [AV.int IntKind.i64 k, AV.int IntKind.i64 n, AV.str s]], live := [] }
 { boxes := [some [AV.int IntKind.i64 k, AV.int IntKind.i64 n, AV.str s]], live := [] } ∧
 Q17 k n s ∧ True)))))) ∧
 ∀ (_x : Unit),
 Q17 k n s →
 True →
 (letK k = true →
 (((k == (5 : Int)) = true →
 ∃ (_y : Unit),
 ValsAre [AV.ptr (nat_lit 0) (nat_lit 0), AV.int IntKind.i64 (32 : Int), AV.int IntKind.u8 (33 : Int)]
 [AV.ptr (nat_lit 0) (nat_lit 0), AV.int IntKind.i64 (mostOf k), AV.int IntKind.u8 (lowOf k)] ∧
 StIs { boxes := [some [AV.int IntKind.i64 k, AV.int IntKind.i64 n, AV.str s]], live := [] }
 { boxes := [some [AV.int IntKind.i64 k, AV.int IntKind.i64 n, AV.str s]], live := [] } ∧
 L12 k n s ∧ True) ∧
 ((k == (5 : Int)) = false →
 ∃ (_y : Unit),
 ValsAre [AV.ptr (nat_lit 0) (nat_lit 0), AV.int IntKind.i64 (64 : Int), AV.int IntKind.u8 (32 : Int)]
 [AV.ptr (nat_lit 0) (nat_lit 0), AV.int IntKind.i64 (mostOf k), AV.int IntKind.u8 (lowOf k)] ∧
 StIs { boxes := [some [AV.int IntKind.i64 k, AV.int IntKind.i64 n, AV.str s]], live := [] }
 { boxes := [some [AV.int IntKind.i64 k, AV.int IntKind.i64 n, AV.str s]], live := [] } ∧
 L12 k n s ∧ True)) ∧
 ∀ (_x : Unit),
 L12 k n s →
 True →
 (decide ((↑s.length : Int) > mostOf k) = true →
 RetIs (AV.int IntKind.i64 (2 : Int)) [] (AV.int IntKind.i64 c, [])) ∧
 (decide ((↑s.length : Int) > mostOf k) = false →
 (((k == (5 : Int)) = true →
 ((s == []) = true → RetIs (AV.int IntKind.i64 (3 : Int)) [] (AV.int IntKind.i64 c, [])) ∧
 ((s == []) = false →
 ∃ (_y : Unit),
 ValsAre [AV.ptr (nat_lit 0) (nat_lit 0), AV.int IntKind.u8 (lowOf k)]
 [AV.ptr (nat_lit 0) (nat_lit 0), AV.int IntKind.u8 (lowOf k)] ∧
 StIs { boxes := [some [AV.int IntKind.i64 k, AV.int IntKind.i64 n, AV.str s]], live := [] }
 { boxes := [some [AV.int IntKind.i64 k, AV.int IntKind.i64 n, AV.str s]], live := [] } ∧
 M17 k n s ∧ True)) ∧
 ((k == (5 : Int)) = false →
 ∃ (_y : Unit),
 ValsAre [AV.ptr (nat_lit 0) (nat_lit 0), AV.int IntKind.u8 (lowOf k)]
 [AV.ptr (nat_lit 0) (nat_lit 0), AV.int IntKind.u8 (lowOf k)] ∧
 StIs { boxes := [some [AV.int IntKind.i64 k, AV.int IntKind.i64 n, AV.str s]], live := [] }
 { boxes := [some [AV.int IntKind.i64 k, AV.int IntKind.i64 n, AV.str s]], live := [] } ∧
 M17 k n s ∧ True)) ∧
 ∀ (_x : Unit),
 M17 k n s →
 True →
 (∃ (y : Nat),
 ValsAre
 [AV.ptr (nat_lit 0) (nat_lit 0), AV.int IntKind.u8 (lowOf k),
 AV.int IntKind.i64 (↑s.length : Int), AV.int IntKind.i64 (0 : Int)]
 [AV.ptr (nat_lit 0) (nat_lit 0), AV.int IntKind.u8 (lowOf k),
 AV.int IntKind.i64 (↑s.length : Int), AV.int IntKind.i64 (↑y : Int)] ∧
 StIs { boxes := [some [AV.int IntKind.i64 k, AV.int IntKind.i64 n, AV.str s]], live := [] }
 { boxes := [some [AV.int IntKind.i64 k, AV.int IntKind.i64 n, AV.str s]], live := [] } ∧
 I17 k n s y ∧ True) ∧
 ∀ (x : Nat),
 I17 k n s x →
 (decide ((↑x : Int) < (↑s.length : Int)) = true →
 (0 : Int) ≤ (↑x : Int) ∧
 ∃ (c_1 : UInt8),
 s[(↑x : Int).toNat]? = some c_1 ∧
 (decide ((↑c_1.toNat : Int) < lowOf k) = true →
 RetIs (AV.int IntKind.i64 (3 : Int)) [] (AV.int IntKind.i64 c, [])) ∧
 (decide ((↑c_1.toNat : Int) < lowOf k) = false →
 (decide ((↑c_1.toNat : Int) > (126 : Int)) = true →
 RetIs (AV.int IntKind.i64 (3 : Int)) [] (AV.int IntKind.i64 c, [])) ∧
 (decide ((↑c_1.toNat : Int) > (126 : Int)) = false →
 (((↑c_1.toNat : Int) == (34 : Int)) = true →
 RetIs (AV.int IntKind.i64 (3 : Int)) [] (AV.int IntKind.i64 c, [])) ∧
 (((↑c_1.toNat : Int) == (34 : Int)) = false →
 (((↑c_1.toNat : Int) == (92 : Int)) = true →
 RetIs (AV.int IntKind.i64 (3 : Int)) [] (AV.int IntKind.i64 c, [])) ∧
 (((↑c_1.toNat : Int) == (92 : Int)) = false →
 ∃ (y : Nat),
 ValsAre
 [AV.ptr (nat_lit 0) (nat_lit 0), AV.int IntKind.u8 (lowOf k),
 AV.int IntKind.i64 (↑s.length : Int),
 AV.int IntKind.i64 (IntKind.i64.wrap ((↑x : Int) + (1 : Int)))]
 [AV.ptr (nat_lit 0) (nat_lit 0), AV.int IntKind.u8 (lowOf k),
 AV.int IntKind.i64 (↑s.length : Int),
 AV.int IntKind.i64 (↑y : Int)] ∧
 StIs
 { boxes := [some [AV.int IntKind.i64 k, AV.int IntKind.i64 n, AV.str s]], live := [] }
 { boxes := [some [AV.int IntKind.i64 k, AV.int IntKind.i64 n, AV.str s]], live := [] } ∧
 I17 k n s y ∧ s.length - y < s.length - x))))) ∧
 (decide ((↑x : Int) < (↑s.length : Int)) = false →
 RetIs (AV.int IntKind.i64 (0 : Int)) [] (AV.int IntKind.i64 c, [])))) ∧
 (letK k = false → RetIs (AV.int IntKind.i64 (0 : Int)) [] (AV.int IntKind.i64 c, []))) ∧
 (letK k = false →
 ((decide (k < (0 : Int)) = true → RetIs (AV.int IntKind.i64 (1 : Int)) [] (AV.int IntKind.i64 c, [])) ∧
 (decide (k < (0 : Int)) = false →
 (decide (k > (5 : Int)) = true → RetIs (AV.int IntKind.i64 (1 : Int)) [] (AV.int IntKind.i64 c, [])) ∧
 (decide (k > (5 : Int)) = false →
 ((!s == []) = true → RetIs (AV.int IntKind.i64 (1 : Int)) [] (AV.int IntKind.i64 c, [])) ∧
 ((!s == []) = false →
 ((n != (0 : Int)) = true →
 ((k != (1 : Int)) = true → RetIs (AV.int IntKind.i64 (1 : Int)) [] (AV.int IntKind.i64 c, [])) ∧
 ((k != (1 : Int)) = false →
 ((n != (1 : Int)) = true → RetIs (AV.int IntKind.i64 (1 : Int)) [] (AV.int IntKind.i64 c, [])) ∧
 ((n != (1 : Int)) = false →
 (decide (n < (-1152921504606846976 : Int)) = true →
 RetIs (AV.int IntKind.i64 (2 : Int)) [] (AV.int IntKind.i64 c, [])) ∧
 (decide (n < (-1152921504606846976 : Int)) = false →
 (decide (n > (1152921504606846976 : Int)) = true →
 RetIs (AV.int IntKind.i64 (2 : Int)) [] (AV.int IntKind.i64 c, [])) ∧
 (decide (n > (1152921504606846976 : Int)) = false →
 ∃ (_y : Unit),
 ValsAre [AV.ptr (nat_lit 0) (nat_lit 0), AV.bool false]
 [AV.ptr (nat_lit 0) (nat_lit 0), AV.bool (letK k)] ∧
 StIs { boxes := [some [AV.int IntKind.i64 k, AV.int IntKind.i64 n, AV.str s]], live := [] }
 { boxes := [some [AV.int IntKind.i64 k, AV.int IntKind.i64 n, AV.str s]], live := [] } ∧
 Q17 k n s ∧ True))))) ∧
 ((n != (0 : Int)) = false →
 (decide (n < (-1152921504606846976 : Int)) = true →
 RetIs (AV.int IntKind.i64 (2 : Int)) [] (AV.int IntKind.i64 c, [])) ∧
 (decide (n < (-1152921504606846976 : Int)) = false →
 (decide (n > (1152921504606846976 : Int)) = true →
 RetIs (AV.int IntKind.i64 (2 : Int)) [] (AV.int IntKind.i64 c, [])) ∧
 (decide (n > (1152921504606846976 : Int)) = false →
 ∃ (_y : Unit),
 ValsAre [AV.ptr (nat_lit 0) (nat_lit 0), AV.bool false] [AV.ptr (nat_lit 0) (nat_lit 0), AV.bool (letK k)] ∧
 StIs { boxes := [some [AV.int IntKind.i64 k, AV.int IntKind.i64 n, AV.str s]], live := [] }
 { boxes := [some [AV.int IntKind.i64 k, AV.int IntKind.i64 n, AV.str s]], live := [] } ∧
 Q17 k n s ∧ True))))))) ∧
 ∀ (_x : Unit),
 Q17 k n s →
 True →
 (letK k = true →
 (((k == (5 : Int)) = true →
 ∃ (_y : Unit),
 ValsAre [AV.ptr (nat_lit 0) (nat_lit 0), AV.int IntKind.i64 (32 : Int), AV.int IntKind.u8 (33 : Int)]
 [AV.ptr (nat_lit 0) (nat_lit 0), AV.int IntKind.i64 (mostOf k), AV.int IntKind.u8 (lowOf k)] ∧
 StIs { boxes := [some [AV.int IntKind.i64 k, AV.int IntKind.i64 n, AV.str s]], live := [] }
 { boxes := [some [AV.int IntKind.i64 k, AV.int IntKind.i64 n, AV.str s]], live := [] } ∧
 L12 k n s ∧ True) ∧
 ((k == (5 : Int)) = false →
 ∃ (_y : Unit),
 ValsAre [AV.ptr (nat_lit 0) (nat_lit 0), AV.int IntKind.i64 (64 : Int), AV.int IntKind.u8 (32 : Int)]
 [AV.ptr (nat_lit 0) (nat_lit 0), AV.int IntKind.i64 (mostOf k), AV.int IntKind.u8 (lowOf k)] ∧
 StIs { boxes := [some [AV.int IntKind.i64 k, AV.int IntKind.i64 n, AV.str s]], live := [] }
 { boxes := [some [AV.int IntKind.i64 k, AV.int IntKind.i64 n, AV.str s]], live := [] } ∧
 L12 k n s ∧ True)) ∧
 ∀ (_x : Unit),
 L12 k n s →
 True →
 (decide ((↑s.length : Int) > mostOf k) = true →
 RetIs (AV.int IntKind.i64 (2 : Int)) [] (AV.int IntKind.i64 c, [])) ∧
 (decide ((↑s.length : Int) > mostOf k) = false →
 (((k == (5 : Int)) = true →
 ((s == []) = true → RetIs (AV.int IntKind.i64 (3 : Int)) [] (AV.int IntKind.i64 c, [])) ∧
 ((s == []) = false →
 ∃ (_y : Unit),
 ValsAre [AV.ptr (nat_lit 0) (nat_lit 0), AV.int IntKind.u8 (lowOf k)]
 [AV.ptr (nat_lit 0) (nat_lit 0), AV.int IntKind.u8 (lowOf k)] ∧
 StIs { boxes := [some [AV.int IntKind.i64 k, AV.int IntKind.i64 n, AV.str s]], live := [] }
 { boxes := [some [AV.int IntKind.i64 k, AV.int IntKind.i64 n, AV.str s]], live := [] } ∧
 M17 k n s ∧ True)) ∧
 ((k == (5 : Int)) = false →
 ∃ (_y : Unit),
 ValsAre [AV.ptr (nat_lit 0) (nat_lit 0), AV.int IntKind.u8 (lowOf k)]
 [AV.ptr (nat_lit 0) (nat_lit 0), AV.int IntKind.u8 (lowOf k)] ∧
 StIs { boxes := [some [AV.int IntKind.i64 k, AV.int IntKind.i64 n, AV.str s]], live := [] }
 { boxes := [some [AV.int IntKind.i64 k, AV.int IntKind.i64 n, AV.str s]], live := [] } ∧
 M17 k n s ∧ True)) ∧
 ∀ (_x : Unit),
 M17 k n s →
 True →
 (∃ (y : Nat),
 ValsAre
 [AV.ptr (nat_lit 0) (nat_lit 0), AV.int IntKind.u8 (lowOf k),
 AV.int IntKind.i64 (↑s.length : Int), AV.int IntKind.i64 (0 : Int)]
 [AV.ptr (nat_lit 0) (nat_lit 0), AV.int IntKind.u8 (lowOf k),
 AV.int IntKind.i64 (↑s.length : Int), AV.int IntKind.i64 (↑y : Int)] ∧
 StIs { boxes := [some [AV.int IntKind.i64 k, AV.int IntKind.i64 n, AV.str s]], live := [] }
 { boxes := [some [AV.int IntKind.i64 k, AV.int IntKind.i64 n, AV.str s]], live := [] } ∧
 I17 k n s y ∧ True) ∧
 ∀ (x : Nat),
 I17 k n s x →
 (decide ((↑x : Int) < (↑s.length : Int)) = true →
 (0 : Int) ≤ (↑x : Int) ∧
 ∃ (c_1 : UInt8),
 s[(↑x : Int).toNat]? = some c_1 ∧
 (decide ((↑c_1.toNat : Int) < lowOf k) = true →
 RetIs (AV.int IntKind.i64 (3 : Int)) [] (AV.int IntKind.i64 c, [])) ∧
 (decide ((↑c_1.toNat : Int) < lowOf k) = false →
 (decide ((↑c_1.toNat : Int) > (126 : Int)) = true →
 RetIs (AV.int IntKind.i64 (3 : Int)) [] (AV.int IntKind.i64 c, [])) ∧
 (decide ((↑c_1.toNat : Int) > (126 : Int)) = false →
 (((↑c_1.toNat : Int) == (34 : Int)) = true →
 RetIs (AV.int IntKind.i64 (3 : Int)) [] (AV.int IntKind.i64 c, [])) ∧
 (((↑c_1.toNat : Int) == (34 : Int)) = false →
 (((↑c_1.toNat : Int) == (92 : Int)) = true →
 RetIs (AV.int IntKind.i64 (3 : Int)) [] (AV.int IntKind.i64 c, [])) ∧
 (((↑c_1.toNat : Int) == (92 : Int)) = false →
 ∃ (y : Nat),
 ValsAre
 [AV.ptr (nat_lit 0) (nat_lit 0), AV.int IntKind.u8 (lowOf k),
 AV.int IntKind.i64 (↑s.length : Int),
 AV.int IntKind.i64 (IntKind.i64.wrap ((↑x : Int) + (1 : Int)))]
 [AV.ptr (nat_lit 0) (nat_lit 0), AV.int IntKind.u8 (lowOf k),
 AV.int IntKind.i64 (↑s.length : Int),
 AV.int IntKind.i64 (↑y : Int)] ∧
 StIs
 { boxes := [some [AV.int IntKind.i64 k, AV.int IntKind.i64 n, AV.str s]], live := [] }
 { boxes := [some [AV.int IntKind.i64 k, AV.int IntKind.i64 n, AV.str s]], live := [] } ∧
 I17 k n s y ∧ s.length - y < s.length - x))))) ∧
 (decide ((↑x : Int) < (↑s.length : Int)) = false →
 RetIs (AV.int IntKind.i64 (0 : Int)) [] (AV.int IntKind.i64 c, [])))) ∧
 (letK k = false → RetIs (AV.int IntKind.i64 (0 : Int)) [] (AV.int IntKind.i64 c, []))))) := by kernel_rfl
end Go.Abs

namespace Go.Abs
open Go.Proofs
theorem p33 (m k n : Int) (s : List UInt8) : PureOk PP (G8 m) XZ (tbl []) (itbl []) nAn [] 33 [vA k n s] (.bool (fieldsB k n s), []) := by
  constructor
  rw [w33]
  simp only [retIs_iff, Prod.mk.injEq, AV.bool.injEq, and_true, fieldsB, beq_iff_eq, beq_eq_false_iff_ne, ne_eq]
  repeat' (first | refine And.intro ?_ ?_ | intro _)
  all_goals (try subst_vars)
  all_goals (simp [*] <;> trace_state <;> omega)
theorem p34 (m n : Int) : PureOk PP (G8 m) XZ (tbl []) (itbl []) nAn [] 34 [.int .i64 n] (.bool (inR n), []) := by
  constructor
  rw [w34]
  simp only [retIs_iff, Prod.mk.injEq, AV.bool.injEq, and_true, inR, decide_eq_true_eq, decide_eq_false_iff_not, ge_iff_le]
  refine ⟨fun h => ⟨fun h2 => (decide_eq_true (by omega)).symm, fun h2 => (decide_eq_false (by omega)).symm⟩, fun h => (decide_eq_false (by omega)).symm⟩
theorem all_take_succ {p : UInt8 → Bool} {s : List UInt8} {i : Nat} (h : i < s.length) : (s.take (i + 1)).all p = ((s.take i).all p && p s[i]) := by
  rw [List.take_succ_eq_append_getElem h, List.all_append]; simp
theorem all_false_at {p : UInt8 → Bool} {s : List UInt8} {i : Nat} (h : i < s.length) (hp : p s[i] = false) : s.all p = false := by
  rw [List.all_eq_false]; exact ⟨_, List.getElem_mem h, by simpa using hp⟩
theorem p58 (m c : Int) (s : List UInt8) (hs : strOk s) (h0 : 0 ≤ c) (h1 : c < 256) : PureOk PP (G8 m) XZ (tbl []) (itbl []) (a58 s c) [] 58 [.str s, .int .u8 c] (.bool (s.all (printB c.toNat)), []) := by
  have hs' : s.length ≤ 1000000 := hs
  constructor
  rw [w58]
  simp only [valsAre_iff, stIs_iff, retIs_iff, Prod.mk.injEq, AV.bool.injEq, AV.int.injEq, List.cons.injEq, and_true, true_and, decide_eq_true_eq, decide_eq_false_iff_not, beq_iff_eq, beq_eq_false_iff_ne, ne_eq, Int.toNat_natCast, gt_iff_lt]
  refine ⟨⟨0, rfl, by simp, by simp⟩, fun i hi => ⟨fun h => ?_, fun h => ?_⟩⟩
  · have hlt : i < s.length := by omega
    have hc := s[i].toNat_lt
    have hp : printB c.toNat s[i] = decide (c ≤ (s[i].toNat : Int) ∧ (s[i].toNat : Int) ≤ 126 ∧ (s[i].toNat : Int) ≠ 34 ∧ (s[i].toNat : Int) ≠ 92) := by
      unfold printB
      rw [Bool.eq_iff_iff]
      simp only [Bool.and_eq_true, decide_eq_true_eq]
      omega
    have key : ¬ (c ≤ (s[i].toNat : Int) ∧ (s[i].toNat : Int) ≤ 126 ∧ (s[i].toNat : Int) ≠ 34 ∧ (s[i].toNat : Int) ≠ 92) → false = s.all (printB c.toNat) := fun hn =>
      (all_false_at hlt (by rw [hp]; exact decide_eq_false hn)).symm
    refine ⟨by omega, s[i], List.getElem?_eq_getElem hlt, fun h2 => key (by omega), fun h2 => ⟨by omega, s[i], List.getElem?_eq_getElem hlt, fun h3 => key (by omega), fun h3 => ⟨by omega, s[i], List.getElem?_eq_getElem hlt, fun h4 => key (by omega), fun h4 => ⟨by omega, s[i], List.getElem?_eq_getElem hlt, fun h5 => key (by omega), fun h5 => ?_⟩⟩⟩⟩
    refine ⟨i + 1, ?_, ⟨by omega, ?_⟩, by omega⟩
    · rw [wrap64_in (by omega) (by omega)]; omega
    · rw [all_take_succ hlt, hi.2, hp]; simp; omega
  · have : s.take i = s := List.take_of_length_le (by omega)
    rw [← hi.2, this]
theorem p35 (m : Int) (s : List UInt8) (hs : strOk s) : PureOk PP (G8 m) XZ (tbl [(58, s58)]) (itbl []) nAn [] 35 [.str s] (.bool (textB s), []) := by
  constructor
  rw [w35]
  have t : tbl [(58, s58)] 58 [.str s, .int .u8 32] = some (.bool (s.all (printB 32)), []) := by rw [tbl_hit]; simp only [s58]; rw [if_pos ⟨hs, by omega, by omega⟩]; rfl
  simp only [t, callIs_iff, retIs_iff, Option.some.injEq, Prod.mk.injEq, AV.bool.injEq, and_true, exists_eq_left', decide_eq_true_eq, decide_eq_false_iff_not]
  unfold textB
  refine ⟨fun h => ⟨fun h2 => ?_, fun h2 => ?_⟩, fun h => ?_⟩
  · rw [h2, decide_eq_true (by omega)]; rfl
  · rw [h2, Bool.and_false]
  · rw [decide_eq_false (by omega)]; rfl
theorem p36 (m : Int) (s : List UInt8) (hs : strOk s) : PureOk PP (G8 m) XZ (tbl [(58, s58)]) (itbl []) nAn [] 36 [.str s] (.bool (keyB s), []) := by
  constructor
  rw [w32]
  have t : tbl [(58, s58)] 58 [.str s, .int .u8 33] = some (.bool (s.all (printB 33)), []) := by rw [tbl_hit]; simp only [s58]; rw [if_pos ⟨hs, by omega, by omega⟩]; rfl
  simp only [t, callIs_iff, retIs_iff, Option.some.injEq, Prod.mk.injEq, AV.bool.injEq, and_true, exists_eq_left', decide_eq_true_eq, decide_eq_false_iff_not, Bool.not_eq_true', Bool.not_eq_false', beq_iff_eq, beq_eq_false_iff_ne, ne_eq]
  unfold keyB
  refine ⟨fun h0 => ⟨fun h => ⟨fun h2 => ?_, fun h2 => ?_⟩, fun h => ?_⟩, fun h0 => ?_⟩
  · rw [h2, decide_eq_true (p := s.length ≤ 32) (by omega), decide_eq_true (p := s ≠ []) h0]; rfl
  · rw [h2, Bool.and_false]
  · rw [decide_eq_false (p := s.length ≤ 32) (by omega), Bool.and_false]; rfl
  · rw [decide_eq_false (by simpa using h0)]; rfl
set_option maxHeartbeats 1000000 in
theorem p16 (m k n : Int) (s : List UInt8) (hs : strOk s) : PureOk PP (G8 m) XZ (tbl [(33, s33), (34, s34), (35, s35), (36, s32)]) (itbl []) nAn [] 16 [vA k n s] (.int .i64 (checkI k n s), []) := by
  constructor
  rw [w16]
  have t29 : tbl [(33, s33), (34, s34), (35, s35), (36, s32)] 33 [vA k n s] = some (.bool (fieldsB k n s), []) := by rw [tbl_hit]; simp only [s33, sVal]; rw [if_pos hs]
  have t31 : tbl [(33, s33), (34, s34), (35, s35), (36, s32)] 35 [.str s] = some (.bool (textB s), []) := by rw [tbl_miss (by decide), tbl_miss (by decide), tbl_hit]; simp only [s35]; rw [if_pos hs]
  have t32 : tbl [(33, s33), (34, s34), (35, s35), (36, s32)] 36 [.str s] = some (.bool (keyB s), []) := by rw [tbl_miss (by decide), tbl_miss (by decide), tbl_miss (by decide), tbl_hit]; simp only [s32]; rw [if_pos hs]
  simp only [t29, t31, t32, callIs_iff, retIs_iff, Option.some.injEq, Prod.mk.injEq, AV.bool.injEq, AV.int.injEq, and_true, true_and, exists_eq_left', decide_eq_true_eq, decide_eq_false_iff_not, beq_iff_eq, beq_eq_false_iff_ne, ne_eq, gt_iff_lt]
  unfold checkI
  generalize fieldsB k n s = F
  generalize inR n = R
  generalize textB s = T
  generalize keyB s = K
  generalize s.length = L
  cases F <;> cases R <;> cases T <;> cases K <;> by_cases h4 : k = 4 <;> by_cases h5 : k = 5 <;> simp [*] <;> omega
theorem p5 (m k n : Int) (s : List UInt8) (hs : strOk s) : PureOk PP (G8 m) XZ (tbl [(16, s17)]) (itbl []) nAn [] 5 [vA k n s] (.bool (validB k n s), []) := by
  constructor
  rw [w5]
  have t : tbl [(16, s17)] 16 [vA k n s] = some (.int .i64 (checkI k n s), []) := by rw [tbl_hit]; simp only [s17, sVal]; rw [if_pos hs]
  simp only [t, callIs_iff, retIs_iff, Option.some.injEq, Prod.mk.injEq, AV.bool.injEq, AV.int.injEq, and_true, true_and, exists_eq_left', beq_iff_eq, beq_eq_false_iff_ne, ne_eq, validB]
  exact ⟨fun h => (decide_eq_true h).symm, fun h => (decide_eq_false h).symm⟩
theorem checkI_num {k n : Int} {s : List UInt8} (h : ¬ (k = 4 ∨ k = 5)) (hf : fieldsB k n s = true) (hr : inR n = true) : checkI k n s = 0 := by
  unfold checkI
  rw [if_neg (by simp [hf]), if_neg (by simp [hr]; omega), if_neg (by omega)]
theorem p17 (m k n : Int) (s : List UInt8) (hs : strOk s) : PureOk PP (G8 m) XZ (tbl []) (itbl []) (a17 k n s) [] 17 [vA k n s] (.int .i64 (checkI k n s), []) := by
  have hs' : s.length ≤ 1000000 := hs
  constructor
  generalize hc : checkI k n s = c
  rw [w17]
  have e0 : s = [] ↔ s.length = 0 := ⟨fun h => by rw [h]; rfl, List.eq_nil_of_length_eq_zero⟩
  have h1 : k < 0 ∨ 5 < k → 1 = c := fun h => by rw [← hc]; unfold checkI fieldsB; rw [if_pos]; rw [if_neg (by omega), if_neg (by omega), if_neg (by omega), if_neg (by omega)]
  have h2 : letK k = false → s ≠ [] → 1 = c := fun h h' => by
    have : ¬ (k = 4 ∨ k = 5) := by simpa [letK] using h
    rw [← hc]; unfold checkI fieldsB; rw [if_pos]; simp [h']; omega
  have h3 : numK k = false → n ≠ 0 → k ≠ 1 ∨ n ≠ 1 → 1 = c := fun h h' h3 => by
    have : ¬ (k = 2 ∨ k = 3) := by simpa [numK] using h
    rw [← hc]; unfold checkI fieldsB; rw [if_pos]; simp [h', this]; omega
  have hfld : ¬ (k < 0) → ¬ (5 < k) → (letK k = false → s = []) → (numK k = false → n = 0 ∨ (k = 1 ∧ n = 1)) → fieldsB k n s = true := fun a b d e => by
    unfold fieldsB letK numK at *
    simp only [decide_eq_false_iff_not] at d e
    by_cases k0 : k = 0
    · rw [if_pos k0]; simp; exact ⟨by omega, d (by omega)⟩
    by_cases k1 : k = 1
    · rw [if_neg k0, if_pos k1]; simp; exact ⟨by omega, d (by omega)⟩
    by_cases k2 : k = 2 ∨ k = 3
    · rw [if_neg k0, if_neg k1, if_pos k2]; simp; exact d (by omega)
    rw [if_neg k0, if_neg k1, if_neg k2, if_pos (by omega)]; simp; omega
  have h4 : fieldsB k n s = true → (n < -1152921504606846976 ∨ 1152921504606846976 < n) → 2 = c := fun a b => by
    rw [← hc]; unfold checkI inR; rw [if_neg (by simp [a]), if_pos]; left; simp; omega
  have h5 : fieldsB k n s = true → inR n = true → letK k = false → 0 = c := fun a b d => by
    rw [← hc, checkI_num (by simpa [letK] using d) a b]
  have h6 : L12 k n s → mostOf k < s.length → 2 = c := fun q l => by
    obtain ⟨a, b, d⟩ := q
    rw [← hc]; unfold checkI; rw [if_neg (by simp [a]), if_pos]
    unfold mostOf at l
    rcases d with d | d
    · rw [if_neg (by omega)] at l; omega
    · rw [if_pos d] at l; omega
  have h7 : L12 k n s → (s.length : Int) ≤ mostOf k → k = 5 → s = [] → 3 = c := fun q l hk he => by
    obtain ⟨a, b, d⟩ := q
    rw [← hc]; unfold checkI; rw [if_neg (by simp [a]), if_neg, if_pos]
    · right; refine ⟨hk, ?_⟩; unfold keyB; rw [he]; rfl
    · simp [b, he]
  have bad : ∀ i (h : i < s.length), M17 k n s → printB (lowOf k).toNat s[i] = false → 3 = c := fun i h q hp => by
    obtain ⟨⟨a, b, d⟩, l, e⟩ := q
    have hall := all_false_at h hp
    unfold mostOf at l
    rw [← hc]; unfold checkI; rw [if_neg (by simp [a]), if_neg, if_pos]
    · unfold lowOf at hall
      rcases d with d | d
      · left; refine ⟨d, ?_⟩; rw [if_neg (by omega)] at hall; unfold textB; simp only [Int.reduceToNat] at hall; rw [hall, Bool.and_false]
      · right; refine ⟨d, ?_⟩; rw [if_pos d] at hall; unfold keyB; simp only [Int.reduceToNat] at hall; rw [hall, Bool.and_false]
    · simp only [b, Bool.true_eq_false, false_or]
      split at l <;> omega
  have good : M17 k n s → s.all (printB (lowOf k).toNat) = true → 0 = c := fun q hall => by
    obtain ⟨⟨a, b, d⟩, l, e⟩ := q
    unfold mostOf at l
    rw [← hc]; unfold checkI; rw [if_neg (by simp [a]), if_neg, if_neg]
    · unfold lowOf at hall
      rcases d with d | d
      · rw [if_neg (by omega)] at hall; rw [if_neg (by omega)] at l; simp only [Int.reduceToNat] at hall; unfold textB; rw [hall, decide_eq_true (by omega)]; simp; omega
      · rw [if_pos d] at hall; rw [if_pos d] at l; simp only [Int.reduceToNat] at hall; unfold keyB; rw [hall, decide_eq_true (p := s.length ≤ 32) (by omega), decide_eq_true (p := s ≠ []) (e d)]; simp; omega
    · simp only [b, Bool.true_eq_false, false_or]
      split at l <;> omega
  simp only [valsAre_iff, stIs_iff, retIs_iff, Prod.mk.injEq, AV.bool.injEq, AV.int.injEq, List.cons.injEq, and_true, true_and, decide_eq_true_eq, decide_eq_false_iff_not, beq_iff_eq, beq_eq_false_iff_ne, ne_eq, Int.toNat_natCast, gt_iff_lt, Bool.not_eq_true', Bool.not_eq_false', forall_const, exists_const, bne_iff_ne, bne_eq_false_iff_eq]
  have fld : ¬ (k < 0) → ¬ (5 < k) → (letK k = true ∨ s = []) → (numK k = true ∨ n = 0 ∨ (k = 1 ∧ n = 1)) → fieldsB k n s = true := fun a b d e => hfld a b (fun h => by rcases d with d | d; (rw [d] at h; cases h); exact d) (fun h => by rcases e with e | e; (rw [e] at h; cases h); exact e)
  have tail : Q17 k n s → letK k = true → L12 k n s := fun q h => ⟨q.f, q.r, by simpa [letK] using h⟩
  have l5 : k = 5 → 32 = mostOf k ∧ 33 = lowOf k := fun h => by unfold mostOf lowOf; rw [if_pos h, if_pos h]; exact ⟨rfl, rfl⟩
  have l4 : ¬ k = 5 → 64 = mostOf k ∧ 32 = lowOf k := fun h => by unfold mostOf lowOf; rw [if_neg h, if_neg h]; exact ⟨rfl, rfl⟩
  have hlow : 0 ≤ lowOf k := by unfold lowOf; split <;> omega
  have loop : ∀ x, I17 k n s x → (↑x < (s.length : Int) → 0 ≤ (x : Int) ∧ ∃ c_1, s[x]? = some c_1 ∧ ((c_1.toNat : Int) < lowOf k → 3 = c) ∧ (¬(c_1.toNat : Int) < lowOf k → (126 < (c_1.toNat : Int) → 3 = c) ∧ (¬126 < (c_1.toNat : Int) → ((c_1.toNat : Int) = 34 → 3 = c) ∧ (¬(c_1.toNat : Int) = 34 → ((c_1.toNat : Int) = 92 → 3 = c) ∧ (¬(c_1.toNat : Int) = 92 → ∃ y : Nat, IntKind.i64.wrap (↑x + 1) = ↑y ∧ I17 k n s y ∧ s.length - y < s.length - x))))) ∧ (¬(x : Int) < s.length → 0 = c) := fun x hx => by
    refine ⟨fun hlt => ?_, fun hge => good hx.q ?_⟩
    · have hlt' : x < s.length := by omega
      have hp : printB (lowOf k).toNat s[x] = decide (lowOf k ≤ (s[x].toNat : Int) ∧ (s[x].toNat : Int) ≤ 126 ∧ (s[x].toNat : Int) ≠ 34 ∧ (s[x].toNat : Int) ≠ 92) := by
        unfold printB
        rw [Bool.eq_iff_iff]
        simp only [Bool.and_eq_true, decide_eq_true_eq]
        omega
      have key : ¬ (lowOf k ≤ (s[x].toNat : Int) ∧ (s[x].toNat : Int) ≤ 126 ∧ (s[x].toNat : Int) ≠ 34 ∧ (s[x].toNat : Int) ≠ 92) → 3 = c := fun hn => bad x hlt' hx.q (by rw [hp]; exact decide_eq_false hn)
      refine ⟨by omega, s[x], List.getElem?_eq_getElem hlt', fun h => key (by omega), fun h => ⟨fun h => key (by omega), fun h => ⟨fun h => key (by omega), fun h => ⟨fun h => key (by omega), fun h => ⟨x + 1, ?_, ⟨hx.q, hlt', ?_⟩, by omega⟩⟩⟩⟩⟩
      · rw [wrap64_in (by omega) (by omega)]; omega
      · rw [all_take_succ hlt', hx.a, hp]; simp; omega
    · have : s.take x = s := List.take_of_length_le (by have := hx.le; omega)
      rw [← this]; exact hx.a
  repeat' (first | exact loop _ ‹_› | refine And.intro ?_ ?_ | intro _)
  all_goals first
    | (simp only [numK, letK]; simp; omega)
    | exact (Eq.symm ‹_›)
    | exact h1 (by omega)
    | exact h2 ‹_› ‹_›
    | exact h3 ‹_› ‹_› (by omega)
    | exact h4 (fld (by omega) (by omega) (by first | exact .inl ‹_› | exact .inr ‹_›) (by first | exact .inl ‹_› | omega)) (by omega)
    | exact h5 (Q17.f ‹_›) (Q17.r ‹_›) ‹_›
    | exact h6 ‹_› ‹_›
    | exact h7 ‹_› (by omega) ‹_› ‹_›
    | exact (⟨fld (by omega) (by omega) (by first | exact .inl ‹_› | exact .inr ‹_›) (by first | exact .inl ‹_› | omega), by unfold inR; exact decide_eq_true (by omega)⟩ : Q17 k n s)
    | exact tail ‹_› ‹_›
    | exact (l5 ‹_›).1 | exact (l5 ‹_›).2 | exact (l4 ‹_›).1 | exact (l4 ‹_›).2
    | exact (⟨‹_›, by omega, fun _ => ‹_›⟩ : M17 k n s)
    | exact (⟨‹_›, by omega, fun h => absurd h ‹_›⟩ : M17 k n s)
    | exact ⟨0, rfl, ⟨‹_›, Nat.zero_le _, by simp⟩⟩
    | trace_state
variable {G : Glob}
theorem sVal_of {X : Shapes} {R : Callee} {C : CCallee} {m : Int} {g : FuncId} {f : Int → Int → List UInt8 → AV} (hR : CalleeOk PP (G8 m) R) (hC : ICalleeOk PP (G8 m) (lowC C))
    (h : ∀ k n s, strOk s → ∃ A, PureOk PP (G8 m) X R C A [] g [vA k n s] (f k n s, [])) : SpecOk PP (G8 m) g (sVal f) := spec_of (X := X) (m := []) mixed8 hR hC fun args r h' => by
  unfold sVal at h'
  split at h'
  · split at h'
    · rename_i hs
      injection h' with h'; subst h'; exact h _ _ _ hs
    · cases h'
  · cases h'
theorem o33 (m : Int) : SpecOk PP (G8 m) 33 s33 := sVal_of (X := XZ) tbl_nil itbl_nil fun k n s _ => ⟨nAn, p33 m k n s⟩
theorem o17 (m : Int) : SpecOk PP (G8 m) 17 s17 := sVal_of (X := XZ) tbl_nil itbl_nil fun k n s hs => ⟨a17 k n s, p17 m k n s hs⟩
theorem o34 (m : Int) : SpecOk PP (G8 m) 34 s34 := spec_of (X := XZ) (m := []) mixed8 tbl_nil itbl_nil fun args r h => by
  unfold s34 at h
  split at h
  · injection h with h; subst h; exact ⟨nAn, p34 m _⟩
  · cases h
theorem o58 (m : Int) : SpecOk PP (G8 m) 58 s58 := spec_of (X := XZ) (m := []) mixed8 tbl_nil itbl_nil fun args r h => by
  unfold s58 at h
  split at h
  · split at h
    · rename_i hc
      injection h with h; subst h; exact ⟨a58 _ _, p58 m _ _ hc.1 hc.2.1 hc.2.2⟩
    · cases h
  · cases h
theorem o35 (m : Int) : SpecOk PP (G8 m) 35 s35 := spec_of (X := XZ) (m := []) mixed8 (tbl_cons (o58 m) tbl_nil) itbl_nil fun args r h => by
  unfold s35 at h
  split at h
  · split at h
    · rename_i hc
      injection h with h; subst h; exact ⟨nAn, p35 m _ hc⟩
    · cases h
  · cases h
theorem o36 (m : Int) : SpecOk PP (G8 m) 36 s32 := spec_of (X := XZ) (m := []) mixed8 (tbl_cons (o58 m) tbl_nil) itbl_nil fun args r h => by
  unfold s32 at h
  split at h
  · split at h
    · rename_i hc
      injection h with h; subst h; exact ⟨nAn, p36 m _ hc⟩
    · cases h
  · cases h
theorem o16 (m : Int) : SpecOk PP (G8 m) 16 s17 := sVal_of (X := XZ) (tbl_cons (o33 m) (tbl_cons (o34 m) (tbl_cons (o35 m) (tbl_cons (o36 m) tbl_nil)))) itbl_nil fun k n s hs => ⟨nAn, p16 m k n s hs⟩
theorem o5 (m : Int) : SpecOk PP (G8 m) 5 s5 := sVal_of (X := XZ) (tbl_cons (o16 m) tbl_nil) itbl_nil fun k n s hs => ⟨nAn, p5 m k n s hs⟩
end Go.Abs

namespace Go.Abs
open Go.Proofs Go.Wire
def i64Ok (n : Int) : Prop := -9223372036854775808 ≤ n ∧ n < 9223372036854775808
instance (n : Int) : Decidable (i64Ok n) := inferInstanceAs (Decidable (_ ∧ _))
def shOwn : Sh × Option TypeId := (.val (.one (.sl 1 (.tok 0))), some 5)
def shLax : Sh × Option TypeId := (.val (.one (.sl 1 .no)), none)
def XN : Shapes := fun f => match f with
  | 17 | 16 => some shI
  | 5 | 33 | 34 | 35 | 36 | 58 => some shB
  | _ => none
end Go.Abs

namespace Go.Abs
open Go.Proofs
end Go.Abs

namespace Go.Abs
open Go.Proofs Go.Wire
end Go.Abs

namespace Go.Abs
open Go.RowKit
section
variable {P : Program} {G : Glob} {E : Env} {w : World}
def wkA (z : Nat) : AV → AV
  | .sl _ [] _ => .sl z [] .no
  | .sl sz (e :: es) _ => .sl sz (e :: es) .no
  | a => a
def wkL : List Nat → List AV → List AV
  | z :: zs, a :: xs => wkA z a :: wkL zs xs
  | _, xs => xs
theorem rep_wk {z : Nat} {a : AV} {v : Value} (h : Rep E w a v) : Rep E w (wkA z a) v := by
  unfold wkA
  split
  · cases h with
    | sl _ _ _ A cap u hcap hmax hA hsz hcl ho hr h1 =>
      exact .sl z [] .no A cap u hcap hmax (.inl rfl) (by simp) (by simp) trivial (fun i e j c hi => by simp at hi) h1
  · cases h with
    | sl _ _ _ A cap u hcap hmax hA hsz hcl ho hr h1 =>
      exact .sl _ _ .no A cap u hcap hmax hA hsz hcl trivial hr h1
  · exact h
theorem closed_wk {z : Nat} {a : AV} (h : a.closed1 = true) : (wkA z a).closed1 = true := by
  unfold wkA
  split
  · rfl
  · rfl
  · exact h
theorem wkL_length : ∀ (zs : List Nat) (xs : List AV), (wkL zs xs).length = xs.length
  | [], xs => by simp [wkL]
  | z :: zs, [] => by simp [wkL]
  | z :: zs, a :: xs => by simp [wkL, wkL_length zs xs]
theorem wkL_at : ∀ (zs : List Nat) (xs : List AV) (i : Nat) (c : AV), (wkL zs xs)[i]? = some c → ∃ a, xs[i]? = some a ∧ (c = a ∨ ∃ z, c = wkA z a)
  | [], xs, i, c, h => ⟨c, by simpa [wkL] using h, .inl rfl⟩
  | z :: zs, [], i, c, h => by simp [wkL] at h
  | z :: zs, a :: xs, 0, c, h => by
    simp [wkL] at h
    exact ⟨a, by simp, .inr ⟨z, h.symm⟩⟩
  | z :: zs, a :: xs, i + 1, c, h => by
    simp only [wkL, List.getElem?_cons_succ] at h
    simpa using wkL_at zs xs i c h
theorem spec_wk {f : FuncId} {s : Spec} (zs : List Nat) (h : ∀ args r, s args = some r → SpecOk P G f (fun a => open Classical in if a = wkL zs args then some r else none)) : SpecOk P G f s := by
  intro g args r lv hr
  simp only at hr
  split at hr
  · rename_i e
    subst e
    have := h args (r, lv) hr g (wkL zs args) r lv (by simp)
    intro E w vs hI hG hn hv hcl
    refine this E w vs hI hG (by rw [wkL_length]; exact hn) (fun i c v hi hv' => ?_) fun c hc => ?_
    · obtain ⟨a, ha, hx⟩ := wkL_at zs args i c hi
      rcases hx with rfl | ⟨z, rfl⟩
      · exact hv i _ v ha hv'
      · exact rep_wk (hv i _ v ha hv')
    · obtain ⟨i, hi, rfl⟩ := List.mem_iff_getElem.1 hc
      obtain ⟨a, ha, hx⟩ := wkL_at zs args i _ (List.getElem?_eq_getElem hi)
      rcases hx with hx | ⟨z, hx⟩
      · rw [hx]; exact hcl a (List.mem_of_getElem? ha)
      · rw [hx]; exact closed_wk (hcl a (List.mem_of_getElem? ha))
  · cases hr
theorem spec_ofW {X : Shapes} {R : Callee} {C : CCallee} (zs : List Nat) (hm : P.follows .mixedOrders = true) (hR : CalleeOk P G R) (hC : ICalleeOk P G (lowC C)) {m : List Bool} {f : FuncId} {s : Spec}
    (h : ∀ args r, s args = some r → ∃ A, PureOk P G X R C A m f (wkL zs args) r) : SpecOk P G f s :=
  spec_wk zs fun args r hr => spec_of hm hR hC fun a r' hr' => by
    split at hr'
    · rename_i e; subst e; injection hr' with hr'; subst hr'; exact h args r hr
    · cases hr'
theorem lax_ofW {X : Shapes} {R : Callee} {C : CCallee} (zs : List Nat) (hm : P.follows .mixedOrders = true) (hR : CalleeOk P G R) (hC : ICalleeOk P G (lowC C)) {m : List Bool} {f : FuncId} {s : Spec}
    (h : ∀ args r, s args = some r → ∃ A, LaxOk P G X R C A m f (wkL zs args) r) : SpecOk P G f s :=
  spec_wk zs fun args r hr => lax_of hm hR hC fun a r' hr' => by
    split at hr'
    · rename_i e; subst e; injection hr' with hr'; subst hr'; exact h args r hr
    · cases hr'
end
end Go.Abs
