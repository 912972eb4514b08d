/-
  The walk over example: the chapter's examples are true.
-/
import Derived.Test.YthppcgafanognaaFrame
namespace Go.Proofs.Ythppcgafanognaa
open Go.RowKit

theorem arr_ints (w : World) (t : TypeId) (l : List Int) (k : Nat) (hk : k = w.heap.size) (cs : Array Value) (hc : cs = (l.map (Value.int .i64)).toArray) : Arr (w.alloc (.cells cs t)) ienc 1 (some ⟨k, 0, none⟩) l := by
  subst hk; subst hc
  refine Or.inr ⟨w.heap.size, 0, rfl, by simp, fun k x hx j u hu => ?_⟩
  match j, hu with
  | 0, hu =>
    simp [ienc] at hu; subst hu
    simp [hx]
  | j + 1, hu => simp [ienc] at hu

theorem tot_ext {a b : Bks} (h : ∀ k ∈ a.map (·.1) ++ b.map (·.1), tot a k = tot b k) (k : Int) : tot a k = tot b k := by
  by_cases hk : k ∈ a.map (·.1) ++ b.map (·.1)
  · exact h k hk
  · rw [List.mem_append, not_or] at hk
    rw [tot_none fun x hx e => hk.1 (List.mem_map.2 ⟨x, hx, e⟩), tot_none fun x hx e => hk.2 (List.mem_map.2 ⟨x, hx, e⟩)]
/-- which sketch it is, by reckoning -/
theorem is_sk {m a : Bks} (r : Bks) (hm : Asc m) (fm : WfB m) (ht : ∀ k, tot m k = tot a k)
    (h : r.Pairwise (fun x y => x.1 < y.1) ∧ (∀ x ∈ r, x.2 ≠ 0) ∧ (∀ x ∈ r, (-9223372036854775808 ≤ x.1 ∧ x.1 ≤ 9223372036854775807) ∧ -9223372036854775808 ≤ x.2 ∧ x.2 ≤ 9223372036854775807) ∧ ∀ k ∈ a.map (·.1) ++ r.map (·.1), tot a k = tot r k) : m = r :=
  asc_ext hm fm ⟨h.1, h.2.1⟩ h.2.2.1 fun k => (ht k).trans (tot_ext h.2.2.2 k)

theorem index_at (n v : Int) (h : idx n = v) (h0 : -9223372036854775808 ≤ n) (h1 : n ≤ 9223372036854775807) (w : World) : Calls Try.prog 13 #[.int .i64 n] w fun e w' => e = .returned (.int .i64 v) ∧ w = w' := h ▸ Index_any len64 n w h0 h1
theorem low_at (n v : Int) (h : low n = v) (w : World) : Calls Try.prog 15 #[.int .i64 n] w fun e w' => e = .returned (.int .i64 v) ∧ w = w' := h ▸ Low_any n w
def IsList (r : Bks) (w : World) (e : Ending) (w' : World) : Prop := ∃ (A : Option Addr) (cap : Nat), e = .returned (.slice A r.length cap) ∧ Arr w' benc 2 A r ∧ Below w.heap.size w w'
theorem add_at (r : Bks) (A : Option Addr) (c : Nat) (l : Bks) (n t : Int) (w : World) (ha : Arr w benc 2 A l) (fl : WfB l) (hn : l.length < 1000000000000) (h0 : I64 n) (h1 : I64 t)
    (h : r.Pairwise (fun x y => x.1 < y.1) ∧ (∀ x ∈ r, x.2 ≠ 0) ∧ (∀ x ∈ r, (-9223372036854775808 ≤ x.1 ∧ x.1 ≤ 9223372036854775807) ∧ -9223372036854775808 ≤ x.2 ∧ x.2 ≤ 9223372036854775807) ∧ ∀ k ∈ (l ++ [(idx n, t)]).map (·.1) ++ r.map (·.1), tot (l ++ [(idx n, t)]) k = tot r k) :
    Calls Try.prog 24 #[.slice A l.length c, .int .i64 n, .int .i64 t] w (IsList r w) :=
  (add_any A c l n t w ha fl hn h0 h1).mono fun e w' ⟨A', c', m, he, hm, ha', hw, _, ht, hb⟩ => by
    have := is_sk r ha' hw ht h
    subst this
    exact ⟨A', c', he, hm, hb⟩
theorem all_at (r : Bks) (A : Option Addr) (c : Nat) (l : List Int) (w : World) (ha : Arr w ienc 1 A l) (fl : ∀ n ∈ l, I64 n) (hn : l.length ≤ 100000000000000)
    (h : r.Pairwise (fun x y => x.1 < y.1) ∧ (∀ x ∈ r, x.2 ≠ 0) ∧ (∀ x ∈ r, (-9223372036854775808 ≤ x.1 ∧ x.1 ≤ 9223372036854775807) ∧ -9223372036854775808 ≤ x.2 ∧ x.2 ≤ 9223372036854775807) ∧ ∀ k ∈ (ones l).map (·.1) ++ r.map (·.1), tot (ones l) k = tot r k) :
    Calls Try.prog 22 #[.slice A l.length c] w (IsList r w) :=
  (all_any A c l w ha fl hn).mono fun e w' ⟨A', c', m, he, hm, ha', hw, _, ht, hb⟩ => by
    have := is_sk r ha' hw ht h
    subst this
    exact ⟨A', c', he, hm, hb⟩

set_option maxHeartbeats 4000000 in
set_option maxRecDepth 100000 in
theorem example_any (w : World) : Calls Try.prog 12 #[] w fun e w' => e = .returned (.bool true) ∧ Below w.heap.size w w' := by
  go_enter Try.func12, Try.ntmps12
  go_wp2_with (first
    | (go_at_call 13; ((with_reducible refine (index_at 31 31 (by decide +kernel) (by omega) (by omega) _).mono ?_); rintro e w2 ⟨rfl, rfl⟩))
    | (go_at_call 13; ((with_reducible refine (index_at 63 63 (by decide +kernel) (by omega) (by omega) _).mono ?_); rintro e w2 ⟨rfl, rfl⟩))
    | (go_at_call 13; ((with_reducible refine (index_at 65 64 (by decide +kernel) (by omega) (by omega) _).mono ?_); rintro e w2 ⟨rfl, rfl⟩))
    | (go_at_call 13; ((with_reducible refine (index_at 66 65 (by decide +kernel) (by omega) (by omega) _).mono ?_); rintro e w2 ⟨rfl, rfl⟩))
    | (go_at_call 13; ((with_reducible refine (index_at 1000 190 (by decide +kernel) (by omega) (by omega) _).mono ?_); rintro e w2 ⟨rfl, rfl⟩))
    | (go_at_call 13; ((with_reducible refine (index_at (-65) (-64) (by decide +kernel) (by omega) (by omega) _).mono ?_); rintro e w2 ⟨rfl, rfl⟩))
    | (go_at_call 15; ((with_reducible refine (low_at 31 31 (by decide +kernel) _).mono ?_); rintro e w2 ⟨rfl, rfl⟩))
    | (go_at_call 15; ((with_reducible refine (low_at 65 66 (by decide +kernel) _).mono ?_); rintro e w2 ⟨rfl, rfl⟩))
    | (go_at_call 15; ((with_reducible refine (low_at 190 992 (by decide +kernel) _).mono ?_); rintro e w2 ⟨rfl, rfl⟩))
    | (go_at_call 15; ((with_reducible refine (low_at (-64) (-64) (by decide +kernel) _).mono ?_); rintro e w2 ⟨rfl, rfl⟩)))
  refine (add_at [(5, 1)] none 0 [] 5 1 w (Arr.nil _ _ _ _) (fun x hx => by cases hx) (by simp) ⟨by omega, by omega⟩ ⟨by omega, by omega⟩ (by decide +kernel)).mono ?_
  rintro e w1 ⟨A1, c1, rfl, ha1, hb1⟩
  go_wp2_with fail
  refine (add_at [(5, 1), (7, 2)] A1 c1 [(5, 1)] 7 2 w1 ha1 (fun x hx => by simp at hx; subst hx; exact ⟨⟨by simp, by simp⟩, by simp, by simp⟩) (by simp) ⟨by omega, by omega⟩ ⟨by omega, by omega⟩ (by decide +kernel)).mono ?_
  rintro e w2 ⟨A2, c2, rfl, ha2, hb2⟩
  go_wp2_with fail
  refine (add_at [(7, 2)] A2 c2 [(5, 1), (7, 2)] 5 (-1) w2 ha2 (fun x hx => by simp at hx; rcases hx with rfl | rfl <;> exact ⟨⟨by simp, by simp⟩, by simp, by simp⟩) (by simp) ⟨by omega, by omega⟩ ⟨by omega, by omega⟩ (by decide +kernel)).mono ?_
  rintro e w3 ⟨A3, c3, rfl, ha3, hb3⟩
  have hB3 := (hb1.trans (hb2.mono hb1.size)).trans (hb3.mono (Nat.le_trans hb1.size hb2.size))
  have HB3 := Lib.hid hB3
  have HA3 := Lib.hid ha3
  clear ha1 ha2 ha3 hb1 hb2 hb3 hB3
  go_wp2_with fail
  refine (all_at [(3, 1), (67, 2)] (some ⟨w3.heap.size, 0, none⟩) 3 [71, 3, 70] _ (arr_ints w3 3 [71, 3, 70] _ rfl _ rfl) (fun n hn => by simp at hn; rcases hn with rfl | rfl | rfl <;> exact ⟨by omega, by omega⟩) (by simp) (by decide +kernel)).mono ?_
  rintro e w4 ⟨A4, c4, rfl, ha4, hb4⟩
  have HB4 := Lib.hid (((Below.refl w3.heap.size w3).alloc (Nat.le_refl _) (.cells #[.int .i64 71, .int .i64 3, .int .i64 70] 3)).trans (hb4.mono (by simp)))
  clear hb4
  go_wp2_with fail
  have hr1 := rank_any A4 c4 [(3, 1), (67, 2)] 3 w4 (by simp) ha4
  rw [show rank [(3, 1), (67, 2)] 3 = some 70 by decide +kernel, show opt (some 70) = .tuple #[.int .i64 70, .bool true] from rfl] at hr1
  refine hr1.mono ?_
  clear hr1 ha4
  rintro e w5 ⟨rfl, hb5⟩
  have HB5 := Lib.hid (HB4.out.trans (hb5.mono HB4.out.size))
  clear hb5
  go_wp2_with fail
  have HB5' := Lib.hid (HB3.out.trans (HB5.out.mono HB3.out.size))
  clear HB4
  refine (all_at [(3, 1), (67, 2)] (some ⟨w5.heap.size, 0, none⟩) 3 [71, 3, 70] _ (arr_ints w5 3 [71, 3, 70] _ rfl _ rfl) (fun n hn => by simp at hn; rcases hn with rfl | rfl | rfl <;> exact ⟨by omega, by omega⟩) (by simp) (by decide +kernel)).mono ?_
  rintro e w6 ⟨A6, c6, rfl, ha6, hb6⟩
  have HB6 := Lib.hid (((Below.refl w5.heap.size w5).alloc (Nat.le_refl _) (.cells #[.int .i64 71, .int .i64 3, .int .i64 70] 3)).trans (hb6.mono (by simp)))
  clear hb6
  go_wp2_with fail
  have hr2 := rank_any A6 c6 [(3, 1), (67, 2)] 4 w6 (by simp) ha6
  rw [show rank [(3, 1), (67, 2)] 4 = none by decide +kernel, show opt none = .tuple #[.int .i64 0, .bool false] from rfl] at hr2
  refine hr2.mono ?_
  clear hr2 ha6
  rintro e w7 ⟨rfl, hb7⟩
  have HB7 := Lib.hid (HB6.out.trans (hb7.mono HB6.out.size))
  clear hb7
  go_wp2_with fail
  refine (all_at [(1, 1), (2, 1), (3, 1), (4, 1)] (some ⟨w7.heap.size, 0, none⟩) 4 [1, 2, 3, 4] _ (arr_ints w7 3 [1, 2, 3, 4] _ rfl _ rfl) (fun n hn => by simp at hn; rcases hn with rfl | rfl | rfl | rfl <;> exact ⟨by omega, by omega⟩) (by simp) (by decide +kernel)).mono ?_
  rintro e w8 ⟨A8, c8, rfl, ha8, hb8⟩
  have HB8 := Lib.hid (((Below.refl w7.heap.size w7).alloc (Nat.le_refl _) (.cells #[.int .i64 1, .int .i64 2, .int .i64 3, .int .i64 4] 3)).trans (hb8.mono (by simp)))
  clear hb8
  go_wp2_with fail
  have hr3 := quantile_any A8 c8 [(1, 1), (2, 1), (3, 1), (4, 1)] 500 w8 (by simp) ha8
  rw [show quantile [(1, 1), (2, 1), (3, 1), (4, 1)] 500 = some 2 by decide +kernel, show opt (some 2) = .tuple #[.int .i64 2, .bool true] from rfl] at hr3
  refine hr3.mono ?_
  clear hr3 ha8
  rintro e w9 ⟨rfl, hb9⟩
  have HB9 := Lib.hid (HB8.out.trans (hb9.mono HB8.out.size))
  have HB39 := Lib.hid ((HB5.out.trans (HB7.out.mono HB5.out.size)).trans (HB9.out.mono (Nat.le_trans HB5.out.size HB7.out.size)))
  have HA9 := Lib.hid ((HA3.out.below HB39.out).alloc (.cells #[.int .i64 7, .int .i64 2] 51))
  clear hb9
  go_wp2_with fail
  refine (same_any A3 (some ⟨w9.heap.size, 0, none⟩) c3 1 [(7, 2)] [(7, 2)] _ (by simp) HA9.out (arr_bk w9 51 7 2 _ rfl)).mono ?_
  rintro e w10 ⟨v, n, rfl, hv, rfl⟩
  obtain rfl : v = true := hv.2 rfl
  clear hv
  go_wp2_with fail
  go_ret
  exact ⟨rfl, below_drewN ((HB3.out.trans (HB39.out.mono HB3.out.size)).alloc (Nat.le_trans HB3.out.size HB39.out.size) _) _⟩
end Go.Proofs.Ythppcgafanognaa
