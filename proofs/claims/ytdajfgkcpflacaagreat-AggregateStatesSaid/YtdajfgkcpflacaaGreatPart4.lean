/- Own texts, part 4. -/
import Derived.BigQuiet
import Derived.Deep.QuietTactic
import Derived.Lib.BitFns
import Derived.Lib.Hide
import Derived.Maps.AppendAt
import Derived.Maps.Own
import Derived.Maps.OwnOps
import Derived.Maps.OwnSet
import Derived.Maps.RangeWalk
import Derived.Sort.OwnSortedInts
import Derived.WalkKit
import Derived.WalkLawsBesides
import Derived.WalkSmall
import Derived.WalkSpells
import Derived.Test.YtdajfgkcpflacaaGreatShelf
import Derived.Test.YtdajfgkcpflacaaGreatRows
import Derived.Test.YtdajfgkcpflacaaGreatPart3
import Derived.Test.YtdajfgkcpflacaaGreatProg
import Derived.Test.YtdajfgkcpflacaaGreatChecked
import Derived.Shelf.Spec.BitsCarry
import Derived.KernelRfl
import Derived.Lib.SlKeysI
import Derived.Sort.Walk0
import Derived.Laws.IdiomCopy
import Derived.Deep.LoopGhost
import Derived.Lib.Walk
import Derived.Lib.SliceRun
import Derived.Shelf.RegionOpenPlain
import Derived.Lib.JoinLaws
import Derived.Lib.AppendZeros
import Derived.Lib.AppendZerosOnto
import Derived.Lib.Overlaps
import Derived.Laws.Externs

namespace Go.Proofs.K17
open Go.RowKit
theorem ret_int {k : IntKind} {a b : Int} (h : a = b) : Ending.returned (.int k a) = .returned (.int k b) := by rw [h]
theorem w64 {n : Int} (h0 : -9223372036854775808 ≤ n) (h1 : n ≤ 9223372036854775807) : wrap64 n = n := IntWalk.wrap64_in n ⟨h0, h1⟩
theorem u64w {n : Int} (h0 : 0 ≤ n) (h1 : n < 18446744073709551616) : IntKind.u64.wrap n = n := by rw [IntKind.wrap_u64]; omega
theorem w64_range (n : Int) : -9223372036854775808 ≤ wrap64 n ∧ wrap64 n ≤ 9223372036854775807 := by unfold wrap64; omega
def I64 (n : Int) : Prop := -9223372036854775808 ≤ n ∧ n ≤ 9223372036854775807
def Arr {α : Type} (w : World) (enc : α → List Value) (size : Nat) (A : Option Addr) (l : List α) : Prop :=
 l = [] ∨ ∃ b off, A = some ⟨b, off, none⟩ ∧ b < w.heap.size ∧
  ∀ k x, l[k]? = some x → ∀ j u, (enc x)[j]? = some u → w.cell? ⟨b, off + k * size + j, none⟩ = some u
section
variable {α : Type} {w w' : World} {enc : α → List Value} {size : Nat} {A : Option Addr} {l : List α}
theorem Arr.nil (w : World) (enc : α → List Value) (size : Nat) (A : Option Addr) : Arr w enc size A [] := Or.inl rfl
theorem Arr.keep (h : Arr w enc size A l) (hs : w.heap.size ≤ w'.heap.size) (hk : ∀ p : Addr, p.block < w.heap.size → w'.cell? p = w.cell? p) : Arr w' enc size A l := by
 rcases h with h | ⟨b, off, hA, hb, hc⟩
 ·exact Or.inl h
 ·exact Or.inr ⟨b, off, hA, by omega, fun k x hx j u hu => (hk _ hb).trans (hc k x hx j u hu)⟩
theorem Arr.below (h : Arr w enc size A l) (hb : Below w.heap.size w w') : Arr w' enc size A l := h.keep hb.size fun _ hp => hb.cell hp
theorem Arr.alloc (h : Arr w enc size A l) (o : Obj) : Arr (w.alloc o) enc size A l := h.keep (by simp) fun p hp => World.cell?_alloc_lt w o p hp
theorem Arr.at_ (h : Arr w enc size A l) {k : Nat} (hk : k < l.length) : ∃ b off x, A = some ⟨b, off, none⟩ ∧ b < w.heap.size ∧ Hid (l[k]? = some x) ∧
  ∀ j u, (enc x)[j]? = some u → w.cell? ⟨b, off + k * size + j, none⟩ = some u := by
 rcases h with h | ⟨b, off, hA, hb, hc⟩
 ·subst h; simp at hk
 ·exact ⟨b, off, l[k], hA, hb, List.getElem?_eq_getElem hk, hc k _ (List.getElem?_eq_getElem hk)⟩
end
abbrev Bks := List (Int × Int)
def benc (p : Int × Int) : List Value := [.int .i64 p.1, .int .i64 p.2]
def ienc (n : Int) : List Value := [.int .i64 n]
section
variable {w : World} {A : Option Addr}
theorem Arr.bk_ {l : Bks} (h : Arr w benc 2 A l) {k : Nat} (hk : k < l.length) : ∃ b off i n, A = some ⟨b, off, none⟩ ∧ b < w.heap.size ∧ Hid (l[k]? = some (i, n)) ∧
  w.cell? ⟨b, off + k * 2, none⟩ = some (.int .i64 i) ∧ w.cell? ⟨b, off + k * 2 + 1, none⟩ = some (.int .i64 n) := by
 obtain ⟨b, off, ⟨i, n⟩, hA, hb, hx, hc⟩ := h.at_ hk
 exact ⟨b, off, i, n, hA, hb, hx, hc 0 _ rfl, hc 1 _ rfl⟩
theorem Arr.int_ {l : List Int} (h : Arr w ienc 1 A l) {k : Nat} (hk : k < l.length) : ∃ b off i, A = some ⟨b, off, none⟩ ∧ b < w.heap.size ∧ Hid (l[k]? = some i) ∧
  w.cell? ⟨b, off + k, none⟩ = some (.int .i64 i) := by
 obtain ⟨b, off, i, hA, hb, hx, hc⟩ := h.at_ hk
 have h0 := hc 0 _ rfl
 simp only [Nat.mul_one, Nat.add_zero] at h0
 exact ⟨b, off, i, hA, hb, hx, h0⟩
end
theorem flatMap_at {α : Type} {enc : α → List Value} {size : Nat} (hsz : ∀ x, (enc x).length = size) : ∀ (l : List α) (k : Nat) (x : α) (j : Nat) (u : Value),
  l[k]? = some x → (enc x)[j]? = some u → (l.flatMap enc)[k * size + j]? = some u
 | [], k, x, j, u, h, _ => by simp at h
 | y :: t, 0, x, j, u, h, hu => by
  simp at h; subst h
  have hj : j < (enc y).length := (List.getElem?_eq_some_iff.1 hu).1
  rw [List.flatMap_cons, Nat.zero_mul, Nat.zero_add, List.getElem?_append_left hj]; exact hu
 | y :: t, k + 1, x, j, u, h, hu => by
  rw [List.flatMap_cons, List.getElem?_append_right (by rw [hsz, Nat.succ_mul]; omega), hsz, show (k + 1) * size + j - size = k * size + j by rw [Nat.succ_mul]; omega]
  exact flatMap_at hsz t k x j u (by simpa using h) hu
theorem arr_of_own {α : Type} {w : World} {base : Nat} {e : TypeId} {size n cap : Nat} {A : Option Addr} {enc : α → List Value} {l : List α} (hsz : ∀ x, (enc x).length = size) (hn : l.length = n)
  (h : w.ownsRow base e size (.slice A n cap) n (l.flatMap enc)) : Arr w enc size A l := by
 rcases h.2 with ⟨_, h0⟩ | ⟨g, cap', cur, hv, _, hh, _⟩
 ·left; exact List.eq_nil_of_length_eq_zero (by omega)
 ·injection hv with hA _ _
  subst hA
  right
  refine ⟨g, 0, rfl, (Array.getElem?_eq_some_iff.1 hh).1, fun k x hx j u hu => ?_⟩
  have hc := h.cells (g := g) rfl _ _ (flatMap_at hsz l k x j u hx hu)
  rw [← hc]
  congr 1
  unfold Addr.add
  split <;> simp_all <;> omega
theorem own_shape {w : World} {base : Nat} {e : TypeId} {size n : Nat} {v : Value} {xs : List Value} (h : w.ownsRow base e size v n xs) : ∃ A cap, v = .slice A n cap := by
 rcases h.2 with ⟨rfl, rfl⟩ | ⟨g, cap', cur, rfl, _⟩
 ·exact ⟨_, _, rfl⟩
 ·exact ⟨_, _, rfl⟩
theorem benc_len (x : Int × Int) : (benc x).length = 2 := rfl
theorem ienc_len (x : Int) : (ienc x).length = 1 := rfl
theorem ints_flat (l : List Int) : l.map (Value.int .i64) = l.flatMap ienc := by
 induction l with
 | nil => rfl
 | cons x t ih => simp [List.flatMap_cons, ienc, ih]
end Go.Proofs.K17
namespace Go.Proofs.K17
def sh (n : Nat) : Nat := Lib.bitLen n - 6
def bk (n : Nat) : Nat := 32 * sh n + n / 2 ^ sh n
def idx (n : Int) : Int := if n < 0 then -(bk (-n).toNat : Int) else bk n.toNat
def lowN (i : Nat) : Nat := (i - 32 * (i / 32 - 1)) * 2 ^ (i / 32 - 1)
def low (i : Int) : Int := if i < -1888 ∨ 1887 < i then 0 else if i < 0 then -(lowN (-i).toNat : Int) else lowN i.toNat
theorem bitLen_zero : Lib.bitLen 0 = 0 := by decide
theorem bitLen_lt (n : Nat) (h : n < 2 ^ 64) : n < 2 ^ Lib.bitLen n := by
 induction n using Nat.strongRecOn with
 | _ n ih =>
  by_cases h0 : n = 0
  ·subst h0; simp [bitLen_zero]
  ·rw [Lib.bitLen_half n h0 h, Nat.add_comm 1, Nat.pow_succ]
   have := ih (n / 2) (by omega) (by omega)
   omega
theorem le_bitLen (n : Nat) (h0 : 0 < n) (h : n < 2 ^ 64) : 2 ^ (Lib.bitLen n - 1) ≤ n := by
 induction n using Nat.strongRecOn with
 | _ n ih =>
  rw [Lib.bitLen_half n (by omega) h]
  by_cases h1 : n = 1
  ·subst h1; decide
  ·have := ih (n / 2) (by omega) (by omega) (by omega)
   have e : 0 < Lib.bitLen (n / 2) := by
    rw [Lib.bitLen_half (n / 2) (by omega) (by omega)]; omega
   rw [show 1 + Lib.bitLen (n / 2) - 1 = (Lib.bitLen (n / 2) - 1) + 1 by omega, Nat.pow_succ]
   omega
theorem sh_le (n : Nat) (h : n < 2 ^ 64) : sh n ≤ 58 := by
 have := Lib.bitLen_le n 64 (by omega) h
 unfold sh; omega
theorem sh_small (n : Nat) (h : n < 64) : sh n = 0 := by
 have := Lib.bitLen_le n 6 (by omega) (by omega)
 unfold sh; omega
theorem sh_div (n : Nat) (h : n < 2 ^ 64) : n / 2 ^ sh n < 64 := by
 have h1 := bitLen_lt n h
 rw [Nat.div_lt_iff_lt_mul (Nat.two_pow_pos _)]
 unfold sh
 by_cases h6 : 6 ≤ Lib.bitLen n
 ·have e : 64 * 2 ^ (Lib.bitLen n - 6) = 2 ^ Lib.bitLen n := by
   rw [show (64 : Nat) = 2 ^ 6 by rfl, ← Nat.pow_add]; congr 1; omega
  omega
 ·have : 2 ^ Lib.bitLen n ≤ 2 ^ 6 := Nat.pow_le_pow_right (by omega) (by omega)
  rw [show Lib.bitLen n - 6 = 0 by omega]; omega
theorem sh_ge (n : Nat) (h : n < 2 ^ 64) (h32 : 32 ≤ n) : 32 ≤ n / 2 ^ sh n := by
 have h1 := le_bitLen n (by omega) h
 rw [Nat.le_div_iff_mul_le (Nat.two_pow_pos _)]
 unfold sh
 by_cases h6 : 6 ≤ Lib.bitLen n
 ·have e : 32 * 2 ^ (Lib.bitLen n - 6) = 2 ^ (Lib.bitLen n - 1) := by
   rw [show (32 : Nat) = 2 ^ 5 by rfl, ← Nat.pow_add]; congr 1; omega
  omega
 ·rw [show Lib.bitLen n - 6 = 0 by omega]; omega
theorem bk_le (n : Nat) (h : n < 2 ^ 64) : bk n ≤ 1919 := by
 have := sh_div n h; have := sh_le n h; unfold bk; omega
theorem bk_char (n s : Nat) (h : n < 2 ^ 64) (h1 : 32 ≤ n / 2 ^ s) (h2 : n / 2 ^ s < 64) : sh n = s := by
 have h1' : 32 * 2 ^ s ≤ n := (Nat.le_div_iff_mul_le (Nat.two_pow_pos _)).1 h1
 have h2' : n < 64 * 2 ^ s := (Nat.div_lt_iff_lt_mul (Nat.two_pow_pos _)).1 h2
 have hp := Nat.two_pow_pos s
 have a1 := bitLen_lt n h
 have a2 := le_bitLen n (by omega) h
 have e1 : 2 ^ (s + 5) ≤ n := by rw [Nat.pow_add, Nat.mul_comm]; omega
 have e2 : n < 2 ^ (s + 6) := by rw [Nat.pow_add, Nat.mul_comm]; omega
 have b1 : s + 5 < Lib.bitLen n := (Nat.pow_lt_pow_iff_right (by omega)).1 (Nat.lt_of_le_of_lt e1 a1)
 have b2 : Lib.bitLen n - 1 < s + 6 := (Nat.pow_lt_pow_iff_right (by omega)).1 (Nat.lt_of_le_of_lt a2 e2)
 unfold sh; omega
theorem bk_small (n : Nat) (h : n < 64) : bk n = n := by
 unfold bk; rw [sh_small n h]; simp
theorem lowN_small (i : Nat) (h : i < 64) : lowN i = i := by
 unfold lowN; rw [show i / 32 - 1 = 0 by omega]; simp
theorem lowN_big (s r : Nat) (h1 : 32 ≤ r) (h2 : r < 64) : lowN (32 * s + r) = r * 2 ^ s := by
 unfold lowN
 have e : (32 * s + r) / 32 - 1 = s := by omega
 rw [e]; congr 1; omega
theorem bk_low (i : Nat) (h : i ≤ 1919) : lowN i < 2 ^ 64 ∧ bk (lowN i) = i := by
 by_cases h64 : i < 64
 ·rw [lowN_small i h64]; exact ⟨by omega, bk_small i h64⟩
 ·obtain ⟨s, r, rfl, h1, h2⟩ : ∃ s r, i = 32 * s + r ∧ 32 ≤ r ∧ r < 64 := ⟨i / 32 - 1, i - 32 * (i / 32 - 1), by omega, by omega, by omega⟩
  rw [lowN_big s r h1 h2]
  have hs : s ≤ 58 := by omega
  have hp : r * 2 ^ s < 2 ^ 64 := by
   have : 2 ^ s ≤ 2 ^ 58 := Nat.pow_le_pow_right (by omega) hs
   calc r * 2 ^ s < 64 * 2 ^ s := Nat.mul_lt_mul_of_pos_right h2 (Nat.two_pow_pos s)
    _ ≤ 64 * 2 ^ 58 := Nat.mul_le_mul_left _ this
    _ = 2 ^ 64 := by decide
  have hq : r * 2 ^ s / 2 ^ s = r := Nat.mul_div_cancel _ (Nat.two_pow_pos s)
  refine ⟨hp, ?_⟩
  unfold bk
  rw [bk_char (r * 2 ^ s) s hp (by omega) (by omega), hq]
theorem bk_mono (m n : Nat) (h : n < 2 ^ 64) (hmn : m ≤ n) : bk m ≤ bk n := by
 by_cases hs : sh m = sh n
 ·unfold bk; rw [hs]
  exact Nat.add_le_add_left (Nat.div_le_div_right hmn) _
 ·have hm := Nat.lt_of_le_of_lt hmn h
  have a := sh_div m hm
  by_cases h32 : n < 64
  ·rw [sh_small m (by omega), sh_small n h32] at hs; exact absurd rfl hs
  ·have b := sh_ge n h (by omega)
   have hlt : sh m < sh n := by
    have h1 := bitLen_lt m hm
    have : Lib.bitLen m ≤ Lib.bitLen n := by
     by_cases h0 : m = 0
     ·subst h0; rw [bitLen_zero]; omega
     ·have := le_bitLen m (by omega) hm
      have h2 := bitLen_lt n h
      have := (Nat.pow_lt_pow_iff_right (a := 2) (by omega)).1 (Nat.lt_of_le_of_lt this (Nat.lt_of_le_of_lt hmn h2))
      omega
    unfold sh at hs ⊢; omega
   unfold bk; omega
theorem lowN_lt (i j : Nat) (h : j ≤ 1919) (hij : i < j) : lowN i < lowN j := by
 have a := bk_low i (by omega)
 have b := bk_low j h
 by_cases hc : lowN j ≤ lowN i
 ·have := bk_mono _ _ a.1 hc
  omega
 ·omega
theorem lowN_1888 : lowN 1888 = 9223372036854775808 := by decide +kernel
theorem bk_top : bk 9223372036854775808 = 1888 := by decide +kernel
theorem bk_max (n : Nat) (h : n < 9223372036854775808) : bk n ≤ 1887 := by
 have hb := bk_mono n 9223372036854775807 (by omega) (by omega)
 have : bk 9223372036854775807 = 1887 := by decide +kernel
 omega
theorem lowN_max (i : Nat) (h : i ≤ 1887) : lowN i < 9223372036854775808 := by
 have := lowN_lt i 1888 (by omega) (by omega); rw [lowN_1888] at this; exact this
theorem idx_range (n : Int) (h0 : -9223372036854775808 ≤ n) (h1 : n ≤ 9223372036854775807) : -1888 ≤ idx n ∧ idx n ≤ 1887 := by
 unfold idx
 split
 ·have := bk_mono (-n).toNat 9223372036854775808 (by omega) (by omega)
  rw [bk_top] at this; omega
 ·have := bk_max n.toNat (by omega); omega
theorem low_range (i : Int) : -9223372036854775808 ≤ low i ∧ low i ≤ 9223372036854775807 := by
 unfold low
 split
 ·omega
 ·split
  ·by_cases e : i = -1888
   ·subst e; have := lowN_1888; simp only [Int.neg_neg]; rw [show (1888 : Int).toNat = 1888 from rfl, this]; omega
   ·have := lowN_max (-i).toNat (by omega); omega
  ·have := lowN_max i.toNat (by omega); omega
end Go.Proofs.K17
namespace Go.Proofs.K17
open Go.RowKit
def Len64 : Prop := ∀ (x : Int) (w : World), 0 ≤ x → x ≤ 18446744073709551615 → Calls Tryz.prog 79 #[.int .u64 x] w fun e w' => e = .returned (.int .i64 (Lib.bitLen x.toNat)) ∧ w' = w
theorem len64 : Len64 := fun x w h0 h1 => Tryz.bits_Len64 x w h0 h1
theorem bk_close (n : Nat) (h : n < 2 ^ 64) (h6 : 6 ≤ Lib.bitLen n) : wrap64 (32 * (((Lib.bitLen n : Nat) : Int) - 6) + wrap64 (((n : Nat) : Int) / 2 ^ (Lib.bitLen n - 6))) = bk n := by
 have b2 := sh_le n h
 have b3 := sh_div n h
 have e2 : ((n : Int) / 2 ^ (Lib.bitLen n - 6)) = ((n / 2 ^ sh n : Nat) : Int) := by simp [sh]
 have e3 : ((Lib.bitLen n : Nat) : Int) - 6 = (sh n : Nat) := by unfold sh; omega
 rw [e2, e3]
 unfold bk
 generalize n / 2 ^ sh n = q at *
 rw [w64 (n := (q : Int)) (by omega) (by omega), w64 (by omega) (by omega)]
 omega
set_option maxHeartbeats 400000 in
theorem bucket_any (hl : Len64) (n : Nat) (w : World) (h : n < 2^64) :
  Calls Tryz.prog 122 #[.int .u64 n] w fun e w' => e = .returned (.int .i64 (bk n)) ∧ w = w' := by
 have H := Lib.hid hl
 clear hl
 have b1 := Lib.bitLen_le n 64 (by omega) h
 by_cases h6 : 6 ≤ Lib.bitLen n
 ·have hc := Lib.hid (bk_close n h h6)
  have h0 : (0 : Int) ≤ (Lib.bitLen n : Nat) - 6 := by omega
  have hm : max (((Lib.bitLen n : Nat) : Int) - 6) 0 = ((Lib.bitLen n : Nat) : Int) - 6 := by omega
  go_enter Tryz.func122, Tryz.ntmps122
  go_wp2_with (go_at_call 79; refine (H.out _ _ (by omega) (by omega)).mono ?_; rintro e w' ⟨rfl, rfl⟩)
  go_ret
  exact ⟨ret_int hc.out, rfl⟩
 ·have hs : n < 64 := by
   have := bitLen_lt n h
   have : 2 ^ Lib.bitLen n ≤ 2 ^ 6 := Nat.pow_le_pow_right (by omega) (by omega)
   omega
  have hc := Lib.hid (bk_small n hs)
  have hm : max (((Lib.bitLen n : Nat) : Int) - 6) 0 = 0 := by omega
  go_enter Tryz.func122, Tryz.ntmps122
  go_wp2_with (go_at_call 79; refine (H.out _ _ (by omega) (by omega)).mono ?_; rintro e w' ⟨rfl, rfl⟩)
  go_ret
  exact ⟨ret_int (by rw [hc.out]), rfl⟩
theorem low_close (i : Nat) (h : i ≤ 1919) (h0 : (0 : Int) ≤ ↑i / 32 - 1) : IntKind.u64.wrap (((i : Int) - 32 * (↑i / 32 - 1)) * 2 ^ (((i : Int) / 32).toNat - 1)) = lowN i := by
 have b := (bk_low i h).1
 have e1 : ((i : Int) / 32).toNat - 1 = i / 32 - 1 := by omega
 have e2 : ((i : Int) - 32 * (↑i / 32 - 1)) = ((i - 32 * (i / 32 - 1) : Nat) : Int) := by omega
 have e3 : ((i - 32 * (i / 32 - 1) : Nat) : Int) * 2 ^ (i / 32 - 1) = (lowN i : Nat) := by unfold lowN; simp
 rw [e1, e2, e3, u64w (by omega) (by omega)]
set_option maxHeartbeats 400000 in
theorem low_any (i : Nat) (w : World) (h : i ≤ 1919) :
  Calls Tryz.prog 125 #[.int .i64 i] w fun e w' => e = .returned (.int .u64 (lowN i)) ∧ w = w' := by
 by_cases h32 : (0 : Int) ≤ ↑i / 32 - 1
 ·have hc := Lib.hid (low_close i h h32)
  have hm : max ((i : Int) / 32 - 1) 0 = (i : Int) / 32 - 1 := by omega
  go_enter Tryz.func125, Tryz.ntmps125
  go_wp2
  go_ret
  exact ⟨ret_int hc.out, rfl⟩
 ·have hc := Lib.hid (lowN_small i (by omega))
  have hm : max ((i : Int) / 32 - 1) 0 = 0 := by omega
  go_enter Tryz.func125, Tryz.ntmps125
  go_wp2
  go_ret
  exact ⟨ret_int (by rw [hc.out]), rfl⟩
theorem bucket_int (hl : Len64) (n : Int) (w : World) (h0 : 0 ≤ n) (h : n < 18446744073709551616) :
  Calls Tryz.prog 122 #[.int .u64 n] w fun e w' => e = .returned (.int .i64 (bk n.toNat)) ∧ w = w' := by
 obtain ⟨m, rfl⟩ := Int.eq_ofNat_of_zero_le h0
 exact bucket_any hl m w (by omega)
theorem low_int (i : Int) (w : World) (h0 : 0 ≤ i) (h : i ≤ 1919) :
  Calls Tryz.prog 125 #[.int .i64 i] w fun e w' => e = .returned (.int .u64 (lowN i.toNat)) ∧ w = w' := by
 obtain ⟨m, rfl⟩ := Int.eq_ofNat_of_zero_le h0
 exact low_any m w (by omega)
theorem neg_wrap (n : Int) (hn : n < 0) (h0 : -9223372036854775808 ≤ n) : IntKind.u64.wrap (-IntKind.u64.wrap n) = -n := by
 simp only [IntKind.wrap_u64]; omega
set_option maxHeartbeats 400000 in
theorem Index_any (hl : Len64) (n : Int) (w : World) (h0 : -9223372036854775808 ≤ n) (h1 : n ≤ 9223372036854775807) :
  Calls Tryz.prog 117 #[.int .i64 n] w fun e w' => e = .returned (.int .i64 (idx n)) ∧ w = w' := by
 have HB := Lib.hid (bucket_int hl)
 by_cases hn : n < 0
 ·have hw := Lib.hid (neg_wrap n hn h0)
  have hb := bk_le (-n).toNat (by omega)
  go_enter Tryz.func117, Tryz.ntmps117
  go_wp2_with fail
  rw [hw.out]
  refine (HB.out _ _ (by omega) (by omega)).mono ?_
  rintro e w' ⟨rfl, rfl⟩
  go_wp2_with fail
  go_ret
  exact ⟨ret_int (by unfold idx; rw [if_pos hn]), rfl⟩
 ·go_enter Tryz.func117, Tryz.ntmps117
  go_wp2_with fail
  refine (HB.out _ _ (by omega) (by omega)).mono ?_
  rintro e w' ⟨rfl, rfl⟩
  go_wp2_with fail
  go_ret
  exact ⟨ret_int (by unfold idx; rw [if_neg (by omega)]), rfl⟩
theorem low_neg (i : Int) (hi : i < 0) (h0 : -1888 ≤ i) : wrap64 (-wrap64 (lowN (-i).toNat)) = low i := by
 have e : low i = -(lowN (-i).toNat : Int) := by unfold low; rw [if_neg (by omega), if_pos hi]
 have hr := low_range i
 rw [e] at hr ⊢
 generalize lowN (-i).toNat = q at *
 unfold wrap64; omega
theorem low_pos (i : Int) (hi : ¬ i < 0) (h0 : i ≤ 1887) : wrap64 (lowN i.toNat) = low i := by
 have e : low i = (lowN i.toNat : Int) := by unfold low; rw [if_neg (by omega), if_neg hi]
 have hr := low_range i
 rw [e] at hr ⊢
 rw [w64 (by omega) (by omega)]
set_option maxHeartbeats 400000 in
theorem Low_any (i : Int) (w : World) :
  Calls Tryz.prog 123 #[.int .i64 i] w fun e w' => e = .returned (.int .i64 (low i)) ∧ w = w' := by
 by_cases h0 : i < -1888
 ·have e := Lib.hid (show low i = 0 by unfold low; rw [if_pos (by omega)])
  go_enter Tryz.func123, Tryz.ntmps123
  go_wp2
  go_ret
  exact ⟨ret_int (by rw [e.out]), rfl⟩
 by_cases h1 : 1887 < i
 ·have e := Lib.hid (show low i = 0 by unfold low; rw [if_pos (by omega)])
  go_enter Tryz.func123, Tryz.ntmps123
  go_wp2
  go_ret
  exact ⟨ret_int (by rw [e.out]), rfl⟩
 by_cases hn : i < 0
 ·have hc := Lib.hid (low_neg i hn (by omega))
  have hb := (bk_low (-i).toNat (by omega)).1
  go_enter Tryz.func123, Tryz.ntmps123
  go_wp2_with fail
  refine (low_int _ _ (by omega) (by omega)).mono ?_
  rintro e w' ⟨rfl, rfl⟩
  go_wp2_with fail
  go_ret
  exact ⟨ret_int hc.out, rfl⟩
 ·have hc := Lib.hid (low_pos i hn (by omega))
  have hb := (bk_low i.toNat (by omega)).1
  go_enter Tryz.func123, Tryz.ntmps123
  go_wp2_with fail
  refine (low_int _ _ (by omega) (by omega)).mono ?_
  rintro e w' ⟨rfl, rfl⟩
  go_wp2_with fail
  go_ret
  exact ⟨ret_int hc.out, rfl⟩
end Go.Proofs.K17
namespace Go.Proofs.K17
open Go.RowKit
def okAt (l : Bks) (j : Nat) : Prop := ∃ x, l[j]? = some x ∧ x.2 ≠ 0 ∧ (∀ i, j = i + 1 → ∃ y, l[i]? = some y ∧ y.1 < x.1)
def Valid (l : Bks) : Prop := ∀ j, j < l.length → okAt l j
def countFrom (s : Int) : Bks → Int
 | [] => s
 | x :: t => countFrom (wrap64 (s + x.2)) t
def count (l : Bks) : Int := countFrom 0 l
theorem drop_cons {α : Type} {l : List α} {k : Nat} {x : α} (h : l[k]? = some x) : l.drop k = x :: l.drop (k + 1) := by
 obtain ⟨hk, rfl⟩ := List.getElem?_eq_some_iff.1 h
 exact List.drop_eq_getElem_cons hk
theorem countFrom_step {l : Bks} {k : Nat} {s i n : Int} (h : l[k]? = some (i, n)) : countFrom s (l.drop k) = countFrom (wrap64 (s + n)) (l.drop (k + 1)) := by
 rw [drop_cons h]; rfl
set_option maxHeartbeats 1000000 in
theorem count_any (A : Option Addr) (cap : Nat) (l : Bks) (w : World) (hl : l.length ≤ 100000000000000) (h : Arr w benc 2 A l) :
  Calls Tryz.prog 118 #[.slice A l.length cap] w fun e w' => e = .returned (.int .i64 (count l)) ∧ Below w.heap.size w w' := by
 go_enter Tryz.func118, Tryz.ntmps118
 go_wp2
 go_loopw [2, 7] (fun n i wr => ∃ (k : Nat) (s : Int), k ≤ l.length ∧ i = .int .i64 k ∧ n = .int .i64 s ∧ Hid (count l = countFrom s (l.drop k)) ∧ Below w.heap.size w wr) (fun _ i _ => l.length - (intOf i).toNat)
 case atStart => exact ⟨0, 0, Nat.zero_le _, rfl, rfl, rfl, Below.refl _ _⟩
 case round =>
  obtain ⟨k, s, hk, rfl, rfl, HS, hb⟩ := hrel
  by_cases hlt : k < l.length
  ·obtain ⟨b, off, i, n, rfl, hbb, HX, c0, c1⟩ := (h.below hb).bk_ hlt
   have HS2 := Lib.hid (HS.out.trans (countFrom_step HX.out))
   go_wp2
   go_roundw
   case rel => exact ⟨k + 1, _, by omega, by go_num, rfl, HS2, hb.alloc hb.size _⟩
   case measure => simp [intOf]; omega
  ·have hv : count l = s := by rw [HS.out, List.drop_of_length_le (by omega)]; rfl
   have HV := Lib.hid hv
   clear hv
   go_wp2
   go_ret
   exact ⟨ret_int HV.out.symm, hb⟩
end Go.Proofs.K17
namespace Go.Proofs.K17
open Go.RowKit
def rankFrom (s : Int) (r : Int) : Bks → Option Int
 | [] => none
 | x :: t => if r ≤ wrap64 (s + x.2) then some (low x.1) else rankFrom (wrap64 (s + x.2)) r t
def rank (l : Bks) (r : Int) : Option Int := if r < 1 then none else rankFrom 0 r l
def opt (o : Option Int) : Value := .tuple #[.int .i64 (o.getD 0), .bool o.isSome]
theorem rankFrom_yes {l : Bks} {k : Nat} {s i n r : Int} (h : l[k]? = some (i, n)) (hr : r ≤ wrap64 (s + n)) : rankFrom s r (l.drop k) = some (low i) := by
 rw [drop_cons h, rankFrom, if_pos hr]
theorem rankFrom_no {l : Bks} {k : Nat} {s i n r : Int} (h : l[k]? = some (i, n)) (hr : ¬ r ≤ wrap64 (s + n)) : rankFrom s r (l.drop k) = rankFrom (wrap64 (s + n)) r (l.drop (k + 1)) := by
 rw [drop_cons h, rankFrom, if_neg hr]
set_option maxHeartbeats 1000000 in
theorem rank_any (A : Option Addr) (cap : Nat) (l : Bks) (r : Int) (w : World) (hl : l.length ≤ 100000000000000) (h : Arr w benc 2 A l) :
  Calls Tryz.prog 119 #[.slice A l.length cap, .int .i64 r] w fun e w' => e = .returned (opt (rank l r)) ∧ Below w.heap.size w w' := by
 by_cases hr : r < 1
 ·have HF := Lib.hid (show rank l r = none by unfold rank; rw [if_pos hr])
  go_enter Tryz.func119, Tryz.ntmps119
  go_wp2
  go_ret2
  exact ⟨by rw [HF.out]; rfl, Below.refl _ _⟩
 ·have HF := Lib.hid (show rank l r = rankFrom 0 r l by unfold rank; rw [if_neg hr])
  go_enter Tryz.func119, Tryz.ntmps119
  go_wp2
  go_loopw [6, 13] (fun n i wr => ∃ (k : Nat) (s : Int), k ≤ l.length ∧ i = .int .i64 k ∧ n = .int .i64 s ∧ Hid (rank l r = rankFrom s r (l.drop k)) ∧ Below w.heap.size w wr) (fun _ i _ => l.length - (intOf i).toNat)
  case atStart => exact ⟨0, 0, Nat.zero_le _, rfl, rfl, HF, Below.refl _ _⟩
  case round =>
   obtain ⟨k, s, hk, rfl, rfl, HS, hb⟩ := hrel
   by_cases hlt : k < l.length
   ·obtain ⟨b, off, i, n, rfl, hbb, HX, c0, c1⟩ := (h.below hb).bk_ hlt
    by_cases hn : r ≤ wrap64 (s + n)
    ·have HS2 := Lib.hid (HS.out.trans (rankFrom_yes HX.out hn))
     go_wp2_with fail
     refine (Low_any _ _).mono ?_
     rintro e w' ⟨rfl, rfl⟩
     go_wp2_with fail
     go_ret2
     exact ⟨by rw [HS2.out]; rfl, hb.alloc hb.size _⟩
    ·have HS2 := Lib.hid (HS.out.trans (rankFrom_no HX.out hn))
     go_wp2
     go_roundw
     case rel => exact ⟨k + 1, _, by omega, by go_num, rfl, HS2, hb.alloc hb.size _⟩
     case measure => simp [intOf]; omega
   ·have HV := Lib.hid (show rank l r = none by rw [HS.out, List.drop_of_length_le (by omega)]; rfl)
    go_wp2
    go_ret2
    exact ⟨by rw [HV.out]; rfl, hb⟩
def place (n p : Int) : Int := max 1 (n / 1000 * p + (n % 1000 * p + 999) / 1000)
def quantile (l : Bks) (p : Int) : Option Int := if p < 1 ∨ 1000 < p ∨ count l < 1 then none else rank l (place (count l) p)
theorem countFrom_range (l : Bks) : ∀ s : Int, -9223372036854775808 ≤ s → s ≤ 9223372036854775807 → -9223372036854775808 ≤ countFrom s l ∧ countFrom s l ≤ 9223372036854775807 := by
 induction l with
 | nil => intro s h0 h1; exact ⟨h0, h1⟩
 | cons x t ih => intro s _ _; exact ih _ (w64_range _).1 (w64_range _).2
theorem count_range (l : Bks) : -9223372036854775808 ≤ count l ∧ count l ≤ 9223372036854775807 := countFrom_range l 0 (by omega) (by omega)
theorem mul_le' {a b c d : Int} (h : a ≤ b) (h' : c ≤ d) (h0 : 0 ≤ a) (h1 : 0 ≤ d) : a * c ≤ b * d :=
 Int.le_trans (Int.mul_le_mul_of_nonneg_left h' h0) (Int.mul_le_mul_of_nonneg_right h h1)
theorem place_bounds (n p : Int) (h0 : 1 ≤ n) (p0 : 1 ≤ p) (p1 : p ≤ 1000) :
  0 ≤ n / 1000 * p ∧ n / 1000 * p ≤ n / 1000 * 1000 ∧ 0 ≤ n % 1000 * p ∧ n % 1000 * p ≤ n % 1000 * 1000 ∧ 0 ≤ p * (n % 1000) ∧ p * (n % 1000) ≤ n % 1000 * 1000 := by
 have a := mul_le' (a := n % 1000) (b := n % 1000) (c := p) (d := 1000) (by omega) p1 (by omega) (by omega)
 have a0 := Int.mul_nonneg (a := n % 1000) (b := p) (by omega) (by omega)
 refine ⟨Int.mul_nonneg (by omega) (by omega), mul_le' (by omega) p1 (by omega) (by omega), a0, a, ?_, ?_⟩ <;> rw [Int.mul_comm] <;> assumption
theorem opt_ret (o : Option Int) : ∃ v s, opt o = .tuple #[.int .i64 v, .bool s] := ⟨_, _, rfl⟩
set_option maxHeartbeats 1000000 in
theorem quantile_any (A : Option Addr) (cap : Nat) (l : Bks) (p : Int) (w : World) (hl : l.length ≤ 100000000000000) (h : Arr w benc 2 A l) :
  Calls Tryz.prog 114 #[.slice A l.length cap, .int .i64 p] w fun e w' => e = .returned (opt (quantile l p)) ∧ Below w.heap.size w w' := by
 obtain ⟨c0, c1⟩ := count_range l
 have HC := Lib.hid (count_any A cap l w hl h)
 obtain ⟨c, hc⟩ : ∃ c, count l = c := ⟨_, rfl⟩
 rw [hc] at HC c0 c1
 by_cases hn : p < 1 ∨ 1000 < p ∨ c < 1
 ·have HF := Lib.hid (show quantile l p = none by unfold quantile; rw [hc, if_pos hn])
  clear hc
  by_cases hp : p < 1
  ·clear hn
   go_enter Tryz.func114, Tryz.ntmps114
   go_wp2_with (go_at_call 118; refine HC.out.mono ?_; rintro e w' ⟨rfl, hbl⟩)
   go_ret2
   exact ⟨by rw [HF.out]; rfl, by assumption⟩
  ·by_cases hp2 : 1000 < p
   ·clear hn
    go_enter Tryz.func114, Tryz.ntmps114
    go_wp2_with (go_at_call 118; refine HC.out.mono ?_; rintro e w' ⟨rfl, hbl⟩)
    go_ret2
    exact ⟨by rw [HF.out]; rfl, by assumption⟩
   ·have hc1 : c < 1 := by omega
    clear hn
    go_enter Tryz.func114, Tryz.ntmps114
    go_wp2_with (go_at_call 118; refine HC.out.mono ?_; rintro e w' ⟨rfl, hbl⟩)
    go_ret2
    exact ⟨by rw [HF.out]; rfl, by assumption⟩
 ·have HF := Lib.hid (show quantile l p = rank l (place c p) by unfold quantile; rw [hc, if_neg hn])
  clear hc
  have hp : ¬ p < 1 := by omega
  have hp2 : ¬ 1000 < p := by omega
  have hc1 : ¬ c < 1 := by omega
  clear hn
  obtain ⟨b0, b1, b2, b3, _, _⟩ := place_bounds c p (by omega) (by omega) (by omega)
  have HM := Lib.hid (show max (c / 1000 * p + (c % 1000 * p + 999) / 1000) 1 = place c p by unfold place; omega)
  go_enter Tryz.func114, Tryz.ntmps114
  go_wp2_with (go_at_call 118; refine HC.out.mono ?_; rintro e w1 ⟨rfl, hbl⟩)
  rw [HM.out]
  have hR := rank_any A cap l (place c p) w1 hl (h.below hbl)
  obtain ⟨v, s, hvs⟩ := opt_ret (rank l (place c p))
  rw [hvs] at hR
  have HV := Lib.hid hvs
  clear hvs
  refine hR.mono ?_
  rintro e w2 ⟨rfl, hbl2⟩
  go_wp2
  go_ret2
  exact ⟨by rw [HF.out, HV.out]; rfl, hbl.trans (hbl2.mono hbl.size)⟩
end Go.Proofs.K17
namespace Go.Proofs.K17
open Go.RowKit Go.Maps
def totFrom (s : Int) : Bks → Int → Int
 | [], _ => s
 | x :: t, k => totFrom (if x.1 = k then wrap64 (s + x.2) else s) t k
def tot (l : Bks) (k : Int) : Int := totFrom 0 l k
theorem totFrom_append (l : Bks) : ∀ (s : Int) (m : Bks) (k : Int), totFrom s (l ++ m) k = totFrom (totFrom s l k) m k := by
 induction l with
 | nil => intro s m k; rfl
 | cons x t ih => intro s m k; exact ih _ m k
theorem tot_snoc (l : Bks) (i n k : Int) : tot (l ++ [(i, n)]) k = if i = k then wrap64 (tot l k + n) else tot l k := by
 unfold tot; rw [totFrom_append]; rfl
abbrev i64 (n : Int) : DataW Unit := .lit (.int .i64 n)
def MapIs (D : DataW Unit) (l : Bks) : Prop :=
 IsMap D ∧ (∀ k, D.atKey (.int .i64 k) (i64 0) = i64 (tot l k)) ∧ (∀ k, Maps.has D (.int .i64 k) = l.any (fun x => x.1 == k))
theorem mapIs_nil : MapIs (.map []) [] := ⟨isMap_empty, fun _ => rfl, fun _ => rfl⟩
theorem mapIs_put {D : DataW Unit} {l : Bks} (h : MapIs D l) (i n c : Int) (hc : D.atKey (.int .i64 i) (i64 0) = i64 c) :
  MapIs (D.put (.int .i64 i) (i64 (wrap64 (c + n)))) (l ++ [(i, n)]) := by
 obtain ⟨h1, h2, h3⟩ := h
 have hk : WideAt.IsKeyLit (.int .i64 i) := by simp [WideAt.IsKeyLit]
 have hce : c = tot l i := by
  rw [h2] at hc; injection hc with hc; injection hc with _ hc; exact hc.symm
 refine ⟨h1.put _ _, fun k => ?_, fun k => ?_⟩
 ·rw [tot_snoc]
  by_cases e : i = k
  ·subst e; rw [atKey_put_same h1 hk, if_pos rfl, hce]
  ·rw [if_neg e, atKey_put_other (by intro h; injection h with _ h; exact e h.symm)]; exact h2 k
 ·by_cases e : i = k
  ·subst e; rw [has_put_same h1 hk]; simp
  ·rw [has_put_other (by intro h; injection h with _ h; exact e h.symm), h3 k]; simp [e]
abbrev Sls := List (Option Addr × Nat × Bks)
def slenc (x : Option Addr × Nat × Bks) : List Value := [.slice x.1 x.2.2.length x.2.1]
def flat (L : Sls) : Bks := L.flatMap (·.2.2)
theorem Arr.sl_ {w : World} {A : Option Addr} {L : Sls} (h : Arr w slenc 1 A L) {k : Nat} (hk : k < L.length) : ∃ b off x, A = some ⟨b, off, none⟩ ∧ b < w.heap.size ∧ Hid (L[k]? = some x) ∧
  w.cell? ⟨b, off + k, none⟩ = some (.slice x.1 x.2.2.length x.2.1) := by
 obtain ⟨b, off, i, hA, hb, hx, hc⟩ := h.at_ hk
 have h0 := hc 0 _ rfl
 simp only [Nat.mul_one, Nat.add_zero] at h0
 exact ⟨b, off, i, hA, hb, hx, h0⟩
theorem flat_take {L : Sls} {k : Nat} {x : Option Addr × Nat × Bks} (h : L[k]? = some x) : flat (L.take (k + 1)) = flat (L.take k) ++ x.2.2 := by
 obtain ⟨hk, rfl⟩ := List.getElem?_eq_some_iff.1 h
 unfold flat; rw [List.take_succ_eq_append_getElem hk, List.flatMap_append]; simp
theorem flat_le {L : Sls} {k : Nat} {x : Option Addr × Nat × Bks} (h : L[k]? = some x) : (flat (L.take k)).length + x.2.2.length ≤ (flat L).length := by
 have e := flat_take h
 have : flat L = flat (L.take (k + 1)) ++ flat (L.drop (k + 1)) := by unfold flat; rw [← List.flatMap_append, List.take_append_drop]
 rw [this, List.length_append, e, List.length_append]; omega
theorem take_snoc {α : Type} {l : List α} {k : Nat} {x : α} (h : l[k]? = some x) : l.take (k + 1) = l.take k ++ [x] := by
 obtain ⟨hk, rfl⟩ := List.getElem?_eq_some_iff.1 h
 exact List.take_succ_eq_append_getElem hk
theorem wf_i64 {n : Int} (h : I64 n) : (Lit.int .i64 n).wf = true := WalkArith.wf_i64 h
def WfB (l : Bks) : Prop := ∀ x ∈ l, I64 x.1 ∧ I64 x.2
theorem law3 : Keyed Tryz.prog 3 := int_keyed Tryz.underlying3
theorem zero3 (w : World) : (zeroValue 3).run Tryz.prog w = .ok (.int .i64 0) w := by kernel_rfl
def SomeMap (N : Nat) (l : Bks) (w : World) (e : Ending) (w' : World) : Prop :=
 ∃ b D, e = .returned (.map (some b)) ∧ w.heap.size ≤ b ∧ w'.ownsMap Tryz.prog 3 (plainElem (H := Unit) Tryz.prog 3) b N D ∧ MapIs D l ∧ Below w.heap.size w w'
set_option maxHeartbeats 2000000 in
set_option maxRecDepth 100000 in
theorem counts_any (A : Option Addr) (cap : Nat) (L : Sls) (w : World) (hL : Arr w slenc 1 A L) (hs : ∀ x ∈ L, Arr w benc 2 x.1 x.2.2) (hf : ∀ x ∈ L, WfB x.2.2)
  (hsum : (flat L).length ≤ 100000000000000) (hlen : L.length ≤ 1000) :
  Calls Tryz.prog 116 #[.slice A L.length cap] w (SomeMap (flat L).length (flat L) w) := by
 have hmm := @run_makeMap Tryz.prog
 go_enter Tryz.func116, Tryz.ntmps116
 go_wp2
 go_loopw [11] (fun i wr => ∃ (k : Nat) (D : DataW Unit), k ≤ L.length ∧ i = .int .i64 k ∧ wr.ownsMap Tryz.prog 3 (plainElem Tryz.prog 3) w.heap.size (flat (L.take k)).length D ∧ Hid (MapIs D (flat (L.take k))) ∧ Below w.heap.size w wr)
  (fun i _ => L.length - (intOf i).toNat)
 case atStart => exact ⟨0, _, Nat.zero_le _, rfl, World.ownsMap_made _ _ _ _, mapIs_nil, (Below.refl _ _).alloc (Nat.le_refl _) _⟩
 case round =>
  obtain ⟨k, D, hk, rfl, hown, HM, hb⟩ := hrel
  by_cases hlt : k < L.length
  ·obtain ⟨p, off, x, rfl, _, HX, c0⟩ := (hL.below hb).sl_ hlt
   have hm := List.mem_of_getElem? HX.out
   have hx := hs x hm
   have hfx := hf x hm
   have hle := flat_le HX.out
   have HF := Lib.hid (flat_take HX.out)
   obtain ⟨A', cap', l⟩ := x
   clear hm
   simp only at hx hfx hle c0
   go_wp2
   obtain ⟨wo, rfl⟩ : ∃ wo : World, wo = wr := ⟨_, rfl⟩
   go_loopw [17] (fun i wr => ∃ (j : Nat) (D : DataW Unit), j ≤ l.length ∧ i = .int .i64 j ∧ wr.ownsMap Tryz.prog 3 (plainElem Tryz.prog 3) w.heap.size ((flat (L.take k)).length + j) D ∧ Hid (MapIs D (flat (L.take k) ++ l.take j)) ∧ Below w.heap.size w wr)
    (fun i _ => l.length - (intOf i).toNat)
   case atStart => exact ⟨0, D, Nat.zero_le _, rfl, hown, by simpa using HM, hb⟩
   case round =>
    clear hown HM hb
    obtain ⟨j, D, hj, rfl, hown, HM, hb⟩ := hrel
    by_cases hlj : j < l.length
    ·obtain ⟨q, off', i, n, rfl, _, HY, c1, c2⟩ := (hx.below hb).bk_ hlj
     obtain ⟨wi, wn⟩ := hfx _ (List.mem_of_getElem? HY.out)
     have hkey : keyOf Tryz.prog 3 (.int .i64 i) = some (.int .i64 i) := keyOf_int_mk Tryz.underlying3 (wf_i64 wi)
     have hown1 := hown.alloc (.cells #[.int .i64 i, .int .i64 n] 90)
     clear hown
     go_wp2_with (first
      | (at_lookup; refine wpList_lookup_own_int _ rfl _ _ 144 rfl 3 3 .i64 law3 Tryz.underlying144 Tryz.underlying3 (zero3 _) w.heap.size _ _ rfl hown1 _ _ rfl hkey ?_; intro c hat hwc)
      | (at_mapUpdate; refine wpList_mapUpdate_own _ rfl _ _ _ 144 rfl 3 3 law3 Tryz.underlying144 _ w.heap.size _ _ rfl hown1 (by unfold maxLen; omega) _ _ _ rfl rfl hkey _ [] (plainElem_int Tryz.underlying3 (wrap64_wf _)) ?_; intro w1 hown2 hgrow2)
      | go_in)
     have HM2 : Hid (MapIs (D.put (.int .i64 i) (i64 (wrap64 (c + n)))) (flat (L.take k) ++ l.take (j + 1))) := by
      show MapIs _ _
      rw [take_snoc HY.out, ← List.append_assoc]
      exact mapIs_put HM.out i n c hat
     go_roundw
     case rel => exact ⟨j + 1, _, by omega, by go_num, hown2, HM2, (hb.alloc hb.size _).grown hgrow2 (by have := hb.size; simp; omega) (fun g hg => by cases hg; exact Nat.le_refl _)⟩
     case measure => simp [intOf]; omega
    ·obtain rfl : j = l.length := by omega
     have HM2 : Hid (MapIs D (flat (L.take (k + 1)))) := by
      show MapIs _ _
      have hm := HM.out
      rw [List.take_length] at hm
      rw [HF.out]; exact hm
     have hn : (flat (L.take k)).length + l.length = (flat (L.take (k + 1))).length := by rw [HF.out, List.length_append]
     rw [hn] at hown
     clear hn HM
     go_wp2
     go_roundw
     case rel => exact ⟨k + 1, D, by omega, by go_num, hown, HM2, hb⟩
     case measure => simp [intOf]; omega
  ·obtain rfl : k = L.length := by omega
   rw [List.take_length] at hown HM
   go_wp2
   go_ret
   exact ⟨_, D, rfl, Nat.le_refl _, hown, HM.out, hb⟩
end Go.Proofs.K17
namespace Go.Proofs.K17
open Go.RowKit Go.Maps Go.Sort
theorem grown_of_below {a w : World} (h : Below a.heap.size a w) (row : Option Nat) : a.grownBy w row := ⟨h.os, h.tape, h.output, h.size, fun i hi _ => h.block i hi⟩
theorem own_ne {w : World} {b1 b2 : Nat} {e1 e2 : TypeId} {s1 s2 n1 n2 : Nat} {v1 v2 : Value} {x1 x2 : List Value} (h1 : w.ownsRow b1 e1 s1 v1 n1 x1) (h2 : w.ownsRow b2 e2 s2 v2 n2 x2) (hne : e1 ≠ e2) :
  v1.ownBlock = none ∨ v1.ownBlock ≠ v2.ownBlock := by
 rcases h1.2 with ⟨rfl, _⟩ | ⟨g, cap, cur, rfl, _, hh, _⟩
 ·exact Or.inl rfl
 ·right
  rcases h2.2 with ⟨rfl, _⟩ | ⟨g', cap', cur', rfl, _, hh', _⟩
  ·simp [Value.ownBlock]
  ·intro e
   simp [Value.ownBlock] at e
   subst e
   rw [hh] at hh'
   injection hh' with h
   injection h with _ h
   exact hne h
theorem size_le {k : TypeId} {R : Value → Option (DataW Unit × List MemPlace)} {w : World} {P : Program} {b n : Nat} {D : DataW Unit} (h : w.ownsMap P k R b n D) : Maps.size D ≤ n := by
 obtain ⟨es, clock, _, _, hs, rfl⟩ := h
 rw [size_eq, length_sorted]; simpa using hs
def CollI (D0 : DataW Unit) (left : Lit → Bool) (ss : List Int) : Prop :=
 ss.Nodup ∧ (∀ x, x ∈ ss ↔ (Maps.has D0 (.int .i64 x) = true ∧ left (.int .i64 x) = false)) ∧ ∀ x ∈ ss, (Lit.int .i64 x).wf = true
theorem CollI.start (D0 : DataW Unit) : CollI D0 (Maps.has D0) [] := ⟨List.nodup_nil, fun x => by cases Maps.has D0 (.int .i64 x) <;> simp, by simp⟩
theorem CollI.step {D0 : DataW Unit} {left : Lit → Bool} {ss : List Int} (h : CollI D0 left ss) {x : Int} {y : DataW Unit} (hw : (Lit.int .i64 x).wf = true) (hlk : left (.int .i64 x) = true) (hat : ∀ zd, D0.atKey (.int .i64 x) zd = y) :
  CollI D0 (fun z => left z && !z.sameKey (.int .i64 x)) (ss ++ [x]) := by
 obtain ⟨h1, h2, h3⟩ := h
 have hx : x ∉ ss := fun hm => by rw [(h2 x).1 hm |>.2] at hlk; cases hlk
 have hsame : (Lit.int .i64 x).sameKey (.int .i64 x) = true := by simp [Lit.sameKey]
 refine ⟨List.nodup_append.2 ⟨h1, by simp, fun a ha b hb => by simp at hb; subst hb; intro e; subst e; exact hx ha⟩, fun z => ?_, fun z hz => ?_⟩
 ·rw [List.mem_append, List.mem_singleton]
  by_cases e : z = x
  ·subst e; simp [has_true_of_atKey hat, hsame]
  ·have hne : (Lit.int .i64 z).sameKey (.int .i64 x) = false := sameKey_ne (by intro h; injection h with _ h; exact e h)
   simp [e, h2 z, hne]
 ·rcases List.mem_append.1 hz with hz | hz
  ·exact h3 z hz
  ·simp at hz; subst hz; exact hw
theorem CollI.done {D0 : DataW Unit} {left : Lit → Bool} {ss : List Int} (h : CollI D0 left ss) (hl : ∀ kl, left kl = false) : ss.Nodup ∧ ∀ x, x ∈ ss ↔ Maps.has D0 (.int .i64 x) = true :=
 ⟨h.1, fun x => by rw [h.2.1 x]; simp [hl]⟩
def pick (l : Bks) (ss : List Int) : Bks := ss.filterMap fun k => if tot l k = 0 then none else some (k, tot l k)
set_option maxHeartbeats 400000 in
theorem closure_any (i n : Int) (w : World) :
  Calls Tryz.prog 121 #[.int .i64 i, .int .i64 n] w fun e w' => e = .returned (.tuple #[.agg #[.int .i64 i, .int .i64 n], .bool (n != 0)]) ∧ Below w.heap.size w w' := by
 go_enter Tryz.func121, Tryz.ntmps121
 go_wp2
 exact bodyPost_ret (v := .tuple #[.agg #[.int .i64 i, .int .i64 n], .bool (n != 0)]) (by simp [results, Tryz.results121, go_sem]) rfl ⟨rfl, (Below.refl _ _).alloc (Nat.le_refl _) _⟩
theorem int_info : (Tryz.prog.info? 3).map (fun i => (i.zero, i.size, i.bytes)) = some (some (.int .i64 0), 1, 8) := by kernel_rfl
theorem bk_info : (Tryz.prog.info? 90).map (fun i => (i.zero, i.size, i.bytes)) = some (some (.agg #[.int .i64 0, .int .i64 0]), 2, 16) := by kernel_rfl
theorem cell_two_at {w : World} {n : Nat} (hn : n = w.heap.size) (a b : Value) (t : TypeId) : ∀ j u, [a, b][j]? = some u → (w.alloc (.cells #[a, b] t)).cell? ((⟨n, 0, none⟩ : Addr).add j) = some u := by
 subst hn; exact cell_two_new w a b t
def leI : Int → Int → Bool := fun x y => decide (x ≤ y)
def bcells (l : Bks) : List Value := l.flatMap benc
def SomeOut (N : Nat) (l : Bks) (w : World) (e : Ending) (w' : World) : Prop :=
 ∃ (v : Value) (ss : List Int), e = .returned v ∧ ss.Nodup ∧ ss.length ≤ N ∧ (∀ x, x ∈ ss ↔ l.any (fun y => y.1 == x) = true) ∧
  w'.ownsRow w.heap.size 90 2 v (pick l (ss.mergeSort leI)).length (bcells (pick l (ss.mergeSort leI))) ∧ Below w.heap.size w w'
set_option maxHeartbeats 2000000 in
set_option maxRecDepth 100000 in
theorem ordered_any (b N : Nat) (l : Bks) (D : DataW Unit) (w : World) (hown : w.ownsMap Tryz.prog 3 (plainElem (H := Unit) Tryz.prog 3) b N D) (HM : Hid (MapIs D l)) (hN : N ≤ 1000000000000) :
  Calls Tryz.prog 120 #[.map (some b), .func (.func 121) #[] #[]] w (SomeOut N l w) := by
 obtain ⟨i0, hi0, hz0, hz1, hz2⟩ := info_parts int_info
 obtain ⟨i1, hi1, hy0, hy1, hy2⟩ := info_parts bk_info
 have hbl := hown.lt
 have hsz := size_le hown
 go_enter Tryz.func120, Tryz.ntmps120
 go_wp2_with (first
  | (at_len; refine wpList_len_own _ rfl _ 144 rfl 3 3 Tryz.underlying144 _ b N _ rfl hown ?_)
  | (at_make; refine wpList_make_own _ rfl _ _ 71 rfl w.heap.size 3 i0 (.int .i64 0) 1 Tryz.underlying71 hi0 hz0 hz1 _ _ _ (Maps.size D) rfl rfl rfl (by rw [hz2]; omega) (by unfold maxLen; omega) (Nat.le_refl _) ?_; intro w1 hrow1 hg1)
  | (at_range; refine wpList_range_own _ rfl _ 144 rfl 3 3 law3 Tryz.underlying144 _ b N _ rfl (hown.kept hg1 (by simp)) ?_; intro w0 hrg0 hg0 hs0)
  | go_in)
 go_frame
 go_loopw [5] (fun v wr => ∃ (left : Lit → Bool) (cnt : Nat) (ss : List Int), wr.ranges Tryz.prog 3 (plainElem Tryz.prog 3) b w1.heap.size N D left cnt ∧ ss.length + cnt ≤ Maps.size D ∧
   wr.ownsRow w.heap.size 3 1 v ss.length (ss.map (Value.int .i64)) ∧ v ≠ .slice none 0 0 ∧ CollI D left ss ∧ Below w.heap.size w wr)
  (fun _ wr => wr.rangeLeft b w1.heap.size)
 case atStart =>
  exact ⟨_, _, [], hrg0, by simp, hrow1.kept hg0 (Or.inr (by simp [Value.ownBlock])), by simp, CollI.start D,
   ((Below.refl _ _).grown hg1 (Nat.le_refl _) (fun j hj => by cases hj)).grown hg0 hg1.size (fun j hj => by cases hj)⟩
 case round =>
  obtain ⟨left, cnt, ss, hrg, hcs, hrow, hnn, hC, hnx⟩ := hrel
  go_wp2_with (first
   | (at_next; refine wpList_next_ranges_ii _ rfl _ rfl 3 3 .i64 .i64 law3 Tryz.underlying3 Tryz.underlying3 b w1.heap.size N _ _ _ rfl hrg ?_ ?_)
   | go_in)
  ·intro hc0 hl0
   have hcol := hC.done hl0
   have hwfs := hC.2.2
   have hown2 := hrg.owns
   clear hC hl0 hrg
   rcases hrow.2 with ⟨hnil, _⟩ | ⟨g, cap, cur, rfl, hbase, hb, h1, h2, h3, h4⟩
   ·exact absurd hnil hnn
   have hH : Holds (Value.int .i64) wr g 0 ss.toArray := holds_of_blockI hb (by simpa using h4)
   have hgl : g < wr.heap.size := (Array.getElem?_eq_some_iff.1 hb).1
   have hc := Lib.hid (Tryz.slices_Sort_int g 0 cap ss wr hH hgl (by omega))
   have hperm := List.mergeSort_perm ss leI
   have hlen : (ss.mergeSort leI).length = ss.length := hperm.length_eq
   have HCol := Lib.hid (show ss.Nodup ∧ (∀ x, x ∈ ss ↔ l.any (fun y => y.1 == x) = true) from ⟨hcol.1, fun x => by rw [hcol.2 x, HM.out.2.2 x]⟩)
   have HWf := Lib.hid (show ∀ x ∈ ss.mergeSort leI, (Lit.int .i64 x).wf = true from fun x hx => hwfs x (hperm.mem_iff.1 hx))
   have hsort : ∀ nn os, (grow (putRow (Value.int .i64) (Sort.ahead wr nn) g 0 (ss.mergeSort leI).toArray) os).ownsRow w.heap.size 3 1 (.slice (some ⟨g, 0, none⟩) ss.length cap) ss.length ((ss.mergeSort leI).map (Value.int .i64)) :=
    fun nn os => ownsRow_sortedI hlen hbase hb h1 h2 h3
   have hgs : ∀ nn os, wr.grownBy (grow (putRow (Value.int .i64) (Sort.ahead wr nn) g 0 (ss.mergeSort leI).toArray) os) (some g) := fun nn os => grownBy_sortedI _
   have HS := Lib.hid hsort
   have HG := Lib.hid hgs
   have HL := Lib.hid hlen
   have hbg : b ≠ g := by omega
   clear hcol hwfs hperm hlen hsort hgs h1 h2 h3 h4 hH hb
   go_wp2_with fail
   refine hc.out.mono ?_
   rintro e w2 ⟨rfl, nn, os, rfl⟩
   have hrow2 := HS.out nn os
   have hg2 := HG.out nn os
   obtain ⟨w2, hw2⟩ : ∃ w2, grow (putRow (Value.int .i64) (Sort.ahead wr nn) g 0 (ss.mergeSort leI).toArray) os = w2 := ⟨_, rfl⟩
   have hw2' : grow (putRow (Value.int .i64) (Sort.ahead wr nn) g 0 (ss.mergeSort fun x y => decide (x ≤ y)).toArray) os = w2 := hw2
   rw [hw2'] at *
   rw [hw2] at hrow2 hg2
   clear hw2 hw2' HS HG hc
   have hnx2 := hnx.grown hg2 hnx.size (fun j hj => by cases hj; exact hbase)
   have hown3 := hown2.kept hg2 (by simpa using hbg)
   clear hown2 hg2 hnx hrow hrow1 hg1 hrg0 hg0 hs0 hown
   have hssN : ss.length ≤ N := by omega
   clear hcs hc0 hnn hgl
   have hcells := hrow2
   go_wp2_with fail
   go_loopw [7, 29] (fun v i wr => ∃ j : Nat, j ≤ ss.length ∧ i = .int .i64 j ∧ wr.ownsRow w.heap.size 90 2 v (pick l ((ss.mergeSort leI).take j)).length (bcells (pick l ((ss.mergeSort leI).take j))) ∧
     wr.ownsRow w.heap.size 3 1 (.slice (some ⟨g, 0, none⟩) ss.length cap) ss.length ((ss.mergeSort leI).map (Value.int .i64)) ∧ wr.ownsMap Tryz.prog 3 (plainElem Tryz.prog 3) b N D ∧ RowKit.Below w.heap.size w wr)
    (fun _ i _ => ss.length - (intOf i).toNat)
   case atStart => exact ⟨0, Nat.zero_le _, rfl, World.ownsRow_nil _ _ _ _, hrow2, hown3, hnx2⟩
   case round =>
    clear hcells hrow2 hown3 hnx2
    obtain ⟨j, hj, rfl, hout, hkeys, hmap, hb⟩ := hrel
    by_cases hlt : j < ss.length
    ·have hka : Arr wr ienc 1 (some ⟨g, 0, none⟩) (ss.mergeSort leI) := arr_of_own ienc_len HL.out (by rw [← ints_flat]; exact hkeys)
     obtain ⟨b', off', x, hA, _, HX, c0⟩ := hka.int_ (k := j) (by rw [HL.out]; exact hlt)
     obtain ⟨rfl, rfl⟩ : g = b' ∧ 0 = off' := by simpa using hA
     simp only [Nat.zero_add] at c0
     have hwx := HWf.out x (List.mem_of_getElem? HX.out)
     have hkey : keyOf Tryz.prog 3 (.int .i64 x) = some (.int .i64 x) := keyOf_int_mk Tryz.underlying3 hwx
     obtain ⟨t, ht⟩ : ∃ t, tot l x = t := ⟨_, rfl⟩
     have HT := Lib.hid (show ∀ c, D.atKey (.int .i64 x) (.lit (.int .i64 0)) = .lit (.int .i64 c) → c = t from fun c hc => by
      rw [HM.out.2.1 x] at hc; injection hc with hc; injection hc with _ hc; rw [← hc, ht])
     have hpl : (pick l ((ss.mergeSort leI).take j)).length ≤ j := Nat.le_trans (List.length_filterMap_le _ _) (List.length_take_le _ _)
     clear hka hwx hA
     by_cases hz : t = 0
     ·have HP := Lib.hid (show pick l ((ss.mergeSort leI).take (j + 1)) = pick l ((ss.mergeSort leI).take j) by
       rw [take_snoc HX.out]; simp [pick, List.filterMap_append, ht, hz])
      subst hz
      go_wp2_with (first
       | (at_lookup; refine wpList_lookup_own_int _ rfl _ _ 144 rfl 3 3 .i64 law3 Tryz.underlying144 Tryz.underlying3 (zero3 _) b N _ rfl hmap _ _ rfl hkey ?_; intro c hat hwc; obtain rfl : c = 0 := HT.out c hat; clear hat hwc)
       | (go_at_call 121; refine (closure_any _ _ _).mono ?_; rintro e w3 ⟨rfl, hb3⟩))
      go_roundw
      case rel =>
       refine ⟨j + 1, by omega, by go_num, by rw [HP.out]; exact (hout.kept (grown_of_below hb3 none) (by cases Value.ownBlock u7 <;> simp)).alloc _,
        (hkeys.kept (grown_of_below hb3 none) (Or.inr (by simp [Value.ownBlock]))).alloc _, (hmap.kept (grown_of_below hb3 none) (by simp)).alloc _, (hb.trans (hb3.mono hb.size)).alloc (by have := hb.size; have := hb3.size; omega) _⟩
      case measure => simp [intOf]; omega
     ·have HP := Lib.hid (show pick l ((ss.mergeSort leI).take (j + 1)) = pick l ((ss.mergeSort leI).take j) ++ [(x, t)] by
       rw [take_snoc HX.out]; simp [pick, List.filterMap_append, ht, hz])
      have hz2 : (t != 0) = true := by simpa using hz
      clear hz ht
      go_wp2_with (first
       | (at_lookup; refine wpList_lookup_own_int _ rfl _ _ 144 rfl 3 3 .i64 law3 Tryz.underlying144 Tryz.underlying3 (zero3 _) b N _ rfl hmap _ _ rfl hkey ?_; intro c hat hwc; obtain rfl : c = t := HT.out c hat; clear hat hwc)
       | (go_at_call 121; refine (closure_any _ _ _).mono ?_; rintro e w3 ⟨rfl, hb3⟩)
       | (at_builtin; refine wpList_append_own _ rfl _ _ 37 rfl w.heap.size 90 i1 (.agg #[.int .i64 0, .int .i64 0]) 2 16 Tryz.underlying37 hi1 hy0 hy1 hy2 rfl (by decide) _ _ _ rfl (((hout.kept (grown_of_below hb3 none) (by cases Value.ownBlock u7 <;> simp)).alloc (.cells #[.int .i64 x, .int .i64 c] 90)).alloc (.cells #[.int .i64 x, .int .i64 c] 90)) ⟨w3.heap.size + 1, 0, none⟩ 1 1 [.int .i64 x, .int .i64 c] rfl rfl (cell_two_at (by simp) _ _ _) (by simp [Value.oneCell']) (by unfold maxLen; omega) (by omega) (by have := hb.size; have := hb3.size; simp; omega) ?_; intro v4 w4 hown4 hg4 _; go_frame))
      have hlow : ∀ k, u7.ownBlock = some k → w.heap.size ≤ k := fun k hk => (hout.lt k hk).1
      have hkn : Value.ownBlock (.slice (some ⟨g, 0, none⟩) ss.length cap) ≠ u7.ownBlock := by
       rcases own_ne hkeys hout (by decide) with h | h
       ·simp [Value.ownBlock] at h
       ·exact h
      go_roundw
      case rel =>
       refine ⟨j + 1, by omega, by go_num, ?_, ?_, ?_, ?_⟩
       ·rw [HP.out, List.length_append]; unfold bcells at *; rw [List.flatMap_append]; exact hown4
       ·exact (((hkeys.kept (grown_of_below hb3 none) (Or.inr (by simp [Value.ownBlock]))).alloc _).alloc _).kept hg4 (Or.inr hkn)
       ·exact (((hmap.kept (grown_of_below hb3 none) (by simp)).alloc _).alloc _).kept hg4 (fun e => by have := hlow b e.symm; omega)
       ·exact (((hb.trans (hb3.mono hb.size)).alloc (by have := hb.size; have := hb3.size; omega) _).alloc (by have := hb.size; have := hb3.size; simp; omega) _).grown hg4 (by have := hb.size; have := hb3.size; simp; omega) hlow
      case measure => simp [intOf]; omega
    ·have hall : (ss.mergeSort leI).take j = ss.mergeSort leI := List.take_of_length_le (by rw [HL.out]; omega)
     rw [hall] at hout
     clear hall
     go_wp2
     go_ret
     exact ⟨_, ss, rfl, HCol.out.1, hssN, HCol.out.2, hout, hb⟩
  ·intro x c w2 cnt2 hwx hwc hlk hat hrg2 hlt hg2 hs2 hen
   have hrow2 := hrow.kept hg2 (Or.inr (row_ne_iter hrow hrg).symm)
   clear hs2
   go_wp2_with (first
    | (at_builtin; refine wpList_append_own _ rfl _ _ 71 rfl w.heap.size 3 i0 (.int .i64 0) 1 8 Tryz.underlying71 hi0 hz0 hz1 hz2 rfl (by decide) _ _ _ rfl (hrow2.alloc _) ⟨w2.heap.size, 0, none⟩ 1 1 [.int .i64 x] rfl rfl (cell_one_new _ _ _) (by simp [Value.oneCell']) (by unfold maxLen at *; omega) (by omega) (by have := hnx.size; have := hg2.size; simp; omega) ?_; intro v' w3 hown' hg3 hnil3; go_frame)
    | go_in)
   have hrg3 := (hrg2.alloc _).kept hg3 (row_ne_low hrow2 hbl) (row_ne_iter hrow2 hrg2)
   go_roundw
   case rel =>
    refine ⟨_, cnt2, ss ++ [x], hrg3, by simp; omega, by simpa using hown', fun hv' => by have := (hnil3.1 hv').2; omega, hC.step hwx hlk hat, ?_⟩
    exact ((hnx.grown hg2 hnx.size (fun j hj => by cases hj; exact hg1.size)).alloc (by have := hnx.size; have := hg2.size; omega) _).grown hg3 (by have := hnx.size; have := hg2.size; simp; omega) (fun j hj => (hrow2.lt j hj).1)
   case measure => rw [hrg3.left_eq, hrg.left_eq]; exact hlt
end Go.Proofs.K17
namespace Go.Proofs.K17
open Go.RowKit
def Asc (l : Bks) : Prop := l.Pairwise (fun x y => x.1 < y.1) ∧ ∀ x ∈ l, x.2 ≠ 0
theorem totFrom_none (l : Bks) : ∀ (s k : Int), (∀ x ∈ l, x.1 ≠ k) → totFrom s l k = s := by
 induction l with
 | nil => intro s k _; rfl
 | cons x t ih =>
  intro s k h
  rw [totFrom, if_neg (h x (by simp))]
  exact ih s k fun y hy => h y (by simp [hy])
theorem totFrom_one {l : Bks} (h : l.Pairwise (fun x y => x.1 < y.1)) (s : Int) {x : Int × Int} (hx : x ∈ l) : totFrom s l x.1 = wrap64 (s + x.2) := by
 induction l generalizing s with
 | nil => cases hx
 | cons y t ih =>
  obtain ⟨h1, h2⟩ := List.pairwise_cons.1 h
  rcases List.mem_cons.1 hx with rfl | hx
  ·rw [totFrom, if_pos rfl]
   exact totFrom_none t _ _ fun z hz => by have := h1 z hz; omega
  ·rw [totFrom, if_neg (by have := h1 x hx; omega)]
   exact ih h2 s hx
theorem tot_one {l : Bks} (h : Asc l) (hf : WfB l) {x : Int × Int} (hx : x ∈ l) : tot l x.1 = x.2 := by
 have := (hf x hx).2
 rw [tot, totFrom_one h.1 0 hx, Int.zero_add, w64 this.1 this.2]
theorem tot_none {l : Bks} {k : Int} (h : ∀ x ∈ l, x.1 ≠ k) : tot l k = 0 := totFrom_none l 0 k h
theorem totFrom_asc {l : Bks} (h : Asc l) (hf : WfB l) (s k : Int) (hs : I64 s) : totFrom s l k = wrap64 (s + tot l k) := by
 by_cases hx : ∃ x ∈ l, x.1 = k
 ·obtain ⟨x, hx, rfl⟩ := hx
  rw [totFrom_one h.1 s hx, tot_one h hf hx]
 ·have hn : ∀ x ∈ l, x.1 ≠ k := fun x hxl e => hx ⟨x, hxl, e⟩
  rw [totFrom_none l s k hn, tot_none hn, Int.add_zero, w64 hs.1 hs.2]
theorem totFrom_range (l : Bks) : ∀ (s k : Int), I64 s → I64 (totFrom s l k) := by
 induction l with
 | nil => intro s k h; exact h
 | cons x t ih =>
  intro s k h
  rw [totFrom]
  split
  ·exact ih _ _ (w64_range _)
  ·exact ih _ _ h
theorem tot_range (l : Bks) (k : Int) : I64 (tot l k) := totFrom_range l 0 k ⟨by omega, by omega⟩
theorem tot_append {a b : Bks} (hb : Asc b) (hf : WfB b) (k : Int) : tot (a ++ b) k = wrap64 (tot a k + tot b k) := by
 rw [tot, totFrom_append]; exact totFrom_asc hb hf _ k (tot_range a k)
theorem eq_of_asc : ∀ {l m : Bks}, l.Pairwise (fun x y => x.1 < y.1) → m.Pairwise (fun x y => x.1 < y.1) → (∀ x, x ∈ l ↔ x ∈ m) → l = m
 | [], [], _, _, _ => rfl
 | [], y :: m, _, _, h => by have := (h y).2 (by simp); cases this
 | x :: l, [], _, _, h => by have := (h x).1 (by simp); cases this
 | x :: l, y :: m, hl, hm, h => by
  obtain ⟨l1, l2⟩ := List.pairwise_cons.1 hl
  obtain ⟨m1, m2⟩ := List.pairwise_cons.1 hm
  have e : x = y := by
   rcases List.mem_cons.1 ((h x).1 (by simp)) with e | hx
   ·exact e
   ·rcases List.mem_cons.1 ((h y).2 (by simp)) with e | hy
    ·exact e.symm
    ·have a := m1 x hx; have b := l1 y hy; omega
  subst e
  congr 1
  refine eq_of_asc l2 m2 fun z => ⟨fun hz => ?_, fun hz => ?_⟩
  ·rcases List.mem_cons.1 ((h z).1 (by simp [hz])) with e | hz'
   ·subst e; have := l1 z hz; omega
   ·exact hz'
  ·rcases List.mem_cons.1 ((h z).2 (by simp [hz])) with e | hz'
   ·subst e; have := m1 z hz; omega
   ·exact hz'
theorem mem_asc {l : Bks} (h : Asc l) (hf : WfB l) (x : Int × Int) : x ∈ l ↔ (tot l x.1 = x.2 ∧ x.2 ≠ 0) := by
 constructor
 ·intro hx; exact ⟨tot_one h hf hx, h.2 x hx⟩
 ·rintro ⟨h1, h2⟩
  by_cases hx : ∃ y ∈ l, y.1 = x.1
  ·obtain ⟨y, hy, e⟩ := hx
   have := tot_one h hf hy
   rw [e, h1] at this
   have : x = y := Prod.ext e.symm this
   rw [this]; exact hy
  ·exact absurd (h1.symm.trans (tot_none fun y hy e => hx ⟨y, hy, e⟩)) h2
theorem asc_ext {l m : Bks} (hl : Asc l) (fl : WfB l) (hm : Asc m) (fm : WfB m) (h : ∀ k, tot l k = tot m k) : l = m :=
 eq_of_asc hl.1 hm.1 fun x => by rw [mem_asc hl fl, mem_asc hm fm, h]
theorem pick_asc {l : Bks} {ss : List Int} (hnd : ss.Nodup) : Asc (pick l (ss.mergeSort leI)) := by
 have hs : (ss.mergeSort leI).Pairwise (fun x y => x < y) := by
  have h1 := List.pairwise_mergeSort (le := leI) (fun a b c => by simp [leI]; omega) (fun a b => by simp [leI]; omega) ss
  have h2 : (ss.mergeSort leI).Nodup := (List.mergeSort_perm ss leI).nodup_iff.2 hnd
  exact (List.pairwise_and_iff.2 ⟨h1, h2⟩).imp fun {a b} ⟨ha, hb⟩ => by simp [leI] at ha; omega
 constructor
 ·unfold pick
  rw [List.pairwise_filterMap]
  refine hs.imp fun {a b} hab x hx y hy => ?_
  split at hx <;> simp at hx
  split at hy <;> simp at hy
  rw [← hx, ← hy]; exact hab
 ·intro x hx
  obtain ⟨k, _, hk⟩ := List.mem_filterMap.1 hx
  split at hk <;> simp at hk
  rw [← hk]; assumption
theorem pick_wf {l : Bks} {ss : List Int} (hk : ∀ k ∈ ss, I64 k) : WfB (pick l (ss.mergeSort leI)) := fun x hx => by
 obtain ⟨k, hm, hk'⟩ := List.mem_filterMap.1 hx
 split at hk' <;> simp at hk'
 rw [← hk']
 exact ⟨hk k ((List.mergeSort_perm ss leI).mem_iff.1 hm), tot_range l k⟩
theorem pick_tot {l : Bks} {ss : List Int} (hnd : ss.Nodup) (hm : ∀ x, x ∈ ss ↔ l.any (fun y => y.1 == x) = true) (hw : WfB (pick l (ss.mergeSort leI))) (k : Int) : tot (pick l (ss.mergeSort leI)) k = tot l k := by
 by_cases h0 : tot l k = 0
 ·rw [h0]
  refine tot_none fun x hx e => ?_
  obtain ⟨k', _, hk'⟩ := List.mem_filterMap.1 hx
  split at hk' <;> simp at hk'
  rw [← hk'] at e
  simp at e; subst e; contradiction
 ·have hin : (k, tot l k) ∈ pick l (ss.mergeSort leI) := by
   refine List.mem_filterMap.2 ⟨k, (List.mergeSort_perm ss leI).mem_iff.2 ((hm k).2 ?_), by simp [h0]⟩
   by_cases hx : ∃ y ∈ l, y.1 = k
   ·obtain ⟨y, hy, e⟩ := hx
    exact List.any_eq_true.2 ⟨y, hy, by simp [e]⟩
   ·exact absurd (tot_none fun y hy e => hx ⟨y, hy, e⟩) h0
  exact tot_one (pick_asc hnd) hw hin
theorem asc_cons {x : Int × Int} {t : Bks} (h : Asc (x :: t)) : Asc t ∧ (∀ y ∈ t, x.1 < y.1) ∧ x.2 ≠ 0 :=
 ⟨⟨(List.pairwise_cons.1 h.1).2, fun y hy => h.2 y (by simp [hy])⟩, (List.pairwise_cons.1 h.1).1, h.2 x (by simp)⟩
theorem asc_mk {x : Int × Int} {t : Bks} (h : Asc t) (h1 : ∀ y ∈ t, x.1 < y.1) (h0 : x.2 ≠ 0) : Asc (x :: t) :=
 ⟨List.pairwise_cons.2 ⟨h1, h.1⟩, fun y hy => by rcases List.mem_cons.1 hy with rfl | hy; exact h0; exact h.2 y hy⟩
theorem wfB_cons {x : Int × Int} {t : Bks} (h : WfB (x :: t)) : (I64 x.1 ∧ I64 x.2) ∧ WfB t := ⟨h x (by simp), fun y hy => h y (by simp [hy])⟩
theorem wfB_mk {x : Int × Int} {t : Bks} (h : WfB t) (h1 : I64 x.1 ∧ I64 x.2) : WfB (x :: t) := fun y hy => by
 rcases List.mem_cons.1 hy with rfl | hy
 ·exact h1
 ·exact h y hy
theorem tot_cons {x : Int × Int} {t : Bks} (h : Asc (x :: t)) (hf : WfB (x :: t)) (k : Int) : tot (x :: t) k = if x.1 = k then x.2 else tot t k := by
 split
 ·rename_i e; subst e; exact tot_one h hf (by simp)
 ·rename_i e; rw [tot, totFrom, if_neg e]; rfl
end Go.Proofs.K17
namespace Go.Proofs.K17
open Go.RowKit Go.Maps
def SomeSk (n : Nat) (t : Int → Int) (w : World) (e : Ending) (w' : World) : Prop :=
 ∃ (A : Option Addr) (cap : Nat) (m : Bks), e = .returned (.slice A m.length cap) ∧ w'.ownsRow w.heap.size 90 2 (.slice A m.length cap) m.length (bcells m) ∧ Asc m ∧ WfB m ∧ m.length ≤ n ∧ (∀ k, tot m k = t k) ∧ Below w.heap.size w w'
theorem someSk_of {N : Nat} {l : Bks} {w w' : World} {e : Ending} (hf : WfB l) (h : SomeOut N l w e w') : SomeSk N (tot l) w e w' := by
 obtain ⟨v, ss, rfl, hnd, hN, hm, hown, hb⟩ := h
 obtain ⟨A, cap, rfl⟩ := own_shape hown
 have hw : WfB (pick l (ss.mergeSort leI)) := pick_wf fun k hk => by
  obtain ⟨y, hy, e⟩ := List.any_eq_true.1 ((hm k).1 hk)
  have : y.1 = k := by simpa using e
  rw [← this]; exact (hf y hy).1
 refine ⟨A, cap, _, rfl, hown, pick_asc hnd, hw, ?_, pick_tot hnd hm hw, hb⟩
 have := List.length_filterMap_le (fun k => if tot l k = 0 then none else some (k, tot l k)) (ss.mergeSort leI)
 rw [(List.mergeSort_perm ss leI).length_eq] at this
 unfold pick; omega
theorem SomeSk.mono {n : Nat} {t t' : Int → Int} {w w1 w' : World} {e : Ending} (h : SomeSk n t w1 e w') (ht : ∀ k, t k = t' k) (hb : Below w.heap.size w w1) : SomeSk n t' w e w' := by
 obtain ⟨A, cap, m, he, ha, h1, h2, h3, h4, h5⟩ := h
 exact ⟨A, cap, m, he, ⟨ha.1, ha.2.imp id fun ⟨g, c, cur, e, hb0, r⟩ => ⟨g, c, cur, e, Nat.le_trans hb.size hb0, r⟩⟩, h1, h2, h3, fun k => (h4 k).trans (ht k), hb.trans (h5.mono hb.size)⟩
set_option maxHeartbeats 400000 in
theorem counted_any (b N : Nat) (l : Bks) (D : DataW Unit) (w : World) (hown : w.ownsMap Tryz.prog 3 (plainElem (H := Unit) Tryz.prog 3) b N D) (HM : Hid (MapIs D l)) (hN : N ≤ 1000000000000) (hf : WfB l) :
  Calls Tryz.prog 115 #[.map (some b)] w (SomeSk N (tot l) w) := by
 have H := Lib.hid (ordered_any b N l D w hown HM hN)
 have HF := Lib.hid hf
 clear hown hf
 go_enter Tryz.func115, Tryz.ntmps115
 go_wp2_with fail
 refine H.out.mono ?_
 intro e w' h
 obtain ⟨A, cap, m, rfl, h2⟩ := someSk_of HF.out h
 have H2 := Lib.hid h2
 clear h h2
 go_wp2_with fail
 go_ret
 exact ⟨A, cap, m, rfl, H2.out⟩
theorem arr_one (w : World) (t : TypeId) (A : Option Addr) (cap : Nat) (l : Bks) (n : Nat) (hn : n = w.heap.size) : Arr (w.alloc (.cells #[.slice A l.length cap] t)) slenc 1 (some ⟨n, 0, none⟩) [(A, cap, l)] := by
 subst hn
 refine Or.inr ⟨w.heap.size, 0, rfl, by simp, fun k x hx j u hu => ?_⟩
 match k, hx with
 | 0, hx =>
  simp at hx; subst hx
  match j, hu with
  | 0, hu => simp [slenc] at hu; subst hu; simp
  | j + 1, hu => simp [slenc] at hu
 | k + 1, hx => simp at hx
theorem arr_two (w : World) (t : TypeId) (A B : Option Addr) (c d : Nat) (l m : Bks) (n : Nat) (hn : n = w.heap.size) : Arr (w.alloc (.cells #[.slice A l.length c, .slice B m.length d] t)) slenc 1 (some ⟨n, 0, none⟩) [(A, c, l), (B, d, m)] := by
 subst hn
 refine Or.inr ⟨w.heap.size, 0, rfl, by simp, fun k x hx j u hu => ?_⟩
 match k, hx with
 | 0, hx =>
  simp at hx; subst hx
  match j, hu with
  | 0, hu => simp [slenc] at hu; subst hu; simp
  | j + 1, hu => simp [slenc] at hu
 | 1, hx =>
  simp at hx; subst hx
  match j, hu with
  | 0, hu => simp [slenc] at hu; subst hu; simp
  | j + 1, hu => simp [slenc] at hu
 | k + 2, hx => simp at hx
set_option maxHeartbeats 1000000 in
theorem merge_any (A B : Option Addr) (c d : Nat) (l m : Bks) (w : World) (ha : Arr w benc 2 A l) (hb : Arr w benc 2 B m) (fl : WfB l) (fm : WfB m) (hn : l.length + m.length ≤ 1000000000000) :
  Calls Tryz.prog 112 #[.slice A l.length c, .slice B m.length d] w (SomeSk (l.length + m.length) (tot (l ++ m)) w) := by
 have hbl : Below w.heap.size w (w.alloc (.cells #[.slice A l.length c, .slice B m.length d] 37)) := (Below.refl _ _).alloc (Nat.le_refl _) _
 have hc := counts_any (some ⟨w.heap.size, 0, none⟩) 2 [(A, c, l), (B, d, m)] (w.alloc (.cells #[.slice A l.length c, .slice B m.length d] 37)) (arr_two w 37 A B c d l m _ rfl)
  (fun x hx => by simp at hx; rcases hx with rfl | rfl; exact ha.below hbl; exact hb.below hbl) (fun x hx => by simp at hx; rcases hx with rfl | rfl; exact fl; exact fm)
  (by simp [flat]; omega) (by simp)
 have e : flat [(A, c, l), (B, d, m)] = l ++ m := by simp [flat]
 rw [e] at hc
 have H := Lib.hid hc
 have HF := Lib.hid (show WfB (l ++ m) from fun x hx => by rcases List.mem_append.1 hx with h | h; exact fl x h; exact fm x h)
 have HB := Lib.hid hbl
 have HL := Lib.hid (show (l ++ m).length = l.length + m.length from List.length_append)
 clear hc e ha hb fl fm hbl
 go_enter Tryz.func112, Tryz.ntmps112
 go_wp2_with fail
 refine H.out.mono ?_
 rintro e w1 ⟨b, D, rfl, _, hown, hM, hb1⟩
 have HM := Lib.hid hM
 have HB1 := Lib.hid (HB.out.trans (hb1.mono HB.out.size))
 clear hM hb1
 go_wp2_with fail
 rw [HL.out] at hown
 refine (counted_any b _ (l ++ m) D w1 hown HM hn HF.out).mono ?_
 intro e w2 h
 obtain ⟨A', cap', m', rfl, h2⟩ := h.mono (fun _ => rfl) HB1.out
 have H2 := Lib.hid h2
 clear h h2 hown
 go_wp2_with fail
 go_ret
 exact ⟨A', cap', m', rfl, H2.out⟩
set_option maxHeartbeats 1000000 in
theorem add_any (A : Option Addr) (c : Nat) (l : Bks) (n t : Int) (w : World) (ha : Arr w benc 2 A l) (fl : WfB l) (hn : l.length < 1000000000000) (h0 : I64 n) (h1 : I64 t) :
  Calls Tryz.prog 113 #[.slice A l.length c, .int .i64 n, .int .i64 t] w (SomeSk (l.length + 1) (tot (l ++ [(idx n, t)])) w) := by
 have hbl : Below w.heap.size w (w.alloc (.cells #[.slice A l.length c] 37)) := (Below.refl _ _).alloc (Nat.le_refl _) _
 have hc := counts_any (some ⟨w.heap.size, 0, none⟩) 1 [(A, c, l)] (w.alloc (.cells #[.slice A l.length c] 37)) (arr_one w 37 A c l _ rfl)
  (fun x hx => by simp at hx; subst hx; exact ha.below hbl) (fun x hx => by simp at hx; subst hx; exact fl) (by simp [flat]; omega) (by simp)
 have e : flat [(A, c, l)] = l := by simp [flat]
 rw [e] at hc
 have hi := idx_range n h0.1 h0.2
 have H := Lib.hid hc
 have HF := Lib.hid (show WfB (l ++ [(idx n, t)]) from fun x hx => by
  rcases List.mem_append.1 hx with h | h
  ·exact fl x h
  ·simp at h; subst h; exact ⟨⟨by simp; omega, by simp; omega⟩, h1⟩)
 have HB := Lib.hid hbl
 have HI := Lib.hid (fun w => Index_any len64 n w h0.1 h0.2)
 obtain ⟨i, hi2⟩ : ∃ i, idx n = i := ⟨_, rfl⟩
 rw [hi2] at HI HF hi ⊢
 have hkey : keyOf Tryz.prog 3 (.int .i64 i) = some (.int .i64 i) := keyOf_int_mk Tryz.underlying3 (wf_i64 ⟨by omega, by omega⟩)
 clear hc e ha fl hbl h0 h1 hi2
 go_enter Tryz.func113, Tryz.ntmps113
 go_wp2_with fail
 refine H.out.mono ?_
 rintro e w1 ⟨b, D, rfl, hbb, hown, hM, hb1⟩
 have HM := Lib.hid hM
 have HB1 := Lib.hid (HB.out.trans (hb1.mono HB.out.size))
 have hbw : w.heap.size ≤ b := Nat.le_trans HB.out.size hbb
 clear hM hb1 hbb
 go_wp2_with (first
  | (go_at_call 117; refine (HI.out _).mono ?_; rintro e w2 ⟨rfl, rfl⟩)
  | (at_lookup; refine wpList_lookup_own_int _ rfl _ _ 144 rfl 3 3 .i64 law3 Tryz.underlying144 Tryz.underlying3 (zero3 _) b _ _ rfl hown _ _ rfl hkey ?_; intro c hat hwc)
  | (at_mapUpdate; refine wpList_mapUpdate_own _ rfl _ _ _ 144 rfl 3 3 law3 Tryz.underlying144 _ b _ _ rfl hown (by unfold maxLen; omega) _ _ _ rfl rfl hkey _ [] (plainElem_int Tryz.underlying3 (wrap64_wf _)) ?_; intro w3 hown2 hgrow2)
  | fail)
 have HM2 := Lib.hid (mapIs_put HM.out i t _ hat)
 have HB3 := Lib.hid (HB1.out.grown hgrow2 HB1.out.size (fun k hk => by cases hk; exact hbw))
 clear hat hwc hown hgrow2
 refine (counted_any b _ (l ++ [(i, t)]) _ w3 hown2 HM2 (by omega) HF.out).mono ?_
 intro e w4 h
 obtain ⟨A', cap', m', rfl, h2⟩ := h.mono (fun _ => rfl) HB3.out
 have H2 := Lib.hid h2
 clear h h2 hown2
 go_wp2_with fail
 go_ret
 exact ⟨A', cap', m', rfl, H2.out⟩
end Go.Proofs.K17
namespace Go.Abs
open Go.Proofs Go.RowKit
noncomputable abbrev PA := Tryz.prog
theorem mixedA : PA.follows .mixedOrders = true := Tryz.checked.mixed
theorem goodA {f : FuncId} (h : (match PA.funcs[f]? with | some fn => fn.body.isSome && !(fn.name == "runtime.NumGoroutine") | none => false) = true) : goodFn PA f := by
 split at h
 ·rename_i fn hf
  simp only [Bool.and_eq_true, Bool.not_eq_true'] at h
  exact ⟨fn, hf, h.1, h.2⟩
 ·cases h
def GA : Glob := fun _ => none
def nA : Nat → Option Ann := fun _ => none
def nAn : Anns := ⟨nA, nA⟩
def shB : Sh × Option TypeId := (.val (.one .bool), none)
def shI : Sh × Option TypeId := (.val (.one (.int .i64)), none)
def sh2U : Sh × Option TypeId := (.tup [.one (.int .u64), .one (.int .u64)], none)
def shW : Sh × Option TypeId := (.val (.agg [.int .i64, .int .u64]), none)
def shU2 : Sh × Option TypeId := (.val (.agg [.int .u64, .int .u64]), none)
def shIB : Sh × Option TypeId := (.tup [.one (.int .i64), .one .bool], none)
def wv (h l : Int) : Int := h * 18446744073709551616 + l
def wideA (x : Int) : AV := .agg [.int .i64 (IntKind.i64.wrap (x / 18446744073709551616)), .int .u64 (x % 18446744073709551616)]
def wOk (h l : Int) : Prop := -9223372036854775808 ≤ h ∧ h < 9223372036854775808 ∧ 0 ≤ l ∧ l < 18446744073709551616
instance (h l : Int) : Decidable (wOk h l) := inferInstanceAs (Decidable (_ ∧ _))
def uOk (l : Int) : Prop := 0 ≤ l ∧ l < 18446744073709551616
instance (l : Int) : Decidable (uOk l) := inferInstanceAs (Decidable (_ ∧ _))
def iOk (l : Int) : Prop := -9223372036854775808 ≤ l ∧ l < 9223372036854775808
instance (l : Int) : Decidable (iOk l) := inferInstanceAs (Decidable (_ ∧ _))
def s52 : Spec := fun args => match args with
 | [.int .u64 x, .int .u64 y, .int .u64 c] => if uOk x ∧ uOk y ∧ 0 ≤ c ∧ c ≤ 1 then some (.tup [.int .u64 ((x + y + c) % 18446744073709551616), .int .u64 ((x + y + c) / 18446744073709551616)], []) else none
 | _ => none
def s62 : Spec := fun args => match args with
 | [.int .u64 x, .int .u64 y, .int .u64 c] => if uOk x ∧ uOk y ∧ 0 ≤ c ∧ c ≤ 1 then some (.tup [.int .u64 ((x - y - c) % 18446744073709551616), .int .u64 (if x < y + c then 1 else 0)], []) else none
 | _ => none
def s54 : Spec := fun args => match args with
 | [.int .u64 x, .int .u64 y] => if uOk x ∧ uOk y then some (.tup [.int .u64 (x * y / 18446744073709551616), .int .u64 (x * y % 18446744073709551616)], []) else none
 | _ => none
def s59 : Spec := fun args => match args with
 | [.int .u64 x] => if uOk x then some (.int .i64 (64 - (Lib.bitLen x.toNat : Int)), []) else none
 | _ => none
def s114 : Spec := fun args => match args with
 | [.int .i64 x, .int .i64 y] => some (.int .i64 (Lib.compareInt x y), [])
 | _ => none
def s115 : Spec := fun args => match args with
 | [.str a, .str b] => some (.int .i64 (Lib.compareBytes a b), [])
 | _ => none
section
variable {E : Env} {w w' : World} {G : Glob}
theorem vs_three {vs : Array Value} (h : vs.size = 3) : ∃ a b c, vs = #[a, b, c] := by
 obtain ⟨l⟩ := vs
 match l, h with
 | [a, b, c], _ => exact ⟨a, b, c, rfl⟩
theorem rep_tup2 {a b : AV} {u v : Value} (h1 : Rep E w a u) (h2 : Rep E w b v) : Rep E w (.tup [a, b]) (.tuple #[u, v]) := by
 refine .tup _ _ rfl fun i c x hc hx => ?_
 match i, hc, hx with
 | 0, hc, hx => simp at hc hx; subst hc; subst hx; exact h1
 | 1, hc, hx => simp at hc hx; subst hc; subst hx; exact h2
 | i + 2, hc, hx => simp at hc
end
theorem o52 : SpecOk PA GA 44 s52 := by
 intro g args r lv h E w vs hI hG hn' hv hcl
 simp only at h
 split at h
 ·rename_i e
  subst e
  unfold s52 at h
  split at h
  ·rename_i x y c
   split at h
   ·rename_i hc
    obtain ⟨hx, hy, hc0, hc1⟩ := hc
    simp only [Option.some.injEq, Prod.mk.injEq] at h
    obtain ⟨rfl, rfl⟩ := h
    obtain ⟨a, b, d, rfl⟩ := vs_three hn'
    obtain rfl := rep_int (hv 0 _ _ rfl rfl)
    obtain rfl := rep_int (hv 1 _ _ rfl rfl)
    obtain rfl := rep_int (hv 2 _ _ rfl rfl)
    exact .inr ⟨_, w, extern_value (fn := Tryz.f44) (e := add64Entry) (by kernel_rfl) (by kernel_rfl) (by kernel_rfl) (by kernel_rfl) (by kernel_rfl) (run_add64 x y c hx.1 hy.1 hc0 hc1 w), _, rfl, res_same fun B K => rep_tup2 (.int _ _) (.int _ _)⟩
   ·cases h
  ·cases h
 ·cases h
theorem o62 : SpecOk PA GA 83 s62 := by
 intro g args r lv h E w vs hI hG hn' hv hcl
 simp only at h
 split at h
 ·rename_i e
  subst e
  unfold s62 at h
  split at h
  ·rename_i x y c
   split at h
   ·rename_i hc
    obtain ⟨hx, hy, hc0, hc1⟩ := hc
    simp only [Option.some.injEq, Prod.mk.injEq] at h
    obtain ⟨rfl, rfl⟩ := h
    obtain ⟨a, b, d, rfl⟩ := vs_three hn'
    obtain rfl := rep_int (hv 0 _ _ rfl rfl)
    obtain rfl := rep_int (hv 1 _ _ rfl rfl)
    obtain rfl := rep_int (hv 2 _ _ rfl rfl)
    obtain ⟨X, rfl⟩ := Int.eq_ofNat_of_zero_le hx.1
    obtain ⟨Y, rfl⟩ := Int.eq_ofNat_of_zero_le hy.1
    obtain ⟨C, rfl⟩ := Int.eq_ofNat_of_zero_le hc0
    unfold uOk at hx hy
    refine .inr ⟨_, w, extern_value (fn := Tryz.f83) (e := sub64Entry) (by kernel_rfl) (by kernel_rfl) (by kernel_rfl) (by kernel_rfl) (by kernel_rfl) (run_sub64 X Y C (by omega) w), _, rfl, res_same fun B K => ?_⟩
    have e1 : (((X + 18446744073709551616 - Y - C) % 18446744073709551616 : Nat) : Int) = ((X : Int) - Y - C) % 18446744073709551616 := by omega
    have e2 : (((if X < Y + C then 1 else 0 : Nat) : Int)) = (if (X : Int) < Y + C then 1 else 0) := by split <;> split <;> omega
    rw [e1, e2]
    exact rep_tup2 (.int _ _) (.int _ _)
   ·cases h
  ·cases h
 ·cases h
theorem o54 : SpecOk PA GA 65 s54 := by
 intro g args r lv h E w vs hI hG hn' hv hcl
 simp only at h
 split at h
 case isFalse => cases h
 case isTrue e =>
 subst e
 unfold s54 at h
 split at h
 case h_2 => cases h
 case h_1 x y =>
 split at h
 case isFalse => cases h
 case isTrue hc =>
 obtain ⟨hx, hy⟩ := hc
 simp only [Option.some.injEq, Prod.mk.injEq] at h
 obtain ⟨rfl, rfl⟩ := h
 obtain ⟨a, b, rfl⟩ := vs_two hn'
 obtain rfl := rep_int (hv 0 _ _ rfl rfl)
 obtain rfl := rep_int (hv 1 _ _ rfl rfl)
 obtain ⟨X, rfl⟩ := Int.eq_ofNat_of_zero_le hx.1
 obtain ⟨Y, rfl⟩ := Int.eq_ofNat_of_zero_le hy.1
 unfold uOk at hx hy
 refine .inl ⟨goodA (by kernel_rfl), (Tryz.bits_Mul64 X Y (by omega) (by omega) w).mono fun e w' ⟨he, hw⟩ => ⟨_, he, ?_⟩⟩
 subst hw
 have e1 : ((X * Y / 18446744073709551616 : Nat) : Int) = (X : Int) * Y / 18446744073709551616 := by simp
 have e2 : ((X * Y % 18446744073709551616 : Nat) : Int) = (X : Int) * Y % 18446744073709551616 := by simp
 rw [e1, e2]
 exact res_same fun B K => rep_tup2 (.int _ _) (.int _ _)
theorem o59 : SpecOk PA GA 64 s59 := by
 intro g args r lv h E w vs hI hG hn' hv hcl
 simp only at h
 split at h
 case isFalse => cases h
 case isTrue e =>
 subst e
 unfold s59 at h
 split at h
 case h_2 => cases h
 case h_1 x =>
 split at h
 case isFalse => cases h
 case isTrue hx =>
 simp only [Option.some.injEq, Prod.mk.injEq] at h
 obtain ⟨rfl, rfl⟩ := h
 obtain ⟨a, rfl⟩ := vs_one hn'
 obtain rfl := rep_int (hv 0 _ _ rfl rfl)
 unfold uOk at hx
 refine .inl ⟨goodA (by kernel_rfl), (Tryz.bits_LeadingZeros64 x w hx.1 (by omega)).mono fun e w' ⟨he, hw⟩ => ⟨_, he, ?_⟩⟩
 subst hw
 exact res_same fun B K => .int _ _
theorem o114 : SpecOk PA GA 56 s114 := by
 intro g args r lv h E w vs hI hG hn' hv hcl
 simp only at h
 split at h
 case isFalse => cases h
 case isTrue e =>
 subst e
 unfold s114 at h
 split at h
 case h_2 => cases h
 case h_1 x y =>
 simp only [Option.some.injEq, Prod.mk.injEq] at h
 obtain ⟨rfl, rfl⟩ := h
 obtain ⟨a, b, rfl⟩ := vs_two hn'
 obtain rfl := rep_int (hv 0 _ _ rfl rfl)
 obtain rfl := rep_int (hv 1 _ _ rfl rfl)
 refine .inl ⟨goodA (by kernel_rfl), (Tryz.cmp_Compare_int x y w).mono fun e w' ⟨he, hw⟩ => ⟨_, he, ?_⟩⟩
 subst hw
 exact res_same fun B K => .int _ _
theorem o115 : SpecOk PA GA 57 s115 := by
 intro g args r lv h E w vs hI hG hn' hv hcl
 simp only at h
 split at h
 case isFalse => cases h
 case isTrue e =>
 subst e
 unfold s115 at h
 split at h
 case h_2 => cases h
 case h_1 x y =>
 simp only [Option.some.injEq, Prod.mk.injEq] at h
 obtain ⟨rfl, rfl⟩ := h
 obtain ⟨a, b, rfl⟩ := vs_two hn'
 obtain ⟨s, rfl, hs⟩ := rep_str (hv 0 _ _ rfl rfl)
 obtain ⟨t, rfl, ht⟩ := rep_str (hv 1 _ _ rfl rfl)
 refine .inl ⟨goodA (by kernel_rfl), (Tryz.strings_Compare s t w).mono fun e w' ⟨he, hw⟩ => ⟨_, he, ?_⟩⟩
 subst hw
 rw [← hs, ← ht]
 exact res_same fun B K => .int _ _
def s53 : Spec := fun args => match args with
 | [.int .i64 n] => if iOk n then some (wideA n, []) else none
 | _ => none
def sW2 (f : Int → Int → AV) : Spec := fun args => match args with
 | [.agg [.int .i64 h, .int .u64 l], .agg [.int .i64 h', .int .u64 l']] => if wOk h l ∧ wOk h' l' then some (f (wv h l) (wv h' l'), []) else none
 | _ => none
def sW1 (f : Int → AV) : Spec := fun args => match args with
 | [.agg [.int .i64 h, .int .u64 l]] => if wOk h l then some (f (wv h l), []) else none
 | _ => none
def s47 : Spec := sW2 fun x y => wideA (x + y)
def s60 : Spec := sW2 fun x y => wideA (x - y)
def s58 : Spec := sW1 fun x => wideA (-x)
def s56 : Spec := sW1 fun x => .agg [.int .u64 ((x.natAbs : Int) % 18446744073709551616), .int .u64 ((x.natAbs : Int) / 18446744073709551616)]
def s49 : Spec := fun args => match args with
 | [.agg [.int .i64 h, .int .u64 l], .int .i64 n] => if wOk h l ∧ iOk n then some (wideA (wv h l * n), []) else none
 | _ => none
def s48 : Spec := fun args => match args with
 | [.int .i64 a, .int .i64 b] => if iOk a ∧ iOk b then some (wideA (a * b), []) else none
 | _ => none
def s57 : Spec := fun args => match args with
 | [.int .u64 x, .int .u64 l, .int .u64 y] => if uOk x ∧ uOk l ∧ uOk y ∧ x < y then some (.tup [.int .u64 ((x * 18446744073709551616 + l) / y), .int .u64 ((x * 18446744073709551616 + l) % y)], []) else none
 | _ => none
def nearN (X Y : Nat) : Nat := if Y - X % Y < X % Y ∨ (X % Y = Y - X % Y ∧ X / Y % 2 = 1) then X / Y + 1 else X / Y
def divP (x d : Int) : Int × Bool :=
 if d = 0 then (0, false) else
 if 1152921504606846976 < nearN x.natAbs d.natAbs then (0, false) else
 (if decide (x < 0) = decide (d < 0) then (nearN x.natAbs d.natAbs : Int) else -(nearN x.natAbs d.natAbs : Int), true)
def s55 : Spec := fun args => match args with
 | [.agg [.int .i64 h, .int .u64 l], .int .i64 d] => if wOk h l ∧ iOk d then some (.tup [.int .i64 (divP (wv h l) d).1, .bool (divP (wv h l) d).2], []) else none
 | _ => none
def XA : Shapes := fun f => match f with
 | 44 | 83 | 65 | 43 => some sh2U
 | 16 | 78 | 63 | 15 | 45 | 17 => some shW
 | 42 => some shU2
 | 14 => some shIB
 | 64 | 56 | 57 | 55 => some shI
 | _ => none
theorem w53 (n : Int) : (pureW PA GA XA (tbl []) (itbl []) nAn [] 15 [.int .i64 n] (wideA n, [])) =
((0 : Int) ≤ (63 : Int) ∧ RetIs (AV.agg [.int .i64 (n.fdiv (9223372036854775808 : Int)), .int .u64 (IntKind.u64.wrap n)]) [] (AV.agg [.int .i64 (IntKind.i64.wrap (n / (18446744073709551616 : Int))), .int .u64 (n % (18446744073709551616 : Int))], [])) := by kernel_rfl
theorem w47 (h l h' l' : Int) : (pureW PA GA XA (tbl [(44, s52)]) (itbl []) nAn [] 16 [.agg [.int .i64 h, .int .u64 l], .agg [.int .i64 h', .int .u64 l']] (wideA (wv h l + wv h' l'), [])) =
(∃ (n : Int) (n_1 : Int), CallIs (tbl [(44, s52)] 44 [.int .u64 l, .int .u64 l', .int .u64 0]) (AV.tup [.int .u64 n, .int .u64 n_1]) [] ∧ ∃ (n_2 : Int) (n_3 : Int), CallIs (tbl [(44, s52)] 44 [.int .u64 (IntKind.u64.wrap h), .int .u64 (IntKind.u64.wrap h'), .int .u64 n_1]) (AV.tup [.int .u64 n_2, .int .u64 n_3]) [] ∧ RetIs (AV.agg [.int .i64 (IntKind.i64.wrap n_2), .int .u64 n]) [] (AV.agg [.int .i64 (IntKind.i64.wrap ((wv h l + wv h' l') / (18446744073709551616 : Int))), .int .u64 ((wv h l + wv h' l') % (18446744073709551616 : Int))], [])) := by kernel_rfl
theorem w60 (h l h' l' : Int) : (pureW PA GA XA (tbl [(83, s62)]) (itbl []) nAn [] 78 [.agg [.int .i64 h, .int .u64 l], .agg [.int .i64 h', .int .u64 l']] (wideA (wv h l - wv h' l'), [])) =
(∃ (n : Int) (n_1 : Int), CallIs (tbl [(83, s62)] 83 [.int .u64 l, .int .u64 l', .int .u64 0]) (AV.tup [.int .u64 n, .int .u64 n_1]) [] ∧ ∃ (n_2 : Int) (n_3 : Int), CallIs (tbl [(83, s62)] 83 [.int .u64 (IntKind.u64.wrap h), .int .u64 (IntKind.u64.wrap h'), .int .u64 n_1]) (AV.tup [.int .u64 n_2, .int .u64 n_3]) [] ∧ RetIs (AV.agg [.int .i64 (IntKind.i64.wrap n_2), .int .u64 n]) [] (AV.agg [.int .i64 (IntKind.i64.wrap ((wv h l - wv h' l') / (18446744073709551616 : Int))), .int .u64 ((wv h l - wv h' l') % (18446744073709551616 : Int))], [])) := by kernel_rfl
theorem w58 (h l : Int) : (pureW PA GA XA (tbl [(78, s60)]) (itbl []) nAn [] 63 [.agg [.int .i64 h, .int .u64 l]] (wideA (-wv h l), [])) =
(∃ (n : Int) (n_1 : Int), CallIs (tbl [(78, s60)] 78 [.agg [.int .i64 0, .int .u64 0], .agg [.int .i64 h, .int .u64 l]]) (AV.agg [.int .i64 n, .int .u64 n_1]) [] ∧ RetIs (AV.agg [.int .i64 n, .int .u64 n_1]) [] (AV.agg [.int .i64 (IntKind.i64.wrap (-wv h l / (18446744073709551616 : Int))), .int .u64 (-wv h l % (18446744073709551616 : Int))], [])) := by kernel_rfl
theorem w56 (h l : Int) (r : AV) : (pureW PA GA XA (tbl [(63, s58)]) (itbl []) nAn [] 42 [.agg [.int .i64 h, .int .u64 l]] (r, [])) =
((decide (h < (0 : Int)) = true → ∃ (n : Int) (n_1 : Int), CallIs (tbl [(63, s58)] 63 [.agg [.int .i64 h, .int .u64 l]]) (AV.agg [.int .i64 n, .int .u64 n_1]) [] ∧ RetIs (AV.agg [.int .u64 n_1, .int .u64 (IntKind.u64.wrap n)]) [] (r, [])) ∧ (decide (h < (0 : Int)) = false → RetIs (AV.agg [.int .u64 l, .int .u64 (IntKind.u64.wrap h)]) [] (r, []))) := by kernel_rfl
theorem w49 (h l n : Int) (r : AV) : (pureW PA GA XA (tbl [(65, s54)]) (itbl []) nAn [] 45 [.agg [.int .i64 h, .int .u64 l], .int .i64 n] (r, [])) =
(∃ (n_1 : Int) (n_2 : Int), CallIs (tbl [(65, s54)] 65 [.int .u64 l, .int .u64 (IntKind.u64.wrap n)]) (AV.tup [.int .u64 n_1, .int .u64 n_2]) [] ∧ (decide (n < (0 : Int)) = true → RetIs (AV.agg [.int .i64 (IntKind.i64.wrap (IntKind.u64.wrap (IntKind.u64.wrap (n_1 + IntKind.u64.wrap (IntKind.u64.wrap h * IntKind.u64.wrap n)) - l))), .int .u64 n_2]) [] (r, [])) ∧ (decide (n < (0 : Int)) = false → RetIs (AV.agg [.int .i64 (IntKind.i64.wrap (IntKind.u64.wrap (n_1 + IntKind.u64.wrap (IntKind.u64.wrap h * IntKind.u64.wrap n)))), .int .u64 n_2]) [] (r, []))) := by kernel_rfl
theorem w48 (a b : Int) (r : AV) : (pureW PA GA XA (tbl [(15, s53), (45, s49)]) (itbl []) nAn [] 17 [.int .i64 a, .int .i64 b] (r, [])) =
(∃ (n : Int) (n_1 : Int), CallIs (tbl [(15, s53), (45, s49)] 15 [.int .i64 a]) (AV.agg [.int .i64 n, .int .u64 n_1]) [] ∧ ∃ (n_2 : Int) (n_3 : Int), CallIs (tbl [(15, s53), (45, s49)] 45 [.agg [.int .i64 n, .int .u64 n_1], .int .i64 b]) (AV.agg [.int .i64 n_2, .int .u64 n_3]) [] ∧ RetIs (AV.agg [.int .i64 n_2, .int .u64 n_3]) [] (r, [])) := by kernel_rfl
theorem w55 (h l d : Int) (r : AV) : (pureW PA GA XA (tbl [(42, s56), (15, s53), (43, s57)]) (itbl []) nAn [] 14 [.agg [.int .i64 h, .int .u64 l], .int .i64 d] (r, [])) =
(((d == (0 : Int)) = true → RetIs (AV.tup [.int .i64 0, .bool false]) [] (r, [])) ∧ ((d == (0 : Int)) = false → ∃ (n : Int) (n_1 : Int), CallIs (tbl [(42, s56), (15, s53), (43, s57)] 42 [.agg [.int .i64 h, .int .u64 l]]) (AV.agg [.int .u64 n, .int .u64 n_1]) [] ∧ ∃ (n_2 : Int) (n_3 : Int), CallIs (tbl [(42, s56), (15, s53), (43, s57)] 15 [.int .i64 d]) (AV.agg [.int .i64 n_2, .int .u64 n_3]) [] ∧ ∃ (n_4 : Int) (n_5 : Int), CallIs (tbl [(42, s56), (15, s53), (43, s57)] 42 [.agg [.int .i64 n_2, .int .u64 n_3]]) (AV.agg [.int .u64 n_4, .int .u64 n_5]) [] ∧ ((0 : Int) ≤ (1 : Int) ∧ (1 : Int) < (2 : Int)) ∧ (decide (n_1 ≥ n_4) = true → RetIs (AV.tup [.int .i64 0, .bool false]) [] (r, [])) ∧ (decide (n_1 ≥ n_4) = false → ((0 : Int) ≤ (1 : Int) ∧ (1 : Int) < (2 : Int)) ∧ ((0 : Int) ≤ (0 : Int) ∧ (0 : Int) < (2 : Int)) ∧ ∃ (n_6 : Int) (n_7 : Int), CallIs (tbl [(42, s56), (15, s53), (43, s57)] 43 [.int .u64 n_1, .int .u64 n, .int .u64 n_4]) (AV.tup [.int .u64 n_6, .int .u64 n_7]) [] ∧ (decide (n_7 > IntKind.u64.wrap (n_4 - n_7)) = true → ((n_6 == (18446744073709551615 : Int)) = true → RetIs (AV.tup [.int .i64 0, .bool false]) [] (r, [])) ∧ ((n_6 == (18446744073709551615 : Int)) = false → (decide (IntKind.u64.wrap (n_6 + (1 : Int)) > (1152921504606846976 : Int)) = true → RetIs (AV.tup [.int .i64 0, .bool false]) [] (r, [])) ∧ (decide (IntKind.u64.wrap (n_6 + (1 : Int)) > (1152921504606846976 : Int)) = false → (decide (h < (0 : Int)) = true → (decide (d < (0 : Int)) = true → (false = true →
 RetIs (AV.tup [.int .i64 (IntKind.i64.wrap ((0 : Int) - IntKind.i64.wrap (IntKind.u64.wrap (n_6 + (1 : Int))))), .bool true]) [] (r, [])) ∧ (false = false → RetIs (AV.tup [.int .i64 (IntKind.i64.wrap (IntKind.u64.wrap (n_6 + (1 : Int)))), .bool true]) [] (r, []))) ∧ (decide (d < (0 : Int)) = false → (true = true → RetIs (AV.tup [.int .i64 (IntKind.i64.wrap ((0 : Int) - IntKind.i64.wrap (IntKind.u64.wrap (n_6 + (1 : Int))))), .bool true]) [] (r, [])) ∧ (true = false → RetIs (AV.tup [.int .i64 (IntKind.i64.wrap (IntKind.u64.wrap (n_6 + (1 : Int)))), .bool true]) [] (r, [])))) ∧ (decide (h < (0 : Int)) = false → (decide (d < (0 : Int)) = true → (true = true → RetIs (AV.tup [.int .i64 (IntKind.i64.wrap ((0 : Int) - IntKind.i64.wrap (IntKind.u64.wrap (n_6 + (1 : Int))))), .bool true]) [] (r, [])) ∧ (true = false → RetIs (AV.tup [.int .i64 (IntKind.i64.wrap (IntKind.u64.wrap (n_6 + (1 : Int)))), .bool true]) [] (r, []))) ∧ (decide (d < (0 : Int)) = false → (false = true → RetIs (AV.tup [.int .i64 (IntKind.i64.wrap ((0 : Int) - IntKind.i64.wrap (IntKind.u64.wrap (n_6 + (1 : Int))))), .bool true]) [] (r, [])) ∧ (false = false → RetIs (AV.tup [.int .i64 (IntKind.i64.wrap (IntKind.u64.wrap (n_6 + (1 : Int)))), .bool true]) [] (r, []))))))) ∧ (decide (n_7 > IntKind.u64.wrap (n_4 - n_7)) = false → ((n_7 == IntKind.u64.wrap (n_4 - n_7)) = true → (2 : Int) ≠ (0 : Int) ∧ ((n_6.tmod (2 : Int) == (1 : Int)) = true → ((n_6 == (18446744073709551615 : Int)) = true → RetIs (AV.tup [.int .i64 0, .bool false]) [] (r, [])) ∧
 ((n_6 == (18446744073709551615 : Int)) = false → (decide (IntKind.u64.wrap (n_6 + (1 : Int)) > (1152921504606846976 : Int)) = true → RetIs (AV.tup [.int .i64 0, .bool false]) [] (r, [])) ∧ (decide (IntKind.u64.wrap (n_6 + (1 : Int)) > (1152921504606846976 : Int)) = false → (decide (h < (0 : Int)) = true → (decide (d < (0 : Int)) = true → (false = true → RetIs (AV.tup [.int .i64 (IntKind.i64.wrap ((0 : Int) - IntKind.i64.wrap (IntKind.u64.wrap (n_6 + (1 : Int))))), .bool true]) [] (r, [])) ∧ (false = false → RetIs (AV.tup [.int .i64 (IntKind.i64.wrap (IntKind.u64.wrap (n_6 + (1 : Int)))), .bool true]) [] (r, []))) ∧ (decide (d < (0 : Int)) = false → (true = true → RetIs (AV.tup [.int .i64 (IntKind.i64.wrap ((0 : Int) - IntKind.i64.wrap (IntKind.u64.wrap (n_6 + (1 : Int))))), .bool true]) [] (r, [])) ∧ (true = false → RetIs (AV.tup [.int .i64 (IntKind.i64.wrap (IntKind.u64.wrap (n_6 + (1 : Int)))), .bool true]) [] (r, [])))) ∧ (decide (h < (0 : Int)) = false → (decide (d < (0 : Int)) = true → (true = true → RetIs (AV.tup [.int .i64 (IntKind.i64.wrap ((0 : Int) - IntKind.i64.wrap (IntKind.u64.wrap (n_6 + (1 : Int))))), .bool true]) [] (r, [])) ∧ (true = false → RetIs (AV.tup [.int .i64 (IntKind.i64.wrap (IntKind.u64.wrap (n_6 + (1 : Int)))), .bool true]) [] (r, []))) ∧ (decide (d < (0 : Int)) = false → (false = true → RetIs (AV.tup [.int .i64 (IntKind.i64.wrap ((0 : Int) - IntKind.i64.wrap (IntKind.u64.wrap (n_6 + (1 : Int))))), .bool true]) [] (r, [])) ∧ (false = false → RetIs
 (AV.tup [.int .i64 (IntKind.i64.wrap (IntKind.u64.wrap (n_6 + (1 : Int)))), .bool true]) [] (r, []))))))) ∧ ((n_6.tmod (2 : Int) == (1 : Int)) = false → (decide (n_6 > (1152921504606846976 : Int)) = true → RetIs (AV.tup [.int .i64 0, .bool false]) [] (r, [])) ∧ (decide (n_6 > (1152921504606846976 : Int)) = false → (decide (h < (0 : Int)) = true → (decide (d < (0 : Int)) = true → (false = true → RetIs (AV.tup [.int .i64 (IntKind.i64.wrap ((0 : Int) - IntKind.i64.wrap n_6)), .bool true]) [] (r, [])) ∧ (false = false → RetIs (AV.tup [.int .i64 (IntKind.i64.wrap n_6), .bool true]) [] (r, []))) ∧ (decide (d < (0 : Int)) = false → (true = true → RetIs (AV.tup [.int .i64 (IntKind.i64.wrap ((0 : Int) - IntKind.i64.wrap n_6)), .bool true]) [] (r, [])) ∧ (true = false → RetIs (AV.tup [.int .i64 (IntKind.i64.wrap n_6), .bool true]) [] (r, [])))) ∧ (decide (h < (0 : Int)) = false → (decide (d < (0 : Int)) = true → (true = true → RetIs (AV.tup [.int .i64 (IntKind.i64.wrap ((0 : Int) - IntKind.i64.wrap n_6)), .bool true]) [] (r, [])) ∧ (true = false → RetIs (AV.tup [.int .i64 (IntKind.i64.wrap n_6), .bool true]) [] (r, []))) ∧ (decide (d < (0 : Int)) = false → (false = true → RetIs (AV.tup [.int .i64 (IntKind.i64.wrap ((0 : Int) - IntKind.i64.wrap n_6)), .bool true]) [] (r, [])) ∧ (false = false → RetIs (AV.tup [.int .i64 (IntKind.i64.wrap n_6), .bool true]) [] (r, []))))))) ∧ ((n_7 == IntKind.u64.wrap (n_4 - n_7)) = false → (decide (n_6 > (1152921504606846976 : Int)) = true → RetIs (AV.tup [.int .i64 0, .bool false]) [] (r, [])) ∧
 (decide (n_6 > (1152921504606846976 : Int)) = false → (decide (h < (0 : Int)) = true → (decide (d < (0 : Int)) = true → (false = true → RetIs (AV.tup [.int .i64 (IntKind.i64.wrap ((0 : Int) - IntKind.i64.wrap n_6)), .bool true]) [] (r, [])) ∧ (false = false → RetIs (AV.tup [.int .i64 (IntKind.i64.wrap n_6), .bool true]) [] (r, []))) ∧ (decide (d < (0 : Int)) = false → (true = true → RetIs (AV.tup [.int .i64 (IntKind.i64.wrap ((0 : Int) - IntKind.i64.wrap n_6)), .bool true]) [] (r, [])) ∧ (true = false → RetIs (AV.tup [.int .i64 (IntKind.i64.wrap n_6), .bool true]) [] (r, [])))) ∧ (decide (h < (0 : Int)) = false → (decide (d < (0 : Int)) = true → (true = true → RetIs (AV.tup [.int .i64 (IntKind.i64.wrap ((0 : Int) - IntKind.i64.wrap n_6)), .bool true]) [] (r, [])) ∧ (true = false → RetIs (AV.tup [.int .i64 (IntKind.i64.wrap n_6), .bool true]) [] (r, []))) ∧ (decide (d < (0 : Int)) = false → (false = true → RetIs (AV.tup [.int .i64 (IntKind.i64.wrap ((0 : Int) - IntKind.i64.wrap n_6)), .bool true]) [] (r, [])) ∧ (false = false → RetIs (AV.tup [.int .i64 (IntKind.i64.wrap n_6), .bool true]) [] (r, [])))))))))) := by kernel_rfl
theorem wrapU (n : Int) : IntKind.u64.wrap n = n % 18446744073709551616 := IntKind.wrap_u64 n
theorem tb_hit {g : FuncId} {s : Spec} {l : List (FuncId × Spec)} {args : List AV} : tbl ((g, s) :: l) g args = s args := by simp [tbl]
theorem tb_miss {g f : FuncId} {s : Spec} {l : List (FuncId × Spec)} {args : List AV} (h : f ≠ g) : tbl ((g, s) :: l) f args = tbl l f args := by simp only [tbl]; rw [if_neg h]
theorem p53 (n : Int) (h : iOk n) : PureOk PA GA XA (tbl []) (itbl []) nAn [] 15 [.int .i64 n] (wideA n, []) := by
 constructor
 rw [w53]
 refine ⟨by decide, retIs_iff.2 ?_⟩
 unfold iOk at h
 have e1 : n.fdiv 9223372036854775808 = IntKind.i64.wrap (n / 18446744073709551616) := by
  rw [Int.fdiv_eq_ediv_of_nonneg _ (by omega), wrap64_in (by omega) (by omega)]; omega
 rw [e1, wrapU]
theorem p47 (h l h' l' : Int) (h1 : wOk h l) (h2 : wOk h' l') : PureOk PA GA XA (tbl [(44, s52)]) (itbl []) nAn [] 16 [.agg [.int .i64 h, .int .u64 l], .agg [.int .i64 h', .int .u64 l']] (wideA (wv h l + wv h' l'), []) := by
 constructor
 rw [w47]
 obtain ⟨a1, a2, a3, a4⟩ := h1
 obtain ⟨b1, b2, b3, b4⟩ := h2
 refine ⟨_, _, callIs_iff.2 (by rw [tb_hit]; simp only [s52]; rw [if_pos (by unfold uOk; omega)]), _, _, callIs_iff.2 (by rw [tb_hit]; simp only [s52]; rw [if_pos (by rw [wrapU, wrapU]; unfold uOk; omega)]), retIs_iff.2 ?_⟩
 rw [wrapU, wrapU, IntKind.wrap_i64, IntKind.wrap_i64]
 unfold wv
 congr 4
 ·omega
 ·congr 1
  omega
theorem p60 (h l h' l' : Int) (h1 : wOk h l) (h2 : wOk h' l') : PureOk PA GA XA (tbl [(83, s62)]) (itbl []) nAn [] 78 [.agg [.int .i64 h, .int .u64 l], .agg [.int .i64 h', .int .u64 l']] (wideA (wv h l - wv h' l'), []) := by
 constructor
 rw [w60]
 obtain ⟨a1, a2, a3, a4⟩ := h1
 obtain ⟨b1, b2, b3, b4⟩ := h2
 have hb : (0 : Int) ≤ (if l < l' + 0 then 1 else 0) ∧ (if l < l' + 0 then (1 : Int) else 0) ≤ 1 := by split <;> omega
 refine ⟨_, _, callIs_iff.2 (by rw [tb_hit]; simp only [s62]; rw [if_pos (by unfold uOk; omega)]), _, _, callIs_iff.2 (by rw [tb_hit]; simp only [s62]; rw [if_pos (by rw [wrapU, wrapU]; unfold uOk; omega)]), retIs_iff.2 ?_⟩
 rw [wrapU, wrapU, IntKind.wrap_i64, IntKind.wrap_i64]
 unfold wv
 congr 4
 ·split <;> omega
 ·congr 1
  omega
def bigOk (x : Int) : Prop := -170141183460469231731687303715884105728 ≤ x ∧ x < 170141183460469231731687303715884105728
theorem wideA_big {x : Int} (h : bigOk x) : ∃ a l, wideA x = .agg [.int .i64 a, .int .u64 l] ∧ wOk a l ∧ wv a l = x := by
 unfold bigOk at h
 refine ⟨_, _, rfl, ?_, ?_⟩
 ·rw [wrap64_in (by omega) (by omega)]; unfold wOk; omega
 ·rw [wrap64_in (by omega) (by omega)]; unfold wv; omega
theorem wv_big {h l : Int} (hw : wOk h l) : bigOk (wv h l) := by
 obtain ⟨a1, a2, a3, a4⟩ := hw
 unfold bigOk wv; omega
theorem wideA_form (x : Int) : ∃ h l, wideA x = .agg [.int .i64 h, .int .u64 l] ∧ wOk h l ∧ (wv h l - x) % 340282366920938463463374607431768211456 = 0 := by
 refine ⟨_, _, rfl, ?_, ?_⟩
 ·rw [IntKind.wrap_i64]; unfold wOk; omega
 ·rw [IntKind.wrap_i64]; unfold wv; omega
theorem p58 (h l : Int) (hw : wOk h l) : PureOk PA GA XA (tbl [(78, s60)]) (itbl []) nAn [] 63 [.agg [.int .i64 h, .int .u64 l]] (wideA (-wv h l), []) := by
 constructor
 rw [w58]
 have hc : tbl [(78, s60)] 78 [AV.agg [AV.int IntKind.i64 0, AV.int IntKind.u64 0], AV.agg [AV.int IntKind.i64 h, AV.int IntKind.u64 l]] = some (wideA (-wv h l), []) := by
  rw [tb_hit]; simp only [s60, sW2]
  rw [if_pos ⟨by unfold wOk; omega, hw⟩]
  congr 3
  unfold wv; omega
 exact ⟨_, _, callIs_iff.2 hc, retIs_iff.2 rfl⟩
theorem p56 (h l : Int) (hw : wOk h l) : PureOk PA GA XA (tbl [(63, s58)]) (itbl []) nAn [] 42 [.agg [.int .i64 h, .int .u64 l]] (.agg [.int .u64 (((wv h l).natAbs : Int) % 18446744073709551616), .int .u64 (((wv h l).natAbs : Int) / 18446744073709551616)], []) := by
 constructor
 rw [w56]
 obtain ⟨a1, a2, a3, a4⟩ := hw
 refine ⟨fun hneg => ⟨_, _, callIs_iff.2 (by rw [tb_hit]; simp only [s58, sW1]; rw [if_pos ⟨a1, a2, a3, a4⟩]; rfl), retIs_iff.2 ?_⟩, fun hpos => retIs_iff.2 ?_⟩
 ·have hneg := of_decide_eq_true hneg
  rw [wrapU, IntKind.wrap_i64]
  unfold wv
  congr 4
  ·omega
  ·congr 1
   omega
 ·have hpos := of_decide_eq_false hpos
  rw [wrapU]
  unfold wv
  congr 4
  ·omega
  ·congr 1
   omega
theorem o53 : SpecOk PA GA 15 s53 := spec_of (X := XA) (m := []) mixedA tbl_nil itbl_nil fun args r h => by
 unfold s53 at h
 split at h
 ·split at h
  ·rename_i n hn; injection h with h; subst h; exact ⟨_, p53 n hn⟩
  ·cases h
 ·cases h
theorem sW2_of {f : FuncId} {g : Int → Int → AV} {R : List (FuncId × Spec)} (hR : CalleeOk PA GA (tbl R)) (h : ∀ a l a' l', wOk a l → wOk a' l' → ∃ A, PureOk PA GA XA (tbl R) (itbl []) A [] f [.agg [.int .i64 a, .int .u64 l], .agg [.int .i64 a', .int .u64 l']] (g (wv a l) (wv a' l'), [])) : SpecOk PA GA f (sW2 g) :=
 spec_of (X := XA) (m := []) mixedA hR itbl_nil fun args r hr => by
  unfold sW2 at hr
  split at hr
  ·split at hr
   ·rename_i hn; injection hr with hr; subst hr; exact h _ _ _ _ hn.1 hn.2
   ·cases hr
  ·cases hr
theorem sW1_of {f : FuncId} {g : Int → AV} {R : List (FuncId × Spec)} (hR : CalleeOk PA GA (tbl R)) (h : ∀ a l, wOk a l → ∃ A, PureOk PA GA XA (tbl R) (itbl []) A [] f [.agg [.int .i64 a, .int .u64 l]] (g (wv a l), [])) : SpecOk PA GA f (sW1 g) :=
 spec_of (X := XA) (m := []) mixedA hR itbl_nil fun args r hr => by
  unfold sW1 at hr
  split at hr
  ·split at hr
   ·rename_i hn; injection hr with hr; subst hr; exact h _ _ hn
   ·cases hr
  ·cases hr
theorem o47 : SpecOk PA GA 16 s47 := sW2_of (tbl_cons o52 tbl_nil) fun a l a' l' h h' => ⟨_, p47 a l a' l' h h'⟩
theorem o60 : SpecOk PA GA 78 s60 := sW2_of (tbl_cons o62 tbl_nil) fun a l a' l' h h' => ⟨_, p60 a l a' l' h h'⟩
theorem o58 : SpecOk PA GA 63 s58 := sW1_of (tbl_cons o60 tbl_nil) fun a l h => ⟨_, p58 a l h⟩
theorem o56 : SpecOk PA GA 42 s56 := sW1_of (tbl_cons o58 tbl_nil) fun a l h => ⟨_, p56 a l h⟩
theorem iw_congr {x y : Int} (h : (x - y) % 18446744073709551616 = 0) : IntKind.i64.wrap x = IntKind.i64.wrap y := by
 rw [IntKind.wrap_i64, IntKind.wrap_i64]; omega
theorem scale_hi (h l n : Int) : (IntKind.u64.wrap (l * n / 18446744073709551616 + IntKind.u64.wrap (IntKind.u64.wrap h * IntKind.u64.wrap n)) - (wv h l * n) / 18446744073709551616) % 18446744073709551616 = 0 := by
 have e : wv h l * n = h * n * 18446744073709551616 + l * n := by unfold wv; rw [Int.add_mul, Int.mul_right_comm]
 rw [e, wrapU, wrapU, wrapU, wrapU]
 have e2 : (h % 18446744073709551616 * (n % 18446744073709551616)) % 18446744073709551616 = (h * n) % 18446744073709551616 := (Int.mul_emod _ _ _).symm
 rw [e2]
 generalize h * n = p
 generalize l * n = q
 omega
theorem p49 (h l n : Int) (hw : wOk h l) (hn : iOk n) : PureOk PA GA XA (tbl [(65, s54)]) (itbl []) nAn [] 45 [.agg [.int .i64 h, .int .u64 l], .int .i64 n] (wideA (wv h l * n), []) := by
 constructor
 rw [w49]
 obtain ⟨a1, a2, a3, a4⟩ := hw
 unfold iOk at hn
 have hu : uOk (IntKind.u64.wrap n) := by rw [wrapU]; unfold uOk; omega
 refine ⟨_, _, callIs_iff.2 (by rw [tb_hit]; simp only [s54]; rw [if_pos ⟨⟨a3, a4⟩, hu⟩]), fun hneg => retIs_iff.2 ?_, fun hpos => retIs_iff.2 ?_⟩
 ·have hneg := of_decide_eq_true hneg
  have e : IntKind.u64.wrap n = n + 18446744073709551616 := by rw [wrapU]; omega
  have hs := scale_hi h l n
  have e3 : l * (n + 18446744073709551616) = l * n + l * 18446744073709551616 := Int.mul_add _ _ _
  have e5 : wv h l * n = h * n * 18446744073709551616 + l * n := by unfold wv; rw [Int.add_mul, Int.mul_right_comm]
  have e4 : IntKind.i64.wrap (IntKind.u64.wrap (IntKind.u64.wrap (l * IntKind.u64.wrap n / 18446744073709551616 + IntKind.u64.wrap (IntKind.u64.wrap h * IntKind.u64.wrap n)) - l)) = IntKind.i64.wrap (wv h l * n / 18446744073709551616) := by
   refine iw_congr ?_
   rw [show l * IntKind.u64.wrap n = l * n + l * 18446744073709551616 by rw [e, e3]]
   rw [wrapU, wrapU (_ / _ + _)]
   rw [wrapU (_ / _ + _)] at hs
   generalize IntKind.u64.wrap (IntKind.u64.wrap h * IntKind.u64.wrap n) = p at *
   generalize wv h l * n = z at *
   generalize l * n = q at *
   omega
  rw [e4]
  unfold wideA
  rw [show l * IntKind.u64.wrap n = l * n + l * 18446744073709551616 by rw [e, e3], e5]
  have : (l * n + l * 18446744073709551616) % 18446744073709551616 = (h * n * 18446744073709551616 + l * n) % 18446744073709551616 := by
   generalize h * n = p
   generalize l * n = q
   omega
  rw [this]
 ·have hpos := of_decide_eq_false hpos
  have e : IntKind.u64.wrap n = n := by rw [wrapU]; omega
  have hs := scale_hi h l n
  have e5 : wv h l * n = h * n * 18446744073709551616 + l * n := by unfold wv; rw [Int.add_mul, Int.mul_right_comm]
  rw [e] at hs
  rw [e, iw_congr hs]
  unfold wideA
  have : (l * n) % 18446744073709551616 = (wv h l * n) % 18446744073709551616 := by
   rw [e5]
   generalize h * n = p
   generalize l * n = q
   omega
  rw [this]
theorem o49 : SpecOk PA GA 45 s49 := spec_of (X := XA) (m := []) mixedA (tbl_cons o54 tbl_nil) itbl_nil fun args r h => by
 unfold s49 at h
 split at h
 ·split at h
  ·rename_i hn; injection h with h; subst h; exact ⟨_, p49 _ _ _ hn.1 hn.2⟩
  ·cases h
 ·cases h
theorem i_big {n : Int} (h : iOk n) : bigOk n := by unfold iOk at h; unfold bigOk; omega
theorem p48 (a b : Int) (ha : iOk a) (hb : iOk b) : PureOk PA GA XA (tbl [(15, s53), (45, s49)]) (itbl []) nAn [] 17 [.int .i64 a, .int .i64 b] (wideA (a * b), []) := by
 constructor
 rw [w48]
 obtain ⟨h, l, e, hw, hv⟩ := wideA_big (i_big ha)
 obtain ⟨h2, l2, e2, hw2, _⟩ := wideA_form (a * b)
 refine ⟨h, l, callIs_iff.2 (by rw [tb_hit]; simp only [s53]; rw [if_pos ha, e]), h2, l2, callIs_iff.2 ?_, retIs_iff.2 (by rw [e2])⟩
 rw [tb_miss (by decide), tb_hit]; simp only [s49]; rw [if_pos ⟨hw, hb⟩, hv, e2]
theorem o48 : SpecOk PA GA 17 s48 := spec_of (X := XA) (m := []) mixedA (tbl_cons o53 (tbl_cons o49 tbl_nil)) itbl_nil fun args r h => by
 unfold s48 at h
 split at h
 ·split at h
  ·rename_i hn; injection h with h; subst h; exact ⟨_, p48 _ _ hn.1 hn.2⟩
  ·cases h
 ·cases h
theorem divP_of {x d : Int} (h0 : d ≠ 0) : divP x d = if 1152921504606846976 < nearN x.natAbs d.natAbs then ((0 : Int), false) else (if decide (x < 0) = decide (d < 0) then (nearN x.natAbs d.natAbs : Int) else -(nearN x.natAbs d.natAbs : Int), true) := by
 unfold divP; rw [if_neg h0]
theorem near_ge (X Y : Nat) : X / Y ≤ nearN X Y := by unfold nearN; split <;> omega
theorem p55 (h l d : Int) (hw : wOk h l) (hd : iOk d) : PureOk PA GA XA (tbl [(42, s56), (15, s53), (43, s57)]) (itbl []) nAn [] 14 [.agg [.int .i64 h, .int .u64 l], .int .i64 d] (.tup [.int .i64 (divP (wv h l) d).1, .bool (divP (wv h l) d).2], []) := by
 constructor
 rw [w55]
 have hsg : h < 0 ↔ wv h l < 0 := by obtain ⟨a1, a2, a3, a4⟩ := hw; unfold wv; omega
 have hb := wv_big hw
 have t56 : ∀ {a b : Int}, wOk a b → tbl [(42, s56), (15, s53), (43, s57)] 42 [AV.agg [AV.int IntKind.i64 a, AV.int IntKind.u64 b]] = some (.agg [.int .u64 (((wv a b).natAbs : Int) % 18446744073709551616), .int .u64 (((wv a b).natAbs : Int) / 18446744073709551616)], []) := fun h => by
  rw [tb_hit]; simp only [s56, sW1]; rw [if_pos h]
 refine ⟨fun h0 => retIs_iff.2 ?_, fun h0 => ?_⟩
 ·have h0 : d = 0 := by simpa using h0
  subst h0; rfl
 have h0 : d ≠ 0 := by simpa using h0
 obtain ⟨dh, dl, ed, hdw, hdv⟩ := wideA_big (i_big hd)
 refine ⟨_, _, callIs_iff.2 (t56 hw), dh, dl, callIs_iff.2 (by rw [tb_miss (by decide), tb_hit]; simp only [s53]; rw [if_pos hd, ed]), _, _, callIs_iff.2 (t56 hdw), ⟨by decide, by decide⟩, ?_⟩
 rw [hdv, divP_of h0]
 generalize wv h l = x at *
 unfold bigOk at hb
 unfold iOk at hd
 have hY : 0 < d.natAbs := by omega
 have hY2 : d.natAbs ≤ 9223372036854775808 := by omega
 have hX : x.natAbs ≤ 170141183460469231731687303715884105728 := by omega
 have hxs : decide (x < 0) = decide (h < 0) := decide_eq_decide.2 hsg.symm
 rw [hxs]
 generalize x.natAbs = X at *
 have eY : ((d.natAbs : Nat) : Int) % 18446744073709551616 = d.natAbs := by omega
 rw [eY]
 generalize hYe : d.natAbs = Y at *
 have e1 : ((X : Int) / 18446744073709551616) = ((X / 18446744073709551616 : Nat) : Int) := by omega
 have e2 : ((X : Int) % 18446744073709551616) = ((X % 18446744073709551616 : Nat) : Int) := by omega
 have eN : (((X / 18446744073709551616 : Nat) : Int) * 18446744073709551616 + ((X % 18446744073709551616 : Nat) : Int)) = (X : Int) := by omega
 have hn := near_ge X Y
 have retF : 1152921504606846976 < nearN X Y → RetIs (AV.tup [AV.int IntKind.i64 0, AV.bool false]) [] (AV.tup [AV.int IntKind.i64 (if 1152921504606846976 < nearN X Y then ((0 : Int), false) else (if decide (h < 0) = decide (d < 0) then (nearN X Y : Int) else -(nearN X Y : Int), true)).1, AV.bool (if 1152921504606846976 < nearN X Y then ((0 : Int), false) else (if decide (h < 0) = decide (d < 0) then (nearN X Y : Int) else -(nearN X Y : Int), true)).2], []) := fun hh => retIs_iff.2 (by rw [if_pos hh])
 have retP : ∀ {m : Int}, nearN X Y ≤ 1152921504606846976 → (h < 0 ↔ d < 0) → m = nearN X Y → RetIs (AV.tup [AV.int IntKind.i64 (IntKind.i64.wrap m), AV.bool true]) [] (AV.tup [AV.int IntKind.i64 (if 1152921504606846976 < nearN X Y then ((0 : Int), false) else (if decide (h < 0) = decide (d < 0) then (nearN X Y : Int) else -(nearN X Y : Int), true)).1, AV.bool (if 1152921504606846976 < nearN X Y then ((0 : Int), false) else (if decide (h < 0) = decide (d < 0) then (nearN X Y : Int) else -(nearN X Y : Int), true)).2], []) := fun h1 h2 h3 => retIs_iff.2 (by
  rw [if_neg (by omega), if_pos (decide_eq_decide.2 h2), h3, wrap64_in (by omega) (by omega)])
 have retN : ∀ {m : Int}, nearN X Y ≤ 1152921504606846976 → ¬ (h < 0 ↔ d < 0) → m = nearN X Y → RetIs (AV.tup [AV.int IntKind.i64 (IntKind.i64.wrap (0 - IntKind.i64.wrap m)), AV.bool true]) [] (AV.tup [AV.int IntKind.i64 (if 1152921504606846976 < nearN X Y then ((0 : Int), false) else (if decide (h < 0) = decide (d < 0) then (nearN X Y : Int) else -(nearN X Y : Int), true)).1, AV.bool (if 1152921504606846976 < nearN X Y then ((0 : Int), false) else (if decide (h < 0) = decide (d < 0) then (nearN X Y : Int) else -(nearN X Y : Int), true)).2], []) := fun h1 h2 h3 => retIs_iff.2 (by
  rw [if_neg (by omega), if_neg (fun e => h2 (decide_eq_decide.1 e)), h3, wrap64_in (n := (nearN X Y : Int)) (by omega) (by omega), wrap64_in (by omega) (by omega)]; simp)
 generalize (AV.tup [AV.int IntKind.i64 (if 1152921504606846976 < nearN X Y then ((0 : Int), false) else (if decide (h < 0) = decide (d < 0) then (nearN X Y : Int) else -(nearN X Y : Int), true)).1, AV.bool (if 1152921504606846976 < nearN X Y then ((0 : Int), false) else (if decide (h < 0) = decide (d < 0) then (nearN X Y : Int) else -(nearN X Y : Int), true)).2], ([] : List (Nat × TypeId))) = R at *
 rw [e1, e2]
 refine ⟨fun hbig => retF ?_, fun hsm => ⟨⟨by decide, by decide⟩, ⟨by decide, by decide⟩, ((X / Y : Nat) : Int), ((X % Y : Nat) : Int), callIs_iff.2 ?_, ?_⟩⟩
 ·have hbig := of_decide_eq_true hbig
  have h1 : Y ≤ X / 18446744073709551616 := by omega
  have h2 : 18446744073709551616 ≤ X / Y := by
   rw [Nat.le_div_iff_mul_le hY]
   have := Nat.mul_le_mul_left 18446744073709551616 h1
   omega
  omega
 ·have hsm := of_decide_eq_false hsm
  rw [tb_miss (by decide), tb_miss (by decide), tb_hit]
  simp only [s57]
  rw [if_pos ⟨by unfold uOk; omega, by unfold uOk; omega, by unfold uOk; omega, by omega⟩, eN]
  simp
 ·have hsm := of_decide_eq_false hsm
  have h1 : X / 18446744073709551616 < Y := by omega
  have hq : X / Y < 18446744073709551616 := by
   rw [Nat.div_lt_iff_lt_mul hY]
   have h3 : X / 18446744073709551616 + 1 ≤ Y := h1
   have h4 : X < (X / 18446744073709551616 + 1) * 18446744073709551616 := by omega
   have h5 : (X / 18446744073709551616 + 1) * 18446744073709551616 ≤ Y * 18446744073709551616 := Nat.mul_le_mul h3 (Nat.le_refl _)
   omega
  have hr : X % Y < Y := Nat.mod_lt _ hY
  have hne : nearN X Y = if Y - X % Y < X % Y ∨ (X % Y = Y - X % Y ∧ X / Y % 2 = 1) then X / Y + 1 else X / Y := rfl
  generalize nearN X Y = N at *
  generalize X / Y = q at *
  generalize X % Y = z at *
  have ew : IntKind.u64.wrap ((Y : Int) - (z : Int)) = ((Y - z : Nat) : Int) := by rw [wrapU]; omega
  have et : (q : Int).tmod 2 = ((q % 2 : Nat) : Int) := by rw [Int.tmod_eq_emod_of_nonneg (by omega)]; omega
  have hw1 : (q = 18446744073709551615 ∨ IntKind.u64.wrap ((q : Int) + 1) = (q : Int) + 1) := by
   by_cases hq1 : q = 18446744073709551615
   ·exact .inl hq1
   ·right; rw [wrapU]; omega
  rw [ew, et]
  generalize IntKind.u64.wrap ((q : Int) + 1) = w1 at *
  clear ew et eN e1 e2 hsm
  repeat' (first | apply And.intro | intro)
  all_goals first
   | exact absurd (show false = true by assumption) (by decide)
   | exact absurd (show true = false by assumption) (by decide)
   | exact retF (by simp only [decide_eq_true_eq, decide_eq_false_iff_not, beq_iff_eq, beq_eq_false_iff_ne, ne_eq] at *; split at hne <;> omega)
   | exact retP (by simp only [decide_eq_true_eq, decide_eq_false_iff_not, beq_iff_eq, beq_eq_false_iff_ne, ne_eq] at *; split at hne <;> omega) (by simp only [decide_eq_true_eq, decide_eq_false_iff_not, beq_iff_eq, beq_eq_false_iff_ne, ne_eq] at *; omega) (by simp only [decide_eq_true_eq, decide_eq_false_iff_not, beq_iff_eq, beq_eq_false_iff_ne, ne_eq] at *; split at hne <;> omega)
   | exact retN (by simp only [decide_eq_true_eq, decide_eq_false_iff_not, beq_iff_eq, beq_eq_false_iff_ne, ne_eq] at *; split at hne <;> omega) (by simp only [decide_eq_true_eq, decide_eq_false_iff_not, beq_iff_eq, beq_eq_false_iff_ne, ne_eq] at *; omega) (by simp only [decide_eq_true_eq, decide_eq_false_iff_not, beq_iff_eq, beq_eq_false_iff_ne, ne_eq] at *; split at hne <;> omega)
   | (simp only [decide_eq_false_iff_not, beq_iff_eq, beq_eq_false_iff_ne, ne_eq] at *; omega)
   | (exfalso; rename_i hx; cases hx)
theorem o55 (o57 : SpecOk PA GA 43 s57) : SpecOk PA GA 14 s55 := spec_of (X := XA) (m := []) mixedA (tbl_cons o56 (tbl_cons o53 (tbl_cons o57 tbl_nil))) itbl_nil fun args r h => by
 unfold s55 at h
 split at h
 ·split at h
  ·rename_i hn; injection h with h; subst h; exact ⟨_, p55 _ _ _ hn.1 hn.2⟩
  ·cases h
 ·cases h
end Go.Abs
namespace Go.Abs
open Go.Proofs Go.RowKit Go.Maps Go.Sort
variable {P : Program} {G : Glob} {E : Env} {w w' : World}
end Go.Abs
namespace Go.Abs
open Go.Proofs Go.RowKit
section
variable {P : Program} {E : Env} {w w' : World} {G : Glob} {N0 : Nat → Prop} {w0 : World} {I0 : Nat → Nat → Prop} {S : St}
theorem SR.take_row (hS : SR P G N0 w0 I0 S E w) {e : TypeId} {sz n : Nat} {v : Value} {xs : List Value} {es : List AV} (hb : Below w.heap.size w w') (hown : w'.ownsRow w.heap.size e sz v n xs) (hv : v ≠ .slice none 0 0) (_hn : es.length = n) (hvals : Vals E w sz es xs) :
  ∃ E', SR P G N0 w0 I0 { S with boxes := S.boxes ++ [some (ownC sz es)] } E' w' ∧ Env.Le E E' w w' ∧ Rep E' w' (.ms S.boxes.length sz n) v := by
 rcases hown.2 with ⟨hv', _⟩ | ⟨g, cap, cur, rfl, hbase, hbk, h1, h2, h3, h4⟩
 ·exact absurd hv' hv
 obtain ⟨hS1, hL1⟩ := hS.ext hb (I' := E.I) (fun _ _ h => h) (fun _ _ h => .inl h)
 have hrm := hS1.room 1
 have hbid : (S.boxes ++ List.replicate 1 none)[S.boxes.length]? = some none := by simp
 have hgl : g < w'.heap.size := (Array.getElem?_eq_some_iff.1 hbk).1
 have hvals' := hvals.le hL1
 obtain ⟨E', hS2, hL2, hB⟩ := hrm.box_take S.boxes.length hbid (ownC sz es) g (fun hq => by have := hS.n0 g hq; omega) hgl (fun o ho => by have := hS.Ilt g o ho; omega) (fun id he => by have := (hS.Blt id g he).2.2.1; omega)
  (fun t n v hk hg => by have := hS.Kblk t n v hk g hg; omega)
  (.own sz es true cur e rfl hbk hvals'.2.1 hvals'.2.2.1 (fun i e j c hi hj => by
   obtain ⟨u, hu, hr⟩ := hvals'.2.2.2.2 i e j c hi hj
   refine ⟨u, ?_, hr, hvals'.2.2.2.1 u (List.mem_of_getElem? hu)⟩
   have hlt := (List.getElem?_eq_some_iff.1 hu).1
   rw [← h4, List.getElem?_take] at hu
   split at hu
   ·rw [← Array.getElem?_toList]; exact hu
   ·cases hu) (fun hf => by cases hf))
 refine ⟨E', ?_, hL1.trans hL2, .ms _ _ _ g cap hB h1 h2 ?_⟩
 ·have e1 : (S.boxes ++ List.replicate 1 none).set S.boxes.length (some (ownC sz es)) = S.boxes ++ [some (ownC sz es)] := by simp
  rw [← e1]; exact hS2
 ·unfold rowsOf; rw [hbk]; simp only; rw [h3]; exact Nat.le_refl _
end
section
variable {P : Program} {G : Glob}
theorem ISpecOk.mono {f : FuncId} {s s' : ISpec} (hs : ISpecOk P G f s) (h : ∀ args S p r, s' args S = some (p, r) → p → ∃ p', s args S = some (p', r) ∧ p') : ISpecOk P G f s' := by
 intro g args S r S' hr
 simp only [lowC] at hr
 by_cases e : g = f
 ·subst e
  simp only [if_true] at hr
  split at hr
  case h_2 => cases hr
  rename_i x hx
  split at hr
  case isFalse => cases hr
  rename_i hp
  injection hr with hr
  obtain ⟨p', h1, h2⟩ := h args S x.1 x.2 hx hp
  refine hs g args S r S' ?_
  simp only [lowC, if_true, h1]
  rw [if_pos h2, hr]
 ·simp only [if_neg e] at hr
  cases hr
def sClone (sz bytes : Nat) : ISpec := fun args S => match args with
 | [.sl sz' es _] => if es.isEmpty then some (True, .sl sz [] .full, S) else if sz' = sz then some (es.length * bytes ≤ 140737488355328, .ms S.boxes.length sz es.length, { S with boxes := S.boxes ++ [some (ownC sz es)] }) else none
 | _ => none
theorem oClone {f : FuncId} {e : TypeId} {sz bytes : Nat} (hgd : goodFn P f) (hsz : 0 < sz)
  (hc : ∀ (b off n c : Nat) (news : List Value) (w : World), news.length = n * sz → n ≤ maxLen → n * bytes ≤ 140737488355328 → (∀ j u, news[j]? = some u → w.cell? ⟨b, off + j, none⟩ = some u) → (∀ u ∈ news, u.oneCell' = true) →
   Calls P f #[.slice (some ⟨b, off, none⟩) n c] w fun x w' => ∃ v', x = .returned v' ∧ w'.ownsRow w.heap.size e sz v' n news ∧ v' ≠ .slice none 0 0 ∧ Below w.heap.size w w')
  (hnil : ∀ (n c : Nat) (w : World), Calls P f #[.slice none n c] w fun x w' => x = .returned (.slice none 0 0) ∧ w' = w)
  (h0 : ∀ (a : Addr) (c : Nat) (w : World), Calls P f #[.slice (some a) 0 c] w fun x w' => ∃ A, x = .returned (.slice A 0 0) ∧ Below w.heap.size w w') : ISpecOk P G f (sClone sz bytes) := by
 intro f' args S r S' h
 simp only [lowC] at h
 split at h
 case h_2 => cases h
 rename_i x hx
 split at h
 case isFalse => cases h
 rename_i hp
 injection h with h
 split at hx
 case isFalse => cases hx
 rename_i ef
 subst ef
 unfold sClone at hx
 split at hx
 case h_2 => cases hx
 rename_i sz' es o
 split at hx
 ·rename_i hes
  injection hx with hx
  subst hx
  simp only [Prod.mk.injEq] at h
  obtain ⟨rfl, rfl⟩ := h
  have hes' : es = [] := by simpa using hes
  subst hes'
  refine ⟨hgd, fun N0 w0 I0 E w vs hS hvs hv => ?_⟩
  obtain ⟨a, rfl⟩ := vs_one hvs
  have hr := hv 0 _ _ rfl rfl
  have hout : ∀ (E' : Env) (w' : World) (A : Option Addr), Rep E' w' (.sl sz [] .full) (.slice A 0 0) := fun E' w' A =>
   .sl sz [] .full A 0 (fun _ _ => .bool true) (Nat.le_refl _) (Nat.zero_le _) (.inl rfl) (by simp) (by simp) rfl (by simp) (fun _ _ => rfl)
  cases hr with | sl _ _ _ A cap u hcap hmax hA _ _ _ _ _ =>
  cases A with
  | none =>
   refine (hnil 0 cap w).mono ?_
   rintro x w' ⟨rfl, rfl⟩
   exact ⟨_, E, rfl, hS, Env.Le.refl _ _, hout _ _ _⟩
  | some A =>
   refine (h0 A cap w).mono ?_
   rintro x w' ⟨A', rfl, hb⟩
   obtain ⟨hS1, hL1⟩ := hS.ext hb (I' := E.I) (fun _ _ h => h) (fun _ _ h => .inl h)
   exact ⟨_, _, rfl, hS1, hL1, hout _ _ _⟩
 ·rename_i hes
  split at hx
  case isFalse => cases hx
  rename_i hz
  subst hz
  injection hx with hx
  subst hx
  simp only [Prod.mk.injEq] at h
  obtain ⟨rfl, rfl⟩ := h
  have hes' : es ≠ [] := by simpa using hes
  refine ⟨hgd, fun N0 w0 I0 E w vs hS hvs hv => ?_⟩
  obtain ⟨a, rfl⟩ := vs_one hvs
  have hr := hv 0 _ _ rfl rfl
  obtain ⟨A, cap, rfl⟩ : ∃ A cap, a = .slice A es.length cap := by cases hr with | sl _ _ _ A cap => exact ⟨A, cap, rfl⟩
  obtain ⟨vals, hvals, _, hat⟩ := rep_vals (P := P) hr hsz
  have hAm : (∃ b off, A = some ⟨b, off, none⟩) ∧ es.length ≤ maxLen := by
   cases hr with | sl _ _ _ _ _ u hcap hmax hA _ _ _ _ _ =>
   rcases hA with hA | ⟨b, off, hA, _⟩
   ·exact absurd hA hes'
   ·exact ⟨⟨b, off, hA⟩, Nat.le_trans hcap hmax⟩
  obtain ⟨⟨b, off, rfl⟩, hmax⟩ := hAm
  refine (hc b off es.length cap vals w hvals.1 hmax hp (fun j u hj => (hat b off rfl j u hj).2) hvals.2.2.2.1).mono ?_
  rintro x w' ⟨v', rfl, hown, hnn, hb⟩
  obtain ⟨E', h1, h2, h3⟩ := hS.take_row hb hown hnn rfl hvals
  exact ⟨v', E', rfl, h1, h2, h3⟩
end
end Go.Abs
namespace Go.Abs
open Go.Proofs Go.Proofs.K17 Go.RowKit
abbrev bkA (b : Int × Int) : AV := .agg [.int .i64 b.1, .int .i64 b.2]
abbrev bksL (l : Bks) : List AV := l.map bkA
def unBk : AV → Option (Int × Int)
 | .agg [.int .i64 i, .int .i64 n] => some (i, n)
 | _ => none
def unL {α : Type} (f : AV → Option α) : List AV → Option (List α)
 | [] => some []
 | a :: l => match f a, unL f l with
  | some x, some xs => some (x :: xs)
  | _, _ => none
theorem unL_map {α : Type} {f : AV → Option α} {g : α → AV} (h : ∀ x, f (g x) = some x) : ∀ l : List α, unL f (l.map g) = some l
 | [] => rfl
 | x :: l => by simp only [List.map_cons, unL, h x, unL_map h l]
theorem unL_inv {α : Type} {f : AV → Option α} {g : α → AV} (h : ∀ a x, f a = some x → a = g x) : ∀ {es : List AV} {l : List α}, unL f es = some l → es = l.map g
 | [], l, e => by simp only [unL, Option.some.injEq] at e; subst e; rfl
 | a :: es, l, e => by
  simp only [unL] at e
  split at e
  ·rename_i x xs hx hxs
   simp only [Option.some.injEq] at e
   subst e
   rw [h a x hx, unL_inv h hxs]; rfl
  ·cases e
theorem unBk_ok (b : Int × Int) : unBk (bkA b) = some b := rfl
theorem unBk_inv (a : AV) (x : Int × Int) (h : unBk a = some x) : a = bkA x := by
 unfold unBk at h
 split at h
 ·injection h with h; subst h; rfl
 ·cases h
/-! the sum of counts, sorted -/
instance (n : Int) : Decidable (I64 n) := inferInstanceAs (Decidable (_ ∧ _))
instance (l : Bks) : Decidable (WfB l) := inferInstanceAs (Decidable (∀ x ∈ l, _ ∧ _))
def putB (i n : Int) : Bks → Bks
 | [] => if n = 0 then [] else [(i, n)]
 | (j, c) :: t => if i < j then (if n = 0 then (j, c) :: t else (i, n) :: (j, c) :: t) else if i = j then (if wrap64 (c + n) = 0 then t else (j, wrap64 (c + n)) :: t) else (j, c) :: putB i n t
def normB (l : Bks) : Bks := l.foldl (fun m x => putB x.1 x.2 m) []
theorem putB_mem {i n : Int} {l : Bks} {x : Int × Int} (h : x ∈ putB i n l) : (∃ y ∈ l, y.1 = x.1) ∨ x.1 = i := by
 induction l with
 | nil => unfold putB at h; split at h <;> simp_all
 | cons y t ih =>
  obtain ⟨j, c⟩ := y
  unfold putB at h
  split at h
  ·split at h
   ·exact .inl ⟨x, h, rfl⟩
   ·rcases List.mem_cons.1 h with rfl | h
    ·exact .inr rfl
    ·exact .inl ⟨x, h, rfl⟩
  ·split at h
   ·split at h
    ·exact .inl ⟨x, by simp [h], rfl⟩
    ·rcases List.mem_cons.1 h with rfl | h
     ·exact .inl ⟨(j, c), by simp, rfl⟩
     ·exact .inl ⟨x, by simp [h], rfl⟩
   ·rcases List.mem_cons.1 h with rfl | h
    ·exact .inl ⟨(j, c), by simp, rfl⟩
    ·rcases ih h with ⟨y, hy, e⟩ | e
     ·exact .inl ⟨y, by simp [hy], e⟩
     ·exact .inr e
theorem putB_asc {i n : Int} : ∀ {l : Bks}, Asc l → Asc (putB i n l)
 | [], h => by
  unfold putB
  split
  ·exact h
  ·rename_i h0; exact ⟨by simp, fun x hx => by simp at hx; subst hx; exact h0⟩
 | (j, c) :: t, h => by
  obtain ⟨h1, h2, h3⟩ := asc_cons h
  unfold putB
  split
  ·split
   ·exact h
   ·rename_i hij h0
    exact asc_mk h (fun y hy => by rcases List.mem_cons.1 hy with rfl | hy; exact hij; have := h2 y hy; simp at this ⊢; omega) h0
  ·split
   ·split
    ·exact h1
    ·rename_i h0; exact asc_mk h1 (fun y hy => h2 y hy) h0
   ·refine asc_mk (putB_asc h1) (fun y hy => ?_) h3
    rcases putB_mem hy with ⟨z, hz, e⟩ | e
    ·have := h2 z hz; omega
    ·simp; omega
theorem putB_wf {i n : Int} (hi : I64 i) (hn : I64 n) : ∀ {l : Bks}, WfB l → WfB (putB i n l)
 | [], h => by
  unfold putB
  split
  ·exact h
  ·intro x hx; simp at hx; subst hx; exact ⟨hi, hn⟩
 | (j, c) :: t, h => by
  obtain ⟨h1, h2⟩ := wfB_cons h
  unfold putB
  split
  ·split
   ·exact h
   ·exact wfB_mk h ⟨hi, hn⟩
  ·split
   ·split
    ·exact h2
    ·exact wfB_mk h2 ⟨h1.1, w64_range _⟩
   ·exact wfB_mk (putB_wf hi hn h2) h1
theorem putB_tot {i n : Int} (hi : I64 i) (hn : I64 n) (k : Int) : ∀ {l : Bks}, Asc l → WfB l → tot (putB i n l) k = if i = k then wrap64 (tot l k + n) else tot l k
 | [], h, hf => by
  unfold putB
  have e0 : tot [] k = 0 := rfl
  rw [e0]
  split
  ·rename_i h0; subst h0; rw [e0]; split
   ·rw [w64 (by omega) (by omega)]; rfl
   ·rfl
  ·show (if i = k then wrap64 (0 + n) else 0) = _
   rfl
 | (j, c) :: t, h, hf => by
  obtain ⟨h1, h2, h3⟩ := asc_cons h
  obtain ⟨f1, f2⟩ := wfB_cons hf
  unfold putB
  split
  ·rename_i hij
   split
   ·rename_i h0; subst h0
    split
    ·rw [Int.add_zero, w64 (tot_range _ _).1 (tot_range _ _).2]
    ·rfl
   ·rename_i h0
    have ha : Asc ((i, n) :: (j, c) :: t) := asc_mk h (fun y hy => by rcases List.mem_cons.1 hy with rfl | hy; exact hij; have := h2 y hy; simp at this ⊢; omega) h0
    rw [tot_cons ha (by
     intro x hx
     rcases List.mem_cons.1 hx with rfl | hx
     ·exact ⟨hi, hn⟩
     ·exact hf x hx)]
    simp only
    by_cases hk : i = k
    ·rw [if_pos hk, if_pos hk, tot_none (k := k) (fun x hx => by rcases List.mem_cons.1 hx with rfl | hx; simp; omega; have := h2 x hx; simp at this; omega), Int.zero_add, w64 hn.1 hn.2]
    ·rw [if_neg hk, if_neg hk]
  ·rename_i hij
   split
   ·rename_i hij2
    subst hij2
    split
    ·rename_i h0
     by_cases hk : i = k
     ·rw [if_pos hk, tot_cons h hf]; simp only; rw [if_pos hk, h0, tot_none fun x hx => by have := h2 x hx; simp at this; omega]
     ·rw [if_neg hk, tot_cons h hf]; simp only; rw [if_neg hk]
    ·rename_i h0
     have ha : Asc ((i, wrap64 (c + n)) :: t) := asc_mk h1 (fun y hy => h2 y hy) h0
     rw [tot_cons ha (wfB_mk f2 ⟨f1.1, w64_range _⟩), tot_cons h hf]
     simp only
     by_cases hk : i = k
     ·rw [if_pos hk, if_pos hk, if_pos hk]
     ·rw [if_neg hk, if_neg hk, if_neg hk]
   ·rename_i hne
    have ha : Asc ((j, c) :: putB i n t) := asc_mk (putB_asc h1) (fun y hy => by
     rcases putB_mem hy with ⟨z, hz, e⟩ | e
     ·have := h2 z hz; omega
     ·simp; omega) h3
    rw [tot_cons ha (wfB_mk (putB_wf hi hn f2) f1), tot_cons h hf]
    simp only
    by_cases hk : j = k
    ·rw [if_pos hk, if_pos hk, if_neg (by omega)]
    ·rw [if_neg hk, if_neg hk, putB_tot hi hn k h1 f2]
theorem tot_nil (k : Int) : tot [] k = 0 := rfl
theorem fold_ok : ∀ (l p m : Bks), Asc m → WfB m → (∀ k, tot m k = tot p k) → WfB l → Asc (l.foldl (fun m x => putB x.1 x.2 m) m) ∧ WfB (l.foldl (fun m x => putB x.1 x.2 m) m) ∧ ∀ k, tot (l.foldl (fun m x => putB x.1 x.2 m) m) k = tot (p ++ l) k
 | [], p, m, h1, h2, h3, _ => ⟨h1, h2, fun k => by rw [List.append_nil]; exact h3 k⟩
 | (i, n) :: l, p, m, h1, h2, h3, h4 => by
  have hx := h4 (i, n) (by simp)
  have := fold_ok l (p ++ [(i, n)]) (putB i n m) (putB_asc h1) (putB_wf hx.1 hx.2 h2) (fun k => by rw [putB_tot hx.1 hx.2 k h1 h2, tot_snoc, h3 k]) fun y hy => h4 y (by simp [hy])
  simpa using this
theorem norm_ok {l : Bks} (h : WfB l) : Asc (normB l) ∧ WfB (normB l) ∧ ∀ k, tot (normB l) k = tot l k :=
 fold_ok l [] [] ⟨by simp, by simp⟩ (by intro x hx; simp at hx) (fun _ => rfl) h
section
variable {E : Env} {w w' : World}
theorem rep_bks {sz : Nat} {l : Bks} {o : Own} {v : Value} (h : Rep E w (.sl sz (bksL l) o) v) (hsz : sz = 2 ∨ l = []) (hI : ∀ b o, E.I b o → b < w.heap.size) :
  ∃ A cap, v = .slice A l.length cap ∧ Arr w benc 2 A l := by
 generalize hes : bksL l = es at h
 cases h with | sl _ _ _ A cap u hcap hmax hA hsz' hcl ho hr h1 =>
 have hlen : es.length = l.length := by rw [← hes]; simp
 refine ⟨A, cap, by rw [hlen], ?_⟩
 by_cases hb : l = []
 ·exact .inl hb
 ·have hsz1 : sz = 2 := hsz.resolve_right hb
  subst hsz1
  rcases hA with hA | ⟨b, off, hA, hc⟩
  ·exact absurd (by rw [← hes] at hA; simpa using hA) hb
  ·have hat : ∀ (k : Nat) (x : Int × Int), l[k]? = some x → es[k]? = some (bkA x) := fun k x hk => by rw [← hes, List.getElem?_map, hk]; rfl
   refine .inr ⟨b, off, hA, ?_, fun k x hk j y hj => ?_⟩
   ·have hl : 0 < l.length := List.length_pos_iff.2 hb
    exact hI b _ (hc 0 _ 0 (.int .i64 (l[0]).1) (hat 0 l[0] (List.getElem?_eq_getElem hl)) rfl).1
   ·match j, hj with
    | 0, hj =>
     simp [benc] at hj; subst hj
     have h2 := hc k _ 0 (.int .i64 x.1) (hat k x hk) rfl
     rw [h2.2, rep_int (hr k _ 0 _ (hat k x hk) rfl)]
    | 1, hj =>
     simp [benc] at hj; subst hj
     have h2 := hc k _ 1 (.int .i64 x.2) (hat k x hk) rfl
     rw [h2.2, rep_int (hr k _ 1 _ (hat k x hk) rfl)]
    | j + 2, hj => simp [benc] at hj
theorem bcells_at {m : Bks} {k j : Nat} {e c : AV} (hk : (bksL m)[k]? = some e) (hj : e.cells[j]? = some c) : ∃ u, (bcells m)[k * 2 + j]? = some u ∧ j < 2 ∧ k < m.length ∧ (∀ (E : Env) (w : World), Rep E w c u) ∧ u.oneCell' = true := by
 rw [List.getElem?_map] at hk
 cases hx : m[k]? with
 | none => rw [hx] at hk; cases hk
 | some x =>
  rw [hx] at hk
  simp only [Option.map_some, Option.some.injEq] at hk
  subst hk
  have hlt := (List.getElem?_eq_some_iff.1 hx).1
  match j, hj with
  | 0, hj =>
   simp [AV.cells] at hj; subst hj
   exact ⟨.int .i64 x.1, flatMap_at benc_len m k x 0 _ hx rfl, by omega, hlt, fun E w => .int _ _, rfl⟩
  | 1, hj =>
   simp [AV.cells] at hj; subst hj
   exact ⟨.int .i64 x.2, flatMap_at benc_len m k x 1 _ hx rfl, by omega, hlt, fun E w => .int _ _, rfl⟩
  | j + 2, hj => simp [AV.cells] at hj
theorem res_bks {P : Program} {v : Value} {m : Bks} (hb : Below w.heap.size w w') (hown : w'.ownsRow w.heap.size 90 2 v m.length (bcells m)) : Res P E w w' (.sl 2 (bksL m) .no) [] v := by
 refine ⟨fun b o => E.I b o ∨ (v.ownBlock = some b ∧ o < m.length * 2), fun b o h => .inl h, fun b o h => ?_, hb, .inl ⟨rfl, fun B K => ?_⟩⟩
 ·rcases h with h | ⟨h, _⟩
  ·exact .inl h
  ·exact .inr (hown.lt b h)
 ·have hcl : ∀ e ∈ bksL m, e.closed1 = true := fun e he => by obtain ⟨s, _, rfl⟩ := List.mem_map.1 he; rfl
  have hsz : ∀ e ∈ bksL m, e.cells.length = 2 := fun e he => by obtain ⟨s, _, rfl⟩ := List.mem_map.1 he; rfl
  have hlen : (bksL m).length = m.length := List.length_map ..
  rcases hown.2 with ⟨rfl, hz⟩ | ⟨g, cap, cur, rfl, hbase, hbk, h1, h2, h3, h4⟩
  ·have hss : m = [] := List.length_eq_zero_iff.1 hz
   subst hss
   exact .sl 2 [] .no none 0 (fun _ _ => .bool true) (Nat.le_refl _) (Nat.zero_le _) (.inl rfl) (by simp) (by simp) trivial (by simp) (fun _ _ => rfl)
  ·rw [← hlen]
   refine .sl 2 _ .no _ cap (fun i j => ((bcells m)[i * 2 + j]?).getD (.bool true)) (by rw [hlen]; exact h1) h2 (.inr ⟨g, 0, rfl, fun i e j c hi hj => ?_⟩) hsz hcl trivial (fun i e j c hi hj => ?_) (fun i j => ?_)
   ·obtain ⟨u, hu, hj2, hlt, _, _⟩ := bcells_at hi hj
    refine ⟨.inr ⟨rfl, by omega⟩, ?_⟩
    have := hown.cellAt (i * 2 + j) (by omega)
    simp only [Nat.zero_add] at this ⊢
    rw [this, hu]; rfl
   ·obtain ⟨u, hu, _, _, hr, _⟩ := bcells_at hi hj
    rw [hu]; exact hr _ _
   ·cases hu : (bcells m)[i * 2 + j]? with
    | none => rfl
    | some u =>
     have := List.mem_of_getElem? hu
     simp only [bcells, List.mem_flatMap, benc] at this
     obtain ⟨x, _, hx⟩ := this
     simp at hx
     rcases hx with rfl | rfl <;> rfl
end
def s66 : Spec := fun args => match args with
 | [.sl sz es _, .sl sz2 es2 _] => match unL unBk es, unL unBk es2 with
  | some l, some m => if (sz = 2 ∨ l = []) ∧ (sz2 = 2 ∨ m = []) ∧ WfB l ∧ WfB m ∧ l.length + m.length ≤ 1000000000000 then some (.sl 2 (bksL (normB (l ++ m))) .no, []) else none
  | _, _ => none
 | _ => none
def s67 : Spec := fun args => match args with
 | [.sl sz es _, .int .i64 n, .int .i64 t] => match unL unBk es with
  | some l => if (sz = 2 ∨ l = []) ∧ WfB l ∧ l.length < 1000000000000 ∧ I64 n ∧ I64 t then some (.sl 2 (bksL (normB (l ++ [(idx n, t)]))) .no, []) else none
  | _ => none
 | _ => none
def s68 : Spec := fun args => match args with
 | [.sl sz es _, .int .i64 p] => match unL unBk es with
  | some l => if (sz = 2 ∨ l = []) ∧ l.length ≤ 100000000000000 then some (.tup [.int .i64 ((quantile l p).getD 0), .bool (quantile l p).isSome], []) else none
  | _ => none
 | _ => none
theorem sk_res {E : Env} {w w' : World} {n : Nat} {l : Bks} {e : Ending} (hf : WfB l) (h : SomeSk n (tot l) w e w') : ∃ v, e = .returned v ∧ Res PA E w w' (.sl 2 (bksL (normB l)) .no) [] v := by
 obtain ⟨A, cap, m, he, ha, h1, h2, h3, h4, h5⟩ := h
 have : m = normB l := asc_ext h1 h2 (norm_ok hf).1 (norm_ok hf).2.1 fun k => (h4 k).trans ((norm_ok hf).2.2 k).symm
 subst this
 exact ⟨_, he, res_bks h5 ha⟩
theorem o66 : SpecOk PA GA 112 s66 := by
 intro g args r lv h E w vs hI hG hn' hv hcl
 simp only at h
 split at h
 case isFalse => cases h
 case isTrue e =>
 subst e
 unfold s66 at h
 split at h
 case h_2 => cases h
 case h_1 sz es _ sz2 es2 _ =>
 split at h
 case h_2 => cases h
 case h_1 l m hl hm =>
 obtain rfl := unL_inv unBk_inv hl
 obtain rfl := unL_inv unBk_inv hm
 split at h
 case isFalse => cases h
 case isTrue hc =>
 obtain ⟨c1, c2, c3, c4, c5⟩ := hc
 simp only [Option.some.injEq, Prod.mk.injEq] at h
 obtain ⟨rfl, rfl⟩ := h
 obtain ⟨a, b, rfl⟩ := vs_two hn'
 obtain ⟨A, ca, rfl, hA⟩ := rep_bks (hv 0 _ _ rfl rfl) c1 hI
 obtain ⟨B, cb, rfl, hB⟩ := rep_bks (hv 1 _ _ rfl rfl) c2 hI
 refine .inl ⟨goodA (by kernel_rfl), (merge_any A B ca cb l m w hA hB c3 c4 c5).mono fun e w' h => ?_⟩
 obtain ⟨v, he, hr⟩ := sk_res (E := E) (fun x hx => by rcases List.mem_append.1 hx with h | h; exact c3 x h; exact c4 x h) h
 exact ⟨v, he, hr⟩
theorem o67 : SpecOk PA GA 113 s67 := by
 intro g args r lv h E w vs hI hG hn' hv hcl
 simp only at h
 split at h
 case isFalse => cases h
 case isTrue e =>
 subst e
 unfold s67 at h
 split at h
 case h_2 => cases h
 case h_1 sz es _ n t =>
 split at h
 case h_2 => cases h
 case h_1 l hl =>
 obtain rfl := unL_inv unBk_inv hl
 split at h
 case isFalse => cases h
 case isTrue hc =>
 obtain ⟨c1, c2, c3, c4, c5⟩ := hc
 simp only [Option.some.injEq, Prod.mk.injEq] at h
 obtain ⟨rfl, rfl⟩ := h
 obtain ⟨a, b, d, rfl⟩ := vs_three hn'
 obtain ⟨A, ca, rfl, hA⟩ := rep_bks (hv 0 _ _ rfl rfl) c1 hI
 obtain rfl := rep_int (hv 1 _ _ rfl rfl)
 obtain rfl := rep_int (hv 2 _ _ rfl rfl)
 refine .inl ⟨goodA (by kernel_rfl), (add_any A ca l n t w hA c2 c3 c4 c5).mono fun e w' h => ?_⟩
 have hi := idx_range n c4.1 c4.2
 obtain ⟨v, he, hr⟩ := sk_res (E := E) (fun x hx => by
  rcases List.mem_append.1 hx with h | h
  ·exact c2 x h
  ·simp at h; subst h; exact ⟨⟨by simp; omega, by simp; omega⟩, c5⟩) h
 exact ⟨v, he, hr⟩
theorem o68 : SpecOk PA GA 114 s68 := by
 intro g args r lv h E w vs hI hG hn' hv hcl
 simp only at h
 split at h
 case isFalse => cases h
 case isTrue e =>
 subst e
 unfold s68 at h
 split at h
 case h_2 => cases h
 case h_1 sz es _ p =>
 split at h
 case h_2 => cases h
 case h_1 l hl =>
 obtain rfl := unL_inv unBk_inv hl
 split at h
 case isFalse => cases h
 case isTrue hc =>
 simp only [Option.some.injEq, Prod.mk.injEq] at h
 obtain ⟨rfl, rfl⟩ := h
 obtain ⟨a, b, rfl⟩ := vs_two hn'
 obtain ⟨A, ca, rfl, hA⟩ := rep_bks (hv 0 _ _ rfl rfl) hc.1 hI
 obtain rfl := rep_int (hv 1 _ _ rfl rfl)
 refine .inl ⟨goodA (by kernel_rfl), (quantile_any A ca l p w hc.2 hA).mono fun e w' h => ⟨_, h.1, res_below h.2 fun B K => rep_tup2 (.int _ _) (.bool _)⟩⟩
end Go.Abs
namespace Go.Abs
open Go.Proofs Go.RowKit
structure InPl (b : Nat) (w w' : World) : Prop where
 os : w'.os = w.os
 tape : w'.tape = w.tape
 output : w'.output = w.output
 size : w'.heap.size = w.heap.size
 other : ∀ k, k ≠ b → w'.heap[k]? = w.heap[k]?
 rows : rowsOf w' b = rowsOf w b
theorem InPl.refl (b : Nat) (w : World) : InPl b w w := ⟨rfl, rfl, rfl, rfl, fun _ _ => rfl, rfl⟩
theorem InPl.trans {b : Nat} {w w' w'' : World} (h : InPl b w w') (k : InPl b w' w'') : InPl b w w'' :=
 ⟨k.os.trans h.os, k.tape.trans h.tape, k.output.trans h.output, k.size.trans h.size, fun i hi => (k.other i hi).trans (h.other i hi), k.rows.trans h.rows⟩
theorem InPl.drew {b : Nat} {w w' : World} (h : InPl b w w') : InPl b w w'.drew := ⟨h.os, h.tape, h.output, h.size, h.other, h.rows⟩
theorem InPl.set {b : Nat} {w w' : World} (h : InPl b w w') (o : Nat) (v : Value) : InPl b w (w'.setCell ⟨b, o, none⟩ v) := by
 refine h.trans ⟨rfl, rfl, rfl, by simp, fun k hk => ?_, ?_⟩
 ·simp only [World.setCell, Array.getElem?_modify]
  rw [if_neg (Ne.symm hk)]
 ·unfold rowsOf
  simp only [World.setCell, Array.getElem?_modify, if_true]
  cases hb : w'.heap[b]? with
  | none => rfl
  | some ob => cases ob <;> simp
theorem InPl.sets {b : Nat} {w : World} : ∀ (vs : List Value) (o : Nat) {w' : World}, InPl b w w' → InPl b w (w'.setCells b o vs)
 | [], _, _, h => h
 | v :: r, o, _, h => InPl.sets r (o + 1) (h.set o v)
theorem InPl.below {b n : Nat} {w w' : World} (h : InPl b w w') (hb : n ≤ b) : Below n w w' := ⟨h.os, h.tape, h.output, by have := h.size; omega, fun k hk => h.other k (by omega)⟩
section
variable {P : Program} {E : Env} {w w' : World} {G : Glob} {N0 : Nat → Prop} {w0 : World} {I0 : Nat → Nat → Prop} {S : St}
theorem SR.promise (hS : SR P G N0 w0 I0 S E w) {b blk : Nat} (hB : E.B b = some blk) (hf : Frz S b) (J : Nat → Prop) :
  ∃ E', SR P G N0 w0 I0 S E' w ∧ Env.Le E E' w w ∧ ∀ o, J o → E'.I blk o := by
 obtain ⟨b1, b2, b3, b4⟩ := hS.Blt b blk hB
 let E' : Env := ⟨fun b' o => E.I b' o ∨ (b' = blk ∧ J o), E.B, E.K⟩
 have hle : Env.Le E E' w w := ⟨fun _ _ h => ⟨.inl h, rfl⟩, fun _ _ h => h, fun _ _ _ h => h, fun _ _ _ => rfl⟩
 refine ⟨E', ⟨hS.below, hS.n0, fun b' o hi => ?_, fun b' o hi hlt => ?_, fun id b' he => ?_, hS.Binj, fun id cs hi => ?_, hS.glob.le hle, hS.hole, hS.Klt, hS.Kblk, fun t n e ht => ?_⟩, hle, fun o ho => .inr ⟨rfl, ho⟩⟩
 ·rcases hi with hi | ⟨rfl, _⟩
  ·exact hS.Ilt b' o hi
  ·exact b3
 ·rcases hi with hi | ⟨rfl, _⟩
  ·exact hS.Iold b' o hi hlt
  ·exact absurd hlt b2
 ·obtain ⟨a1, a2, a3, a4⟩ := hS.Blt id b' he
  refine ⟨a1, a2, a3, fun o ho => ?_⟩
  rcases ho with ho | ⟨rfl, _⟩
  ·exact a4 o ho
  ·rw [hS.Binj _ _ _ he hB]; exact hf
 ·obtain ⟨blk', hB', hx'⟩ := hS.box id cs hi
  exact ⟨blk', hB', hx'.le rfl hle⟩
 ·obtain ⟨v, xs, sz', hsz, hown, hu, hK, hg⟩ := hS.live t n e ht
  refine ⟨v, xs, sz', hsz, hown, hu, hK, fun g hg' => ?_⟩
  obtain ⟨a1, a2, a3⟩ := hg g hg'
  refine ⟨fun o ho => ?_, a2, a3⟩
  rcases ho with ho | ⟨rfl, _⟩
  ·exact a1 o ho
  ·exact absurd hB (a2 b)
theorem frz_dead {S : St} {b : Nat} (h : b < S.boxes.length) : Frz { S with boxes := S.boxes.set b (some deadC) } b := ⟨deadC, by simp only [List.getElem?_set, if_true]; rw [if_pos h], .inl rfl⟩
theorem SR.kill (hS : SR P G N0 w0 I0 S E w) {b blk sz : Nat} {es : List AV} (hb : S.boxes[b]? = some (some (ownC sz es))) (hB : E.B b = some blk) (hp : InPl blk w w') (J : Nat → Prop) :
  ∃ E', SR P G N0 w0 I0 { S with boxes := S.boxes.set b (some deadC) } E' w' ∧ Env.Le E E' w w' ∧ ∀ o, J o → E'.I blk o := by
 have hnf : ¬ Frz S b := fun hf => by
  rcases hf.row hb with e2 | ⟨sz2, es2, e2⟩ <;> simp at e2
 have b1 := (hS.Blt b blk hB).1
 obtain ⟨h1, h2⟩ := hS.obj_set (cs' := deadC) hB hp.os hp.tape hp.output hp.size hp.other (.dead rfl) hnf hp.rows
 obtain ⟨E', k1, k2, k3⟩ := h1.promise hB (frz_dead b1) J
 exact ⟨E', k1, h2.trans k2, k3⟩
theorem Vals.sub {sz : Nat} {es : List AV} {vals : List Value} (h : Vals E w sz es vals) (i : Nat) (hi : i ≤ es.length) : Vals E w sz (es.take i) (vals.take (i * sz)) ∧ Vals E w sz (es.drop i) (vals.drop (i * sz)) := by
 have hm : i * sz ≤ es.length * sz := Nat.mul_le_mul_right _ hi
 refine ⟨⟨by rw [List.length_take, List.length_take, h.1, Nat.min_eq_left hm, Nat.min_eq_left hi], fun e he => h.2.1 e (List.mem_of_mem_take he), fun e he => h.2.2.1 e (List.mem_of_mem_take he), fun u hu => h.2.2.2.1 u (List.mem_of_mem_take hu), fun k e j c hk hj => ?_⟩,
  ⟨by rw [List.length_drop, List.length_drop, h.1, Nat.sub_mul], fun e he => h.2.1 e (List.mem_of_mem_drop he), fun e he => h.2.2.1 e (List.mem_of_mem_drop he), fun u hu => h.2.2.2.1 u (List.mem_of_mem_drop hu), fun k e j c hk hj => ?_⟩⟩
 ·rw [List.getElem?_take] at hk
  split at hk
  ·rename_i hlt
   obtain ⟨u, hu, hr⟩ := h.2.2.2.2 k e j c hk hj
   refine ⟨u, ?_, hr⟩
   have hjs : j < sz := by rw [← h.2.1 e (List.mem_of_getElem? hk)]; exact (List.getElem?_eq_some_iff.1 hj).1
   have : (k + 1) * sz ≤ i * sz := Nat.mul_le_mul_right _ (by omega)
   rw [Nat.add_mul] at this
   rw [List.getElem?_take, if_pos (by omega)]; exact hu
  ·cases hk
 ·rw [List.getElem?_drop] at hk
  obtain ⟨u, hu, hr⟩ := h.2.2.2.2 _ e j c hk hj
  refine ⟨u, ?_, hr⟩
  rw [List.getElem?_drop]
  rw [Nat.add_mul] at hu
  rw [← Nat.add_assoc]; exact hu
end
section
variable {P : Program} {G : Glob}
def InsOk (P : Program) (f : FuncId) (sz bytes : Nat) : Prop :=
 ∀ (b n c i vb voff vc : Nat) (cs vs : List Value) (arr : Array Value) (ty0 : TypeId) (w : World), i ≤ n → 0 < n → n ≤ c → c ≤ maxLen → vb ≠ b → w.heap[b]? = some (.cells arr ty0 (0, 0)) → c * sz ≤ arr.size → (n + 1) * bytes ≤ 140737488355328 → cs.length = n * sz → vs.length = sz →
  (∀ j v, cs[j]? = some v → w.cell? ⟨b, j, none⟩ = some v) → (∀ j v, vs[j]? = some v → w.cell? ⟨vb, voff + j, none⟩ = some v) → (∀ v ∈ cs, v.oneCell' = true) → (∀ v ∈ vs, v.oneCell' = true) →
  Calls P f #[.slice (some ⟨b, 0, none⟩) n c, .int .i64 i, .slice (some ⟨vb, voff, none⟩) 1 vc] w fun e w' => ∃ g cap, e = .returned (.slice (some ⟨g, 0, none⟩) (n + 1) cap) ∧ n + 1 ≤ cap ∧ cap ≤ maxLen ∧
   (∀ j u, (cs.take (i * sz) ++ vs ++ cs.drop (i * sz))[j]? = some u → w'.cell? ⟨g, j, none⟩ = some u) ∧ ((g = b ∧ InPl b w w') ∨ (w.heap.size ≤ g ∧ g < w'.heap.size ∧ Below w.heap.size w w'))
def sInsert (sz bytes : Nat) : ISpec := fun args S => match args with
 | [.ms b sz' n, .int .i64 i, .sl sz2 [x] _] => match S.boxes[b]? with
  | some (some [.tup [.bool true, .sl sz3 es .no]]) => if sz' = sz ∧ sz2 = sz ∧ sz3 = sz then
    some (es.length = n ∧ 0 ≤ i ∧ i ≤ n ∧ (n + 1) * bytes ≤ 140737488355328 ∧ 0 < n, .sl sz (es.take i.toNat ++ [x] ++ es.drop i.toNat) .no, { S with boxes := S.boxes.set b (some deadC) }) else none
  | _ => none
 | _ => none
theorem oInsert {f : FuncId} {sz bytes : Nat} (hgd : goodFn P f) (hsz : 0 < sz) (hc : InsOk P f sz bytes) : ISpecOk P G f (sInsert sz bytes) := by
 intro f' args S r S' h
 simp only [lowC] at h
 split at h
 case h_2 => cases h
 rename_i x hx
 split at h
 case isFalse => cases h
 rename_i hp
 injection h with h
 split at hx
 case isFalse => cases hx
 rename_i ef
 subst ef
 unfold sInsert at hx
 split at hx
 case h_2 => cases hx
 rename_i b sz' n i sz2 x o
 split at hx
 case h_2 => cases hx
 rename_i sz3 es hbx
 split at hx
 case isFalse => cases hx
 rename_i hz
 obtain ⟨rfl, rfl, rfl⟩ := hz
 injection hx with hx
 subst hx
 simp only [Prod.mk.injEq] at h hp
 obtain ⟨rfl, rfl⟩ := h
 obtain ⟨hn, hi0, hin, hby, hn0⟩ := hp
 subst hn
 obtain ⟨k, rfl⟩ := Int.eq_ofNat_of_zero_le hi0
 simp only [Int.toNat_natCast]
 refine ⟨hgd, fun N0 w0 I0 E w vs hS hvs hv => ?_⟩
 obtain ⟨a1, a2, a3, rfl⟩ : ∃ a1 a2 a3, vs = #[a1, a2, a3] := by
  match vs, hvs with
  | ⟨[a1, a2, a3]⟩, _ => exact ⟨a1, a2, a3, rfl⟩
 have hr1 := hv 0 _ _ rfl rfl
 have hr2 := hv 1 _ _ rfl rfl
 have hr3 := hv 2 _ _ rfl rfl
 simp only [List.getElem_toArray, List.getElem_cons_zero, List.getElem_cons_succ] at hr1 hr2 hr3
 cases hr1 with | ms _ _ _ blk c hB h1 h2 h3 =>
 obtain rfl := rep_int hr2
 obtain ⟨A, vc, rfl⟩ : ∃ A vc, a3 = .slice A 1 vc := by cases hr3 with | sl _ _ _ A cap => exact ⟨A, cap, rfl⟩
 obtain ⟨xs, hxv, _, hxat⟩ := rep_vals (P := P) hr3 hsz
 obtain ⟨vb, voff, rfl⟩ : ∃ b off, A = some ⟨b, off, none⟩ := by
  cases hr3 with | sl _ _ _ _ _ u hcap hmax hA _ _ _ _ _ =>
  rcases hA with hA | ⟨b, off, hA, _⟩
  ·cases hA
  ·exact ⟨b, off, hA⟩
 obtain ⟨blk', hB', hown⟩ := hS.box b _ hbx
 obtain rfl : blk = blk' := by rw [hB] at hB'; injection hB'
 have hnf : ¬ Frz S b := fun hf => by
  rcases hf.row hbx with e2 | ⟨sz2, es2, e2⟩ <;> simp at e2
 have hvb : vb ≠ blk := fun e => by
  subst e
  have hx0 : 0 < xs.length := by rw [hxv.1]; simpa using hsz
  exact hnf ((hS.Blt b vb hB).2.2.2 _ (hxat vb voff rfl 0 _ (List.getElem?_eq_getElem hx0)).1)
 cases hown with
 | row arr ty hr => simp [isRow] at hr
 | iter s pos hcs => simp at hcs
 | map t n es k e D hcs => simp [mapC] at hcs
 | dead hcs => simp at hcs
 | typ t cs' arr hcs => simp at hcs
 | own sz2 es2 f2 arr ty hcs hh hesz hecl hec hf =>
  simp only [List.cons.injEq, AV.tup.injEq, AV.bool.injEq, AV.sl.injEq, and_true] at hcs
  obtain ⟨rfl, rfl, rfl⟩ := hcs
  have hrows : rowsOf w blk = arr.size := by unfold rowsOf; rw [hh]
  have hcm : es.length * sz3 ≤ c * sz3 := Nat.mul_le_mul_right _ h1
  have hvals : Vals E w sz3 es (arr.toList.take (es.length * sz3)) := by
   refine ⟨by have hal : arr.toList.length = arr.size := Array.length_toList; rw [List.length_take, hal]; omega, hesz, hecl, fun u hu => ?_, fun i e j c hi hj => ?_⟩
   ·obtain ⟨q, hq⟩ := List.mem_iff_getElem?.1 hu
    rw [List.getElem?_take] at hq
    split at hq
    case isFalse => cases hq
    rename_i hlt
    have q1 : q / sz3 < es.length := (Nat.div_lt_iff_lt_mul hsz).2 hlt
    have q2 : q % sz3 < es[q / sz3].cells.length := by rw [hesz _ (List.getElem_mem q1)]; exact Nat.mod_lt _ hsz
    obtain ⟨v, e1, e2, e3⟩ := hec _ _ _ _ (List.getElem?_eq_getElem q1) (List.getElem?_eq_getElem q2)
    have hdm : q / sz3 * sz3 + q % sz3 = q := by rw [Nat.mul_comm]; exact Nat.div_add_mod q sz3
    rw [hdm] at e1
    rw [Array.getElem?_toList, e1] at hq
    cases hq; exact e3
   ·obtain ⟨v, e1, e2, e3⟩ := hec i e j c hi hj
    refine ⟨v, ?_, e2⟩
    have hjs : j < sz3 := by rw [← hesz e (List.mem_of_getElem? hi)]; exact (List.getElem?_eq_some_iff.1 hj).1
    have hi' : i < es.length := (List.getElem?_eq_some_iff.1 hi).1
    have : (i + 1) * sz3 ≤ es.length * sz3 := Nat.mul_le_mul_right _ hi'
    rw [Nat.add_mul] at this
    rw [List.getElem?_take, if_pos (by omega), Array.getElem?_toList]; exact e1
  have hcell : ∀ j v, (arr.toList.take (es.length * sz3))[j]? = some v → w.cell? ⟨blk, j, none⟩ = some v := fun j v hj => by
   rw [List.getElem?_take] at hj
   split at hj
   ·rw [Array.getElem?_toList] at hj
    simp [World.cell?, hh, hj]
   ·cases hj
  have hk : k ≤ es.length := by omega
  have hxl : xs.length = sz3 := by rw [hxv.1]; simp
  refine (hc blk es.length c k vb voff vc (arr.toList.take (es.length * sz3)) xs arr ty w hk hn0 h1 h2 hvb hh (by rw [← hrows]; exact h3) (by omega) hvals.1 hxl hcell (fun j v hj => (hxat vb voff rfl j v hj).2) hvals.2.2.2.1 hxv.2.2.2.1).mono ?_
  rintro e w' ⟨g, cap, rfl, hcap1, hcap2, hcells, hwhere⟩
  obtain ⟨ht, hd⟩ := hvals.sub k hk
  have hall := (ht.append hxv).append hd
  have hlen : (es.take k ++ [x] ++ es.drop k).length = es.length + 1 := by simp; omega
  have fin : ∀ (E' : Env) (w' : World), Env.Le E E' w w' → (∀ j u, ((arr.toList.take (es.length * sz3)).take (k * sz3) ++ xs ++ (arr.toList.take (es.length * sz3)).drop (k * sz3))[j]? = some u → w'.cell? ⟨g, j, none⟩ = some u) → (∀ o, o < (es.length + 1) * sz3 → E'.I g o) →
    Rep E' w' (.sl sz3 (es.take k ++ [x] ++ es.drop k) .no) (.slice (some ⟨g, 0, none⟩) (es.length + 1) cap) := fun E' w' hle hc' hI => by
   rw [← hlen]
   refine (hall.le hle).rep g 0 cap .no (by rw [hlen]; exact hcap1) hcap2 (fun j u hj => ?_) trivial
   have hjl := (List.getElem?_eq_some_iff.1 hj).1
   rw [hall.1, hlen] at hjl
   rw [Nat.zero_add]
   exact ⟨hI j hjl, hc' j u hj⟩
  rcases hwhere with ⟨rfl, hip⟩ | ⟨hg1, hg2, hb⟩
  ·obtain ⟨E', k1, k2, k3⟩ := hS.kill hbx hB hip (fun o => o < (es.length + 1) * sz3)
   exact ⟨_, E', rfl, k1, k2, fin E' w' k2 hcells k3⟩
  ·obtain ⟨E1, k1, k2, k3⟩ := hS.kill hbx hB (InPl.refl blk w) (fun _ => False)
   obtain ⟨m1, m2⟩ := k1.ext hb (I' := fun b' o => E1.I b' o ∨ (b' = g ∧ o < (es.length + 1) * sz3)) (fun _ _ h => .inl h) (fun b' o h => by
    rcases h with h | ⟨rfl, _⟩
    ·exact .inl h
    ·exact .inr ⟨hg1, hg2⟩)
   exact ⟨_, _, rfl, m1, k2.trans m2, fin _ w' (k2.trans m2) hcells fun o ho => .inr ⟨rfl, ho⟩⟩
end
end Go.Abs
namespace Go.Proofs.I17
open Go.RowKit Go.Abs Go.Lib
theorem info33 : (Tryz.prog.info? 51).map (fun i => (i.zero, i.size, i.bytes)) = some (some (.agg #[.int .i64 0, .int .i64 0, .string ⟨#[]⟩, .string ⟨#[]⟩, .int .i64 0, .int .i64 0]), 6, 64) := by kernel_rfl
set_option maxHeartbeats 2000000 in
set_option maxRecDepth 100000 in
theorem clone102 (b off n c : Nat) (news : List Value) (w : World) (hl : news.length = n * 6) (hn : n ≤ maxLen) (hbig : n * 64 ≤ 140737488355328)
  (hc : ∀ j u, news[j]? = some u → w.cell? ⟨b, off + j, none⟩ = some u) (h1 : ∀ u ∈ news, u.oneCell' = true) :
  Calls Tryz.prog 147 #[.slice (some ⟨b, off, none⟩) n c] w fun e w' => ∃ v', e = .returned v' ∧ w'.ownsRow w.heap.size 51 6 v' n news ∧ v' ≠ .slice none 0 0 ∧ Below w.heap.size w w' := by
 obtain ⟨i0, hi0, hz0, hz1, hz2⟩ := info_parts info33
 have t22 := Tryz.underlying22
 have q22 : ∀ (w : World) (a : Option Addr) (n c n' c' : Nat), (binOp .eql 22 (.slice a n c) (.slice none n' c')).run Tryz.prog w = .ok (.bool a.isNone) w := fun w a n c n' c' => Lib.run_eql_slice_nil w _ _ a n c n' c' Tryz.underlying22
 have u22 : ∀ w, Sem.run Tryz.prog (underlying 22) w = .ok (TypeDesc.slice 51) w := run_underlying t22
 have A : Aside (∀ j u, news[j]? = some u → w.cell? ⟨b, off + j, none⟩ = some u) := hc
 clear hc
 go_enter Tryz.func147, Tryz.ntmps147
 go_wp2_with (at_builtin; refine wpList_append_own _ rfl _ _ 22 rfl w.heap.size 51 i0 _ 6 64 t22 hi0 hz0 hz1 hz2 rfl (by decide) _ _ _ rfl (World.ownsRow_made w #[] 0 (Nat.le_refl _) (Nat.zero_le _) (by simp)) ⟨b, off, none⟩ n c news rfl ?qc1 ?qc2 ?qc3 ?qc4 ?qc5 ?qc6 ?_)
 case qc1 => exact hl
 case qc2 =>
  intro j u hj
  rw [Addr.add_lit]
  exact Lib.cell?_alloc_some _ (A.out j u hj)
 case qc3 => exact h1
 case qc4 => rw [Nat.zero_add]; exact hn
 case qc5 => rw [Nat.zero_add]; exact hbig
 case qc6 => simp
 intro v' w1 hown hgrow hnil
 go_wp2
 go_ret
 refine ⟨v', rfl, by simpa using hown, hnil, ?_⟩
 exact ((Below.refl _ w).alloc (Nat.le_refl _) _).grown hgrow (by simp) (by intro k hk; simp [Value.ownBlock] at hk; omega)
theorem cloneNil102 (n c : Nat) (w : World) : Calls Tryz.prog 147 #[.slice none n c] w fun e w' => e = .returned (.slice none 0 0) ∧ w' = w := by
 have q22 : ∀ (w : World) (a : Option Addr) (n c n' c' : Nat), (binOp .eql 22 (.slice a n c) (.slice none n' c')).run Tryz.prog w = .ok (.bool a.isNone) w := fun w a n c n' c' => Lib.run_eql_slice_nil w _ _ a n c n' c' Tryz.underlying22
 go_enter Tryz.func147, Tryz.ntmps147
 go_wp2
 go_ret
 exact ⟨rfl, rfl⟩
theorem cloneEmpty102 (a : Addr) (c : Nat) (w : World) : Calls Tryz.prog 147 #[.slice (some a) 0 c] w fun e w' => ∃ A, e = .returned (.slice A 0 0) ∧ Below w.heap.size w w' := by
 have q22 : ∀ (w : World) (a : Option Addr) (n c n' c' : Nat), (binOp .eql 22 (.slice a n c) (.slice none n' c')).run Tryz.prog w = .ok (.bool a.isNone) w := fun w a n c n' c' => Lib.run_eql_slice_nil w _ _ a n c n' c' Tryz.underlying22
 have u22 : ∀ w, Sem.run Tryz.prog (underlying 22) w = .ok (TypeDesc.slice 51) w := run_underlying Tryz.underlying22
 go_enter Tryz.func147, Tryz.ntmps147
 go_wp2
 go_ret
 exact ⟨_, rfl, (Below.refl _ w).alloc (Nat.le_refl _) _⟩
theorem good102 : goodFn PA 147 := goodA (by kernel_rfl)
end Go.Proofs.I17
namespace Go.Abs
open Go.Proofs
def s102 : ISpec := sClone 6 64
theorem o102 : ISpecOk PA GA 147 s102 := oClone I17.good102 (by decide) I17.clone102 I17.cloneNil102 I17.cloneEmpty102
end Go.Abs
namespace Go.Proofs.I17
open Go.RowKit Go.Abs Go.Lib
theorem wp_copy_run' {P : Program} (w : World) {o : Oper} {a : Act} {K : Act → World → Prop} {Q : Exit → Act → World → Prop} (d s : Operand) (t t' : TypeId)
  (ho : o.op = .call { callee := .builtin .copy, args := #[d, s], argTypes := #[t, t'] }) (v u : Value) (hd : a.eval d = v) (hs : a.eval s = u) {v' : Value} {w' : World}
  (hr : (Builtin.copy_ #[t, t'] o.type #[v, u]).run P w = .ok v' w') (h : K (a.put o.dst v') w') : o.wp P a w K Q := by
 unfold Oper.wp execOp
 simp only [ho, resolve, invoke, builtin, Sem.run_bind, Sem.run_pure, Result.andThen_ok, List.map_toArray, List.map_cons, List.map_nil, hd, hs, hr]
 exact h
theorem wpList_copy_run' {P : Program} (w : World) {ops : Array Oper} {rest : List Oper} {o : Oper} {a : Act} {Q : Exit → Act → World → Prop} (hgd : o.guard = none) (d s : Operand) (t t' : TypeId)
  (ho : o.op = .call { callee := .builtin .copy, args := #[d, s], argTypes := #[t, t'] }) (v u : Value) (hd : a.eval d = v) (hs : a.eval s = u) {v' : Value} {w' : World}
  (hr : (Builtin.copy_ #[t, t'] o.type #[v, u]).run P w = .ok v' w') (h : wpList P ops Q rest (a.put o.dst v') w') : wpList P ops Q (o :: rest) a w :=
 wpList_plain hgd fun _ hK => wp_copy_run' w d s t t' ho v u hd hs hr (hK _ _ h)
theorem step_copy_run' {P : Program} {ops : Array Oper} {o : Oper} {a : Act} {w : World} {K : Act → World → Prop} {Q : Exit → Act → World → Prop} {E : Prop}
  (hg : o.guard = none) (d x : Operand) (dT sT : TypeId) (hop : o.op = Op.call { callee := Callee.builtin Builtin.copy, args := #[d, x], argTypes := #[dT, sT] })
  (v u : Value) (hd : a.eval d = v) (hx : a.eval x = u) {v' : Value} {w' : World} (hr : (Builtin.copy_ #[dT, sT] o.type #[v, u]).run P w = .ok v' w') (hK : K (a.put o.dst v') w') :
  if Region.wanted o (yielded ops a.tmps) = true then Oper.wp P o a w K Q else E := by
 have hw : Region.wanted o (yielded ops a.tmps) = true := by simp [Region.wanted, hg]
 rw [if_pos hw]
 unfold Oper.wp
 simp [execOp, hop, resolve, invoke, builtin, hd, hx, hr, Result.andThen]
 exact hK
theorem isSome_setCells' (b : Nat) (vs : List Value) (o : Nat) (w : World) (h : ∀ j, j < vs.length → (w.cell? ⟨b, o + j, none⟩).isSome = true) (k : Nat) (hk : (w.cell? ⟨b, k, none⟩).isSome = true) : ((w.setCells b o vs).cell? ⟨b, k, none⟩).isSome = true := by
 by_cases hin : o ≤ k ∧ k < o + vs.length
 ·have := World.cell?_setCells_in b vs o w h (k - o) (by omega)
  rw [show o + (k - o) = k by omega] at this
  rw [this]; rfl
 ·rw [World.cell?_setCells_out b vs o w ⟨b, k, none⟩ (fun _ _ => by show k < o ∨ o + vs.length ≤ k; omega)]
  exact hk
theorem run_copy_cellsZ {P : Program} (w : World) (dT sT ty elem : TypeId) (sz b o dLen dCap : Nat) (a : Addr) (sLen sCap : Nat) (cs : List Value)
  (hu : P.underlying dT = some (.slice elem)) (hs : (P.info? elem).map (·.size) = some sz) (hn : cs.length = Nat.min sLen dLen * sz)
  (hsrc : ∀ j v, cs[j]? = some v → w.cell? (a.add j) = some v) (hc : ∀ j, j < cs.length → (w.cell? ⟨b, o + j, none⟩).isSome = true) (hf : ∀ j, j < cs.length → w.frozen? ⟨b, o + j, none⟩ = false) (h1 : ∀ v ∈ cs, v.oneCell' = true) :
  (Builtin.copy_ #[dT, sT] ty #[.slice (some ⟨b, o, none⟩) dLen dCap, .slice (some a) sLen sCap]).run P w = .ok (goInt (Nat.min sLen dLen)) (w.setCells b o cs) := by
 have hl := run_loadCells_list (P := P) w a cs hsrc
 have hst := run_storeCells_cells (P := P) b o cs 0 w (by simpa using hc) (by simpa using hf) h1
 cases hq : P.info? elem with
 | none => simp [hq] at hs
 | some i =>
  have hi : i.size = sz := by simpa [hq] using hs
  simp [Builtin.copy_, run_underlying hu, Builtin.lenOf, Builtin.firstCells, sizeOf, typeInfo, hq, hi, ← hn, hl, hst]
theorem run_overlaps_own {P : Program} (w : World) (tS tR e : TypeId) (ht : P.underlying tS = some (.slice e)) (size : Nat) (hz : ∀ w, (Go.sizeOf e).run P w = .ok size w)
  (a b : Addr) (la ca lb cb : Nat) (hne : a.block ≠ b.block) (tA tB : TypeId) (kA kB : Nat) (hsa : w.shape? a.block = some (tA, kA)) (hkA : kA ≠ 0) (hsb : w.shape? b.block = some (tB, kB)) (hkB : kB ≠ 0)
  (hfb : w.frozen? b = false) (hfe : w.frozen? { block := b.block, off := kB } = false) :
  (Extern.SlicesOverlaps.overlaps #[tS, tS] #[tR] #[.slice (some a) la ca, .slice (some b) lb cb]).run P w = .ok (.bool false) w := by
 have hnb : (a.block != b.block) = true := by simpa using hne
 have hnb' : (a.block == b.block) = false := by simpa using hne
 change Sem.run P (α := Value) (do
  let some t := (#[tS, tS] : Array TypeId)[0]? | stuck "slices.overlaps: no parameter types"
  let .slice elem ← underlying t | stuck "slices.overlaps: slice type expected"
  let size ← sizeOf elem
  match (some a : Option Addr), (some b : Option Addr) with
  | some a, some b =>
   if la = 0 ∨ lb = 0 ∨ size = 0 then pure (Value.bool false)
   else if a.block != b.block && (← frozen a) && (← frozen b) then unsupported .addressObserved
   else do
    if a.block != b.block then do
     noView a; noView b
     if ← mayBeOne a b then return Value.bool ((← choose (.extern "sameAddr.stringBytes" 2)) == 1)
    pure (Value.bool (a.block == b.block && a.off < b.off + lb * size && b.off < a.off + la * size))
  | _, _ => pure (Value.bool false)) w = _
 by_cases h0 : la = 0 ∨ lb = 0 ∨ size = 0
 ·simp [run_underlying ht, hz, h0]
 ·cases kB with
  | zero => exact absurd rfl hkB
  | succ kB =>
   cases kA with
   | zero => exact absurd rfl hkA
   | succ kA =>
    by_cases hfa : w.frozen? a = true
    ·simp [run_underlying ht, hz, h0, hnb, hnb', frozen, noView, viewAt, mayBeOne, stringish, shape, Sem.run, hsa, hsb, hfa, hfb, hfe]
    ·have hfa' : w.frozen? a = false := by simpa using hfa
     by_cases hga : w.frozen? { block := a.block, off := kA + 1 } = true
     ·simp [run_underlying ht, hz, h0, hnb, hnb', frozen, noView, viewAt, mayBeOne, stringish, shape, Sem.run, hsa, hsb, hfa', hfb, hfe, hga]
     ·have hga' : w.frozen? { block := a.block, off := kA + 1 } = false := by simpa using hga
      simp [run_underlying ht, hz, h0, hnb, hnb', frozen, noView, viewAt, mayBeOne, stringish, shape, Sem.run, hsa, hsb, hfa', hfb, hfe, hga']
set_option maxHeartbeats 4000000 in
set_option maxRecDepth 100000 in
theorem insert_end_room (b n c vb voff vc : Nat) (vs : List Value) (w : World) (hroom : n + 1 ≤ c) (hc63 : c ≤ 9223372036854775807)
  (hvl : vs.length = 6) (hsp : ∀ j, j < 6 → (w.cell? ⟨b, n * 6 + j, none⟩).isSome = true) (hfz : ∀ j, j < 6 → w.frozen? ⟨b, n * 6 + j, none⟩ = false)
  (hvs : ∀ j v, vs[j]? = some v → w.cell? ⟨vb, voff + j, none⟩ = some v) (h1v : ∀ v ∈ vs, v.oneCell' = true) :
  Calls Tryz.prog 156 #[.slice (some ⟨b, 0, none⟩) n c, .int .i64 n, .slice (some ⟨vb, voff, none⟩) 1 vc] w fun e w' =>
   e = .returned (.slice (some ⟨b, 0, none⟩) (n + 1) c) ∧ w' = w.setCells b (n * 6) vs := by
 obtain ⟨i0, hi0, hz0, hz1, hz2⟩ := info_parts info33
 have t22 := Tryz.underlying22
 have u22 : ∀ w, Sem.run Tryz.prog (underlying 22) w = .ok (TypeDesc.slice 51) w := run_underlying t22
 have hsrc : Src Tryz.prog i0.size 22 (.slice (some ⟨vb, voff, none⟩) 1 vc) 1 vs w := by
  rw [hz1]
  exact Src.ofSlice w t22 ⟨vb, voff, none⟩ 1 vc vs (by omega) (fun j u hj => by rw [Addr.add_lit]; exact hvs j u hj) h1v
 have hrun : ∀ ty, (Builtin.append_ #[22, 22] ty #[.slice (some ⟨b, 0, none⟩) n c, .slice (some ⟨vb, voff, none⟩) 1 vc]).run Tryz.prog w = .ok (.slice (some ⟨b, 0, none⟩) (n + 1) c) (w.setCells b (n * 6) vs) := fun ty => by
  have h := run_append_room_src w 22 22 ty 51 i0 t22 hi0 b 0 n c _ 1 vs hsrc hroom (by rw [hz1, hvl, Nat.zero_add]; exact hsp) (by rw [hz1, hvl, Nat.zero_add]; exact hfz)
  rw [hz1, Nat.zero_add] at h
  exact h
 go_enter Tryz.func156, Tryz.ntmps156
 go_wp2_with (at_builtin; refine Lib.wpList_append_run _ rfl _ _ _ _ rfl _ _ rfl rfl _ _ (hrun _) ?_)
 go_ret
 exact ⟨rfl, rfl⟩
end Go.Proofs.I17
namespace Go.Proofs.I17
open Go.RowKit Go.Abs Go.Lib
set_option maxHeartbeats 4000000 in
set_option maxRecDepth 100000 in
theorem insert_end_grow (b n c vb voff vc : Nat) (cs vs : List Value) (w : World) (hnc : n ≤ c) (hroom : c < n + 1) (hbig : (n + 1) * 64 ≤ 140737488355328)
  (hcl : cs.length = n * 6) (hvl : vs.length = 6) (hcs : ∀ j v, cs[j]? = some v → w.cell? ⟨b, j, none⟩ = some v)
  (hvs : ∀ j v, vs[j]? = some v → w.cell? ⟨vb, voff + j, none⟩ = some v) (h1v : ∀ v ∈ vs, v.oneCell' = true) :
  Calls Tryz.prog 156 #[.slice (some ⟨b, 0, none⟩) n c, .int .i64 n, .slice (some ⟨vb, voff, none⟩) 1 vc] w fun e w' =>
   ∃ zs : Array Value, e = .returned (.slice (some ⟨w.heap.size, 0, none⟩) (n + 1) (grownCap w (n + 1) c 51)) ∧ w' = w.drew.alloc (.cells ((cs ++ vs).toArray ++ zs) 51) := by
 obtain ⟨i0, hi0, hz0, hz1, hz2⟩ := info_parts info33
 have t22 := Tryz.underlying22
 have u22 : ∀ w, Sem.run Tryz.prog (underlying 22) w = .ok (TypeDesc.slice 51) w := run_underlying t22
 have hsrc : Src Tryz.prog i0.size 22 (.slice (some ⟨vb, voff, none⟩) 1 vc) 1 vs w := by
  rw [hz1]
  exact Src.ofSlice w t22 ⟨vb, voff, none⟩ 1 vc vs (by omega) (fun j u hj => by rw [Addr.add_lit]; exact hvs j u hj) h1v
 have hold : (Builtin.firstCells i0.size n (.slice (some ⟨b, 0, none⟩) n c)).run Tryz.prog w.drew = .ok cs.toArray w.drew := by
  rw [hz1]
  exact run_firstCells_some w.drew 6 n _ n c cs hcl (fun j v hj => by rw [Addr.add_lit, Nat.zero_add]; exact hcs j v hj)
 have hrun : ∀ ty, (Builtin.append_ #[22, 22] ty #[.slice (some ⟨b, 0, none⟩) n c, .slice (some ⟨vb, voff, none⟩) 1 vc]).run Tryz.prog w = _ := fun ty =>
  run_append_grow_src w 22 22 ty 51 i0 _ t22 hi0 hz0 (some ⟨b, 0, none⟩) n c cs hold _ 1 vs hsrc hroom (by omega) (by rw [hz2]; exact growslice_fits hroom hbig)
 go_enter Tryz.func156, Tryz.ntmps156
 go_wp2_with (at_builtin; refine Lib.wpList_append_run _ rfl _ _ _ _ rfl _ _ rfl rfl _ _ (hrun _) ?_)
 go_ret
 exact ⟨_, rfl, rfl⟩
theorem shape_of_cell {w : World} {b o : Nat} {v : Value} (h : w.cell? ⟨b, o, none⟩ = some v) : ∃ t k, w.shape? b = some (t, k) ∧ k ≠ 0 := by
 simp only [World.cell?] at h
 cases hb : w.heap[b]? with
 | none => simp [hb] at h
 | some ob =>
  cases ob with
  | cells arr t x =>
   refine ⟨t, arr.size, by simp [World.shape?, hb], fun h0 => ?_⟩
   simp [hb] at h
   have := (Array.getElem?_eq_some_iff.1 h).1
   omega
  | _ => simp [hb] at h
set_option maxHeartbeats 4000000 in
set_option maxRecDepth 100000 in
theorem insert_shift (b n c i vb voff vc : Nat) (cs vs : List Value) (arr : Array Value) (ty0 : TypeId) (w : World) (hi : i < n) (hroom : n + 1 ≤ c) (hc63 : c ≤ 9223372036854775807) (hvb : vb ≠ b)
  (hB : w.heap[b]? = some (.cells arr ty0 (0, 0))) (harr : c * 6 ≤ arr.size)
  (hcl : cs.length = n * 6) (hvl : vs.length = 6) (hcs : ∀ j v, cs[j]? = some v → w.cell? ⟨b, j, none⟩ = some v)
  (hvs : ∀ j v, vs[j]? = some v → w.cell? ⟨vb, voff + j, none⟩ = some v) (h1c : ∀ v ∈ cs, v.oneCell' = true) (h1v : ∀ v ∈ vs, v.oneCell' = true) :
  Calls Tryz.prog 156 #[.slice (some ⟨b, 0, none⟩) n c, .int .i64 i, .slice (some ⟨vb, voff, none⟩) 1 vc] w fun e w' =>
   e = .returned (.slice (some ⟨b, 0, none⟩) (n + 1) c) ∧ w' = (w.drew.setCells b ((i + 1) * 6) (cs.drop (i * 6))).setCells b (i * 6) vs := by
 obtain ⟨i0, hi0, hz0, hz1, hz2⟩ := info_parts info33
 have t22 := Tryz.underlying22
 have t4 := Tryz.underlying4
 have z75 := Tryz.sizeOf51
 have u22 : ∀ w, Sem.run Tryz.prog (underlying 22) w = .ok (TypeDesc.slice 51) w := run_underlying t22
 have mixed : Tryz.prog.follows .mixedOrders = true := mixedA
 have hq2 : ¬ ((i : Int) = (n : Int)) := by omega
 have hsz : (Tryz.prog.info? 51).map (·.size) = some 6 := by rw [hi0]; simp [hz1]
 have hsp : ∀ j, j < (n + 1) * 6 → (w.cell? ⟨b, j, none⟩).isSome = true := fun j hj => by
  simp [World.cell?, hB]; omega
 have hfz : ∀ j, w.frozen? ⟨b, j, none⟩ = false := fun j => by simp [World.frozen?, hB]
 have hshB : w.shape? b = some (ty0, arr.size) := by simp [World.shape?, hB]
 obtain ⟨tA, kA, hshA, hkA⟩ : ∃ tA kA, w.shape? vb = some (tA, kA) ∧ kA ≠ 0 := shape_of_cell (hvs 0 _ (List.getElem?_eq_getElem (by omega)))
 have hov : ∀ lb cb, (callFunc 157 #[.slice (some ⟨vb, voff, none⟩) 1 vc, .slice (some ⟨b, (i + 1) * 6, none⟩) lb cb]).run Tryz.prog w = .ok (.value (.bool false)) w := fun lb cb => by
  rw [run_callFunc_extern Tryz.func157 (by kernel_rfl) (by kernel_rfl) (by kernel_rfl) (e := Extern.SlicesOverlaps.overlaps #[22, 22] #[4]) (by kernel_rfl),
   run_overlaps_own w 22 4 51 t22 6 z75 ⟨vb, voff, none⟩ ⟨b, (i + 1) * 6, none⟩ 1 vc lb cb hvb tA ty0 kA arr.size hshA hkA hshB (by omega) (hfz _) (hfz _)]
  rfl
 have hdl : (cs.drop (i * 6)).length = (n - i) * 6 := by rw [List.length_drop, hcl, Nat.sub_mul]
 have hw1 : IntKind.i64.wrap ((i : Int) + 1) = (i : Int) + 1 := by rw [IntKind.wrap_i64]; omega
 have hw2 : IntKind.i64.wrap ((n : Int) + 1) = (n : Int) + 1 := by rw [IntKind.wrap_i64]; omega
 have hb1 : (0 : Int) ≤ (i : Int) + 1 := by omega
 have hin : i ≤ n := by omega
 have htn : ((i : Int) + 1).toNat = i + 1 := by omega
 have hb2 : ¬ (c = i + 1) := by omega
 have hb3 : (i : Int) ≤ (n : Int) + 1 := by omega
 have hb4 : ¬ (c = i) := by omega
 have hcp1 : ∀ ty dc sc, (Builtin.copy_ #[22, 22] ty #[.slice (some ⟨b, (i + 1) * 6, none⟩) (n + 1 - (i + 1)) dc, .slice (some ⟨b, i * 6, none⟩) (n + 1 - i) sc]).run Tryz.prog w.drew = .ok (goInt (n - i : Nat)) (w.drew.setCells b ((i + 1) * 6) (cs.drop (i * 6))) := fun ty dc sc => by
  have hmin : Nat.min (n + 1 - i) (n + 1 - (i + 1)) = n - i := by simp only [Nat.min_def]; split <;> omega
  have h := run_copy_cellsZ (P := Tryz.prog) w.drew 22 22 ty 51 6 b ((i + 1) * 6) (n + 1 - (i + 1)) dc ⟨b, i * 6, none⟩ (n + 1 - i) sc (cs.drop (i * 6)) t22 hsz (by rw [hdl, hmin])
   (fun j v hj => by rw [Addr.add_lit]; exact hcs _ v (by rwa [List.getElem?_drop] at hj))
   (fun j hj => hsp _ (by omega)) (fun j hj => hfz _) (fun v hv => h1c v (List.mem_of_mem_drop hv))
  rw [hmin] at h
  exact h
 obtain ⟨W1, hW1⟩ : ∃ W1, W1 = w.drew.setCells b ((i + 1) * 6) (cs.drop (i * 6)) := ⟨_, rfl⟩
 have hsp1 : ∀ k, k < (n + 1) * 6 → (W1.cell? ⟨b, k, none⟩).isSome = true := fun k hk => by
  rw [hW1]
  exact isSome_setCells' b (cs.drop (i * 6)) ((i + 1) * 6) w.drew (fun j hj => hsp _ (by omega)) k (hsp k hk)
 have hcp2 : ∀ (W : World), (∀ x, W.cell? x = W1.cell? x) → (∀ x, W.frozen? x = W1.frozen? x) → ∀ ty dc, (Builtin.copy_ #[22, 22] ty #[.slice (some ⟨b, i * 6, none⟩) (n + 1 - i) dc, .slice (some ⟨vb, voff, none⟩) 1 vc]).run Tryz.prog W = .ok (goInt (1 : Nat)) (W.setCells b (i * 6) vs) := fun W hWc hWf ty dc => by
  have hmin : Nat.min 1 (n + 1 - i) = 1 := by simp only [Nat.min_def]; split <;> omega
  have h := run_copy_cellsZ (P := Tryz.prog) W 22 22 ty 51 6 b (i * 6) (n + 1 - i) dc ⟨vb, voff, none⟩ 1 vc vs t22 hsz (by rw [hvl, hmin])
   (fun j v hj => by
    rw [Addr.add_lit, hWc, hW1, World.cell?_setCells_out b _ _ _ _ (fun h _ => absurd h hvb)]
    exact hvs j v hj)
   (fun j hj => by rw [hWc]; exact hsp1 _ (by omega)) (fun j hj => by rw [hWf, hW1, World.frozen?_setCells]; exact hfz _) h1v
  rw [hmin] at h
  exact h
 rw [← hW1] at hcp1
 clear hB harr hshA hshB hdl
 go_enter Tryz.func156, Tryz.ntmps156
 go_wp2_with (simp only [hov])
 go_region_law_o (refine step_copy_run' rfl _ _ 22 22 rfl (.slice (some ⟨b, (i + 1) * 6, none⟩) (n + 1 - (i + 1)) (c - (i + 1))) (.slice (some ⟨b, i * 6, none⟩) (n + 1 - i) (c - i)) (by simp [Act.eval, Act.put]) (by simp [Act.eval, Act.put]) (hcp1 _ _ _) ?_)
 go_wp2_with (at_builtin; refine wpList_copy_run' _ rfl _ _ 22 22 rfl _ _ rfl rfl (hcp2 _ (fun _ => rfl) (fun _ => rfl) _ _) ?_)
 go_ret
 first | exact ⟨rfl, rfl⟩ | exact ⟨rfl, by rw [hW1]⟩
end Go.Proofs.I17
namespace Go.Proofs.I17
open Go.RowKit Go.Abs Go.Lib
set_option maxHeartbeats 4000000 in
set_option maxRecDepth 100000 in
theorem insert_grow (b n c i vb voff vc : Nat) (cs vs : List Value) (w : World) (hi : i < n) (hnc : n ≤ c) (hroom : c < n + 1) (hbig : (n + 1) * 64 ≤ 140737488355328)
  (hcl : cs.length = n * 6) (hvl : vs.length = 6) (hcs : ∀ j v, cs[j]? = some v → w.cell? ⟨b, j, none⟩ = some v)
  (hvs : ∀ j v, vs[j]? = some v → w.cell? ⟨vb, voff + j, none⟩ = some v) (h1c : ∀ v ∈ cs, v.oneCell' = true) (h1v : ∀ v ∈ vs, v.oneCell' = true) :
  Calls Tryz.prog 156 #[.slice (some ⟨b, 0, none⟩) n c, .int .i64 i, .slice (some ⟨vb, voff, none⟩) 1 vc] w fun e w' =>
   ∃ ROW : Array Value, (n + 1) * 6 ≤ ROW.size ∧ (∀ (j : Nat) (v : Value), (cs.take (i * 6))[j]? = some v → ROW[j]? = some v) ∧ e = .returned (.slice (some ⟨w.heap.size, 0, none⟩) (n + 1) (grownCap w (n + 1) c 51)) ∧
    w' = (((w.alloc (.cells ROW 51)).drew.setCells w.heap.size (i * 6) vs).drew).setCells w.heap.size ((i + 1) * 6) (cs.drop (i * 6)) := by
 obtain ⟨i0, hi0, hz0, hz1, hz2⟩ := info_parts info33
 have t22 := Tryz.underlying22
 have t3 := Tryz.underlying3
 have u22 : ∀ w, Sem.run Tryz.prog (underlying 22) w = .ok (TypeDesc.slice 51) w := run_underlying t22
 have mixed : Tryz.prog.follows .mixedOrders = true := mixedA
 have hq2 : ¬ ((i : Int) = (n : Int)) := by omega
 have hq3 : (c : Int) < (n : Int) + 1 := by omega
 have hsz : (Tryz.prog.info? 51).map (·.size) = some 6 := by rw [hi0]; simp [hz1]
 have hbw : b < w.heap.size := block_lt_of_cell (hcs 0 _ (List.getElem?_eq_getElem (by omega)))
 have hvw : vb < w.heap.size := block_lt_of_cell (hvs 0 _ (List.getElem?_eq_getElem (by omega)))
 have hkk : (n : Int) + 1 - (i : Int) = ((n + 1 - i : Nat) : Int) := by omega
 have hik : i + (n + 1 - i) = n + 1 := by omega
 have hold : (Builtin.firstCells i0.size i (.slice (some ⟨b, 0, none⟩) i c)).run Tryz.prog w.drew = .ok (cs.take (i * 6)).toArray w.drew := by
  rw [hz1]
  exact run_firstCells_some w.drew 6 i ⟨b, 0, none⟩ i c (cs.take (i * 6)) (by rw [List.length_take]; omega) (fun j v hj => by
   rw [Addr.add_lit, Nat.zero_add]
   rw [List.getElem?_take] at hj
   split at hj
   ·exact hcs j v hj
   ·cases hj)
 obtain ⟨G, hG⟩ : ∃ G, G = grownCap w (n + 1) c 51 := ⟨_, rfl⟩
 obtain ⟨ROW, hRl, hRa, hrz⟩ : ∃ ROW : Array Value, (n + 1) * 6 ≤ ROW.size ∧ (∀ (j : Nat) (v : Value), (cs.take (i * 6))[j]? = some v → ROW[j]? = some v) ∧ ∀ ty, (Builtin.append_ #[22, 3] ty #[.slice (some ⟨b, 0, none⟩) i c, .int .i64 ((n : Int) + 1 - (i : Int))]).run Tryz.prog w =
   .ok (.slice (some ⟨w.heap.size, 0, none⟩) (n + 1) G) (w.drew.alloc (.cells ROW 51)) := by
  refine ⟨(cs.take (i * 6)).toArray ++ Builtin.zeroCells (Value.agg #[.int .i64 0, .int .i64 0, .string ⟨#[]⟩, .string ⟨#[]⟩, .int .i64 0, .int .i64 0]).cells (n + 1 - i) ++ Builtin.zeroCells (Value.agg #[.int .i64 0, .int .i64 0, .string ⟨#[]⟩, .string ⟨#[]⟩, .int .i64 0, .int .i64 0]).cells (G - (n + 1)), ?_, ?_, fun ty => ?_⟩
  rotate_left 2
  ·have h := Lib.run_append_grow_zeros w 22 3 ty 51 i0 _ .i64 .i64 t22 t3 hi0 hz0 (some ⟨b, 0, none⟩) i c (cs.take (i * 6)) hold (n + 1 - i) (by omega) (by omega) (by omega) (by omega) (by rw [hz2]; omega) (by rw [hz2, hik]; exact growslice_fits hroom hbig)
   rw [hik] at h
   rw [hkk, hG]
   exact h
  ·simp [Builtin.zeroCells, Value.cells]; omega
  ·intro j v hj
   have hlt := (List.getElem?_eq_some_iff.1 hj).1
   rw [Array.getElem?_append_left (by simp at hlt ⊢; omega), Array.getElem?_append_left (by simpa using hlt)]
   simpa using hj
 rw [← hG]
 obtain ⟨W1, hW1⟩ : ∃ W1, W1 = w.drew.alloc (.cells ROW 51) := ⟨_, rfl⟩
 rw [← hW1] at hrz
 have hN : ∀ j, j < (n + 1) * 6 → (W1.cell? ⟨w.heap.size, j, none⟩).isSome = true := fun j hj => by
  rw [hW1, World.cell?_alloc_at (w := w.drew) ROW _ w.heap.size j rfl, Array.getElem?_eq_getElem (by omega)]; rfl
 have hNf : ∀ j, W1.frozen? ⟨w.heap.size, j, none⟩ = false := fun j => by rw [hW1]; exact World.frozen?_alloc_at (w := w.drew) ROW _ w.heap.size j rfl
 have hOb : ∀ j v, w.cell? ⟨b, j, none⟩ = some v → W1.cell? ⟨b, j, none⟩ = some v := fun j v h => by rw [hW1, World.cell?_alloc_past (w := w.drew) _ b j hbw]; exact h
 have hOv : ∀ j v, w.cell? ⟨vb, j, none⟩ = some v → W1.cell? ⟨vb, j, none⟩ = some v := fun j v h => by rw [hW1, World.cell?_alloc_past (w := w.drew) _ vb j hvw]; exact h
 have hcpA : ∀ (W : World), (∀ x, W.cell? x = W1.cell? x) → (∀ x, W.frozen? x = W1.frozen? x) → ∀ ty dc, (Builtin.copy_ #[22, 22] ty #[.slice (some ⟨w.heap.size, i * 6, none⟩) (n + 1 - i) dc, .slice (some ⟨vb, voff, none⟩) 1 vc]).run Tryz.prog W = .ok (goInt (1 : Nat)) (W.setCells w.heap.size (i * 6) vs) := fun W hWc hWf ty dc => by
  have hmin : Nat.min 1 (n + 1 - i) = 1 := by simp only [Nat.min_def]; split <;> omega
  have h := run_copy_cellsZ (P := Tryz.prog) W 22 22 ty 51 6 w.heap.size (i * 6) (n + 1 - i) dc ⟨vb, voff, none⟩ 1 vc vs t22 hsz (by rw [hvl, hmin])
   (fun j v hj => by rw [Addr.add_lit, hWc]; exact hOv _ v (hvs j v hj))
   (fun j hj => by rw [hWc]; exact hN _ (by omega)) (fun j hj => by rw [hWf]; exact hNf _) h1v
  rw [hmin] at h
  exact h
 have hGn : n + 1 ≤ G := by rw [hG]; exact grownCap_ge w _ _ _
 have hG63 : G ≤ 9223372036854775807 := by
  have := grownCap_le_maxLen w (n + 1) c 51 (by unfold maxLen; omega)
  rw [← hG] at this
  unfold maxLen at this
  omega
 have hGi : ¬ (G = i) := by omega
 have hGim : ¬ (G = i + 1) := by omega
 have hci : ¬ (c = i) := by omega
 have hbN : b ≠ w.heap.size := by omega
 have hdl : (cs.drop (i * 6)).length = (n - i) * 6 := by rw [List.length_drop, hcl, Nat.sub_mul]
 have hcpB : ∀ (W : World), (∀ x, W.cell? x = (W1.setCells w.heap.size (i * 6) vs).cell? x) → (∀ x, W.frozen? x = (W1.setCells w.heap.size (i * 6) vs).frozen? x) → ∀ ty dc sc, (Builtin.copy_ #[22, 22] ty #[.slice (some ⟨w.heap.size, (i + 1) * 6, none⟩) (n + 1 - (i + 1)) dc, .slice (some ⟨b, i * 6, none⟩) (n - i) sc]).run Tryz.prog W = .ok (goInt (n - i : Nat)) (W.setCells w.heap.size ((i + 1) * 6) (cs.drop (i * 6))) := fun W hWc hWf ty dc sc => by
  have hmin : Nat.min (n - i) (n + 1 - (i + 1)) = n - i := by simp only [Nat.min_def]; split <;> omega
  have h := run_copy_cellsZ (P := Tryz.prog) W 22 22 ty 51 6 w.heap.size ((i + 1) * 6) (n + 1 - (i + 1)) dc ⟨b, i * 6, none⟩ (n - i) sc (cs.drop (i * 6)) t22 hsz (by rw [hdl, hmin])
   (fun j v hj => by
    rw [Addr.add_lit, hWc, World.cell?_setCells_out _ _ _ _ _ (fun h _ => absurd h hbN)]
    exact hOb _ v (hcs _ v (by rwa [List.getElem?_drop] at hj)))
   (fun j hj => by rw [hWc]; exact isSome_setCells' w.heap.size vs (i * 6) W1 (fun t ht => hN _ (by omega)) _ (hN _ (by omega)))
   (fun j hj => by rw [hWf, World.frozen?_setCells]; exact hNf _) (fun v hv => h1c v (List.mem_of_mem_drop hv))
  rw [hmin] at h
  exact h
 subst hW1
 have hE1 : ∀ x, ((w.alloc (.cells ROW 51)).drew).cell? x = (w.drew.alloc (.cells ROW 51)).cell? x := fun x => rfl
 have hE2 : ∀ x, ((w.alloc (.cells ROW 51)).drew).frozen? x = (w.drew.alloc (.cells ROW 51)).frozen? x := fun x => rfl
 have hF1 : ∀ x, (((w.alloc (.cells ROW 51)).drew.setCells w.heap.size (i * 6) vs).drew).cell? x = ((w.drew.alloc (.cells ROW 51)).setCells w.heap.size (i * 6) vs).cell? x := fun x => rfl
 have hF2 : ∀ x, (((w.alloc (.cells ROW 51)).drew.setCells w.heap.size (i * 6) vs).drew).frozen? x = ((w.drew.alloc (.cells ROW 51)).setCells w.heap.size (i * 6) vs).frozen? x := fun x => rfl
 have hw1 : IntKind.i64.wrap ((i : Int) + 1) = (i : Int) + 1 := by rw [IntKind.wrap_i64]; omega
 have hw2 : IntKind.i64.wrap ((n : Int) + 1) = (n : Int) + 1 := by rw [IntKind.wrap_i64]; omega
 have hb1 : (0 : Int) ≤ (i : Int) + 1 := by omega
 have hin : i ≤ n := by omega
 have htn : ((i : Int) + 1).toNat = i + 1 := by omega
 have hb3 : (i : Int) ≤ (n : Int) := by omega
 clear hkk hik hold hG hdl
 go_enter Tryz.func156, Tryz.ntmps156
 go_wp2_with (first
  | (at_builtin; refine Lib.wpList_append_run _ rfl _ _ _ _ rfl _ _ rfl rfl _ _ (hrz _) ?_)
  | (at_builtin; refine wpList_copy_run' _ rfl _ _ 22 22 rfl _ _ rfl rfl (hcpA _ hE1 hE2 _ _) ?_))
 go_region_law_o (refine step_copy_run' rfl _ _ 22 22 rfl (.slice (some ⟨w.heap.size, (i + 1) * 6, none⟩) (n + 1 - (i + 1)) (G - (i + 1))) (.slice (some ⟨b, i * 6, none⟩) (n - i) (c - i)) (by simp [Act.eval, Act.put]) (by simp [Act.eval, Act.put]) (hcpB _ hF1 hF2 3 (G - (i + 1)) (c - i)) ?_)
 go_wp2
 go_ret
 exact ⟨ROW, hRl, hRa, rfl, rfl⟩
end Go.Proofs.I17
namespace Go.Proofs.I17
open Go.RowKit Go.Abs Go.Lib
theorem there_of {w : World} {b : Nat} {arr : Array Value} {ty : TypeId} (hB : w.heap[b]? = some (.cells arr ty (0, 0))) {j : Nat} (hj : j < arr.size) : (w.cell? ⟨b, j, none⟩).isSome = true := by
 simp [World.cell?, hB]; exact hj
theorem free_of {w : World} {b : Nat} {arr : Array Value} {ty : TypeId} (hB : w.heap[b]? = some (.cells arr ty (0, 0))) (j : Nat) : w.frozen? ⟨b, j, none⟩ = false := by
 simp [World.frozen?, hB]
theorem sets_at {w : World} {b : Nat} (vs : List Value) (o : Nat) (h : ∀ j, j < vs.length → (w.cell? ⟨b, o + j, none⟩).isSome = true) (q : Nat) : (w.setCells b o vs).cell? ⟨b, q, none⟩ = if o ≤ q ∧ q < o + vs.length then vs[q - o]? else w.cell? ⟨b, q, none⟩ := by
 split
 ·rename_i hq
  have := World.cell?_setCells_in b vs o w h (q - o) (by omega)
  rw [show o + (q - o) = q by omega] at this
  rw [this, List.getElem?_eq_getElem]
 ·rename_i hq
  exact World.cell?_setCells_out b vs o w _ (fun _ _ => by show q < o ∨ o + vs.length ≤ q; omega)
theorem insert112 : InsOk Tryz.prog 156 6 64 := by
 intro b n c i vb voff vc cs vs arr ty0 w hin hn0 hnc hcm hvb hB harr hbig hcl hvl hcs hvs h1c h1v
 have hcm' : c ≤ 9223372036854775807 := by unfold maxLen at hcm; omega
 have hbw : b < w.heap.size := (Array.getElem?_eq_some_iff.1 hB).1
 have hcap := grownCap_ge w (n + 1) c 51
 have hcap2 := grownCap_le_maxLen w (n + 1) c 51 (by unfold maxLen; omega)
 have hlt : (cs.take (i * 6)).length = i * 6 := by rw [List.length_take]; omega
 have hld : (cs.drop (i * 6)).length = (n - i) * 6 := by rw [List.length_drop, hcl, Nat.sub_mul]
 by_cases hroom : n + 1 ≤ c
 ·by_cases hi : i < n
  ·refine (insert_shift b n c i vb voff vc cs vs arr ty0 w hi hroom hcm' hvb hB harr hcl hvl hcs hvs h1c h1v).mono ?_
   rintro e w' ⟨rfl, rfl⟩
   refine ⟨b, c, rfl, hroom, hcm, fun j u hj => ?_, .inl ⟨rfl, ((InPl.refl b w).drew.sets _ _).sets _ _⟩⟩
   have hth : ∀ q, q < (n + 1) * 6 → (w.drew.cell? ⟨b, q, none⟩).isSome = true := fun q hq => there_of hB (by omega)
   have hth2 : ∀ q, q < (n + 1) * 6 → ((w.drew.setCells b ((i + 1) * 6) (cs.drop (i * 6))).cell? ⟨b, q, none⟩).isSome = true := fun q hq => isSome_setCells' b _ _ _ (fun j hj => hth _ (by omega)) q (hth q hq)
   rw [sets_at vs (i * 6) (fun q hq => hth2 _ (by omega)), sets_at _ _ (fun q hq => hth _ (by omega))]
   by_cases h1 : j < i * 6
   ·rw [if_neg (by omega), if_neg (by omega)]
    rw [List.append_assoc, List.getElem?_append_left (by omega), List.getElem?_take, if_pos h1] at hj
    exact hcs j u hj
   ·by_cases h2 : j < i * 6 + 6
    ·rw [if_pos (by omega)]
     rw [List.append_assoc, List.getElem?_append_right (by omega), hlt, List.getElem?_append_left (by omega)] at hj
     exact hj
    ·rw [List.append_assoc, List.getElem?_append_right (by omega), hlt, List.getElem?_append_right (by omega), hvl] at hj
     have := (List.getElem?_eq_some_iff.1 hj).1
     rw [if_neg (by omega), if_pos (by omega), ← hj]
     congr 1; omega
  ·obtain rfl : i = n := by omega
   refine (insert_end_room b i c vb voff vc vs w hroom hcm' hvl (fun j hj => there_of hB (by omega)) (fun j _ => free_of hB _) hvs h1v).mono ?_
   rintro e w' ⟨rfl, rfl⟩
   refine ⟨b, c, rfl, hroom, hcm, fun j u hj => ?_, .inl ⟨rfl, (InPl.refl b w).sets _ _⟩⟩
   rw [sets_at vs (i * 6) (fun q hq => there_of hB (by omega))]
   have hd0 : cs.drop (i * 6) = [] := List.drop_eq_nil_of_le (by omega)
   rw [hd0, List.append_nil] at hj
   by_cases h1 : j < i * 6
   ·rw [if_neg (by omega)]
    rw [List.getElem?_append_left (by omega), List.getElem?_take, if_pos h1] at hj
    exact hcs j u hj
   ·rw [List.getElem?_append_right (by omega), hlt] at hj
    have := (List.getElem?_eq_some_iff.1 hj).1
    rw [if_pos (by omega)]; exact hj
 ·by_cases hi : i < n
  ·refine (insert_grow b n c i vb voff vc cs vs w hi hnc (by omega) hbig hcl hvl hcs hvs h1c h1v).mono ?_
   rintro e w' ⟨ROW, hR1, hR2, rfl, rfl⟩
   refine ⟨w.heap.size, _, rfl, hcap, hcap2, fun j u hj => ?_, .inr ⟨Nat.le_refl _, ?_, ?_⟩⟩
   ·have hth : ∀ q, q < (n + 1) * 6 → ((w.alloc (.cells ROW 51)).drew.cell? ⟨w.heap.size, q, none⟩).isSome = true := fun q hq => by
     have : (w.alloc (.cells ROW 51)).cell? ⟨w.heap.size, q, none⟩ = ROW[q]? := World.cell?_alloc_at (w := w) ROW _ w.heap.size q rfl
     show ((w.alloc (.cells ROW 51)).cell? ⟨w.heap.size, q, none⟩).isSome = true
     rw [this, Array.getElem?_eq_getElem (by omega)]; rfl
    have hth2 : ∀ q, q < (n + 1) * 6 → (((w.alloc (.cells ROW 51)).drew.setCells w.heap.size (i * 6) vs).drew.cell? ⟨w.heap.size, q, none⟩).isSome = true := fun q hq => isSome_setCells' w.heap.size vs (i * 6) _ (fun j hj => hth _ (by omega)) q (hth q hq)
    rw [sets_at _ _ (fun q hq => hth2 _ (by omega))]
    by_cases h1 : j < i * 6
    ·rw [if_neg (by omega)]
     show ((w.alloc (.cells ROW 51)).drew.setCells w.heap.size (i * 6) vs).cell? ⟨w.heap.size, j, none⟩ = some u
     rw [sets_at _ _ (fun q hq => hth _ (by omega)), if_neg (by omega)]
     rw [List.append_assoc, List.getElem?_append_left (by omega)] at hj
     have : (w.alloc (.cells ROW 51)).cell? ⟨w.heap.size, j, none⟩ = ROW[j]? := World.cell?_alloc_at (w := w) ROW _ w.heap.size j rfl
     show (w.alloc (.cells ROW 51)).cell? ⟨w.heap.size, j, none⟩ = some u
     rw [this]
     exact hR2 j u hj
    ·by_cases h2 : j < i * 6 + 6
     ·rw [if_neg (by omega)]
      show ((w.alloc (.cells ROW 51)).drew.setCells w.heap.size (i * 6) vs).cell? ⟨w.heap.size, j, none⟩ = some u
      rw [sets_at _ _ (fun q hq => hth _ (by omega)), if_pos (by omega)]
      rw [List.append_assoc, List.getElem?_append_right (by omega), hlt, List.getElem?_append_left (by omega)] at hj
      exact hj
     ·rw [List.append_assoc, List.getElem?_append_right (by omega), hlt, List.getElem?_append_right (by omega), hvl] at hj
      have := (List.getElem?_eq_some_iff.1 hj).1
      rw [if_pos (by omega), ← hj]
      congr 1; omega
   ·have := ((InPl.refl w.heap.size (w.alloc (.cells ROW 51))).drew.sets vs (i * 6)).drew.sets (cs.drop (i * 6)) ((i + 1) * 6)
    rw [this.size]; simp
   ·have h1 : InPl w.heap.size (w.alloc (.cells ROW 51)) ((((w.alloc (.cells ROW 51)).drew.setCells w.heap.size (i * 6) vs).drew).setCells w.heap.size ((i + 1) * 6) (cs.drop (i * 6))) := ((InPl.refl w.heap.size (w.alloc (.cells ROW 51))).drew.sets vs (i * 6)).drew.sets (cs.drop (i * 6)) ((i + 1) * 6)
    exact (below_alloc w _).trans (h1.below (Nat.le_refl _))
  ·obtain rfl : i = n := by omega
   refine (insert_end_grow b i c vb voff vc cs vs w hnc (by omega) hbig hcl hvl hcs hvs h1v).mono ?_
   rintro e w' ⟨zs, rfl, rfl⟩
   refine ⟨w.heap.size, _, rfl, hcap, hcap2, fun j u hj => ?_, .inr ⟨Nat.le_refl _, by simp, (below_drew w).alloc (Nat.le_refl _) _⟩⟩
   have hd0 : cs.drop (i * 6) = [] := List.drop_eq_nil_of_le (by omega)
   rw [hd0, List.append_nil, List.take_of_length_le (by omega)] at hj
   have hjl := (List.getElem?_eq_some_iff.1 hj).1
   have : (w.drew.alloc (.cells ((cs ++ vs).toArray ++ zs) 51)).cell? ⟨w.heap.size, j, none⟩ = ((cs ++ vs).toArray ++ zs)[j]? := World.cell?_alloc_at (w := w.drew) _ _ w.heap.size j rfl
   rw [this, Array.getElem?_append_left (by simpa using hjl)]
   simpa using hj
theorem good112 : goodFn PA 156 := goodA (by kernel_rfl)
end Go.Proofs.I17
namespace Go.Abs
open Go.Proofs
def s112 : ISpec := sInsert 6 64
theorem o112 : ISpecOk PA GA 156 s112 := oInsert I17.good112 (by decide) I17.insert112
end Go.Abs
namespace Go.Proofs.I17
open Go.RowKit Go.Abs Go.Lib
theorem step_append_run' {P : Program} {ops : Array Oper} {o : Oper} {a : Act} {w : World} {K : Act → World → Prop} {Q : Exit → Act → World → Prop} {E : Prop}
  (hg : o.guard = none) (d x : Operand) (dT sT : TypeId) (hop : o.op = Op.call { callee := Callee.builtin Builtin.append, args := #[d, x], argTypes := #[dT, sT] })
  (v u : Value) (hd : a.eval d = v) (hx : a.eval x = u) {v' : Value} {w' : World} (hr : (Builtin.append_ #[dT, sT] o.type #[v, u]).run P w = .ok v' w') (hK : K (a.put o.dst v') w') :
  if Region.wanted o (yielded ops a.tmps) = true then Oper.wp P o a w K Q else E := by
 have hw : Region.wanted o (yielded ops a.tmps) = true := by simp [Region.wanted, hg]
 rw [if_pos hw]
 unfold Oper.wp
 simp [execOp, hop, resolve, invoke, builtin, hd, hx, hr, Result.andThen]
 exact hK
def zItem : Value := .agg #[.int .i64 0, .int .i64 0, .string ⟨#[]⟩, .string ⟨#[]⟩, .int .i64 0, .int .i64 0]
theorem zItem_cells : (Builtin.zeroCells zItem.cells 1).toList = [.int .i64 0, .int .i64 0, .string ⟨#[]⟩, .string ⟨#[]⟩, .int .i64 0, .int .i64 0] := by kernel_rfl
set_option maxHeartbeats 4000000 in
set_option maxRecDepth 100000 in
theorem delete_mid (b n c i : Nat) (cs : List Value) (arr : Array Value) (ty0 : TypeId) (w : World) (hi : i + 1 < n) (hnc : n ≤ c) (_hc63 : c ≤ 9223372036854775807)
  (hB : w.heap[b]? = some (.cells arr ty0 (0, 0))) (harr : c * 6 ≤ arr.size)
  (hcl : cs.length = n * 6) (hcs : ∀ j v, cs[j]? = some v → w.cell? ⟨b, j, none⟩ = some v) (h1c : ∀ v ∈ cs, v.oneCell' = true) :
  Calls Tryz.prog 153 #[.slice (some ⟨b, 0, none⟩) n c, .int .i64 i, .int .i64 (i + 1 : Nat)] w fun e w' =>
   e = .returned (.slice (some ⟨b, 0, none⟩) (n - 1) c) ∧ w' = (w.drew.setCells b (i * 6) (cs.drop ((i + 1) * 6))).setCells b ((n - 1) * 6) [.int .i64 0, .int .i64 0, .string ⟨#[]⟩, .string ⟨#[]⟩, .int .i64 0, .int .i64 0] := by
 obtain ⟨i0, hi0, hz0, hz1, hz2⟩ := info_parts info33
 have t25 := Tryz.underlying22
 have u25 : ∀ w, Sem.run Tryz.prog (underlying 22) w = .ok (TypeDesc.slice 51) w := run_underlying t25
 have mixed : Tryz.prog.follows .mixedOrders = true := mixedA
 have hq2 : ¬ ((i : Int) = ((i + 1 : Nat) : Int)) := by omega
 have hsp : ∀ j, j < n * 6 → (w.cell? ⟨b, j, none⟩).isSome = true := fun j hj => by
  simp [World.cell?, hB]; omega
 have hfz : ∀ j, w.frozen? ⟨b, j, none⟩ = false := fun j => by simp [World.frozen?, hB]
 have hdl : (cs.drop ((i + 1) * 6)).length = (n - (i + 1)) * 6 := by rw [List.length_drop, hcl, Nat.sub_mul]
 have hsrc : Src Tryz.prog i0.size 22 (.slice (some ⟨b, (i + 1) * 6, none⟩) (n - (i + 1)) (c - (i + 1))) (n - (i + 1)) (cs.drop ((i + 1) * 6)) w.drew := by
  rw [hz1]
  exact Src.ofSlice w.drew t25 ⟨b, (i + 1) * 6, none⟩ (n - (i + 1)) _ _ hdl (fun j u hj => by rw [Addr.add_lit]; exact hcs _ u (by rwa [List.getElem?_drop] at hj)) (fun v hv => h1c v (List.mem_of_mem_drop hv))
 have hrun : ∀ ty, (Builtin.append_ #[22, 22] ty #[.slice (some ⟨b, 0, none⟩) i c, .slice (some ⟨b, (i + 1) * 6, none⟩) (n - (i + 1)) (c - (i + 1))]).run Tryz.prog w.drew = .ok (.slice (some ⟨b, 0, none⟩) (n - 1) c) (w.drew.setCells b (i * 6) (cs.drop ((i + 1) * 6))) := fun ty => by
  have h := run_append_room_src w.drew 22 22 ty 51 i0 t25 hi0 b 0 i c _ (n - (i + 1)) _ hsrc (by omega) (by rw [hz1, hdl, Nat.zero_add]; exact fun j hj => hsp _ (by rw [Nat.sub_mul] at hj; omega)) (by rw [hz1, hdl, Nat.zero_add]; exact fun j hj => hfz _)
  rw [hz1, Nat.zero_add] at h
  rw [show i + (n - (i + 1)) = n - 1 by omega] at h
  exact h
 obtain ⟨W1, hW1⟩ : ∃ W1, W1 = w.drew.setCells b (i * 6) (cs.drop ((i + 1) * 6)) := ⟨_, rfl⟩
 have hsp1 : ∀ k, k < n * 6 → (W1.cell? ⟨b, k, none⟩).isSome = true := fun k hk => by
  rw [hW1]
  exact isSome_setCells' b _ (i * 6) w.drew (fun j hj => hsp _ (by rw [hdl, Nat.sub_mul] at hj; omega)) k (hsp k hk)
 have hfz1 : ∀ k, W1.frozen? ⟨b, k, none⟩ = false := fun k => by rw [hW1, World.frozen?_setCells]; exact hfz k
 have hclr : ∀ ty k, (Builtin.clear_ #[22] ty #[.slice (some ⟨b, (n - 1) * 6, none⟩) 1 k]).run Tryz.prog W1 = .ok (.tuple #[]) (W1.setCells b ((n - 1) * 6) [.int .i64 0, .int .i64 0, .string ⟨#[]⟩, .string ⟨#[]⟩, .int .i64 0, .int .i64 0]) := fun ty k => by
  have hst := run_storeCells_cells (P := Tryz.prog) b ((n - 1) * 6) [.int .i64 0, .int .i64 0, .string ⟨#[]⟩, .string ⟨#[]⟩, .int .i64 0, .int .i64 0] 0 W1 (fun j hj => hsp1 _ (by simp at hj; omega)) (fun j hj => hfz1 _) (by intro v hv; simp at hv; rcases hv with rfl | rfl | rfl | rfl | rfl | rfl <;> rfl)
  have hzz : Sem.run Tryz.prog (zeroValue 51) W1 = .ok zItem W1 := Tryz.zeroValue51 W1
  rw [Nat.add_zero] at hst
  simp only [Builtin.clear_, u25, Sem.run_bind, hzz, Result.andThen_ok, zItem_cells, hst, Sem.run_pure, List.getElem?_toArray, List.getElem?_cons_zero]
 subst hW1
 have hw1 : ((i + 1 : Nat) : Int) = (i : Int) + 1 := by omega
 have hb0 : (i : Int) ≤ (n : Int) := by omega
 have hb1 : (i : Int) + 1 ≤ (n : Int) := by omega
 have hb2 : ¬ (c = i + 1) := by omega
 have hb3 : ¬ (c = n - 1) := by omega
 have hb4 : ((n - 1 : Nat) : Int) ≤ (n : Int) := by omega
 have hb5 : (i : Int) ≤ (i : Int) + 1 := by omega
 have hb6 : n - (n - 1) = 1 := by omega
 have htn : ((i : Int) + 1).toNat = i + 1 := by omega
 have hb7 : i ≤ c := by omega
 have hb8 : (0 : Int) ≤ (i : Int) + 1 := by omega
 have hb9 : i + 1 ≤ n := by omega
 have hb10 : n - 1 ≤ n := by omega
 clear hB harr hdl hsrc
 go_enter Tryz.func153, Tryz.ntmps153
 go_wp2
 go_region_law_o (refine step_append_run' rfl _ _ 22 22 rfl (.slice (some ⟨b, 0, none⟩) i c) (.slice (some ⟨b, (i + 1) * 6, none⟩) (n - (i + 1)) (c - (i + 1))) (by simp [Act.eval, Act.put]) (by simp [Act.eval, Act.put]) (hrun _) ?_)
 go_wp2_with (simp only [hclr, Result.andThen])
 go_ret
 exact ⟨rfl, rfl⟩
set_option maxHeartbeats 4000000 in
set_option maxRecDepth 100000 in
theorem delete_last (b c i : Nat) (arr : Array Value) (ty0 : TypeId) (w : World) (hnc : i + 1 < c) (_hc63 : c ≤ 9223372036854775807)
  (hB : w.heap[b]? = some (.cells arr ty0 (0, 0))) (harr : c * 6 ≤ arr.size) :
  Calls Tryz.prog 153 #[.slice (some ⟨b, 0, none⟩) (i + 1) c, .int .i64 i, .int .i64 (i + 1 : Nat)] w fun e w' =>
   e = .returned (.slice (some ⟨b, 0, none⟩) i c) ∧ w' = w.drew.setCells b (i * 6) [.int .i64 0, .int .i64 0, .string ⟨#[]⟩, .string ⟨#[]⟩, .int .i64 0, .int .i64 0] := by
 obtain ⟨i0, hi0, hz0, hz1, hz2⟩ := info_parts info33
 have t25 := Tryz.underlying22
 have u25 : ∀ w, Sem.run Tryz.prog (underlying 22) w = .ok (TypeDesc.slice 51) w := run_underlying t25
 have mixed : Tryz.prog.follows .mixedOrders = true := mixedA
 have hsp : ∀ j, j < (i + 1) * 6 → (w.cell? ⟨b, j, none⟩).isSome = true := fun j hj => by
  simp [World.cell?, hB]; omega
 have hfz : ∀ j, w.frozen? ⟨b, j, none⟩ = false := fun j => by simp [World.frozen?, hB]
 have hsrc : Src Tryz.prog i0.size 22 (.slice (some ⟨b, (i + 1) * 6, none⟩) 0 (c - (i + 1))) 0 [] w.drew := by
  rw [hz1]
  exact Src.ofSlice w.drew t25 ⟨b, (i + 1) * 6, none⟩ 0 _ _ rfl (fun j u hj => by simp at hj) (fun v hv => by simp at hv)
 have hrun : ∀ ty, (Builtin.append_ #[22, 22] ty #[.slice (some ⟨b, 0, none⟩) i c, .slice (some ⟨b, (i + 1) * 6, none⟩) 0 (c - (i + 1))]).run Tryz.prog w.drew = .ok (.slice (some ⟨b, 0, none⟩) i c) w.drew := fun ty => by
  have h := run_append_room_src w.drew 22 22 ty 51 i0 t25 hi0 b 0 i c _ 0 _ hsrc (by omega) (fun j hj => by simp at hj) (fun j hj => by simp at hj)
  rw [Nat.add_zero] at h
  exact h
 have hclr : ∀ ty k, (Builtin.clear_ #[22] ty #[.slice (some ⟨b, i * 6, none⟩) 1 k]).run Tryz.prog w.drew = .ok (.tuple #[]) (w.drew.setCells b (i * 6) [.int .i64 0, .int .i64 0, .string ⟨#[]⟩, .string ⟨#[]⟩, .int .i64 0, .int .i64 0]) := fun ty k => by
  have hst := run_storeCells_cells (P := Tryz.prog) b (i * 6) [.int .i64 0, .int .i64 0, .string ⟨#[]⟩, .string ⟨#[]⟩, .int .i64 0, .int .i64 0] 0 w.drew (fun j hj => hsp _ (by simp at hj; omega)) (fun j hj => hfz _) (by intro v hv; simp at hv; rcases hv with rfl | rfl | rfl | rfl | rfl | rfl <;> rfl)
  have hzz : Sem.run Tryz.prog (zeroValue 51) w.drew = .ok zItem w.drew := Tryz.zeroValue51 w.drew
  rw [Nat.add_zero] at hst
  simp only [Builtin.clear_, u25, Sem.run_bind, hzz, Result.andThen_ok, zItem_cells, hst, Sem.run_pure, List.getElem?_toArray, List.getElem?_cons_zero]
 have hw1 : ((i + 1 : Nat) : Int) = (i : Int) + 1 := by omega
 have hb2 : ¬ (c = i + 1) := by omega
 have hb3 : ¬ (c = i) := by omega
 have hb0 : (i : Int) ≤ (i : Int) + 1 := by omega
 have hb6 : i + 1 - i = 1 := by omega
 have htn : ((i : Int) + 1).toNat = i + 1 := by omega
 have hb7 : i ≤ c := by omega
 have hb8 : (0 : Int) ≤ (i : Int) + 1 := by omega
 clear hB harr hsrc
 go_enter Tryz.func153, Tryz.ntmps153
 go_wp2
 go_region_law_o (refine step_append_run' rfl _ _ 22 22 rfl (.slice (some ⟨b, 0, none⟩) i c) (.slice (some ⟨b, (i + 1) * 6, none⟩) 0 (c - (i + 1))) (by simp [Act.eval, Act.put]) (by simp [Act.eval, Act.put]) (hrun _) ?_)
 go_wp2_with (simp only [hclr, Result.andThen])
 go_ret
 exact ⟨rfl, rfl⟩
set_option maxHeartbeats 4000000 in
set_option maxRecDepth 100000 in
theorem delete_full (b c i : Nat) (arr : Array Value) (ty0 : TypeId) (w : World) (hnc : c = i + 1) (hc63 : c ≤ 9223372036854775807)
  (hB : w.heap[b]? = some (.cells arr ty0 (0, 0))) (harr : c * 6 ≤ arr.size) :
  Calls Tryz.prog 153 #[.slice (some ⟨b, 0, none⟩) (i + 1) c, .int .i64 i, .int .i64 (i + 1 : Nat)] w fun e w' =>
   e = .returned (.slice (some ⟨b, 0, none⟩) i c) ∧ w' = w.drew.setCells b (i * 6) [.int .i64 0, .int .i64 0, .string ⟨#[]⟩, .string ⟨#[]⟩, .int .i64 0, .int .i64 0] := by
 obtain ⟨i0, hi0, hz0, hz1, hz2⟩ := info_parts info33
 have t25 := Tryz.underlying22
 have u25 : ∀ w, Sem.run Tryz.prog (underlying 22) w = .ok (TypeDesc.slice 51) w := run_underlying t25
 have mixed : Tryz.prog.follows .mixedOrders = true := mixedA
 have hsp : ∀ j, j < (i + 1) * 6 → (w.cell? ⟨b, j, none⟩).isSome = true := fun j hj => by
  simp [World.cell?, hB]; omega
 have hfz : ∀ j, w.frozen? ⟨b, j, none⟩ = false := fun j => by simp [World.frozen?, hB]
 have hsrc : Src Tryz.prog i0.size 22 (.slice (some ⟨b, 0, none⟩) 0 (0)) 0 [] w.drew := by
  rw [hz1]
  exact Src.ofSlice w.drew t25 ⟨b, 0, none⟩ 0 _ _ rfl (fun j u hj => by simp at hj) (fun v hv => by simp at hv)
 have hrun : ∀ ty, (Builtin.append_ #[22, 22] ty #[.slice (some ⟨b, 0, none⟩) i c, .slice (some ⟨b, 0, none⟩) 0 (0)]).run Tryz.prog w.drew = .ok (.slice (some ⟨b, 0, none⟩) i c) w.drew := fun ty => by
  have h := run_append_room_src w.drew 22 22 ty 51 i0 t25 hi0 b 0 i c _ 0 _ hsrc (by omega) (fun j hj => by simp at hj) (fun j hj => by simp at hj)
  rw [Nat.add_zero] at h
  exact h
 have hclr : ∀ ty k, (Builtin.clear_ #[22] ty #[.slice (some ⟨b, i * 6, none⟩) 1 k]).run Tryz.prog w.drew = .ok (.tuple #[]) (w.drew.setCells b (i * 6) [.int .i64 0, .int .i64 0, .string ⟨#[]⟩, .string ⟨#[]⟩, .int .i64 0, .int .i64 0]) := fun ty k => by
  have hst := run_storeCells_cells (P := Tryz.prog) b (i * 6) [.int .i64 0, .int .i64 0, .string ⟨#[]⟩, .string ⟨#[]⟩, .int .i64 0, .int .i64 0] 0 w.drew (fun j hj => hsp _ (by simp at hj; omega)) (fun j hj => hfz _) (by intro v hv; simp at hv; rcases hv with rfl | rfl | rfl | rfl | rfl | rfl <;> rfl)
  have hzz : Sem.run Tryz.prog (zeroValue 51) w.drew = .ok zItem w.drew := Tryz.zeroValue51 w.drew
  rw [Nat.add_zero] at hst
  simp only [Builtin.clear_, u25, Sem.run_bind, hzz, Result.andThen_ok, zItem_cells, hst, Sem.run_pure, List.getElem?_toArray, List.getElem?_cons_zero]
 have hw1 : ((i + 1 : Nat) : Int) = (i : Int) + 1 := by omega
 have hb2 : i + 1 = c := hnc.symm
 have hb3 : ¬ (c = i) := by omega
 have hb0 : (i : Int) ≤ (i : Int) + 1 := by omega
 have hb6 : i + 1 - i = 1 := by omega
 have htn : ((i : Int) + 1).toNat = i + 1 := by omega
 have hb7 : i ≤ c := by omega
 have hb8 : (0 : Int) ≤ (i : Int) + 1 := by omega
 subst hnc
 clear hB harr hsrc
 go_enter Tryz.func153, Tryz.ntmps153
 go_wp2
 go_region_law_o (refine step_append_run' rfl _ _ 22 22 rfl (.slice (some ⟨b, 0, none⟩) i c) (.slice (some ⟨b, 0, none⟩) 0 (0)) (by simp [Act.eval, Act.put]) (by simp [Act.eval, Act.put]) (hrun _) ?_)
 go_wp2_with (simp only [hclr, Result.andThen])
 go_ret
 exact ⟨rfl, rfl⟩
end Go.Proofs.I17
namespace Go.Abs
open Go.Proofs Go.RowKit
theorem row_sets {b : Nat} {ty : TypeId} {x : Nat × Nat} : ∀ (vs : List Value) (o : Nat) (w : World), (∃ arr, w.heap[b]? = some (.cells arr ty x)) → ∃ arr, (w.setCells b o vs).heap[b]? = some (.cells arr ty x)
 | [], _, _, h => h
 | v :: r, o, w, ⟨arr, h⟩ => by
  refine row_sets r (o + 1) (w.setCell ⟨b, o, none⟩ v) ?_
  simp only [World.setCell, Array.getElem?_modify, if_true, h]
  exact ⟨_, rfl⟩
section
variable {P : Program} {G : Glob}
def DelOk (P : Program) (f : FuncId) (sz : Nat) : Prop :=
 ∀ (b n c i : Nat) (cs : List Value) (arr : Array Value) (ty0 : TypeId) (w : World), i < n → n ≤ c → c ≤ maxLen → w.heap[b]? = some (.cells arr ty0 (0, 0)) → c * sz ≤ arr.size → cs.length = n * sz →
  (∀ j v, cs[j]? = some v → w.cell? ⟨b, j, none⟩ = some v) → (∀ v ∈ cs, v.oneCell' = true) →
  Calls P f #[.slice (some ⟨b, 0, none⟩) n c, .int .i64 i, .int .i64 (i + 1 : Nat)] w fun e w' => e = .returned (.slice (some ⟨b, 0, none⟩) (n - 1) c) ∧ InPl b w w' ∧ (∃ arr', w'.heap[b]? = some (.cells arr' ty0 (0, 0))) ∧
   (∀ j u, (cs.take (i * sz) ++ cs.drop ((i + 1) * sz))[j]? = some u → w'.cell? ⟨b, j, none⟩ = some u)
def sDelete (sz : Nat) : ISpec := fun args S => match args with
 | [.ms b sz' n, .int .i64 i, .int .i64 j] => match S.boxes[b]? with
  | some (some [.tup [.bool true, .sl sz3 es .no]]) => if sz' = sz ∧ sz3 = sz then
    some (es.length = n ∧ 0 ≤ i ∧ j = i + 1 ∧ j ≤ n, .ms b sz (n - 1), { S with boxes := S.boxes.set b (some (ownC sz (es.take i.toNat ++ es.drop (i.toNat + 1)))) }) else none
  | _ => none
 | _ => none
theorem oDelete {f : FuncId} {sz : Nat} (hgd : goodFn P f) (hsz : 0 < sz) (hc : DelOk P f sz) : ISpecOk P G f (sDelete sz) := by
 intro f' args S r S' h
 simp only [lowC] at h
 split at h
 case h_2 => cases h
 rename_i x hx
 split at h
 case isFalse => cases h
 rename_i hp
 injection h with h
 split at hx
 case isFalse => cases hx
 rename_i ef
 subst ef
 unfold sDelete at hx
 split at hx
 case h_2 => cases hx
 rename_i b sz' n i i2
 split at hx
 case h_2 => cases hx
 rename_i sz3 es hbx
 split at hx
 case isFalse => cases hx
 rename_i hz
 obtain ⟨rfl, rfl⟩ := hz
 injection hx with hx
 subst hx
 simp only [Prod.mk.injEq] at h hp
 obtain ⟨rfl, rfl⟩ := h
 obtain ⟨hn, hi0, rfl, hin⟩ := hp
 subst hn
 obtain ⟨k, rfl⟩ := Int.eq_ofNat_of_zero_le hi0
 simp only [Int.toNat_natCast]
 refine ⟨hgd, fun N0 w0 I0 E w vs hS hvs hv => ?_⟩
 obtain ⟨a1, a2, a3, rfl⟩ : ∃ a1 a2 a3, vs = #[a1, a2, a3] := by
  match vs, hvs with
  | ⟨[a1, a2, a3]⟩, _ => exact ⟨a1, a2, a3, rfl⟩
 have hr1 := hv 0 _ _ rfl rfl
 have hr2 := hv 1 _ _ rfl rfl
 have hr3 := hv 2 _ _ rfl rfl
 simp only [List.getElem_toArray, List.getElem_cons_zero, List.getElem_cons_succ] at hr1 hr2 hr3
 cases hr1 with | ms _ _ _ blk c hB h1 h2 h3 =>
 obtain rfl := rep_int hr2
 obtain rfl := rep_int hr3
 obtain ⟨blk', hB', hown⟩ := hS.box b _ hbx
 obtain rfl : blk = blk' := by rw [hB] at hB'; injection hB'
 have hnf : ¬ Frz S b := fun hf => by
  rcases hf.row hbx with e2 | ⟨sz2, es2, e2⟩ <;> simp at e2
 cases hown with
 | row arr ty hr => simp [isRow] at hr
 | iter s pos hcs => simp at hcs
 | map t n es k e D hcs => simp [mapC] at hcs
 | dead hcs => simp at hcs
 | typ t cs' arr hcs => simp at hcs
 | own sz2 es2 f2 arr ty hcs hh hesz hecl hec hf =>
  simp only [List.cons.injEq, AV.tup.injEq, AV.bool.injEq, AV.sl.injEq, and_true] at hcs
  obtain ⟨rfl, rfl, rfl⟩ := hcs
  have hrows : rowsOf w blk = arr.size := by unfold rowsOf; rw [hh]
  have hcm : es.length * sz3 ≤ c * sz3 := Nat.mul_le_mul_right _ h1
  have hvals : Vals E w sz3 es (arr.toList.take (es.length * sz3)) := by
   refine ⟨by have hal : arr.toList.length = arr.size := Array.length_toList; rw [List.length_take, hal]; omega, hesz, hecl, fun u hu => ?_, fun i e j c hi hj => ?_⟩
   ·obtain ⟨q, hq⟩ := List.mem_iff_getElem?.1 hu
    rw [List.getElem?_take] at hq
    split at hq
    case isFalse => cases hq
    rename_i hlt
    have q1 : q / sz3 < es.length := (Nat.div_lt_iff_lt_mul hsz).2 hlt
    have q2 : q % sz3 < es[q / sz3].cells.length := by rw [hesz _ (List.getElem_mem q1)]; exact Nat.mod_lt _ hsz
    obtain ⟨v, e1, e2, e3⟩ := hec _ _ _ _ (List.getElem?_eq_getElem q1) (List.getElem?_eq_getElem q2)
    have hdm : q / sz3 * sz3 + q % sz3 = q := by rw [Nat.mul_comm]; exact Nat.div_add_mod q sz3
    rw [hdm] at e1
    rw [Array.getElem?_toList, e1] at hq
    cases hq; exact e3
   ·obtain ⟨v, e1, e2, e3⟩ := hec i e j c hi hj
    refine ⟨v, ?_, e2⟩
    have hjs : j < sz3 := by rw [← hesz e (List.mem_of_getElem? hi)]; exact (List.getElem?_eq_some_iff.1 hj).1
    have hi' : i < es.length := (List.getElem?_eq_some_iff.1 hi).1
    have : (i + 1) * sz3 ≤ es.length * sz3 := Nat.mul_le_mul_right _ hi'
    rw [Nat.add_mul] at this
    rw [List.getElem?_take, if_pos (by omega), Array.getElem?_toList]; exact e1
  have hcell : ∀ j v, (arr.toList.take (es.length * sz3))[j]? = some v → w.cell? ⟨blk, j, none⟩ = some v := fun j v hj => by
   rw [List.getElem?_take] at hj
   split at hj
   ·rw [Array.getElem?_toList] at hj
    simp [World.cell?, hh, hj]
   ·cases hj
  have hk : k + 1 ≤ es.length := by omega
  have e1 : ((k : Int) + 1) = ((k + 1 : Nat) : Int) := by omega
  rw [e1]
  refine (hc blk es.length c k (arr.toList.take (es.length * sz3)) arr ty w hk h1 h2 hh (by rw [← hrows]; exact h3) hvals.1 hcell hvals.2.2.2.1).mono ?_
  rintro e w' ⟨rfl, hip, ⟨arr', hh'⟩, hcells⟩
  obtain ⟨ht, _⟩ := hvals.sub k (by omega)
  obtain ⟨_, hd⟩ := hvals.sub (k + 1) hk
  have hall := ht.append hd
  have hlen : (es.take k ++ es.drop (k + 1)).length = es.length - 1 := by simp; omega
  have hle : Env.Le E E w w' := ⟨fun b o hi => ⟨hi, World.cell?_of_block (a := ⟨b, o, none⟩) (hip.other b (fun e => hnf ((hS.Blt _ blk hB).2.2.2 o (e ▸ hi))))⟩, fun _ _ h => h, fun _ _ _ h => h, fun id' x hx => by
   by_cases e : x = blk
   ·subst e; exact hip.rows
   ·exact rowsOf_block (hip.other x e)⟩
  have hall' := hall.le hle
  obtain ⟨m1, m2⟩ := hS.obj_set (cs' := ownC sz3 (es.take k ++ es.drop (k + 1))) hB hip.os hip.tape hip.output hip.size hip.other (.own sz3 _ true arr' ty rfl hh' hall'.2.1 hall'.2.2.1 (fun i e j c hi hj => by
   obtain ⟨u, hu, hr⟩ := hall'.2.2.2.2 i e j c hi hj
   refine ⟨u, ?_, hr, hall'.2.2.2.1 u (List.mem_of_getElem? hu)⟩
   have := hcells _ u hu
   simpa [World.cell?, hh'] using this) (fun e => by cases e)) hnf hip.rows
  exact ⟨_, E, rfl, m1, m2, .ms _ _ _ blk c hB (by omega) h2 (by rw [hip.rows]; exact h3)⟩
end
end Go.Abs
namespace Go.Proofs.I17
open Go.RowKit Go.Abs Go.Lib
theorem zs_len : ([.int .i64 0, .int .i64 0, .string ⟨#[]⟩, .string ⟨#[]⟩, .int .i64 0, .int .i64 0] : List Value).length = 6 := rfl
theorem delete109 : DelOk Tryz.prog 153 6 := by
 intro b n c i cs arr ty0 w hi hnc hcm hB harr hcl hcs h1c
 have hcm' : c ≤ 9223372036854775807 := by unfold maxLen at hcm; omega
 have hth : ∀ q, q < n * 6 → (w.drew.cell? ⟨b, q, none⟩).isSome = true := fun q hq => there_of hB (by omega)
 by_cases hmid : i + 1 < n
 ·refine (delete_mid b n c i cs arr ty0 w hmid hnc hcm' hB harr hcl hcs h1c).mono ?_
  rintro e w' ⟨rfl, rfl⟩
  refine ⟨rfl, ((InPl.refl b w).drew.sets _ _).sets _ _, row_sets _ _ _ (row_sets _ _ _ ⟨arr, hB⟩), fun j u hj => ?_⟩
  have hdl : (cs.drop ((i + 1) * 6)).length = (n - (i + 1)) * 6 := by rw [List.length_drop, hcl, Nat.sub_mul]
  have hlt : (cs.take (i * 6)).length = i * 6 := by rw [List.length_take]; omega
  have hjl := (List.getElem?_eq_some_iff.1 hj).1
  rw [List.length_append, hlt, hdl] at hjl
  have hth2 : ∀ q, q < n * 6 → ((w.drew.setCells b (i * 6) (cs.drop ((i + 1) * 6))).cell? ⟨b, q, none⟩).isSome = true := fun q hq => isSome_setCells' b _ _ _ (fun j hj => hth _ (by omega)) q (hth q hq)
  rw [sets_at _ ((n - 1) * 6) (fun q hq => hth2 _ (by rw [zs_len] at hq; omega)), if_neg (by omega), sets_at _ _ (fun q hq => hth _ (by omega))]
  by_cases h1 : j < i * 6
  ·rw [if_neg (by omega)]
   rw [List.getElem?_append_left (by omega), List.getElem?_take, if_pos h1] at hj
   exact hcs j u hj
  ·rw [if_pos (by omega)]
   rw [List.getElem?_append_right (by omega), hlt] at hj
   exact hj
 ·obtain rfl : n = i + 1 := by omega
  have done : ∀ (e : Ending) (w' : World), e = .returned (.slice (some ⟨b, 0, none⟩) i c) ∧ w' = w.drew.setCells b (i * 6) [.int .i64 0, .int .i64 0, .string ⟨#[]⟩, .string ⟨#[]⟩, .int .i64 0, .int .i64 0] →
    e = .returned (.slice (some ⟨b, 0, none⟩) (i + 1 - 1) c) ∧ InPl b w w' ∧ (∃ arr', w'.heap[b]? = some (.cells arr' ty0 (0, 0))) ∧ (∀ j u, (cs.take (i * 6) ++ cs.drop ((i + 1) * 6))[j]? = some u → w'.cell? ⟨b, j, none⟩ = some u) := by
   rintro e w' ⟨rfl, rfl⟩
   refine ⟨rfl, (InPl.refl b w).drew.sets _ _, row_sets _ _ _ ⟨arr, hB⟩, fun j u hj => ?_⟩
   have hd0 : cs.drop ((i + 1) * 6) = [] := List.drop_eq_nil_of_le (by omega)
   rw [hd0, List.append_nil, List.getElem?_take] at hj
   split at hj
   case isFalse => cases hj
   rename_i h1
   rw [sets_at _ (i * 6) (fun q hq => hth _ (by rw [zs_len] at hq; omega)), if_neg (by omega)]
   exact hcs j u hj
  by_cases hfull : c = i + 1
  ·exact (delete_full b c i arr ty0 w hfull hcm' hB harr).mono done
  ·exact (delete_last b c i arr ty0 w (by omega) hcm' hB harr).mono done
theorem good109 : goodFn PA 153 := goodA (by kernel_rfl)
end Go.Proofs.I17
namespace Go.Abs
open Go.Proofs
def s109 : ISpec := sDelete 6
theorem o109 : ISpecOk PA GA 153 s109 := oDelete I17.good109 (by decide) I17.delete109
end Go.Abs
