/-
  Words on memory: a slice that reads as a list; small facts that the walks use again and again.
-/
import Derived.WalkKit
import Derived.WalkSpells
import Derived.WalkLawsBesides
import Derived.WalkSmall
import Derived.Lib.Hide
import Derived.BigQuiet
import Derived.Deep.QuietTactic
namespace Go.Proofs.Ythppcgafanognaa
open Go.RowKit

theorem ret_int {k : IntKind} {a b : Int} (h : a = b) : Ending.returned (.int k a) = .returned (.int k b) := by rw [h]
theorem ret_bool {a b : Bool} (h : a = b) : Ending.returned (.bool a) = .returned (.bool b) := by rw [h]
theorem ret_pair {a b c d : Value} (h : a = b) (h' : c = d) : Ending.returned (.tuple #[a, c]) = .returned (.tuple #[b, d]) := by rw [h, h']
theorem w64 {n : Int} (h0 : -9223372036854775808 ≤ n) (h1 : n ≤ 9223372036854775807) : wrap64 n = n := IntWalk.wrap64_in n ⟨h0, h1⟩
theorem u64w {n : Int} (h0 : 0 ≤ n) (h1 : n < 18446744073709551616) : IntKind.u64.wrap n = n := by rw [IntKind.wrap_u64]; omega
theorem w64_range (n : Int) : -9223372036854775808 ≤ wrap64 n ∧ wrap64 n ≤ 9223372036854775807 := by unfold wrap64; omega

/-- an int of 64 bits -/
def I64 (n : Int) : Prop := -9223372036854775808 ≤ n ∧ n ≤ 9223372036854775807

/-- The slice at A holds the list l: element k is the `size` cells `enc l[k]`. -/
def Arr {α : Type} (w : World) (enc : α → List Value) (size : Nat) (A : Option Addr) (l : List α) : Prop :=
  l = [] ∨ ∃ b off, A = some ⟨b, off, none⟩ ∧ b < w.heap.size ∧
    ∀ k x, l[k]? = some x → ∀ j u, (enc x)[j]? = some u → w.cell? ⟨b, off + k * size + j, none⟩ = some u

section
variable {α : Type} {w w' : World} {enc : α → List Value} {size : Nat} {A : Option Addr} {l : List α}
theorem Arr.nil (w : World) (enc : α → List Value) (size : Nat) (A : Option Addr) : Arr w enc size A [] := Or.inl rfl
theorem Arr.keep (h : Arr w enc size A l) (hs : w.heap.size ≤ w'.heap.size) (hk : ∀ p : Addr, p.block < w.heap.size → w'.cell? p = w.cell? p) : Arr w' enc size A l := by
  rcases h with h | ⟨b, off, hA, hb, hc⟩
  · exact Or.inl h
  · exact Or.inr ⟨b, off, hA, by omega, fun k x hx j u hu => (hk _ hb).trans (hc k x hx j u hu)⟩
theorem Arr.below (h : Arr w enc size A l) (hb : Below w.heap.size w w') : Arr w' enc size A l := h.keep hb.size fun _ hp => hb.cell hp
theorem Arr.below' {B : Nat} (h : Arr w enc size A l) (hb : Below B w w') (hB : w.heap.size ≤ B) : Arr w' enc size A l := h.below (hb.mono hB)
theorem Arr.drew (h : Arr w enc size A l) : Arr w.drew enc size A l := h
theorem Arr.drewN (h : Arr w enc size A l) (n : Nat) : Arr (w.drewN n) enc size A l := h
theorem Arr.alloc (h : Arr w enc size A l) (o : Obj) : Arr (w.alloc o) enc size A l := h.keep (by simp) fun p hp => World.cell?_alloc_lt w o p hp
theorem Arr.at_ (h : Arr w enc size A l) {k : Nat} (hk : k < l.length) : ∃ b off x, A = some ⟨b, off, none⟩ ∧ b < w.heap.size ∧ Hid (l[k]? = some x) ∧
    ∀ j u, (enc x)[j]? = some u → w.cell? ⟨b, off + k * size + j, none⟩ = some u := by
  rcases h with h | ⟨b, off, hA, hb, hc⟩
  · subst h; simp at hk
  · exact ⟨b, off, l[k], hA, hb, List.getElem?_eq_getElem hk, hc k _ (List.getElem?_eq_getElem hk)⟩
end

/-- a list of buckets: index, number -/
abbrev Bks := List (Int × Int)
def benc (p : Int × Int) : List Value := [.int .i64 p.1, .int .i64 p.2]
def ienc (n : Int) : List Value := [.int .i64 n]
section
variable {w : World} {A : Option Addr}
theorem Arr.bk_ {l : Bks} (h : Arr w benc 2 A l) {k : Nat} (hk : k < l.length) : ∃ b off i n, A = some ⟨b, off, none⟩ ∧ b < w.heap.size ∧ Hid (l[k]? = some (i, n)) ∧
    w.cell? ⟨b, off + k * 2, none⟩ = some (.int .i64 i) ∧ w.cell? ⟨b, off + k * 2 + 1, none⟩ = some (.int .i64 n) := by
  obtain ⟨b, off, ⟨i, n⟩, hA, hb, hx, hc⟩ := h.at_ hk
  exact ⟨b, off, i, n, hA, hb, hx, hc 0 _ rfl, hc 1 _ rfl⟩
theorem Arr.int_ {l : List Int} (h : Arr w ienc 1 A l) {k : Nat} (hk : k < l.length) : ∃ b off i, A = some ⟨b, off, none⟩ ∧ b < w.heap.size ∧ Hid (l[k]? = some i) ∧
    w.cell? ⟨b, off + k, none⟩ = some (.int .i64 i) := by
  obtain ⟨b, off, i, hA, hb, hx, hc⟩ := h.at_ hk
  have h0 := hc 0 _ rfl
  simp only [Nat.mul_one, Nat.add_zero] at h0
  exact ⟨b, off, i, hA, hb, hx, h0⟩
end

theorem flatMap_at {α : Type} {enc : α → List Value} {size : Nat} (hsz : ∀ x, (enc x).length = size) : ∀ (l : List α) (k : Nat) (x : α) (j : Nat) (u : Value),
    l[k]? = some x → (enc x)[j]? = some u → (l.flatMap enc)[k * size + j]? = some u
  | [], k, x, j, u, h, _ => by simp at h
  | y :: t, 0, x, j, u, h, hu => by
    simp at h; subst h
    have hj : j < (enc y).length := (List.getElem?_eq_some_iff.1 hu).1
    rw [List.flatMap_cons, Nat.zero_mul, Nat.zero_add, List.getElem?_append_left hj]; exact hu
  | y :: t, k + 1, x, j, u, h, hu => by
    rw [List.flatMap_cons, List.getElem?_append_right (by rw [hsz, Nat.succ_mul]; omega), hsz, show (k + 1) * size + j - size = k * size + j by rw [Nat.succ_mul]; omega]
    exact flatMap_at hsz t k x j u (by simpa using h) hu

/-- what the call owns reads as a list -/
theorem arr_of_own {α : Type} {w : World} {base : Nat} {e : TypeId} {size n cap : Nat} {A : Option Addr} {enc : α → List Value} {l : List α} (hsz : ∀ x, (enc x).length = size) (hn : l.length = n)
    (h : w.ownsRow base e size (.slice A n cap) n (l.flatMap enc)) : Arr w enc size A l := by
  rcases h.2 with ⟨_, h0⟩ | ⟨g, cap', cur, hv, _, hh, _⟩
  · left; exact List.eq_nil_of_length_eq_zero (by omega)
  · injection hv with hA _ _
    subst hA
    right
    refine ⟨g, 0, rfl, (Array.getElem?_eq_some_iff.1 hh).1, fun k x hx j u hu => ?_⟩
    have hc := h.cells (g := g) rfl _ _ (flatMap_at hsz l k x j u hx hu)
    rw [← hc]
    congr 1
    unfold Addr.add
    split <;> simp_all <;> omega
/-- the shape of what the call owns -/
theorem own_shape {w : World} {base : Nat} {e : TypeId} {size n : Nat} {v : Value} {xs : List Value} (h : w.ownsRow base e size v n xs) : ∃ A cap, v = .slice A n cap := by
  rcases h.2 with ⟨rfl, rfl⟩ | ⟨g, cap', cur, rfl, _⟩
  · exact ⟨_, _, rfl⟩
  · exact ⟨_, _, rfl⟩
theorem benc_len (x : Int × Int) : (benc x).length = 2 := rfl
theorem ienc_len (x : Int) : (ienc x).length = 1 := rfl
theorem ints_flat (l : List Int) : l.map (Value.int .i64) = l.flatMap ienc := by
  induction l with
  | nil => rfl
  | cons x t ih => simp [List.flatMap_cons, ienc, ih]
end Go.Proofs.Ythppcgafanognaa
