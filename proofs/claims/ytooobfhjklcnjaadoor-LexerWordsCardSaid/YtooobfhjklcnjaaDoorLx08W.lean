/- specs of the words -/
import Derived.Test.YtooobfhjklcnjaaDoorLx08
namespace Go.Abs
open Go.Proofs
def kwList : List (List UInt8) := [[116, 97, 98, 108, 101], [102, 101, 97, 116, 117, 114, 101], [111, 102], [107, 101, 101, 112], [98, 111, 111, 108], [116, 101, 120, 116], [107, 101, 121], [105, 110, 116], [100, 101, 99], [105, 102], [116, 104, 101, 110], [101, 108, 115, 101], [100, 101, 102, 97, 117, 108, 116], [111, 114], [97, 110, 100], [110, 111, 116], [116, 114, 117, 101], [102, 97, 108, 115, 101], [110, 117, 108, 108], [99, 111, 117, 110, 116], [115, 117, 109], [109, 101, 97, 110], [109, 105, 110], [109, 97, 120], [102, 105, 114, 115, 116], [108, 97, 115, 116], [100, 105, 115, 116, 105, 110, 99, 116], [113, 117, 97, 110, 116, 105, 108, 101], [100, 101, 99, 97, 121], [97, 108, 108], [115, 108, 105, 100, 105, 110, 103], [116, 117, 109, 98, 108, 105, 110, 103], [115, 101, 115, 115, 105, 111, 110], [119, 104, 101, 114, 101]]
def kwText : List UInt8 := 32 :: kwList.flatMap fun w => w ++ [32]
def kwR (s : List UInt8) : Bool := kwList.contains s
def nameR (s : List UInt8) : Bool := decide (s ≠ []) && decide (s.length ≤ 24) && decide (wl s = s.length) && !kwR s
def s17 : Spec := fun args => match args with
  | [.str s] => some (.bool (kwR s), [])
  | _ => none
def s16 : Spec := fun args => match args with
  | [.str s] => if s.length ≤ 1000000 then some (.bool (kwR s), []) else none
  | _ => none
def s18 : Spec := fun args => match args with
  | [.str s] => if s.length ≤ 1000000 then some (.bool (nameR s), []) else none
  | _ => none
def s33' : Spec := fun args => match args with
  | [.sl sz es .no, .int .i64 n] => if sz = 1 then match unBytes es with
    | some bs => if 0 ≤ n ∧ n.toNat < bs.length ∧ bs.length < 2 ^ 60 then some (.int .i64 (wl (bs.drop n.toNat)), []) else none
    | none => none else none
  | _ => none
def XW : Shapes := fun f => match f with
  | 11 | 16 | 17 | 18 | 19 | 32 => some shB
  | 33 => some shI
  | _ => none
def nAn : Anns := ⟨nA, nA⟩
def a18 (s : List UInt8) : Anns := ⟨fun k => if k = 4 then some { α := Int, slots := [0, 17, 18], nb := 0, vals := fun n => [.str s, .int .i64 s.length, .int .i64 n], sS := fun _ => ⟨[],[]⟩, I := fun n => ∃ k : Nat, n = k ∧ k ≤ s.length ∧ (1 ≤ k → k ≤ wl s), μ := fun n => (s.length - n).toNat } else none, nA⟩
end Go.Abs
