/- specs -/
import Derived.Test.YtooobfhjklcnjaaDoorLx08B
namespace Go.Abs
open Go.Proofs
def shB : Sh × Option TypeId := (.val (.one .bool), none)
def shI : Sh × Option TypeId := (.val (.one (.int .i64)), none)
def X1 : Shapes := fun f => if f = 49 ∨ f = 44 then some shB else none
def letterB (c : UInt8) : Bool := decide (97 ≤ c.toNat ∧ c.toNat ≤ 122)
def digitB (c : UInt8) : Bool := decide (48 ≤ c.toNat ∧ c.toNat ≤ 57)
def s49 : Spec := fun args => match args with | [.int .u8 n] => some (.bool (decide (97 ≤ n ∧ n ≤ 122)), []) | _ => none
def s44 : Spec := fun args => match args with | [.int .u8 n] => some (.bool (decide (48 ≤ n ∧ n ≤ 57)), []) | _ => none
def innerB (c : UInt8) : Bool := letterB c || digitB c || c == 95
def wl : List UInt8 → Nat
  | [] => 0
  | c :: t => if letterB c then 1 + (t.takeWhile innerB).length else 0
def nA : Nat → Option Ann := fun _ => none
def a33 (bs : List UInt8) (i : Nat) : Anns := ⟨fun k => if k = 4 then some { α := Int, slots := [0,1,5], nb := 0, vals := fun n => [bytesA bs, .int .i64 i, .int .i64 n], sS := fun _ => ⟨[],[]⟩, I := fun n => ∃ k : Nat, n = k ∧ 1 ≤ k ∧ k ≤ wl (bs.drop i), μ := fun n => (bs.length - n).toNat } else none, nA⟩
def t33 : List (FuncId × Spec) := [(49,s49),(44,s44)]
end Go.Abs
