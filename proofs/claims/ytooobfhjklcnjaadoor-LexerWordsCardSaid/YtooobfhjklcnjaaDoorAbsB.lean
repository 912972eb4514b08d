/-
  What the operations do on abstract values.
-/
import Derived.Test.YtooobfhjklcnjaaDoorAbsA
namespace Go.Abs
open Go.RowKit

/-- the variables that were made, and the slices that may be appended to: their lengths and types of elements -/
structure St where
  boxes : List (Option (List AV))
  live : List (Nat × TypeId)

def absV0 : Value → AV
  | .bool b => .bool b
  | .int k n => .int k n
  | .string s => .str s.data.toList
  | .slice none 0 0 => .sl 0 [] .nil
  | .pointer none => .lit (.pointer none)
  | .nilFunc => .lit .nilFunc
  | .nilIface => .lit .nilIface
  | .map none => .lit (.map none)
  | _ => .junk
def absV : Value → AV
  | .agg cs => if cs.toList.all (·.oneCell') then .agg (cs.toList.map absV0) else .junk
  | .tuple vs => if vs.toList.isEmpty then .tup [] else .junk
  | v => absV0 v

/-- what package variables hold that nobody writes -/
abbrev Glob := Nat → Option AV

def evA (G : Glob) (T : List AV) : Operand → AV
  | .tmp t => T.getD t (.tup [])
  | .const v => absV v
  | .global g =>
    match G g with
    | some e => .elt e.cells.length [e] 0 0
    | none => .junk
  | .func f => .fn f []

def AV.strip0 : AV → AV
  | .sl sz es (.tok _) => .sl sz es .no
  | v => v
def AV.strip1 : AV → AV
  | .agg cs => .agg (cs.map AV.strip0)
  | v => v.strip0
/-- a value that lies in memory -/
def AV.plain : AV → Bool
  | .tup _ | .junk => false
  | _ => true

def aggA (P : Program) (t : TypeId) : Option Bool := (P.underlying t).map fun
  | .struct _ | .array _ _ => true
  | _ => false
def sizeA (P : Program) (t : TypeId) : Option Nat := (P.info? t).map (·.size)

def bitsA (k : IntKind) (f : BitVec k.bits → BitVec k.bits → BitVec k.bits) (a b : Int) : AV :=
  .int k (k.wrap (f (BitVec.ofInt k.bits a) (BitVec.ofInt k.bits b)).toNat)

def cmpA (op : BinOp) (a b : Int) : Option AV :=
  match op with
  | .eql => some (.bool (a == b))
  | .neq => some (.bool (a != b))
  | .lss => some (.bool (decide (a < b)))
  | .leq => some (.bool (decide (a ≤ b)))
  | .gtr => some (.bool (decide (a > b)))
  | .geq => some (.bool (decide (a ≥ b)))
  | _ => none

def intA (op : BinOp) (k : IntKind) (a b : Int) : Option AV :=
  match op with
  | .add => some (.int k (k.wrap (a + b)))
  | .sub => some (.int k (k.wrap (a - b)))
  | .mul => some (.int k (k.wrap (a * b)))
  | .quo => if b = 0 then none else some (.int k (k.wrap (a.tdiv b)))
  | .rem => if b = 0 then none else some (.int k (a.tmod b))
  | .and => some (bitsA k (· &&& ·) a b)
  | .or => some (bitsA k (· ||| ·) a b)
  | .xor => some (bitsA k (· ^^^ ·) a b)
  | .andNot => some (bitsA k (fun x y => x &&& ~~~y) a b)
  | op => cmpA op a b

def shiftA (op : BinOp) (k : IntKind) (a b : Int) : Option AV :=
  if b < 0 then none else
  match op with
  | .shl => some (.int k (k.wrap (a * 2 ^ (min b.toNat k.bits))))
  | .shr => some (.int k (a.fdiv (2 ^ (min b.toNat k.bits))))
  | _ => none

def strA (op : BinOp) (a b : List UInt8) : Option AV :=
  match op with
  | .add => if a.length + b.length ≤ 9223372036854775807 then some (.str (a ++ b)) else none
  | .eql => some (.bool (a == b))
  | .neq => some (.bool !(a == b))
  | .lss => some (.bool (Op.bytesLess a b))
  | .leq => some (.bool (Op.bytesLess a b || a == b))
  | .gtr => some (.bool !(Op.bytesLess a b || a == b))
  | .geq => some (.bool !(Op.bytesLess a b))
  | _ => none

/-- equality of two values of a type, cell by cell -/
def eqScalA (P : Program) (t : TypeId) : AV → AV → Option Bool
  | .bool a, .bool b => match P.underlying t with
    | some .bool => some (a == b)
    | _ => none
  | .int k a, .int k' b => match P.underlying t with
    | some (.int _) => if k = k' then some (a == b) else none
    | _ => none
  | .str a, .str b => match P.underlying t with
    | some .string => some (a == b)
    | _ => none
  | _, _ => none
def subA (P : Program) (t : TypeId) (cs : List AV) (off : Nat) : Option AV :=
  match aggA P t with
  | some true => (sizeA P t).map fun s => .agg ((cs.drop off).take s)
  | some false => cs[off]?
  | none => none
mutual
def eqA (P : Program) : Nat → TypeId → AV → AV → Option Bool
  | 0, _, _, _ => none
  | d + 1, t, .agg xs, .agg ys =>
    match P.underlying t with
    | some (.struct fs) => if P.stoodInHeld t then none else eqFieldsA P d xs ys fs.toList
    | _ => none
  | _ + 1, t, x, y => eqScalA P t x y
def eqFieldsA (P : Program) : Nat → List AV → List AV → List Field → Option Bool
  | _, _, _, [] => some true
  | 0, _, _, _ :: _ => none
  | d + 1, xs, ys, f :: fs =>
    if f.name = "_" then none else
    match subA P f.type xs f.offset, subA P f.type ys f.offset with
    | some x, some y =>
      match eqA P d f.type x y with
      | some true => eqFieldsA P d xs ys fs
      | some false => some false
      | none => none
    | _, _ => none
end

def eqDepth : Nat := 40
def equalA (P : Program) (t : TypeId) (x y : AV) : Option Bool :=
  match x, y with
  | .agg _, .agg _ => if P.eqGuardType P.depth t then none else eqA P eqDepth t x y
  | _, _ => eqA P eqDepth t x y

def binA (P : Program) (op : BinOp) (t : TypeId) (kc : Bool) : AV → AV → Option AV
  | .lit .nilIface, .lit .nilIface =>
    match P.underlying t, kc, op with
    | some (.interface _), true, .eql => some (.bool true)
    | some (.interface _), true, .neq => some (.bool false)
    | _, _, _ => none
  | .lit .nilIface, .ifc | .ifc, .lit .nilIface =>
    match P.underlying t, op with
    | some (.interface _), .eql => some (.bool false)
    | some (.interface _), .neq => some (.bool true)
    | _, _ => none
  | .int k a, .int k' b =>
    match op with
    | .shl | .shr => shiftA op k a b
    | op => if k = k' then intA op k a b else none
  | .str a, .str b => strA op a b
  | x, y =>
    match op with
    | .eql => (equalA P t x y).map .bool
    | .neq => (equalA P t x y).map fun b => .bool !b
    | _ => none

def unA (op : UnOp) : AV → Option AV
  | .int k n =>
    match op with
    | .neg => some (.int k (k.wrap (0 - n)))
    | .xor => some (bitsA k (· ^^^ ·) (if k.signed then -1 else k.max) n)
    | _ => none
  | .bool b =>
    match op with
    | .not => some (.bool !b)
    | _ => none
  | _ => none

def fieldAddrA (P : Program) (s : TypeId) (f : Nat) (x : AV) : Option AV :=
  match P.underlying s with
  | some (.struct fs) =>
    match fs[f]? with
    | some fd =>
      if sizeA P fd.type = some 0 ∨ sizeA P fd.type = none then none else
      match x with
      | .ptr b o => some (.ptr b (o + fd.offset))
      | .elt sz es i j => some (.elt sz es i (j + fd.offset))
      | _ => none
    | none => none
  | _ => none

def indexAddrA (P : Program) (t : TypeId) (x i : AV) : Option AV :=
  match P.underlying t, i with
  | some (.slice e), .int _ n =>
    match x with
    | .sl sz es _ => if 0 ≤ n ∧ n < es.length ∧ sizeA P e = some sz then some (.elt sz es n.toNat 0) else none
    | _ => none
  | some (.array len e), .int _ n =>
    if 0 ≤ n ∧ n < len then
      match sizeA P e, x with
      | some s, .ptr b o => some (.ptr b (o + n.toNat * s))
      | some s, .elt sz es i j => some (.elt sz es i (j + n.toNat * s))
      | _, _ => none
    else none
  | _, _ => none

def takeA (agg : Option Bool) (size : Option Nat) (cs : List AV) (o : Nat) : Option AV :=
  match agg, size with
  | some true, some s => if o + s ≤ cs.length then some (.agg ((cs.drop o).take s)) else none
  | some false, some _ => cs[o]?
  | _, _ => none

def loadA (P : Program) (S : St) (t : TypeId) : AV → Option AV
  | .ptr b o =>
    match S.boxes[b]? with
    | some (some cs) => takeA (aggA P t) (sizeA P t) cs o
    | _ => none
  | .elt _ es i j =>
    match es[i]? with
    | some e => takeA (aggA P t) (sizeA P t) e.cells j
    | none => none
  | _ => none

def spliceA (cs : List AV) (o : Nat) (xs : List AV) : List AV := cs.take o ++ xs ++ cs.drop (o + xs.length)

def storeA (P : Program) (S : St) (t : TypeId) (a x : AV) : Option St :=
  match a with
  | .ptr b o =>
    match S.boxes[b]? with
    | some (some cs) =>
      if x.plain ∧ sizeA P t = some x.cells.length ∧ o + x.cells.length ≤ cs.length then some { S with boxes := S.boxes.set b (some (spliceA cs o x.cells)) } else none
    | _ => none
  | _ => none

def fillA (place : Nat → Option (Nat × Nat)) (cells : List AV) : List (Nat × AV) → Option (List AV)
  | [] => some cells
  | (i, v) :: rest =>
    match place i with
    | none => none
    | some (off, size) =>
      if v.plain ∧ v.cells.length = size ∧ off + v.cells.length ≤ cells.length then fillA place (spliceA cells off v.cells) rest else none

def zeroA (P : Program) (t : TypeId) : Option Value := (P.info? t).bind (·.zero)

def buildA (P : Program) (t : TypeId) (parts : List (Nat × AV)) : Option AV :=
  match zeroA P t, P.underlying t with
  | some z, some (.struct fs) =>
    if z.cells.toList.all (·.oneCell') ∧ fs.toList.all (fun f => (sizeA P f.type).isSome) then
      (fillA (fun i => (fs[i]?).map fun f => (f.offset, (sizeA P f.type).getD 0)) (z.cells.toList.map absV0) parts).map .agg
    else none
  | _, _ => none

/-- the elements of a literal, all of them given in order -/
def buildSliceA (P : Program) (t : TypeId) (len : Nat) (parts : List (Nat × AV)) : Option AV :=
  match P.underlying t with
  | some (.slice e) =>
    match sizeA P e with
    | some s =>
      if parts.map (·.1) = List.range len ∧ len * s ≤ 16777216 ∧ len ≤ 16777216 ∧ (zeroA P e).isSome ∧ (parts.all fun p => p.2.strip1.closed1 && (p.2.cells.length == s)) then
        some (.sl s (parts.map fun p => p.2.strip1) .full)
      else none
    | none => none
  | _ => none

def ownAfter (o : Own) (len l h : Nat) (m : Option (Option Nat)) : Own :=
  match m with
  | some (some m) => if m = h then .full else .no
  | some none => .no
  | none =>
    match o with
    | .full => if h = len then .full else .no
    | .tok t => if l = 0 ∧ h = len then .tok t else .no
    | .no | .nil => .no

def boundA (x : Option AV) (d : Nat) : Option Nat :=
  match x with
  | none => some d
  | some (.int _ n) => if 0 ≤ n then some n.toNat else none
  | some _ => none

def sliceA (P : Program) (t : TypeId) (x : AV) (lo hi mx : Option AV) : Option AV :=
  match P.underlying t, x with
  | some .string, .str s =>
    match mx, boundA lo 0, boundA hi s.length with
    | none, some l, some h => if l ≤ h ∧ h ≤ s.length then some (.str ((s.take h).drop l)) else none
    | _, _, _ => none
  | some (.slice e), .sl sz es o =>
    match boundA lo 0, boundA hi es.length, sizeA P e with
    | some l, some h, some s =>
      if l ≤ h ∧ h ≤ es.length ∧ (s = sz ∨ es = []) then
        match mx with
        | none => some (.sl sz ((es.take h).drop l) (ownAfter o es.length l h none))
        | some (.int _ m) => if hi.isSome ∧ h ≤ m ∧ m ≤ es.length then some (.sl sz ((es.take h).drop l) (ownAfter o es.length l h (some (some m.toNat)))) else none
        | _ => none
      else none
    | _, _, _ => none
  | _, _ => none

def byteOf : AV → Option UInt8
  | .int .u8 n => some (UInt8.ofNat n.toNat)
  | _ => none

def convertA (P : Program) (src dst : TypeId) (x : AV) : Option AV :=
  match P.underlying src, P.underlying dst, x with
  | some _, some (.int k), .int _ n => some (.int k (k.wrap n))
  | some (.int _), some .string, _ => none
  | some .string, some .string, .str s => some (.str s)
  | some .string, some (.slice e), .str s =>
    match P.underlying e with
    | some (.int .u8) => if s.length ≤ 70368744177664 then some (.sl 1 (s.map fun c => .int .u8 c.toNat) .no) else none
    | _ => none
  | some (.slice e), some .string, .sl sz es _ =>
    match P.underlying e with
    | some (.int .u8) => if sz = 1 ∨ es = [] then (es.mapM byteOf).map .str else none
    | _ => none
  | _, _, _ => none

def indexA (P : Program) (t : TypeId) (x i : AV) : Option AV :=
  match P.underlying t, x, i with
  | some .string, .str s, .int _ n => if 0 ≤ n then (s[n.toNat]?).map fun c => .int .u8 c.toNat else none
  | _, _, _ => none

def lenA (P : Program) (t : TypeId) (x : AV) : Option AV :=
  match P.underlying t, x with
  | some .string, .str s => some (.int .i64 s.length)
  | some (.slice _), .sl _ es _ => some (.int .i64 es.length)
  | some (.array n _), _ => some (.int .i64 n)
  | _, _ => none

/-- what is appended, as elements -/
def srcA (P : Program) (tx : TypeId) (s : Nat) (x : AV) : Option (List AV) :=
  match P.underlying tx, x with
  | some (.slice _), .sl sz es _ => if sz = s ∨ es = [] then some es else none
  | some .string, .str l => if s = 1 then some (l.map fun c => .int .u8 c.toNat) else none
  | _, _ => none

/-- the bound on what grows -/
def roomA : Nat := 70368744177664

def appendA (P : Program) (S : St) (t tx : TypeId) (x y : AV) : Option (AV × St) :=
  match P.underlying t with
  | some (.slice e) =>
    match P.info? e, x with
    | some i, .sl sz es o =>
      if (sz = i.size ∨ es = []) ∧ 0 < i.size ∧ (i.zero.map fun z => z.cells.size) = some i.size then
        match srcA P tx i.size y with
        | some ys =>
          if (es.length + ys.length) * (i.bytes + 1) ≤ roomA then
            if ys = [] then some (.sl sz es o, S) else
            match o.weak with
            | .full => some (.sl i.size (es ++ ys) (.tok S.live.length), { S with live := S.live ++ [(es.length + ys.length, e)] })
            | .tok k =>
              match S.live[k]? with
              | some (n, e') => if n = es.length ∧ e' = e then some (.sl i.size (es ++ ys) (.tok k), { S with live := S.live.set k (es.length + ys.length, e) }) else none
              | none => none
            | .no | .nil => none
          else none
        | none => none
      else none
    | _, _ => none
  | _ => none

def makeSliceA (P : Program) (S : St) (t : TypeId) (l c : AV) : Option (AV × St) :=
  match P.underlying t, l, c with
  | some (.slice e), .int .i64 n, .int .i64 m =>
    match P.info? e with
    | some i =>
      match i.zero with
      | some z =>
        if 0 ≤ n ∧ n ≤ m ∧ m * (i.bytes + 1) ≤ roomA ∧ z.cells.size = i.size ∧ 0 < i.size ∧ (absV z).closed1 ∧ (absV z).cells.length = i.size ∧ z.cells.toList.all (·.oneCell') then
          some (.sl i.size (List.replicate n.toNat (absV z)) (.tok S.live.length), { S with live := S.live ++ [(n.toNat, e)] })
        else none
      | none => none
    | none => none
  | _, _, _ => none

/-- what a call leaves, in the caller's own numbers -/
def adopt (L : Nat) : AV → AV
  | .sl sz es (.tok _) => .sl sz es (.tok L)
  | .tup (.sl sz es (.tok _) :: vs) => .tup (.sl sz es (.tok L) :: vs)
  | r => r

def isK : Operand → Bool
  | .const _ => true
  | _ => false

def maxA : AV → AV → Option AV
  | .int k a, .int k' b => if k = k' then some (.int k (max a b)) else none
  | _, _ => none
def minA : AV → AV → Option AV
  | .int k a, .int k' b => if k = k' then some (.int k (min a b)) else none
  | _, _ => none

abbrev Callee := FuncId → List AV → Option (AV × List (Nat × TypeId))

/-- a call that may look at the caller's variables -/
abbrev ICallee := FuncId → List AV → St → Option (AV × St)
def noC : ICallee := fun _ _ _ => none

def callA (R : Callee) (S : St) (f : FuncId) (args : List AV) : Option (AV × St) :=
  if (args.map AV.strip1).all AV.closed1 then
    match R f (args.map AV.strip1) with
    | some (r, []) => some (r, S)
    | some (r, p :: lv) => some (adopt S.live.length r, { S with live := S.live ++ p :: lv })
    | none => none
  else none

def callG (R : Callee) (C : ICallee) (S : St) (f : FuncId) (args : List AV) : Option (AV × St) :=
  if (args.map AV.strip1).all AV.closed1 then callA R S f args else C f args S

def newBox (S : St) (bid : Nat) (cs : List AV) : Option (AV × St) :=
  match S.boxes[bid]? with
  | some none => some (.ptr bid 0, { S with boxes := S.boxes.set bid (some cs) })
  | _ => none

/-- one operation: its value, and what became of the variables -/
def opA (P : Program) (R : Callee) (C : ICallee) (ρ : Operand → AV) (bid : Nat) (S : St) : Op → Option (AV × St)
  | .move x | .assign x => some (ρ x, S)
  | .pick c a b =>
    match ρ c with
    | .bool t => some (if t then ρ a else ρ b, S)
    | _ => none
  | .alloc t =>
    match zeroA P t with
    | some z => if z.cells.toList.all (·.oneCell') then newBox S bid (z.cells.toList.map absV0) else none
    | none => none
  | .box _ x => if (ρ x).plain then newBox S bid (ρ x).cells else none
  | .build t parts => (buildA P t (parts.toList.map fun p => (p.1, ρ p.2))).map (·, S)
  | .buildSlice t n parts => (buildSliceA P t n (parts.toList.map fun p => (p.1, ρ p.2))).map (·, S)
  | .load t a => (loadA P S t (ρ a)).map (·, S)
  | .store t a x => (storeA P S t (ρ a) (ρ x)).map (.tup [], ·)
  | .nilCheck x =>
    match ρ x with
    | .ptr b o => some (.ptr b o, S)
    | .elt sz es i j => some (.elt sz es i j, S)
    | .fn f cap => some (.fn f cap, S)
    | _ => none
  | .binOp op t x y _ => (binA P op t (isK x || isK y) (ρ x) (ρ y)).map (·, S)
  | .makeFunc fn first captured =>
    match fn, first.toList with
    | .func f, [] => some (.fn f (captured.toList.map ρ), S)
    | _, _ => none
  | .unOp op _ x => (unA op (ρ x)).map (·, S)
  | .convert src dst x => (convertA P src dst (ρ x)).map (·, S)
  | .slice t x lo hi mx => (sliceA P t (ρ x) (lo.map ρ) (hi.map ρ) (mx.map ρ)).map (·, S)
  | .fieldAddr s x f => (fieldAddrA P s f (ρ x)).map (·, S)
  | .indexAddr t x i => (indexAddrA P t (ρ x) (ρ i)).map (·, S)
  | .index t x i => (indexA P t (ρ x) (ρ i)).map (·, S)
  | .extract t i =>
    match ρ t with
    | .tup vs => (vs[i]?).map (·, S)
    | _ => none
  | .makeSlice t l c => makeSliceA P S t (ρ l) (ρ c)
  | .call c =>
    match c.callee with
    | .builtin .len =>
      match c.argTypes.toList, c.args.toList with
      | [t], [x] => (lenA P t (ρ x)).map (·, S)
      | _, _ => none
    | .builtin .max =>
      match c.args.toList with
      | [x, y] => (maxA (ρ x) (ρ y)).map (·, S)
      | _ => none
    | .builtin .min =>
      match c.args.toList with
      | [x, y] => (minA (ρ x) (ρ y)).map (·, S)
      | _ => none
    | .builtin .append =>
      match c.argTypes.toList, c.args.toList with
      | [t, tx], [x, y] => appendA P S t tx (ρ x) (ρ y)
      | _, _ => none
    | .value f =>
      match ρ f with
      | .fn g cap => callG R C S g (c.args.toList.map ρ ++ cap)
      | _ => none
    | _ => none
  | _ => none
end Go.Abs
