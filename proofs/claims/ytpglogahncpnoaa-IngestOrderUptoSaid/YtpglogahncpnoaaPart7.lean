/- Own texts, part 7. -/
import Derived.Test.YtpglogahncpnoaaPart6

namespace Go.Abs
open Go.Proofs
/-- facts as they are told: their fields as a slice of threes -/
def unG : AV → Option FcI
  | .agg [.str src, .int .i64 seq, .int .i64 kind, .int .i64 ref, .str table, .str key, .int .i64 event, .sl sz es .no] => if sz = 3 then (unL unV es).map fun fs => ⟨src, seq, kind, ref, table, key, event, fs⟩ else none
  | _ => none
def seqOf : AV → Int
  | .agg (_ :: .int .i64 q :: _) => q
  | _ => 0
/-- the facts that stay open; the first that does not -/
def keptOpen (n : Int) (es : List AV) : List AV := es.filter fun e => !decide (seqOf e < n)
def keptIdx (n : Int) (es : List AV) : Int := if es.all (fun e => !decide (seqOf e < n)) then -1 else (es.takeWhile fun e => !decide (seqOf e < n)).length
abbrev sdC (nm : List UInt8) (nx : Int) (sz : Nat) (l : List AV) : List AV := [.str nm, .int .i64 nx, .sl sz l .no]
abbrev sdZ : List AV := [.str [], .int .i64 0, .sl 0 [] .nil]
abbrev pkD (src : List UInt8) (ack : Bool) (next : Int) (fsrc : List UInt8) (seq kind ref : Int) (tab key : List UInt8) (ev : Int) (fs : List AV) : List AV := [.str src, .bool ack, .int .i64 next, .str fsrc, .int .i64 seq, .int .i64 kind, .int .i64 ref, .str tab, .str key, .int .i64 ev, .sl 3 fs .no]
/-- the closure of Acknowledge -/
def s47 : ISpec := fun args S => match args, S with
  | [.agg [.str _, .int .i64 q, .int .i64 _, .int .i64 _, .str _, .str _, .int .i64 _, .sl sz _ .no], .ptr b o],
    ⟨[some [.str _, .int .i64 _, .sl z1 _ .no], some [.str _, .bool _, .int .i64 pn, .str _, .int .i64 _, .int .i64 _, .int .i64 _, .str _, .str _, .int .i64 _, .sl z2 _ .no], some [.str a, .int .i64 z, .sl z3 [] .nil], some [.tup [.bool f, .sl z4 _ .no]]], []⟩ =>
      if sz = 3 ∧ b = 1 ∧ o = 0 ∧ z1 = 8 ∧ z2 = 3 ∧ a.isEmpty = true ∧ z = 0 ∧ z3 = 0 ∧ f = true ∧ z4 = 8 then some (True, .bool (decide (q < pn)), S) else none
  | [.agg [.str _, .int .i64 q, .int .i64 _, .int .i64 _, .str _, .str _, .int .i64 _, .sl sz _ .no], .ptr b o],
    ⟨[some [.str _, .int .i64 _, .sl z1 _ .no], some [.str _, .bool _, .int .i64 pn, .str _, .int .i64 _, .int .i64 _, .int .i64 _, .str _, .str _, .int .i64 _, .sl z2 _ .no], some [.str a, .int .i64 z, .sl z3 [] .nil], some [.tup [.bool f, .sl z4 _ .no]], some [.str _, .int .i64 _, .int .i64 _, .int .i64 _, .str _, .str _, .int .i64 _, .sl z5 _ .no]], []⟩ =>
      if z5 = 3 ∧ sz = 3 ∧ b = 1 ∧ o = 0 ∧ z1 = 8 ∧ z2 = 3 ∧ a.isEmpty = true ∧ z = 0 ∧ z3 = 0 ∧ f = true ∧ z4 = 8 then some (True, .bool (decide (q < pn)), S) else none
  | _, _ => none
/-- IndexFunc, DeleteFunc at a mutable slice of facts -/
def s62 : ISpec := fun args S => match args, S with
  | [.ms b3 sz n, .fn g [.ptr b o]],
    ⟨[some [.str _, .int .i64 _, .sl z1 _ .no], some [.str _, .bool _, .int .i64 pn, .str _, .int .i64 _, .int .i64 _, .int .i64 _, .str _, .str _, .int .i64 _, .sl z2 _ .no], some [.str a, .int .i64 z, .sl z3 [] .nil], some [.tup [.bool f, .sl z4 es .no]]], []⟩ =>
      if b3 = 3 ∧ sz = 8 ∧ g = 47 ∧ b = 1 ∧ o = 0 ∧ z1 = 8 ∧ z2 = 3 ∧ a.isEmpty = true ∧ z = 0 ∧ z3 = 0 ∧ f = true ∧ z4 = 8 then some (((∃ l, es = fcsL l) ∧ n = es.length ∧ es.length ≤ 2000000), .int .i64 (keptIdx pn es), S) else none
  | [.sl sz [] .full, .fn g [.ptr b o]],
    ⟨[some [.str _, .int .i64 _, .sl _ _ .no], some [.str _, .bool _, .int .i64 _, .str _, .int .i64 _, .int .i64 _, .int .i64 _, .str _, .str _, .int .i64 _, .sl z2 _ .no], some [.str a, .int .i64 z, .sl z3 [] .nil]], []⟩ =>
      if sz = 8 ∧ g = 47 ∧ b = 1 ∧ o = 0 ∧ z2 = 3 ∧ a.isEmpty = true ∧ z = 0 ∧ z3 = 0 then some (True, .int .i64 (-1), S) else none
  | _, _ => none
def s46 : ISpec := fun args S => match args, S with
  | [.ms b3 sz n, .fn g [.ptr b o]],
    ⟨[some [.str nm, .int .i64 nx, .sl z1 l1 .no], some [.str src, .bool ack, .int .i64 pn, .str fsrc, .int .i64 seq, .int .i64 kind, .int .i64 ref, .str tab, .str key, .int .i64 ev, .sl z2 fs .no], some [.str a, .int .i64 z, .sl z3 [] .nil], some [.tup [.bool f, .sl z4 es .no]]], []⟩ =>
      if b3 = 3 ∧ sz = 8 ∧ g = 47 ∧ b = 1 ∧ o = 0 ∧ z1 = 8 ∧ z2 = 3 ∧ a.isEmpty = true ∧ z = 0 ∧ z3 = 0 ∧ f = true ∧ z4 = 8 then some (((∃ l, es = fcsL l) ∧ n = es.length ∧ es.length ≤ 2000000), .ms 3 8 (keptOpen pn es).length, ⟨[some (sdC nm nx 8 l1), some (pkD src ack pn fsrc seq kind ref tab key ev fs), some sdZ, some (ownC 8 (keptOpen pn es))], []⟩) else none
  | [.sl sz [] .full, .fn g [.ptr b o]],
    ⟨[some [.str _, .int .i64 _, .sl _ _ .no], some [.str _, .bool _, .int .i64 _, .str _, .int .i64 _, .int .i64 _, .int .i64 _, .str _, .str _, .int .i64 _, .sl z2 _ .no], some [.str a, .int .i64 z, .sl z3 [] .nil]], []⟩ =>
      if sz = 8 ∧ g = 47 ∧ b = 1 ∧ o = 0 ∧ z2 = 3 ∧ a.isEmpty = true ∧ z = 0 ∧ z3 = 0 then some (True, .sl sz [] .full, S) else none
  | _, _ => none
/-- Acknowledge -/
def ackBad (nm : List UInt8) (nx : Int) (src : List UInt8) (ack : Bool) (n : Int) : Bool := !ack || src != nm || decide (n < 1) || decide (nx < n)
structure SdI where
  nm : List UInt8
  nx : Int
  l : List FcI
deriving DecidableEq
def sdA (s : SdI) : AV := .agg (sdC s.nm s.nx 8 (fcsL s.l))
abbrev shFc : Sh × Option TypeId := (.val (.agg [.str, .int .i64, .int .i64, .int .i64, .str, .str, .int .i64, .sl 3 .no]), none)
def ackP (s : SdI) (src : List UInt8) (ack : Bool) (n : Int) : SdI × Int := if ackBad s.nm s.nx src ack n then (⟨[], 0, []⟩, 1) else (⟨s.nm, s.nx, s.l.filter fun f => !decide (f.seq < n)⟩, 0)
def s23 : Spec := fun args => match args with
  | [.agg [.str nm, .int .i64 nx, .sl sz es .no], .agg [.str src, .bool ack, .int .i64 n, .str _, .int .i64 _, .int .i64 _, .int .i64 _, .str _, .str _, .int .i64 _, .sl sz2 _ .no]] =>
    if (sz = 8 ∨ es = []) ∧ sz2 = 3 ∧ es.length ≤ 2000000 then (match unL unG es with
      | some l => some (.tup [sdA (ackP ⟨nm, nx, l⟩ src ack n).1, .int .i64 (ackP ⟨nm, nx, l⟩ src ack n).2], [])
      | none => none) else none
  | _ => none
/-- packet -/
abbrev pkF (f : List AV) (src : List UInt8) : AV := .agg (.str src :: .bool false :: .int .i64 0 :: f)
def s45 : Spec := fun args => match args with
  | [.agg [.str src, .int .i64 seq, .int .i64 kind, .int .i64 ref, .str table, .str key, .int .i64 event, .sl sz es .no]] => if sz = 3 then some (pkF [.str src, .int .i64 seq, .int .i64 kind, .int .i64 ref, .str table, .str key, .int .i64 event, .sl 3 es .no] src, []) else none
  | _ => none
/-- Clone of facts, where there are some -/
def s44p : Spec := fun args => match args with
  | [.sl sz (x :: es) .no] => if sz = 8 ∧ es.length ≤ 2000000 then some (.sl 8 (x :: es) (.tok 0), [(es.length + 1, 33)]) else none
  | _ => none
/-- Clone of facts, told in one form -/
def s44n : ISpec := fun args S => match args with
  | [.sl sz' es _] => if es.isEmpty then some (True, .sl 8 [] .full, S) else if sz' = 8 then some (es ≠ [] ∧ es.length * 104 ≤ 140737488355328, .ms S.boxes.length 8 es.length, { S with boxes := S.boxes ++ [some (ownC 8 es)] }) else none
  | _ => none
/-- .. of none -/
def s44z : Spec := fun args => match args with
  | [.sl _ [] _] => some (.sl 8 [] .full, [])
  | _ => none
/-- Submit -/
def subP (s : SdI) (f : FcI) : SdI × PkI × Int :=
  if maxT < s.nx then (⟨[], 0, []⟩, ⟨[], false, 0, ⟨[], 0, 0, 0, [], [], 0, []⟩⟩, 2)
  else if 64 ≤ s.l.length then (⟨[], 0, []⟩, ⟨[], false, 0, ⟨[], 0, 0, 0, [], [], 0, []⟩⟩, 410)
  else (⟨s.nm, s.nx + 1, s.l ++ [{ f with src := s.nm, seq := s.nx }]⟩, ⟨s.nm, false, 0, { f with src := s.nm, seq := s.nx }⟩, 0)
def s21 : Spec := fun args => match args with
  | [.agg [.str nm, .int .i64 nx, .sl sz es .no], .agg [.str src, .int .i64 seq, .int .i64 kind, .int .i64 ref, .str table, .str key, .int .i64 event, .sl sz2 es2 .no]] =>
    if (sz = 8 ∨ es = []) ∧ sz2 = 3 ∧ es.length ≤ 2000000 ∧ -4611686018427387904 ≤ nx then (match unL unG es, unL unV es2 with
      | some l, some fs => some (.tup [sdA (subP ⟨nm, nx, l⟩ ⟨src, seq, kind, ref, table, key, event, fs⟩).1, pkA (subP ⟨nm, nx, l⟩ ⟨src, seq, kind, ref, table, key, event, fs⟩).2.1, .int .i64 (subP ⟨nm, nx, l⟩ ⟨src, seq, kind, ref, table, key, event, fs⟩).2.2], [])
      | _, _ => none) else none
  | _ => none
/-- Resend -/
def resP (l : List FcI) : List PkI := l.map fun f => ⟨f.src, false, 0, f⟩
def s22 : Spec := fun args => match args with
  | [.agg [.str _, .int .i64 _, .sl sz es .no]] =>
    if sz = 8 ∧ es.length ≤ 2000000 then (match unL unG es with
      | some l => some (.sl 11 (pksL (resP l)) .no, [])
      | none => none) else none
  | _ => none
def XK : Shapes := fun f => match f with
  | 44 => some (.val (.one (.sl 8 (.tok 0))), some 33)
  | 45 => some (.val (.agg [.str, .bool, .int .i64, .str, .int .i64, .int .i64, .int .i64, .str, .str, .int .i64, .sl 3 .no]), none)
  | 2000033 => some shFc
  | _ => none
def XZ : Shapes := fun f => match f with
  | 44 => some (.val (.one (.sl 8 .full)), none)
  | f => XK f
structure St46 where
  j : Nat
  i : Nat
  cur : List FcI
abbrev keepF (n : Int) (f : FcI) : Bool := !decide (f.seq < n)
abbrev S4 (nm : List UInt8) (nx : Int) (l1 : List AV) (pk : List AV) (l : List FcI) : St := ⟨[some (sdC nm nx 8 l1), some pk, some sdZ, some (ownC 8 (fcsL l))], []⟩
abbrev S3 (nm : List UInt8) (nx : Int) (z1 : Nat) (l1 : List AV) (pk : List AV) : St := ⟨[some (sdC nm nx z1 l1), some pk, some sdZ], []⟩
def a46 (nm : List UInt8) (nx : Int) (l1 : List AV) (pk : List AV) (pn : Int) (l : List FcI) : Anns := ⟨fun k => if k = 5 then some { α := St46, slots := [0, 1, 5, 6], nb := 4, vals := fun n => [.ms 3 8 l.length, .fn 47 [.ptr 1 0], .int .i64 n.j, .int .i64 n.i], sS := fun n => S4 nm nx l1 pk n.cur, I := fun n => n.j < n.i ∧ n.i ≤ l.length ∧ n.cur.length = l.length ∧ n.cur.take n.j = (l.take n.i).filter (keepF pn) ∧ n.cur.drop n.i = l.drop n.i, μ := fun n => l.length - n.i } else none, nA⟩
def a62 (nm : List UInt8) (nx : Int) (l1 : List AV) (pk : List AV) (pn : Int) (l : List FcI) : Anns := ⟨fun k => if k = 2 then some { α := Nat, slots := [0, 1, 7, 8], nb := 4, vals := fun n => [.ms 3 8 l.length, .fn 47 [.ptr 1 0], .int .i64 l.length, .int .i64 n], sS := fun _ => S4 nm nx l1 pk l, I := fun n => n ≤ l.length ∧ (l.take n).all (keepF pn) = true, μ := fun n => l.length - n } else none, nA⟩
def a62e (nm : List UInt8) (nx : Int) (z1 : Nat) (l1 : List AV) (pk : List AV) : Anns := ⟨fun k => if k = 2 then some { α := Unit, slots := [0, 1, 7, 8], nb := 3, vals := fun _ => [.sl 8 [] .full, .fn 47 [.ptr 1 0], .int .i64 0, .int .i64 0], sS := fun _ => S3 nm nx z1 l1 pk, I := fun _ => True, μ := fun _ => 0 } else none, nA⟩
def a22 (nm : List UInt8) (nx : Int) (l : List FcI) : Anns := ⟨fun k => if k = 2 then some { α := Nat, slots := [1, 2, 6, 7, 8], nb := 1, vals := fun n => [.ptr 0 0, .sl 11 (pksL (resP (l.take n))) (.tok 0), .sl 8 (fcsL l) .no, .int .i64 l.length, .int .i64 n], sS := fun n => ⟨[some (sdC nm nx 8 (fcsL l))], [((resP (l.take n)).length, 35)]⟩, I := fun n => n ≤ l.length, μ := fun n => l.length - n, mint := [(2, 35)] } else none, nA⟩
end Go.Abs

namespace Go.Abs
open Go.Proofs
theorem w47 (m : Int) (nm src fsrc tab key : List UInt8) (nx pn seq kind ref ev : Int) (ack : Bool) (l1 es fs : List AV) (f1 f5 f6 : List UInt8) (f2 f3 f4 f7 : Int) (f8 : List AV) : (openW PI (GI m) XK (tbl []) (itbl []) nAn [] 47 [.agg [.str f1, .int .i64 f2, .int .i64 f3, .int .i64 f4, .str f5, .str f6, .int .i64 f7, .sl 3 f8 .no], .ptr 1 0] ⟨[some (sdC nm nx 8 l1), some (pkD src ack pn fsrc seq kind ref tab key ev fs), some sdZ, some (ownC 8 es)], []⟩ (.bool (decide (f2 < pn)), ⟨[some (sdC nm nx 8 l1), some (pkD src ack pn fsrc seq kind ref tab key ev fs), some sdZ, some (ownC 8 es)], []⟩)) =
((decide (f2 < pn) = true →
    RetOpen
      (AV.p2 (4 : Nat) (AV.bool true) &&
        boxesOk (4 : Nat)
 [some [AV.str nm, AV.int IntKind.i64 nx, AV.sl ((8 : Nat)) l1 Own.no],
 some
 [AV.str src, AV.bool ack, AV.int IntKind.i64 pn, AV.str fsrc, AV.int IntKind.i64 seq, AV.int IntKind.i64 kind, AV.int IntKind.i64 ref, AV.str tab,
 AV.str key, AV.int IntKind.i64 ev, AV.sl ((3 : Nat)) fs Own.no],
 some [AV.str [], AV.int IntKind.i64 (0 : Int), AV.sl ((0 : Nat)) [] Own.nil], some [AV.tup [AV.bool true, AV.sl ((8 : Nat)) es Own.no]]])
      (AV.bool true)
      {
        boxes :=
 [some [AV.str nm, AV.int IntKind.i64 nx, AV.sl ((8 : Nat)) l1 Own.no],
 some
 [AV.str src, AV.bool ack, AV.int IntKind.i64 pn, AV.str fsrc, AV.int IntKind.i64 seq, AV.int IntKind.i64 kind, AV.int IntKind.i64 ref, AV.str tab,
 AV.str key, AV.int IntKind.i64 ev, AV.sl ((3 : Nat)) fs Own.no],
 some [AV.str [], AV.int IntKind.i64 (0 : Int), AV.sl ((0 : Nat)) [] Own.nil], some [AV.tup [AV.bool true, AV.sl ((8 : Nat)) es Own.no]]],
        live := [] }
      (AV.bool (decide (f2 < pn)),
        { boxes := [some [AV.str nm, AV.int IntKind.i64 nx, AV.sl ((8 : Nat)) l1 Own.no], some [AV.str src, AV.bool ack, AV.int IntKind.i64 pn, AV.str fsrc, AV.int IntKind.i64 seq, AV.int IntKind.i64 kind, AV.int IntKind.i64 ref, AV.str tab, AV.str key, AV.int IntKind.i64 ev, AV.sl ((3 : Nat)) fs Own.no], some [AV.str [], AV.int IntKind.i64 (0 : Int), AV.sl ((0 : Nat)) [] Own.nil], some [AV.tup [AV.bool true, AV.sl ((8 : Nat)) es Own.no]]], live := [] })) ∧
  (decide (f2 < pn) = false →
    RetOpen
      (AV.p2 (4 : Nat) (AV.bool false) &&
        boxesOk (4 : Nat)
 [some [AV.str nm, AV.int IntKind.i64 nx, AV.sl ((8 : Nat)) l1 Own.no],
 some
 [AV.str src, AV.bool ack, AV.int IntKind.i64 pn, AV.str fsrc, AV.int IntKind.i64 seq, AV.int IntKind.i64 kind, AV.int IntKind.i64 ref, AV.str tab,
 AV.str key, AV.int IntKind.i64 ev, AV.sl ((3 : Nat)) fs Own.no],
 some [AV.str [], AV.int IntKind.i64 (0 : Int), AV.sl ((0 : Nat)) [] Own.nil], some [AV.tup [AV.bool true, AV.sl ((8 : Nat)) es Own.no]]])
      (AV.bool false)
      {
        boxes :=
 [some [AV.str nm, AV.int IntKind.i64 nx, AV.sl ((8 : Nat)) l1 Own.no],
 some
 [AV.str src, AV.bool ack, AV.int IntKind.i64 pn, AV.str fsrc, AV.int IntKind.i64 seq, AV.int IntKind.i64 kind, AV.int IntKind.i64 ref, AV.str tab,
 AV.str key, AV.int IntKind.i64 ev, AV.sl ((3 : Nat)) fs Own.no],
 some [AV.str [], AV.int IntKind.i64 (0 : Int), AV.sl ((0 : Nat)) [] Own.nil], some [AV.tup [AV.bool true, AV.sl ((8 : Nat)) es Own.no]]],
        live := [] }
      (AV.bool (decide (f2 < pn)),
        { boxes := [some [AV.str nm, AV.int IntKind.i64 nx, AV.sl ((8 : Nat)) l1 Own.no], some [AV.str src, AV.bool ack, AV.int IntKind.i64 pn, AV.str fsrc, AV.int IntKind.i64 seq, AV.int IntKind.i64 kind, AV.int IntKind.i64 ref, AV.str tab, AV.str key, AV.int IntKind.i64 ev, AV.sl ((3 : Nat)) fs Own.no], some [AV.str [], AV.int IntKind.i64 (0 : Int), AV.sl ((0 : Nat)) [] Own.nil], some [AV.tup [AV.bool true, AV.sl ((8 : Nat)) es Own.no]]], live := [] }))) := by kernel_rfl
theorem w47f (m : Int) (nm src fsrc tab key : List UInt8) (nx pn seq kind ref ev : Int) (ack : Bool) (l1 es fs : List AV) (f1 f5 f6 : List UInt8) (f2 f3 f4 f7 : Int) (f8 : List AV) (g1 g5 g6 : List UInt8) (g2 g3 g4 g7 : Int) (g8 : List AV) : (openW PI (GI m) XK (tbl []) (itbl []) nAn [] 47 [.agg [.str f1, .int .i64 f2, .int .i64 f3, .int .i64 f4, .str f5, .str f6, .int .i64 f7, .sl 3 f8 .no], .ptr 1 0] ⟨[some (sdC nm nx 8 l1), some (pkD src ack pn fsrc seq kind ref tab key ev fs), some sdZ, some (ownC 8 es), some [.str g1, .int .i64 g2, .int .i64 g3, .int .i64 g4, .str g5, .str g6, .int .i64 g7, .sl 3 g8 .no]], []⟩ (.bool (decide (f2 < pn)), ⟨[some (sdC nm nx 8 l1), some (pkD src ack pn fsrc seq kind ref tab key ev fs), some sdZ, some (ownC 8 es), some [.str g1, .int .i64 g2, .int .i64 g3, .int .i64 g4, .str g5, .str g6, .int .i64 g7, .sl 3 g8 .no]], []⟩)) =
((decide (f2 < pn) = true →
    RetOpen
      (AV.p2 (5 : Nat) (AV.bool true) &&
        boxesOk (5 : Nat)
 [some [AV.str nm, AV.int IntKind.i64 nx, AV.sl ((8 : Nat)) l1 Own.no],
 some
 [AV.str src, AV.bool ack, AV.int IntKind.i64 pn, AV.str fsrc, AV.int IntKind.i64 seq, AV.int IntKind.i64 kind, AV.int IntKind.i64 ref, AV.str tab,
 AV.str key, AV.int IntKind.i64 ev, AV.sl ((3 : Nat)) fs Own.no],
 some [AV.str [], AV.int IntKind.i64 (0 : Int), AV.sl ((0 : Nat)) [] Own.nil], some [AV.tup [AV.bool true, AV.sl ((8 : Nat)) es Own.no]],
 some
 [AV.str g1, AV.int IntKind.i64 g2, AV.int IntKind.i64 g3, AV.int IntKind.i64 g4, AV.str g5, AV.str g6, AV.int IntKind.i64 g7,
 AV.sl ((3 : Nat)) g8 Own.no]])
      (AV.bool true)
      {
        boxes :=
 [some [AV.str nm, AV.int IntKind.i64 nx, AV.sl ((8 : Nat)) l1 Own.no],
 some
 [AV.str src, AV.bool ack, AV.int IntKind.i64 pn, AV.str fsrc, AV.int IntKind.i64 seq, AV.int IntKind.i64 kind, AV.int IntKind.i64 ref, AV.str tab,
 AV.str key, AV.int IntKind.i64 ev, AV.sl ((3 : Nat)) fs Own.no],
 some [AV.str [], AV.int IntKind.i64 (0 : Int), AV.sl ((0 : Nat)) [] Own.nil], some [AV.tup [AV.bool true, AV.sl ((8 : Nat)) es Own.no]],
 some
 [AV.str g1, AV.int IntKind.i64 g2, AV.int IntKind.i64 g3, AV.int IntKind.i64 g4, AV.str g5, AV.str g6, AV.int IntKind.i64 g7,
 AV.sl ((3 : Nat)) g8 Own.no]],
        live := [] }
      (AV.bool (decide (f2 < pn)),
        { boxes := [some [AV.str nm, AV.int IntKind.i64 nx, AV.sl ((8 : Nat)) l1 Own.no], some [AV.str src, AV.bool ack, AV.int IntKind.i64 pn, AV.str fsrc, AV.int IntKind.i64 seq, AV.int IntKind.i64 kind, AV.int IntKind.i64 ref, AV.str tab, AV.str key, AV.int IntKind.i64 ev, AV.sl ((3 : Nat)) fs Own.no], some [AV.str [], AV.int IntKind.i64 (0 : Int), AV.sl ((0 : Nat)) [] Own.nil], some [AV.tup [AV.bool true, AV.sl ((8 : Nat)) es Own.no]], some [AV.str g1, AV.int IntKind.i64 g2, AV.int IntKind.i64 g3, AV.int IntKind.i64 g4, AV.str g5, AV.str g6, AV.int IntKind.i64 g7, AV.sl ((3 : Nat)) g8 Own.no]], live := [] })) ∧
  (decide (f2 < pn) = false →
    RetOpen
      (AV.p2 (5 : Nat) (AV.bool false) &&
        boxesOk (5 : Nat)
 [some [AV.str nm, AV.int IntKind.i64 nx, AV.sl ((8 : Nat)) l1 Own.no],
 some
 [AV.str src, AV.bool ack, AV.int IntKind.i64 pn, AV.str fsrc, AV.int IntKind.i64 seq, AV.int IntKind.i64 kind, AV.int IntKind.i64 ref, AV.str tab,
 AV.str key, AV.int IntKind.i64 ev, AV.sl ((3 : Nat)) fs Own.no],
 some [AV.str [], AV.int IntKind.i64 (0 : Int), AV.sl ((0 : Nat)) [] Own.nil], some [AV.tup [AV.bool true, AV.sl ((8 : Nat)) es Own.no]],
 some
 [AV.str g1, AV.int IntKind.i64 g2, AV.int IntKind.i64 g3, AV.int IntKind.i64 g4, AV.str g5, AV.str g6, AV.int IntKind.i64 g7,
 AV.sl ((3 : Nat)) g8 Own.no]])
      (AV.bool false)
      {
        boxes :=
 [some [AV.str nm, AV.int IntKind.i64 nx, AV.sl ((8 : Nat)) l1 Own.no],
 some
 [AV.str src, AV.bool ack, AV.int IntKind.i64 pn, AV.str fsrc, AV.int IntKind.i64 seq, AV.int IntKind.i64 kind, AV.int IntKind.i64 ref, AV.str tab,
 AV.str key, AV.int IntKind.i64 ev, AV.sl ((3 : Nat)) fs Own.no],
 some [AV.str [], AV.int IntKind.i64 (0 : Int), AV.sl ((0 : Nat)) [] Own.nil], some [AV.tup [AV.bool true, AV.sl ((8 : Nat)) es Own.no]],
 some
 [AV.str g1, AV.int IntKind.i64 g2, AV.int IntKind.i64 g3, AV.int IntKind.i64 g4, AV.str g5, AV.str g6, AV.int IntKind.i64 g7,
 AV.sl ((3 : Nat)) g8 Own.no]],
        live := [] }
      (AV.bool (decide (f2 < pn)),
        { boxes := [some [AV.str nm, AV.int IntKind.i64 nx, AV.sl ((8 : Nat)) l1 Own.no], some [AV.str src, AV.bool ack, AV.int IntKind.i64 pn, AV.str fsrc, AV.int IntKind.i64 seq, AV.int IntKind.i64 kind, AV.int IntKind.i64 ref, AV.str tab, AV.str key, AV.int IntKind.i64 ev, AV.sl ((3 : Nat)) fs Own.no], some [AV.str [], AV.int IntKind.i64 (0 : Int), AV.sl ((0 : Nat)) [] Own.nil], some [AV.tup [AV.bool true, AV.sl ((8 : Nat)) es Own.no]], some [AV.str g1, AV.int IntKind.i64 g2, AV.int IntKind.i64 g3, AV.int IntKind.i64 g4, AV.str g5, AV.str g6, AV.int IntKind.i64 g7, AV.sl ((3 : Nat)) g8 Own.no]], live := [] }))) := by kernel_rfl
theorem w62 (m : Int) (nm src fsrc tab key : List UInt8) (nx pn seq kind ref ev : Int) (ack : Bool) (l1 fs : List AV) (l : List FcI) : (openW PI (GI m) XK (tbl []) (itbl [(47, s47)]) (a62 nm nx l1 (pkD src ack pn fsrc seq kind ref tab key ev fs) pn l) [] 62 [.ms 3 8 l.length, .fn 47 [.ptr 1 0]] (S4 nm nx l1 (pkD src ack pn fsrc seq kind ref tab key ev fs) l) (.int .i64 (keptIdx pn (fcsL l)), S4 nm nx l1 (pkD src ack pn fsrc seq kind ref tab key ev fs) l)) =
((∃ (y : Nat),
    ValsAre
        [AV.ms ((3 : Nat)) ((8 : Nat)) l.length, AV.fn ((47 : Nat)) [AV.ptr ((1 : Nat)) ((0 : Nat))], AV.int IntKind.i64 (↑l.length : Int),
 AV.int IntKind.i64 (0 : Int)]
        [AV.ms ((3 : Nat)) ((8 : Nat)) l.length, AV.fn ((47 : Nat)) [AV.ptr ((1 : Nat)) ((0 : Nat))], AV.int IntKind.i64 (↑l.length : Int),
 AV.int IntKind.i64 (↑y : Int)] ∧
      StIs
 { boxes := [some [AV.str nm, AV.int IntKind.i64 nx, AV.sl ((8 : Nat)) l1 Own.no], some [AV.str src, AV.bool ack, AV.int IntKind.i64 pn, AV.str fsrc, AV.int IntKind.i64 seq, AV.int IntKind.i64 kind, AV.int IntKind.i64 ref, AV.str tab, AV.str key, AV.int IntKind.i64 ev, AV.sl ((3 : Nat)) fs Own.no], some [AV.str [], AV.int IntKind.i64 (0 : Int), AV.sl ((0 : Nat)) [] Own.nil], some [AV.tup [AV.bool true, AV.sl ((8 : Nat)) (fcsL l) Own.no]]], live := [] }
 { boxes := [some [AV.str nm, AV.int IntKind.i64 nx, AV.sl ((8 : Nat)) l1 Own.no], some [AV.str src, AV.bool ack, AV.int IntKind.i64 pn, AV.str fsrc, AV.int IntKind.i64 seq, AV.int IntKind.i64 kind, AV.int IntKind.i64 ref, AV.str tab, AV.str key, AV.int IntKind.i64 ev, AV.sl ((3 : Nat)) fs Own.no], some [AV.str [], AV.int IntKind.i64 (0 : Int), AV.sl ((0 : Nat)) [] Own.nil], some [AV.tup [AV.bool true, AV.sl ((8 : Nat)) (fcsL l) Own.no]]], live := [] } ∧
        (y ≤ l.length ∧ (List.take y l).all (keepF pn) = true) ∧ True) ∧
  ∀ (x : Nat),
    x ≤ l.length ∧ (List.take x l).all (keepF pn) = true →
      (decide ((↑x : Int) < (↑l.length : Int)) = true →
 ((0 : Int) ≤ (↑x : Int) ∧ (↑x : Int) < (↑l.length : Int)) ∧
 ∃ (s : List UInt8),
 ∃ (n : Int),
 ∃ (n_1 : Int),
 ∃ (n_2 : Int),
 ∃ (s_1 : List UInt8),
 ∃ (s_2 : List UInt8),
 ∃ (n_3 : Int),
 ∃ (es : List AV),
 takeAt PI ((33 : Nat)) (fcsL l) (↑x : Int).toNat ((0 : Nat)) =
 some
 (AV.agg
 [AV.str s, AV.int IntKind.i64 n, AV.int IntKind.i64 n_1, AV.int IntKind.i64 n_2, AV.str s_1, AV.str s_2,
 AV.int IntKind.i64 n_3, AV.sl ((3 : Nat)) es Own.no]) ∧
 True ∧
 (decide (n < pn) = true →
 RetOpen
 (AV.p2 (4 : Nat) (AV.int IntKind.i64 (↑x : Int)) &&
 boxesOk (4 : Nat)
 [some [AV.str nm, AV.int IntKind.i64 nx, AV.sl ((8 : Nat)) l1 Own.no],
 some
 [AV.str src, AV.bool ack, AV.int IntKind.i64 pn, AV.str fsrc, AV.int IntKind.i64 seq, AV.int IntKind.i64 kind,
 AV.int IntKind.i64 ref, AV.str tab, AV.str key, AV.int IntKind.i64 ev, AV.sl ((3 : Nat)) fs Own.no],
 some [AV.str [], AV.int IntKind.i64 (0 : Int), AV.sl ((0 : Nat)) [] Own.nil],
 some [AV.tup [AV.bool true, AV.sl ((8 : Nat)) (fcsL l) Own.no]]])
 (AV.int IntKind.i64 (↑x : Int))
 { boxes := [some [AV.str nm, AV.int IntKind.i64 nx, AV.sl ((8 : Nat)) l1 Own.no], some [AV.str src, AV.bool ack, AV.int IntKind.i64 pn, AV.str fsrc, AV.int IntKind.i64 seq, AV.int IntKind.i64 kind, AV.int IntKind.i64 ref, AV.str tab, AV.str key, AV.int IntKind.i64 ev, AV.sl ((3 : Nat)) fs Own.no], some [AV.str [], AV.int IntKind.i64 (0 : Int), AV.sl ((0 : Nat)) [] Own.nil], some [AV.tup [AV.bool true, AV.sl ((8 : Nat)) (fcsL l) Own.no]]], live := [] }
 (AV.int IntKind.i64 (keptIdx pn (fcsL l)),
 { boxes := [some [AV.str nm, AV.int IntKind.i64 nx, AV.sl ((8 : Nat)) l1 Own.no], some [AV.str src, AV.bool ack, AV.int IntKind.i64 pn, AV.str fsrc, AV.int IntKind.i64 seq, AV.int IntKind.i64 kind, AV.int IntKind.i64 ref, AV.str tab, AV.str key, AV.int IntKind.i64 ev, AV.sl ((3 : Nat)) fs Own.no], some [AV.str [], AV.int IntKind.i64 (0 : Int), AV.sl ((0 : Nat)) [] Own.nil], some [AV.tup [AV.bool true, AV.sl ((8 : Nat)) (fcsL l) Own.no]]], live := [] })) ∧
 (decide (n < pn) = false →
 ∃ (y : Nat),
 ValsAre
 [AV.ms ((3 : Nat)) ((8 : Nat)) l.length, AV.fn ((47 : Nat)) [AV.ptr ((1 : Nat)) ((0 : Nat))],
 AV.int IntKind.i64 (↑l.length : Int), AV.int IntKind.i64 (IntKind.i64.wrap ((↑x : Int) + (1 : Int)))]
 [AV.ms ((3 : Nat)) ((8 : Nat)) l.length, AV.fn ((47 : Nat)) [AV.ptr ((1 : Nat)) ((0 : Nat))],
 AV.int IntKind.i64 (↑l.length : Int), AV.int IntKind.i64 (↑y : Int)] ∧
 StIs
 { boxes := [some [AV.str nm, AV.int IntKind.i64 nx, AV.sl ((8 : Nat)) l1 Own.no], some [AV.str src, AV.bool ack, AV.int IntKind.i64 pn, AV.str fsrc, AV.int IntKind.i64 seq, AV.int IntKind.i64 kind, AV.int IntKind.i64 ref, AV.str tab, AV.str key, AV.int IntKind.i64 ev, AV.sl ((3 : Nat)) fs Own.no], some [AV.str [], AV.int IntKind.i64 (0 : Int), AV.sl ((0 : Nat)) [] Own.nil], some [AV.tup [AV.bool true, AV.sl ((8 : Nat)) (fcsL l) Own.no]]], live := [] }
 { boxes := [some [AV.str nm, AV.int IntKind.i64 nx, AV.sl ((8 : Nat)) l1 Own.no], some [AV.str src, AV.bool ack, AV.int IntKind.i64 pn, AV.str fsrc, AV.int IntKind.i64 seq, AV.int IntKind.i64 kind, AV.int IntKind.i64 ref, AV.str tab, AV.str key, AV.int IntKind.i64 ev, AV.sl ((3 : Nat)) fs Own.no], some [AV.str [], AV.int IntKind.i64 (0 : Int), AV.sl ((0 : Nat)) [] Own.nil], some [AV.tup [AV.bool true, AV.sl ((8 : Nat)) (fcsL l) Own.no]]], live := [] } ∧
 (y ≤ l.length ∧ (List.take y l).all (keepF pn) = true) ∧ l.length - y < l.length - x)) ∧
        (decide ((↑x : Int) < (↑l.length : Int)) = false →
 RetOpen
 (AV.p2 (4 : Nat) (AV.int IntKind.i64 (-1 : Int)) &&
 boxesOk (4 : Nat)
 [some [AV.str nm, AV.int IntKind.i64 nx, AV.sl ((8 : Nat)) l1 Own.no],
 some
 [AV.str src, AV.bool ack, AV.int IntKind.i64 pn, AV.str fsrc, AV.int IntKind.i64 seq, AV.int IntKind.i64 kind, AV.int IntKind.i64 ref,
 AV.str tab, AV.str key, AV.int IntKind.i64 ev, AV.sl ((3 : Nat)) fs Own.no],
 some [AV.str [], AV.int IntKind.i64 (0 : Int), AV.sl ((0 : Nat)) [] Own.nil],
 some [AV.tup [AV.bool true, AV.sl ((8 : Nat)) (fcsL l) Own.no]]])
 (AV.int IntKind.i64 (-1 : Int))
 { boxes := [some [AV.str nm, AV.int IntKind.i64 nx, AV.sl ((8 : Nat)) l1 Own.no], some [AV.str src, AV.bool ack, AV.int IntKind.i64 pn, AV.str fsrc, AV.int IntKind.i64 seq, AV.int IntKind.i64 kind, AV.int IntKind.i64 ref, AV.str tab, AV.str key, AV.int IntKind.i64 ev, AV.sl ((3 : Nat)) fs Own.no], some [AV.str [], AV.int IntKind.i64 (0 : Int), AV.sl ((0 : Nat)) [] Own.nil], some [AV.tup [AV.bool true, AV.sl ((8 : Nat)) (fcsL l) Own.no]]], live := [] }
 (AV.int IntKind.i64 (keptIdx pn (fcsL l)),
 { boxes := [some [AV.str nm, AV.int IntKind.i64 nx, AV.sl ((8 : Nat)) l1 Own.no], some [AV.str src, AV.bool ack, AV.int IntKind.i64 pn, AV.str fsrc, AV.int IntKind.i64 seq, AV.int IntKind.i64 kind, AV.int IntKind.i64 ref, AV.str tab, AV.str key, AV.int IntKind.i64 ev, AV.sl ((3 : Nat)) fs Own.no], some [AV.str [], AV.int IntKind.i64 (0 : Int), AV.sl ((0 : Nat)) [] Own.nil], some [AV.tup [AV.bool true, AV.sl ((8 : Nat)) (fcsL l) Own.no]]], live := [] }))) := by kernel_rfl
theorem w62e (m : Int) (z1 : Nat) (nm src fsrc tab key : List UInt8) (nx pn seq kind ref ev : Int) (ack : Bool) (l1 fs : List AV) : (openW PI (GI m) XK (tbl []) (itbl [(47, s47)]) (a62e nm nx z1 l1 (pkD src ack pn fsrc seq kind ref tab key ev fs)) [] 62 [.sl 8 [] .full, .fn 47 [.ptr 1 0]] (S3 nm nx z1 l1 (pkD src ack pn fsrc seq kind ref tab key ev fs)) (.int .i64 (-1), S3 nm nx z1 l1 (pkD src ack pn fsrc seq kind ref tab key ev fs))) =
((∃ (_y : Unit),
    ValsAre [AV.sl ((8 : Nat)) [] Own.full, AV.fn ((47 : Nat)) [AV.ptr ((1 : Nat)) ((0 : Nat))], AV.int IntKind.i64 (0 : Int), AV.int IntKind.i64 (0 : Int)]
        [AV.sl ((8 : Nat)) [] Own.full, AV.fn ((47 : Nat)) [AV.ptr ((1 : Nat)) ((0 : Nat))], AV.int IntKind.i64 (0 : Int), AV.int IntKind.i64 (0 : Int)] ∧
      StIs
 { boxes := [some [AV.str nm, AV.int IntKind.i64 nx, AV.sl z1 l1 Own.no], some [AV.str src, AV.bool ack, AV.int IntKind.i64 pn, AV.str fsrc, AV.int IntKind.i64 seq, AV.int IntKind.i64 kind, AV.int IntKind.i64 ref, AV.str tab, AV.str key, AV.int IntKind.i64 ev, AV.sl ((3 : Nat)) fs Own.no], some [AV.str [], AV.int IntKind.i64 (0 : Int), AV.sl ((0 : Nat)) [] Own.nil]], live := [] }
 { boxes := [some [AV.str nm, AV.int IntKind.i64 nx, AV.sl z1 l1 Own.no], some [AV.str src, AV.bool ack, AV.int IntKind.i64 pn, AV.str fsrc, AV.int IntKind.i64 seq, AV.int IntKind.i64 kind, AV.int IntKind.i64 ref, AV.str tab, AV.str key, AV.int IntKind.i64 ev, AV.sl ((3 : Nat)) fs Own.no], some [AV.str [], AV.int IntKind.i64 (0 : Int), AV.sl ((0 : Nat)) [] Own.nil]], live := [] } ∧
        True ∧ True) ∧
  ∀ (_x : Unit),
    True →
      (false = true →
 ((0 : Int) ≤ (0 : Int) ∧ (0 : Int) < (0 : Int)) ∧
 ∃ (s : List UInt8),
 ∃ (n : Int),
 ∃ (n_1 : Int),
 ∃ (n_2 : Int),
 ∃ (s_1 : List UInt8),
 ∃ (s_2 : List UInt8),
 ∃ (n_3 : Int),
 ∃ (es : List AV),
 none =
 some
 (AV.agg
 [AV.str s, AV.int IntKind.i64 n, AV.int IntKind.i64 n_1, AV.int IntKind.i64 n_2, AV.str s_1, AV.str s_2,
 AV.int IntKind.i64 n_3, AV.sl ((3 : Nat)) es Own.no]) ∧
 False) ∧
        (false = false →
 RetOpen
 (AV.p2 (3 : Nat) (AV.int IntKind.i64 (-1 : Int)) &&
 boxesOk (3 : Nat)
 [some [AV.str nm, AV.int IntKind.i64 nx, AV.sl z1 l1 Own.no],
 some
 [AV.str src, AV.bool ack, AV.int IntKind.i64 pn, AV.str fsrc, AV.int IntKind.i64 seq, AV.int IntKind.i64 kind, AV.int IntKind.i64 ref,
 AV.str tab, AV.str key, AV.int IntKind.i64 ev, AV.sl ((3 : Nat)) fs Own.no],
 some [AV.str [], AV.int IntKind.i64 (0 : Int), AV.sl ((0 : Nat)) [] Own.nil]])
 (AV.int IntKind.i64 (-1 : Int))
 { boxes := [some [AV.str nm, AV.int IntKind.i64 nx, AV.sl z1 l1 Own.no], some [AV.str src, AV.bool ack, AV.int IntKind.i64 pn, AV.str fsrc, AV.int IntKind.i64 seq, AV.int IntKind.i64 kind, AV.int IntKind.i64 ref, AV.str tab, AV.str key, AV.int IntKind.i64 ev, AV.sl ((3 : Nat)) fs Own.no], some [AV.str [], AV.int IntKind.i64 (0 : Int), AV.sl ((0 : Nat)) [] Own.nil]], live := [] }
 (AV.int IntKind.i64 (-1 : Int),
 { boxes := [some [AV.str nm, AV.int IntKind.i64 nx, AV.sl z1 l1 Own.no], some [AV.str src, AV.bool ack, AV.int IntKind.i64 pn, AV.str fsrc, AV.int IntKind.i64 seq, AV.int IntKind.i64 kind, AV.int IntKind.i64 ref, AV.str tab, AV.str key, AV.int IntKind.i64 ev, AV.sl ((3 : Nat)) fs Own.no], some [AV.str [], AV.int IntKind.i64 (0 : Int), AV.sl ((0 : Nat)) [] Own.nil]], live := [] }))) := by kernel_rfl
theorem w46 (m : Int) (nm src fsrc tab key : List UInt8) (nx pn seq kind ref ev : Int) (ack : Bool) (l1 fs : List AV) (l : List FcI) : (openW PI (GI m) XK (tbl []) (itbl [(47, s47), (62, s62)]) (a46 nm nx l1 (pkD src ack pn fsrc seq kind ref tab key ev fs) pn l) [] 46 [.ms 3 8 l.length, .fn 47 [.ptr 1 0]] (S4 nm nx l1 (pkD src ack pn fsrc seq kind ref tab key ev fs) l) (.ms 3 8 (keptOpen pn (fcsL l)).length, ⟨[some (sdC nm nx 8 l1), some (pkD src ack pn fsrc seq kind ref tab key ev fs), some sdZ, some (ownC 8 (keptOpen pn (fcsL l)))], []⟩)) =
(((∃ (l_1 : List FcI), fcsL l = fcsL l_1) ∧ l.length = (fcsL l).length ∧ (fcsL l).length ≤ (2000000 : Nat)) ∧
  ((keptIdx pn (fcsL l) == (-1 : Int)) = true →
      RetOpen
        (AV.p2 (4 : Nat) (AV.ms ((3 : Nat)) ((8 : Nat)) l.length) &&
 boxesOk (4 : Nat)
 [some [AV.str nm, AV.int IntKind.i64 nx, AV.sl ((8 : Nat)) l1 Own.no],
 some
 [AV.str src, AV.bool ack, AV.int IntKind.i64 pn, AV.str fsrc, AV.int IntKind.i64 seq, AV.int IntKind.i64 kind, AV.int IntKind.i64 ref,
 AV.str tab, AV.str key, AV.int IntKind.i64 ev, AV.sl ((3 : Nat)) fs Own.no],
 some [AV.str [], AV.int IntKind.i64 (0 : Int), AV.sl ((0 : Nat)) [] Own.nil], some [AV.tup [AV.bool true, AV.sl ((8 : Nat)) (fcsL l) Own.no]]])
        (AV.ms ((3 : Nat)) ((8 : Nat)) l.length)
        { boxes := [some [AV.str nm, AV.int IntKind.i64 nx, AV.sl ((8 : Nat)) l1 Own.no], some [AV.str src, AV.bool ack, AV.int IntKind.i64 pn, AV.str fsrc, AV.int IntKind.i64 seq, AV.int IntKind.i64 kind, AV.int IntKind.i64 ref, AV.str tab, AV.str key, AV.int IntKind.i64 ev, AV.sl ((3 : Nat)) fs Own.no], some [AV.str [], AV.int IntKind.i64 (0 : Int), AV.sl ((0 : Nat)) [] Own.nil], some [AV.tup [AV.bool true, AV.sl ((8 : Nat)) (fcsL l) Own.no]]], live := [] }
        (AV.ms ((3 : Nat)) ((8 : Nat)) (keptOpen pn (fcsL l)).length,
 { boxes := [some [AV.str nm, AV.int IntKind.i64 nx, AV.sl ((8 : Nat)) l1 Own.no], some [AV.str src, AV.bool ack, AV.int IntKind.i64 pn, AV.str fsrc, AV.int IntKind.i64 seq, AV.int IntKind.i64 kind, AV.int IntKind.i64 ref, AV.str tab, AV.str key, AV.int IntKind.i64 ev, AV.sl ((3 : Nat)) fs Own.no], some [AV.str [], AV.int IntKind.i64 (0 : Int), AV.sl ((0 : Nat)) [] Own.nil], some [AV.tup [AV.bool true, AV.sl ((8 : Nat)) (keptOpen pn (fcsL l)) Own.no]]], live := [] })) ∧
    ((keptIdx pn (fcsL l) == (-1 : Int)) = false →
      (∃ (y : St46),
 ValsAre
 [AV.ms ((3 : Nat)) ((8 : Nat)) l.length, AV.fn ((47 : Nat)) [AV.ptr ((1 : Nat)) ((0 : Nat))], AV.int IntKind.i64 (keptIdx pn (fcsL l)),
 AV.int IntKind.i64 (IntKind.i64.wrap (keptIdx pn (fcsL l) + (1 : Int)))]
 [AV.ms ((3 : Nat)) ((8 : Nat)) l.length, AV.fn ((47 : Nat)) [AV.ptr ((1 : Nat)) ((0 : Nat))], AV.int IntKind.i64 (↑y.j : Int),
 AV.int IntKind.i64 (↑y.i : Int)] ∧
 StIs
 { boxes := [some [AV.str nm, AV.int IntKind.i64 nx, AV.sl ((8 : Nat)) l1 Own.no], some [AV.str src, AV.bool ack, AV.int IntKind.i64 pn, AV.str fsrc, AV.int IntKind.i64 seq, AV.int IntKind.i64 kind, AV.int IntKind.i64 ref, AV.str tab, AV.str key, AV.int IntKind.i64 ev, AV.sl ((3 : Nat)) fs Own.no], some [AV.str [], AV.int IntKind.i64 (0 : Int), AV.sl ((0 : Nat)) [] Own.nil], some [AV.tup [AV.bool true, AV.sl ((8 : Nat)) (fcsL l) Own.no]]], live := [] }
 { boxes := [some [AV.str nm, AV.int IntKind.i64 nx, AV.sl ((8 : Nat)) l1 Own.no], some [AV.str src, AV.bool ack, AV.int IntKind.i64 pn, AV.str fsrc, AV.int IntKind.i64 seq, AV.int IntKind.i64 kind, AV.int IntKind.i64 ref, AV.str tab, AV.str key, AV.int IntKind.i64 ev, AV.sl ((3 : Nat)) fs Own.no], some [AV.str [], AV.int IntKind.i64 (0 : Int), AV.sl ((0 : Nat)) [] Own.nil], some [AV.tup [AV.bool true, AV.sl ((8 : Nat)) (fcsL y.cur) Own.no]]], live := [] } ∧
 (y.j < y.i ∧
 y.i ≤ l.length ∧
 y.cur.length = l.length ∧ List.take y.j y.cur = List.filter (keepF pn) (List.take y.i l) ∧ List.drop y.i y.cur = List.drop y.i l) ∧
 True) ∧
        ∀ (x : St46),
 x.j < x.i ∧
 x.i ≤ l.length ∧
 x.cur.length = l.length ∧ List.take x.j x.cur = List.filter (keepF pn) (List.take x.i l) ∧ List.drop x.i x.cur = List.drop x.i l →
 (decide ((↑x.i : Int) < (↑l.length : Int)) = true →
 ((0 : Int) ≤ (↑x.i : Int) ∧ (↑x.i : Int) < (↑l.length : Int)) ∧
 ∃ (s : List UInt8),
 ∃ (n : Int),
 ∃ (n_1 : Int),
 ∃ (n_2 : Int),
 ∃ (s_1 : List UInt8),
 ∃ (s_2 : List UInt8),
 ∃ (n_3 : Int),
 ∃ (es : List AV),
 takeAt PI ((33 : Nat)) (fcsL x.cur) (↑x.i : Int).toNat ((0 : Nat)) =
 some
 (AV.agg
 [AV.str s, AV.int IntKind.i64 n, AV.int IntKind.i64 n_1, AV.int IntKind.i64 n_2, AV.str s_1, AV.str s_2,
 AV.int IntKind.i64 n_3, AV.sl ((3 : Nat)) es Own.no]) ∧
 True ∧
 (decide (n < pn) = true →
 ∃ (y : St46),
 ValsAre
 [AV.ms ((3 : Nat)) ((8 : Nat)) l.length, AV.fn ((47 : Nat)) [AV.ptr ((1 : Nat)) ((0 : Nat))],
 AV.int IntKind.i64 (↑x.j : Int), AV.int IntKind.i64 (IntKind.i64.wrap ((↑x.i : Int) + (1 : Int)))]
 [AV.ms ((3 : Nat)) ((8 : Nat)) l.length, AV.fn ((47 : Nat)) [AV.ptr ((1 : Nat)) ((0 : Nat))],
 AV.int IntKind.i64 (↑y.j : Int), AV.int IntKind.i64 (↑y.i : Int)] ∧
 StIs
 { boxes := [some [AV.str nm, AV.int IntKind.i64 nx, AV.sl ((8 : Nat)) l1 Own.no], some [AV.str src, AV.bool ack, AV.int IntKind.i64 pn, AV.str fsrc, AV.int IntKind.i64 seq, AV.int IntKind.i64 kind, AV.int IntKind.i64 ref, AV.str tab, AV.str key, AV.int IntKind.i64 ev, AV.sl ((3 : Nat)) fs Own.no], some [AV.str [], AV.int IntKind.i64 (0 : Int), AV.sl ((0 : Nat)) [] Own.nil], some [AV.tup [AV.bool true, AV.sl ((8 : Nat)) (fcsL x.cur) Own.no]]], live := [] }
 { boxes := [some [AV.str nm, AV.int IntKind.i64 nx, AV.sl ((8 : Nat)) l1 Own.no], some [AV.str src, AV.bool ack, AV.int IntKind.i64 pn, AV.str fsrc, AV.int IntKind.i64 seq, AV.int IntKind.i64 kind, AV.int IntKind.i64 ref, AV.str tab, AV.str key, AV.int IntKind.i64 ev, AV.sl ((3 : Nat)) fs Own.no], some [AV.str [], AV.int IntKind.i64 (0 : Int), AV.sl ((0 : Nat)) [] Own.nil], some [AV.tup [AV.bool true, AV.sl ((8 : Nat)) (fcsL y.cur) Own.no]]], live := [] } ∧
 (y.j < y.i ∧
 y.i ≤ l.length ∧
 y.cur.length = l.length ∧
 List.take y.j y.cur = List.filter (keepF pn) (List.take y.i l) ∧
 List.drop y.i y.cur = List.drop y.i l) ∧
 l.length - y.i < l.length - x.i) ∧
 (decide (n < pn) = false →
 ((0 : Int) ≤ (↑x.j : Int) ∧ (↑x.j : Int) < (↑l.length : Int)) ∧
 (↑x.j : Int).toNat < (fcsL x.cur).length ∧
 ∃ (y : St46),
 ValsAre
 [AV.ms ((3 : Nat)) ((8 : Nat)) l.length, AV.fn ((47 : Nat)) [AV.ptr ((1 : Nat)) ((0 : Nat))],
 AV.int IntKind.i64 (IntKind.i64.wrap ((↑x.j : Int) + (1 : Int))),
 AV.int IntKind.i64 (IntKind.i64.wrap ((↑x.i : Int) + (1 : Int)))]
 [AV.ms ((3 : Nat)) ((8 : Nat)) l.length, AV.fn ((47 : Nat)) [AV.ptr ((1 : Nat)) ((0 : Nat))],
 AV.int IntKind.i64 (↑y.j : Int), AV.int IntKind.i64 (↑y.i : Int)] ∧
 StIs
 { boxes := [some [AV.str nm, AV.int IntKind.i64 nx, AV.sl ((8 : Nat)) l1 Own.no], some [AV.str src, AV.bool ack, AV.int IntKind.i64 pn, AV.str fsrc, AV.int IntKind.i64 seq, AV.int IntKind.i64 kind, AV.int IntKind.i64 ref, AV.str tab, AV.str key, AV.int IntKind.i64 ev, AV.sl ((3 : Nat)) fs Own.no], some [AV.str [], AV.int IntKind.i64 (0 : Int), AV.sl ((0 : Nat)) [] Own.nil], some [AV.tup [AV.bool true, AV.sl ((8 : Nat)) ((fcsL x.cur).set (↑x.j : Int).toNat (keptSetC ((fcsL x.cur).getD (↑x.j : Int).toNat AV.junk) ((0 : Nat)) [AV.str s, AV.int IntKind.i64 n, AV.int IntKind.i64 n_1, AV.int IntKind.i64 n_2, AV.str s_1, AV.str s_2, AV.int IntKind.i64 n_3, AV.sl ((3 : Nat)) es Own.no])) Own.no]]], live := [] }
 { boxes := [some [AV.str nm, AV.int IntKind.i64 nx, AV.sl ((8 : Nat)) l1 Own.no], some [AV.str src, AV.bool ack, AV.int IntKind.i64 pn, AV.str fsrc, AV.int IntKind.i64 seq, AV.int IntKind.i64 kind, AV.int IntKind.i64 ref, AV.str tab, AV.str key, AV.int IntKind.i64 ev, AV.sl ((3 : Nat)) fs Own.no], some [AV.str [], AV.int IntKind.i64 (0 : Int), AV.sl ((0 : Nat)) [] Own.nil], some [AV.tup [AV.bool true, AV.sl ((8 : Nat)) (fcsL y.cur) Own.no]]], live := [] } ∧
 (y.j < y.i ∧
 y.i ≤ l.length ∧
 y.cur.length = l.length ∧
 List.take y.j y.cur = List.filter (keepF pn) (List.take y.i l) ∧
 List.drop y.i y.cur = List.drop y.i l) ∧
 l.length - y.i < l.length - x.i)) ∧
 (decide ((↑x.i : Int) < (↑l.length : Int)) = false →
 (0 : Int) ≤ (↑x.j : Int) ∧
 True ∧
 ((↑x.j : Int).toNat ≤ l.length ∧ l.length ≤ l.length) ∧
 True ∧
 (↑x.j : Int).toNat + (l.length - (↑x.j : Int).toNat) ≤ (fcsL x.cur).length ∧
 (0 : Int) ≤ (↑x.j : Int) ∧
 True ∧
 ((0 : Nat) ≤ (↑x.j : Int).toNat ∧ (↑x.j : Int).toNat ≤ l.length) ∧
 RetOpen
 (AV.p2 (4 : Nat) (AV.ms ((3 : Nat)) ((8 : Nat)) (↑x.j : Int).toNat) &&
 boxesOk (4 : Nat)
 [some [AV.str nm, AV.int IntKind.i64 nx, AV.sl ((8 : Nat)) l1 Own.no],
 some
 [AV.str src, AV.bool ack, AV.int IntKind.i64 pn, AV.str fsrc, AV.int IntKind.i64 seq, AV.int IntKind.i64 kind,
 AV.int IntKind.i64 ref, AV.str tab, AV.str key, AV.int IntKind.i64 ev, AV.sl ((3 : Nat)) fs Own.no],
 some [AV.str [], AV.int IntKind.i64 (0 : Int), AV.sl ((0 : Nat)) [] Own.nil],
 some [AV.tup [AV.bool true, AV.sl ((8 : Nat)) (List.take (↑x.j : Int).toNat (fcsL x.cur)) Own.no]]])
 (AV.ms ((3 : Nat)) ((8 : Nat)) (↑x.j : Int).toNat)
 { boxes := [some [AV.str nm, AV.int IntKind.i64 nx, AV.sl ((8 : Nat)) l1 Own.no], some [AV.str src, AV.bool ack, AV.int IntKind.i64 pn, AV.str fsrc, AV.int IntKind.i64 seq, AV.int IntKind.i64 kind, AV.int IntKind.i64 ref, AV.str tab, AV.str key, AV.int IntKind.i64 ev, AV.sl ((3 : Nat)) fs Own.no], some [AV.str [], AV.int IntKind.i64 (0 : Int), AV.sl ((0 : Nat)) [] Own.nil], some [AV.tup [AV.bool true, AV.sl ((8 : Nat)) (List.take (↑x.j : Int).toNat (fcsL x.cur)) Own.no]]], live := [] }
 (AV.ms ((3 : Nat)) ((8 : Nat)) (keptOpen pn (fcsL l)).length,
 { boxes := [some [AV.str nm, AV.int IntKind.i64 nx, AV.sl ((8 : Nat)) l1 Own.no], some [AV.str src, AV.bool ack, AV.int IntKind.i64 pn, AV.str fsrc, AV.int IntKind.i64 seq, AV.int IntKind.i64 kind, AV.int IntKind.i64 ref, AV.str tab, AV.str key, AV.int IntKind.i64 ev, AV.sl ((3 : Nat)) fs Own.no], some [AV.str [], AV.int IntKind.i64 (0 : Int), AV.sl ((0 : Nat)) [] Own.nil], some [AV.tup [AV.bool true, AV.sl ((8 : Nat)) (keptOpen pn (fcsL l)) Own.no]]], live := [] })))) := by kernel_rfl
theorem w46e (m : Int) (z1 : Nat) (nm src fsrc tab key : List UInt8) (nx pn seq kind ref ev : Int) (ack : Bool) (l1 fs : List AV) : (openW PI (GI m) XK (tbl []) (itbl [(47, s47), (62, s62)]) nAn [] 46 [.sl 8 [] .full, .fn 47 [.ptr 1 0]] (S3 nm nx z1 l1 (pkD src ack pn fsrc seq kind ref tab key ev fs)) (.sl 8 [] .full, S3 nm nx z1 l1 (pkD src ack pn fsrc seq kind ref tab key ev fs))) =
(True ∧
  (true = true →
      RetOpen
        (AV.p2 (3 : Nat) (AV.sl ((8 : Nat)) [] Own.full) &&
 boxesOk (3 : Nat)
 [some [AV.str nm, AV.int IntKind.i64 nx, AV.sl z1 l1 Own.no],
 some
 [AV.str src, AV.bool ack, AV.int IntKind.i64 pn, AV.str fsrc, AV.int IntKind.i64 seq, AV.int IntKind.i64 kind, AV.int IntKind.i64 ref,
 AV.str tab, AV.str key, AV.int IntKind.i64 ev, AV.sl ((3 : Nat)) fs Own.no],
 some [AV.str [], AV.int IntKind.i64 (0 : Int), AV.sl ((0 : Nat)) [] Own.nil]])
        (AV.sl ((8 : Nat)) [] Own.full)
        { boxes := [some [AV.str nm, AV.int IntKind.i64 nx, AV.sl z1 l1 Own.no], some [AV.str src, AV.bool ack, AV.int IntKind.i64 pn, AV.str fsrc, AV.int IntKind.i64 seq, AV.int IntKind.i64 kind, AV.int IntKind.i64 ref, AV.str tab, AV.str key, AV.int IntKind.i64 ev, AV.sl ((3 : Nat)) fs Own.no], some [AV.str [], AV.int IntKind.i64 (0 : Int), AV.sl ((0 : Nat)) [] Own.nil]], live := [] }
        (AV.sl ((8 : Nat)) [] Own.full,
 { boxes := [some [AV.str nm, AV.int IntKind.i64 nx, AV.sl z1 l1 Own.no], some [AV.str src, AV.bool ack, AV.int IntKind.i64 pn, AV.str fsrc, AV.int IntKind.i64 seq, AV.int IntKind.i64 kind, AV.int IntKind.i64 ref, AV.str tab, AV.str key, AV.int IntKind.i64 ev, AV.sl ((3 : Nat)) fs Own.no], some [AV.str [], AV.int IntKind.i64 (0 : Int), AV.sl ((0 : Nat)) [] Own.nil]], live := [] })) ∧
    (true = false → False)) := by kernel_rfl
theorem w45 (m : Int) (f1 f5 f6 : List UInt8) (f2 f3 f4 f7 : Int) (f8 : List AV) : (pureW PI (GI m) XK (tbl []) (itbl []) nAn [] 45 [.agg [.str f1, .int .i64 f2, .int .i64 f3, .int .i64 f4, .str f5, .str f6, .int .i64 f7, .sl 3 f8 .no]] (pkF [.str f1, .int .i64 f2, .int .i64 f3, .int .i64 f4, .str f5, .str f6, .int .i64 f7, .sl 3 f8 .no] f1, [])) =
(RetIs
  (AV.agg
    [AV.str f1, AV.bool false, AV.int IntKind.i64 (0 : Int), AV.str f1, AV.int IntKind.i64 f2, AV.int IntKind.i64 f3, AV.int IntKind.i64 f4, AV.str f5,
      AV.str f6, AV.int IntKind.i64 f7, AV.sl ((3 : Nat)) f8 Own.no])
  []
  (AV.agg
      [AV.str f1, AV.bool false, AV.int IntKind.i64 (0 : Int), AV.str f1, AV.int IntKind.i64 f2, AV.int IntKind.i64 f3, AV.int IntKind.i64 f4, AV.str f5,
        AV.str f6, AV.int IntKind.i64 f7, AV.sl ((3 : Nat)) f8 Own.no],
    [])) := by kernel_rfl
theorem w44 (m : Int) (x : AV) (es : List AV) : (pureW PI (GI m) XK (tbl []) (itbl []) nAn [] 44 [.sl 8 (x :: es) .no] (.sl 8 (x :: es) (.tok 0), [(es.length + 1, 33)])) =
((x :: es).isEmpty = false ∧
  ((8 : Nat) = (8 : Nat) ∨ ([] : List AV) = []) ∧
    ((0 : Nat) + (x :: es).length) * (105 : Nat) ≤ (70368744177664 : Nat) ∧
      (x :: es = [] → RetIs (AV.sl ((8 : Nat)) [] Own.full) [] (AV.sl ((8 : Nat)) (x :: es) (Own.tok ((0 : Nat))), [(es.length + (1 : Nat), (33 : Nat))])) ∧
        (x :: es ≠ [] →
 ((0 : Nat) + (x :: es).length, (33 : Nat)).fst = (x :: es).length ∧
 RetIs (AV.sl ((8 : Nat)) (x :: es) (Own.tok ((0 : Nat)))) [((0 : Nat) + (x :: es).length, (33 : Nat))]
 (AV.sl ((8 : Nat)) (x :: es) (Own.tok ((0 : Nat))), [(es.length + (1 : Nat), (33 : Nat))]))) := by kernel_rfl
theorem w22 (m : Int) (nm : List UInt8) (nx : Int) (l : List FcI) : (laxW PI (GI m) XK (tbl [(45, s45)]) (itbl []) (a22 nm nx l) [] 22 [.agg (sdC nm nx 8 (fcsL l))] (.sl 11 (pksL (resP l)) .no, [])) =
((∃ (y : Nat),
    ValsAre
        [AV.ptr ((0 : Nat)) ((0 : Nat)), AV.sl ((11 : Nat)) [] (Own.tok (0 : Nat)), AV.sl ((8 : Nat)) (fcsL l) Own.no,
 AV.int IntKind.i64 (↑(fcsL l).length : Int), AV.int IntKind.i64 (0 : Int)]
        [AV.ptr ((0 : Nat)) ((0 : Nat)), AV.sl ((11 : Nat)) (pksL (resP (List.take y l))) (Own.tok ((0 : Nat))), AV.sl ((8 : Nat)) (fcsL l) Own.no,
 AV.int IntKind.i64 (↑l.length : Int), AV.int IntKind.i64 (↑y : Int)] ∧
      StIs { boxes := [some [AV.str nm, AV.int IntKind.i64 nx, AV.sl ((8 : Nat)) (fcsL l) Own.no]], live := [((0 : Nat), (35 : Nat))] }
 { boxes := [some [AV.str nm, AV.int IntKind.i64 nx, AV.sl ((8 : Nat)) (fcsL l) Own.no]], live := [((resP (List.take y l)).length, (35 : Nat))] } ∧
        y ≤ l.length ∧ True) ∧
  ∀ (x : Nat),
    x ≤ l.length →
      (decide ((↑x : Int) < (↑l.length : Int)) = true →
 ((0 : Int) ≤ (↑x : Int) ∧ (↑x : Int) < (↑(fcsL l).length : Int)) ∧
 ∃ (s : List UInt8),
 ∃ (n : Int),
 ∃ (n_1 : Int),
 ∃ (n_2 : Int),
 ∃ (s_1 : List UInt8),
 ∃ (s_2 : List UInt8),
 ∃ (n_3 : Int),
 ∃ (es : List AV),
 takeAt PI ((33 : Nat)) (fcsL l) (↑x : Int).toNat ((0 : Nat)) =
 some
 (AV.agg
 [AV.str s, AV.int IntKind.i64 n, AV.int IntKind.i64 n_1, AV.int IntKind.i64 n_2, AV.str s_1, AV.str s_2,
 AV.int IntKind.i64 n_3, AV.sl ((3 : Nat)) es Own.no]) ∧
 ∃ (s_3 : List UInt8),
 ∃ (b : Bool),
 ∃ (n_4 : Int),
 ∃ (s_4 : List UInt8),
 ∃ (n_5 : Int),
 ∃ (n_6 : Int),
 ∃ (n_7 : Int),
 ∃ (s_5 : List UInt8),
 ∃ (s_6 : List UInt8),
 ∃ (n_8 : Int),
 ∃ (es_1 : List AV),
 CallIs
 (some
 (AV.agg
 [AV.str s, AV.bool false, AV.int IntKind.i64 (0 : Int), AV.str s, AV.int IntKind.i64 n,
 AV.int IntKind.i64 n_1, AV.int IntKind.i64 n_2, AV.str s_1, AV.str s_2, AV.int IntKind.i64 n_3,
 AV.sl ((3 : Nat)) es Own.no],
 []))
 (AV.agg
 [AV.str s_3, AV.bool b, AV.int IntKind.i64 n_4, AV.str s_4, AV.int IntKind.i64 n_5,
 AV.int IntKind.i64 n_6, AV.int IntKind.i64 n_7, AV.str s_5, AV.str s_6, AV.int IntKind.i64 n_8,
 AV.sl ((3 : Nat)) es_1 Own.no])
 [] ∧
 ((11 : Nat) = (11 : Nat) ∨ pksL (resP (List.take x l)) = []) ∧
 ((pksL (resP (List.take x l))).length + (1 : Nat)) * (137 : Nat) ≤ (70368744177664 : Nat) ∧
 (resP (List.take x l)).length = (pksL (resP (List.take x l))).length ∧
 ∃ (y : Nat),
 ValsAre
 [AV.ptr ((0 : Nat)) ((0 : Nat)),
 AV.sl ((11 : Nat))
 (pksL (resP (List.take x l)) ++
 [AV.agg
 [AV.str s_3, AV.bool b, AV.int IntKind.i64 n_4, AV.str s_4, AV.int IntKind.i64 n_5,
 AV.int IntKind.i64 n_6, AV.int IntKind.i64 n_7, AV.str s_5, AV.str s_6,
 AV.int IntKind.i64 n_8, AV.sl ((3 : Nat)) es_1 Own.no]])
 (Own.tok ((0 : Nat))),
 AV.sl ((8 : Nat)) (fcsL l) Own.no, AV.int IntKind.i64 (↑l.length : Int),
 AV.int IntKind.i64 (IntKind.i64.wrap ((↑x : Int) + (1 : Int)))]
 [AV.ptr ((0 : Nat)) ((0 : Nat)),
 AV.sl ((11 : Nat)) (pksL (resP (List.take y l))) (Own.tok ((0 : Nat))),
 AV.sl ((8 : Nat)) (fcsL l) Own.no, AV.int IntKind.i64 (↑l.length : Int),
 AV.int IntKind.i64 (↑y : Int)] ∧
 StIs
 { boxes := [some [AV.str nm, AV.int IntKind.i64 nx, AV.sl ((8 : Nat)) (fcsL l) Own.no]], live := [((pksL (resP (List.take x l))).length + (1 : Nat), (35 : Nat))] }
 { boxes := [some [AV.str nm, AV.int IntKind.i64 nx, AV.sl ((8 : Nat)) (fcsL l) Own.no]], live := [((resP (List.take y l)).length, (35 : Nat))] } ∧
 y ≤ l.length ∧ l.length - y < l.length - x) ∧
        (decide ((↑x : Int) < (↑l.length : Int)) = false →
 RetLax (AV.sl ((11 : Nat)) (pksL (resP (List.take x l))) (Own.tok ((0 : Nat)))) (AV.sl ((11 : Nat)) (pksL (resP l)) Own.no, []))) := by kernel_rfl
theorem w23 (m : Int) (nm src fsrc tab key : List UInt8) (nx pn seq kind ref ev : Int) (ack : Bool) (fs : List AV) (f : FcI) (l : List FcI) (rn : List UInt8) (rx rc : Int) (rl : List FcI) : (laxW PI (GI m) XK (tbl []) (itbl [(44, s44n), (46, s46)]) nAn [] 23 [.agg (sdC nm nx 8 (fcA f :: fcsL l)), .agg (pkD src ack pn fsrc seq kind ref tab key ev fs)] (.tup [.agg (sdC rn rx 8 (fcsL rl)), .int .i64 rc], [])) =
((ack = true →
    ((!src == nm) = true →
        RetLax (AV.tup [AV.agg [AV.str [], AV.int IntKind.i64 (0 : Int), AV.sl ((0 : Nat)) [] Own.nil], AV.int IntKind.i64 (1 : Int)])
 (AV.tup [AV.agg [AV.str rn, AV.int IntKind.i64 rx, AV.sl ((8 : Nat)) (fcsL rl) Own.no], AV.int IntKind.i64 rc], [])) ∧
      ((!src == nm) = false →
        (decide (pn < (1 : Int)) = true →
 RetLax (AV.tup [AV.agg [AV.str [], AV.int IntKind.i64 (0 : Int), AV.sl ((0 : Nat)) [] Own.nil], AV.int IntKind.i64 (1 : Int)])
 (AV.tup [AV.agg [AV.str rn, AV.int IntKind.i64 rx, AV.sl ((8 : Nat)) (fcsL rl) Own.no], AV.int IntKind.i64 rc], [])) ∧
 (decide (pn < (1 : Int)) = false →
 (decide (pn > nx) = true →
 RetLax (AV.tup [AV.agg [AV.str [], AV.int IntKind.i64 (0 : Int), AV.sl ((0 : Nat)) [] Own.nil], AV.int IntKind.i64 (1 : Int)])
 (AV.tup [AV.agg [AV.str rn, AV.int IntKind.i64 rx, AV.sl ((8 : Nat)) (fcsL rl) Own.no], AV.int IntKind.i64 rc], [])) ∧
 (decide (pn > nx) = false →
 (AV.agg
 [AV.str f.src, AV.int IntKind.i64 f.seq, AV.int IntKind.i64 f.kind, AV.int IntKind.i64 f.ref, AV.str f.table, AV.str f.key,
 AV.int IntKind.i64 f.event, AV.sl ((3 : Nat)) (vasL f.fs) Own.no] ::
 fcsL l ≠
 [] ∧
 (AV.agg
 [AV.str f.src, AV.int IntKind.i64 f.seq, AV.int IntKind.i64 f.kind, AV.int IntKind.i64 f.ref, AV.str f.table, AV.str f.key,
 AV.int IntKind.i64 f.event, AV.sl ((3 : Nat)) (vasL f.fs) Own.no] ::
 fcsL l).length *
 (104 : Nat) ≤
 (140737488355328 : Nat)) ∧
 ((∃ (l_1 : List FcI),
 AV.agg
 [AV.str f.src, AV.int IntKind.i64 f.seq, AV.int IntKind.i64 f.kind, AV.int IntKind.i64 f.ref, AV.str f.table, AV.str f.key,
 AV.int IntKind.i64 f.event, AV.sl ((3 : Nat)) (vasL f.fs) Own.no] ::
 fcsL l =
 fcsL l_1) ∧
 (AV.agg
 [AV.str f.src, AV.int IntKind.i64 f.seq, AV.int IntKind.i64 f.kind, AV.int IntKind.i64 f.ref, AV.str f.table, AV.str f.key,
 AV.int IntKind.i64 f.event, AV.sl ((3 : Nat)) (vasL f.fs) Own.no] ::
 fcsL l).length =
 (AV.agg
 [AV.str f.src, AV.int IntKind.i64 f.seq, AV.int IntKind.i64 f.kind, AV.int IntKind.i64 f.ref, AV.str f.table, AV.str f.key,
 AV.int IntKind.i64 f.event, AV.sl ((3 : Nat)) (vasL f.fs) Own.no] ::
 fcsL l).length ∧
 (AV.agg
 [AV.str f.src, AV.int IntKind.i64 f.seq, AV.int IntKind.i64 f.kind, AV.int IntKind.i64 f.ref, AV.str f.table, AV.str f.key,
 AV.int IntKind.i64 f.event, AV.sl ((3 : Nat)) (vasL f.fs) Own.no] ::
 fcsL l).length ≤
 (2000000 : Nat)) ∧
 (keptOpen pn
 (AV.agg
 [AV.str f.src, AV.int IntKind.i64 f.seq, AV.int IntKind.i64 f.kind, AV.int IntKind.i64 f.ref, AV.str f.table, AV.str f.key,
 AV.int IntKind.i64 f.event, AV.sl ((3 : Nat)) (vasL f.fs) Own.no] ::
 fcsL l)).length =
 (keptOpen pn
 (AV.agg
 [AV.str f.src, AV.int IntKind.i64 f.seq, AV.int IntKind.i64 f.kind, AV.int IntKind.i64 f.ref, AV.str f.table, AV.str f.key,
 AV.int IntKind.i64 f.event, AV.sl ((3 : Nat)) (vasL f.fs) Own.no] ::
 fcsL l)).length ∧
 RetLax
 (AV.tup
 [AV.agg
 [AV.str nm, AV.int IntKind.i64 nx,
 AV.sl ((8 : Nat))
 (keptOpen pn
 (AV.agg
 [AV.str f.src, AV.int IntKind.i64 f.seq, AV.int IntKind.i64 f.kind, AV.int IntKind.i64 f.ref, AV.str f.table,
 AV.str f.key, AV.int IntKind.i64 f.event, AV.sl ((3 : Nat)) (vasL f.fs) Own.no] ::
 fcsL l))
 Own.no],
 AV.int IntKind.i64 (0 : Int)])
 (AV.tup [AV.agg [AV.str rn, AV.int IntKind.i64 rx, AV.sl ((8 : Nat)) (fcsL rl) Own.no], AV.int IntKind.i64 rc], []))))) ∧
  (ack = false →
    RetLax (AV.tup [AV.agg [AV.str [], AV.int IntKind.i64 (0 : Int), AV.sl ((0 : Nat)) [] Own.nil], AV.int IntKind.i64 (1 : Int)])
      (AV.tup [AV.agg [AV.str rn, AV.int IntKind.i64 rx, AV.sl ((8 : Nat)) (fcsL rl) Own.no], AV.int IntKind.i64 rc], []))) := by kernel_rfl
theorem w23e (m : Int) (sz : Nat) (nm src fsrc tab key : List UInt8) (nx pn seq kind ref ev : Int) (ack : Bool) (fs : List AV) (rn : List UInt8) (rx rc : Int) : (laxW PI (GI m) XK (tbl []) (itbl [(44, s44n), (46, s46)]) nAn [] 23 [.agg (sdC nm nx sz []), .agg (pkD src ack pn fsrc seq kind ref tab key ev fs)] (.tup [.agg (sdC rn rx 8 []), .int .i64 rc], [])) =
((ack = true →
    ((!src == nm) = true →
        RetLax (AV.tup [AV.agg [AV.str [], AV.int IntKind.i64 (0 : Int), AV.sl ((0 : Nat)) [] Own.nil], AV.int IntKind.i64 (1 : Int)])
 (AV.tup [AV.agg [AV.str rn, AV.int IntKind.i64 rx, AV.sl ((8 : Nat)) [] Own.no], AV.int IntKind.i64 rc], [])) ∧
      ((!src == nm) = false →
        (decide (pn < (1 : Int)) = true →
 RetLax (AV.tup [AV.agg [AV.str [], AV.int IntKind.i64 (0 : Int), AV.sl ((0 : Nat)) [] Own.nil], AV.int IntKind.i64 (1 : Int)])
 (AV.tup [AV.agg [AV.str rn, AV.int IntKind.i64 rx, AV.sl ((8 : Nat)) [] Own.no], AV.int IntKind.i64 rc], [])) ∧
 (decide (pn < (1 : Int)) = false →
 (decide (pn > nx) = true →
 RetLax (AV.tup [AV.agg [AV.str [], AV.int IntKind.i64 (0 : Int), AV.sl ((0 : Nat)) [] Own.nil], AV.int IntKind.i64 (1 : Int)])
 (AV.tup [AV.agg [AV.str rn, AV.int IntKind.i64 rx, AV.sl ((8 : Nat)) [] Own.no], AV.int IntKind.i64 rc], [])) ∧
 (decide (pn > nx) = false →
 True ∧
 True ∧
 RetLax (AV.tup [AV.agg [AV.str nm, AV.int IntKind.i64 nx, AV.sl ((8 : Nat)) [] Own.full], AV.int IntKind.i64 (0 : Int)])
 (AV.tup [AV.agg [AV.str rn, AV.int IntKind.i64 rx, AV.sl ((8 : Nat)) [] Own.no], AV.int IntKind.i64 rc], []))))) ∧
  (ack = false →
    RetLax (AV.tup [AV.agg [AV.str [], AV.int IntKind.i64 (0 : Int), AV.sl ((0 : Nat)) [] Own.nil], AV.int IntKind.i64 (1 : Int)])
      (AV.tup [AV.agg [AV.str rn, AV.int IntKind.i64 rx, AV.sl ((8 : Nat)) [] Own.no], AV.int IntKind.i64 rc], []))) := by kernel_rfl
theorem w21 (m : Int) (nm : List UInt8) (nx : Int) (g : FcI) (f : FcI) (l : List FcI) (rn : List UInt8) (rx rc : Int) (rl : List FcI) (p : PkI) : (laxW PI (GI m) XK (tbl [(44, s44p), (45, s45)]) (itbl []) nAn [] 21 [.agg (sdC nm nx 8 (fcA f :: fcsL l)), .agg (fcC g)] (.tup [.agg (sdC rn rx 8 (fcsL rl)), pkA p, .int .i64 rc], [])) =
((decide (nx > (1099511627776 : Int)) = true →
    RetLax
      (AV.tup
        [AV.agg [AV.str [], AV.int IntKind.i64 (0 : Int), AV.sl ((0 : Nat)) [] Own.nil],
 AV.agg
 [AV.str [], AV.bool false, AV.int IntKind.i64 (0 : Int), AV.str [], AV.int IntKind.i64 (0 : Int), AV.int IntKind.i64 (0 : Int),
 AV.int IntKind.i64 (0 : Int), AV.str [], AV.str [], AV.int IntKind.i64 (0 : Int), AV.sl ((0 : Nat)) [] Own.nil],
 AV.int IntKind.i64 (2 : Int)])
      (AV.tup
 [AV.agg [AV.str rn, AV.int IntKind.i64 rx, AV.sl ((8 : Nat)) (fcsL rl) Own.no],
 AV.agg
 [AV.str p.src, AV.bool p.ack, AV.int IntKind.i64 p.next, AV.str p.f.src, AV.int IntKind.i64 p.f.seq, AV.int IntKind.i64 p.f.kind,
 AV.int IntKind.i64 p.f.ref, AV.str p.f.table, AV.str p.f.key, AV.int IntKind.i64 p.f.event, AV.sl ((3 : Nat)) (vasL p.f.fs) Own.no],
 AV.int IntKind.i64 rc],
        [])) ∧
  (decide (nx > (1099511627776 : Int)) = false →
    (decide
 ((↑(AV.agg
 [AV.str f.src, AV.int IntKind.i64 f.seq, AV.int IntKind.i64 f.kind, AV.int IntKind.i64 f.ref, AV.str f.table, AV.str f.key,
 AV.int IntKind.i64 f.event, AV.sl ((3 : Nat)) (vasL f.fs) Own.no] ::
 fcsL l).length :
 Int) ≥
 (64 : Int)) =
 true →
        RetLax
 (AV.tup
 [AV.agg [AV.str [], AV.int IntKind.i64 (0 : Int), AV.sl ((0 : Nat)) [] Own.nil],
 AV.agg
 [AV.str [], AV.bool false, AV.int IntKind.i64 (0 : Int), AV.str [], AV.int IntKind.i64 (0 : Int), AV.int IntKind.i64 (0 : Int),
 AV.int IntKind.i64 (0 : Int), AV.str [], AV.str [], AV.int IntKind.i64 (0 : Int), AV.sl ((0 : Nat)) [] Own.nil],
 AV.int IntKind.i64 (410 : Int)])
 (AV.tup
 [AV.agg [AV.str rn, AV.int IntKind.i64 rx, AV.sl ((8 : Nat)) (fcsL rl) Own.no],
 AV.agg
 [AV.str p.src, AV.bool p.ack, AV.int IntKind.i64 p.next, AV.str p.f.src, AV.int IntKind.i64 p.f.seq, AV.int IntKind.i64 p.f.kind,
 AV.int IntKind.i64 p.f.ref, AV.str p.f.table, AV.str p.f.key, AV.int IntKind.i64 p.f.event, AV.sl ((3 : Nat)) (vasL p.f.fs) Own.no],
 AV.int IntKind.i64 rc],
 [])) ∧
      (decide
 ((↑(AV.agg
 [AV.str f.src, AV.int IntKind.i64 f.seq, AV.int IntKind.i64 f.kind, AV.int IntKind.i64 f.ref, AV.str f.table, AV.str f.key,
 AV.int IntKind.i64 f.event, AV.sl ((3 : Nat)) (vasL f.fs) Own.no] ::
 fcsL l).length :
 Int) ≥
 (64 : Int)) =
 false →
        ∃ (es : List AV),
 CallIs
 (tbl [((44 : Nat), s44p), ((45 : Nat), s45)] ((44 : Nat))
 [AV.sl ((8 : Nat))
 (AV.agg
 [AV.str f.src, AV.int IntKind.i64 f.seq, AV.int IntKind.i64 f.kind, AV.int IntKind.i64 f.ref, AV.str f.table, AV.str f.key,
 AV.int IntKind.i64 f.event, AV.sl ((3 : Nat)) (vasL f.fs) Own.no] ::
 fcsL l)
 Own.no])
 (AV.sl ((8 : Nat)) es (Own.tok ((0 : Nat)))) [(es.length, (33 : Nat))] ∧
 ((8 : Nat) = (8 : Nat) ∨ es = []) ∧
 (es.length + (1 : Nat)) * (105 : Nat) ≤ (70368744177664 : Nat) ∧
 es.length = es.length ∧
 ∃ (s : List UInt8),
 ∃ (b : Bool),
 ∃ (n : Int),
 ∃ (s_1 : List UInt8),
 ∃ (n_1 : Int),
 ∃ (n_2 : Int),
 ∃ (n_3 : Int),
 ∃ (s_2 : List UInt8),
 ∃ (s_3 : List UInt8),
 ∃ (n_4 : Int),
 ∃ (es_1 : List AV),
 CallIs
 (some
 (AV.agg
 [AV.str nm, AV.bool false, AV.int IntKind.i64 (0 : Int), AV.str nm, AV.int IntKind.i64 nx,
 AV.int IntKind.i64 g.kind, AV.int IntKind.i64 g.ref, AV.str g.table, AV.str g.key,
 AV.int IntKind.i64 g.event, AV.sl ((3 : Nat)) (vasL g.fs) Own.no],
 []))
 (AV.agg
 [AV.str s, AV.bool b, AV.int IntKind.i64 n, AV.str s_1, AV.int IntKind.i64 n_1, AV.int IntKind.i64 n_2,
 AV.int IntKind.i64 n_3, AV.str s_2, AV.str s_3, AV.int IntKind.i64 n_4, AV.sl ((3 : Nat)) es_1 Own.no])
 [] ∧
 RetLax
 (AV.tup
 [AV.agg
 [AV.str nm, AV.int IntKind.i64 (IntKind.i64.wrap (nx + (1 : Int))),
 AV.sl ((8 : Nat))
 (es ++
 [AV.agg
 [AV.str nm, AV.int IntKind.i64 nx, AV.int IntKind.i64 g.kind, AV.int IntKind.i64 g.ref,
 AV.str g.table, AV.str g.key, AV.int IntKind.i64 g.event, AV.sl ((3 : Nat)) (vasL g.fs) Own.no]])
 (Own.tok ((0 : Nat)))],
 AV.agg
 [AV.str s, AV.bool b, AV.int IntKind.i64 n, AV.str s_1, AV.int IntKind.i64 n_1, AV.int IntKind.i64 n_2,
 AV.int IntKind.i64 n_3, AV.str s_2, AV.str s_3, AV.int IntKind.i64 n_4, AV.sl ((3 : Nat)) es_1 Own.no],
 AV.int IntKind.i64 (0 : Int)])
 (AV.tup
 [AV.agg [AV.str rn, AV.int IntKind.i64 rx, AV.sl ((8 : Nat)) (fcsL rl) Own.no],
 AV.agg
 [AV.str p.src, AV.bool p.ack, AV.int IntKind.i64 p.next, AV.str p.f.src, AV.int IntKind.i64 p.f.seq,
 AV.int IntKind.i64 p.f.kind, AV.int IntKind.i64 p.f.ref, AV.str p.f.table, AV.str p.f.key,
 AV.int IntKind.i64 p.f.event, AV.sl ((3 : Nat)) (vasL p.f.fs) Own.no],
 AV.int IntKind.i64 rc],
 [])))) := by kernel_rfl
theorem w21e (m : Int) (sz : Nat) (nm : List UInt8) (nx : Int) (g : FcI) (rn : List UInt8) (rx rc : Int) (rl : List FcI) (p : PkI) : (laxW PI (GI m) XZ (tbl [(44, s44z), (45, s45)]) (itbl []) nAn [] 21 [.agg (sdC nm nx sz []), .agg (fcC g)] (.tup [.agg (sdC rn rx 8 (fcsL rl)), pkA p, .int .i64 rc], [])) =
((decide (nx > (1099511627776 : Int)) = true →
    RetLax
      (AV.tup
        [AV.agg [AV.str [], AV.int IntKind.i64 (0 : Int), AV.sl ((0 : Nat)) [] Own.nil],
 AV.agg
 [AV.str [], AV.bool false, AV.int IntKind.i64 (0 : Int), AV.str [], AV.int IntKind.i64 (0 : Int), AV.int IntKind.i64 (0 : Int),
 AV.int IntKind.i64 (0 : Int), AV.str [], AV.str [], AV.int IntKind.i64 (0 : Int), AV.sl ((0 : Nat)) [] Own.nil],
 AV.int IntKind.i64 (2 : Int)])
      (AV.tup
 [AV.agg [AV.str rn, AV.int IntKind.i64 rx, AV.sl ((8 : Nat)) (fcsL rl) Own.no],
 AV.agg
 [AV.str p.src, AV.bool p.ack, AV.int IntKind.i64 p.next, AV.str p.f.src, AV.int IntKind.i64 p.f.seq, AV.int IntKind.i64 p.f.kind,
 AV.int IntKind.i64 p.f.ref, AV.str p.f.table, AV.str p.f.key, AV.int IntKind.i64 p.f.event, AV.sl ((3 : Nat)) (vasL p.f.fs) Own.no],
 AV.int IntKind.i64 rc],
        [])) ∧
  (decide (nx > (1099511627776 : Int)) = false →
    (false = true →
        RetLax
 (AV.tup
 [AV.agg [AV.str [], AV.int IntKind.i64 (0 : Int), AV.sl ((0 : Nat)) [] Own.nil],
 AV.agg
 [AV.str [], AV.bool false, AV.int IntKind.i64 (0 : Int), AV.str [], AV.int IntKind.i64 (0 : Int), AV.int IntKind.i64 (0 : Int),
 AV.int IntKind.i64 (0 : Int), AV.str [], AV.str [], AV.int IntKind.i64 (0 : Int), AV.sl ((0 : Nat)) [] Own.nil],
 AV.int IntKind.i64 (410 : Int)])
 (AV.tup
 [AV.agg [AV.str rn, AV.int IntKind.i64 rx, AV.sl ((8 : Nat)) (fcsL rl) Own.no],
 AV.agg
 [AV.str p.src, AV.bool p.ack, AV.int IntKind.i64 p.next, AV.str p.f.src, AV.int IntKind.i64 p.f.seq, AV.int IntKind.i64 p.f.kind,
 AV.int IntKind.i64 p.f.ref, AV.str p.f.table, AV.str p.f.key, AV.int IntKind.i64 p.f.event, AV.sl ((3 : Nat)) (vasL p.f.fs) Own.no],
 AV.int IntKind.i64 rc],
 [])) ∧
      (false = false →
        ∃ (es : List AV),
 CallIs (some (AV.sl ((8 : Nat)) [] Own.full, [])) (AV.sl ((8 : Nat)) es Own.full) [] ∧
 ((8 : Nat) = (8 : Nat) ∨ es = []) ∧
 (es.length + (1 : Nat)) * (105 : Nat) ≤ (70368744177664 : Nat) ∧
 ∃ (s : List UInt8),
 ∃ (b : Bool),
 ∃ (n : Int),
 ∃ (s_1 : List UInt8),
 ∃ (n_1 : Int),
 ∃ (n_2 : Int),
 ∃ (n_3 : Int),
 ∃ (s_2 : List UInt8),
 ∃ (s_3 : List UInt8),
 ∃ (n_4 : Int),
 ∃ (es_1 : List AV),
 CallIs
 (some
 (AV.agg
 [AV.str nm, AV.bool false, AV.int IntKind.i64 (0 : Int), AV.str nm, AV.int IntKind.i64 nx,
 AV.int IntKind.i64 g.kind, AV.int IntKind.i64 g.ref, AV.str g.table, AV.str g.key, AV.int IntKind.i64 g.event,
 AV.sl ((3 : Nat)) (vasL g.fs) Own.no],
 []))
 (AV.agg
 [AV.str s, AV.bool b, AV.int IntKind.i64 n, AV.str s_1, AV.int IntKind.i64 n_1, AV.int IntKind.i64 n_2,
 AV.int IntKind.i64 n_3, AV.str s_2, AV.str s_3, AV.int IntKind.i64 n_4, AV.sl ((3 : Nat)) es_1 Own.no])
 [] ∧
 RetLax
 (AV.tup
 [AV.agg
 [AV.str nm, AV.int IntKind.i64 (IntKind.i64.wrap (nx + (1 : Int))),
 AV.sl ((8 : Nat))
 (es ++
 [AV.agg
 [AV.str nm, AV.int IntKind.i64 nx, AV.int IntKind.i64 g.kind, AV.int IntKind.i64 g.ref,
 AV.str g.table, AV.str g.key, AV.int IntKind.i64 g.event, AV.sl ((3 : Nat)) (vasL g.fs) Own.no]])
 (Own.tok ((0 : Nat)))],
 AV.agg
 [AV.str s, AV.bool b, AV.int IntKind.i64 n, AV.str s_1, AV.int IntKind.i64 n_1, AV.int IntKind.i64 n_2,
 AV.int IntKind.i64 n_3, AV.str s_2, AV.str s_3, AV.int IntKind.i64 n_4, AV.sl ((3 : Nat)) es_1 Own.no],
 AV.int IntKind.i64 (0 : Int)])
 (AV.tup
 [AV.agg [AV.str rn, AV.int IntKind.i64 rx, AV.sl ((8 : Nat)) (fcsL rl) Own.no],
 AV.agg
 [AV.str p.src, AV.bool p.ack, AV.int IntKind.i64 p.next, AV.str p.f.src, AV.int IntKind.i64 p.f.seq,
 AV.int IntKind.i64 p.f.kind, AV.int IntKind.i64 p.f.ref, AV.str p.f.table, AV.str p.f.key,
 AV.int IntKind.i64 p.f.event, AV.sl ((3 : Nat)) (vasL p.f.fs) Own.no],
 AV.int IntKind.i64 rc],
 [])))) := by kernel_rfl
end Go.Abs

namespace Go.Abs
open Go.Proofs Go.RowKit
theorem agg33 : aggA PI 33 = some true := by kernel_rfl
theorem size33 : sizeA PI 33 = some 8 := by kernel_rfl
theorem agg35 : aggA PI 35 = some true := by kernel_rfl
theorem size35 : sizeA PI 35 = some 11 := by kernel_rfl
theorem take_fc {l : List PkI} {i : Nat} (h : i < l.length) : takeAt PI 33 (pksL l) i 3 = some (fcA l[i].f) := by
  simp only [takeAt, List.getElem?_map, List.getElem?_eq_getElem h, Option.map_some, takeA, agg33, size33]
  rfl
theorem take_ps {l : List PkI} {i : Nat} (h : i < l.length) : takeAt PI 9 (pksL l) i 0 = some (.str l[i].src) := by
  obtain ⟨s, hs⟩ := Option.isSome_iff_exists.1 size9
  simp only [takeAt, List.getElem?_map, List.getElem?_eq_getElem h, Option.map_some, takeA, agg9, hs]
  rfl
theorem take_pk {l : List PkI} {i : Nat} (h : i < l.length) : takeAt PI 35 (pksL l) i 0 = some (pkA l[i]) := by
  simp only [takeAt, List.getElem?_map, List.getElem?_eq_getElem h, Option.map_some, takeA, agg35, size35]
  rfl
theorem unV_ok (v : VaI) : unV (vaA v) = some v := rfl
theorem recvW_ok {q : List BxI} {p : PkQ} (hq : rcvOk q = true) : RcvP (recvW (recvP q p)).r := by
  cases h : recvP q p with
  | err c => exact ⟨fun b hb => (by cases hb), List.Pairwise.nil, Nat.zero_le _⟩
  | out r f s n => exact recv_ok (rcvOk_iff.1 hq) h
end Go.Abs

namespace Go.Abs
open Go.Proofs Go.RowKit
theorem lax_of' {P : Program} {G : Glob} (hm : P.follows .mixedOrders = true) {m : List Bool} {f : FuncId} {s : Spec}
    (h : ∀ args r, s args = some r → ∃ X R C A, CalleeOk P G R ∧ ICalleeOk P G (lowC C) ∧ LaxOk P G X R C A m f args r) : SpecOk P G f s := by
  intro g args r lv hr
  by_cases e : g = f
  · subst e
    simp only [if_true] at hr
    obtain ⟨X, R, C, A, hR, hC, hA⟩ := h args _ hr
    classical
    have key : SpecOk P G g (fun a => if a = args then some (r, lv) else none) := lax_of (X := X) (m := m) hm hR hC fun a r' h' => by
      split at h'
      · rename_i ea
        injection h' with h'
        subst ea; subst h'
        exact ⟨A, hA⟩
      · cases h'
    exact key g args r lv (by simp)
  · simp only [if_neg e] at hr
    cases hr
theorem ispec_of' {P : Program} {G : Glob} (hm : P.follows .mixedOrders = true) {m : List Bool} {f : FuncId} {s : ISpec}
    (h : ∀ args S p r, s args S = some (p, r) → p → ∃ X R C A, CalleeOk P G R ∧ ICalleeOk P G (lowC C) ∧ OpenOk P G X R C A m f args S r) : ISpecOk P G f s := by
  intro g args S r S' hr
  simp only [lowC] at hr
  by_cases e : g = f
  · subst e
    simp only [if_true] at hr
    split at hr
    case h_2 => cases hr
    rename_i x hx
    split at hr
    case isFalse => cases hr
    rename_i hp
    injection hr with hr
    obtain ⟨X, R, C, A, hR, hC, hA⟩ := h args S x.1 x.2 hx hp
    classical
    have key : ISpecOk P G g (fun a T => if a = args ∧ T = S then some (True, x.2) else none) := ispec_of (X := X) (m := m) hm hR hC fun a T p r' h' _ => by
      split at h'
      · rename_i ea
        injection h' with h'
        obtain ⟨rfl, rfl⟩ := ea
        injection h' with h1 h2
        subst h2
        exact ⟨A, hA⟩
      · cases h'
    refine key g args S r S' ?_
    simp only [lowC, and_self, if_true, hr]
  · simp only [if_neg e] at hr
    cases hr
theorem unG_ok (f : FcI) : unG (fcA f) = some f := by
  unfold fcA unG
  simp only [if_true]
  rw [show unL unV (vasL f.fs) = some f.fs from unL_map unV_ok f.fs]
  rfl
theorem unG_inv (a : AV) (x : FcI) (h : unG a = some x) : a = fcA x := by
  unfold unG at h
  split at h
  · rename_i src seq kind ref table key event sz es
    split at h
    · rename_i hz
      subst hz
      cases hu : unL unV es with
      | none => rw [hu] at h; cases h
      | some fs =>
        rw [hu] at h
        injection h with h; subst h
        rw [unL_inv unV_inv hu]
        rfl
    · cases h
  · cases h
theorem unGs_inv {es : List AV} {l : List FcI} (h : unL unG es = some l) : es = fcsL l := unL_inv unG_inv h
theorem unGs_ok (l : List FcI) : unL unG (fcsL l) = some l := unL_map unG_ok l
theorem take_f {l : List FcI} {i : Nat} (h : i < l.length) : takeAt PI 33 (fcsL l) i 0 = some (fcA l[i]) := by
  simp only [takeAt, List.getElem?_map, List.getElem?_eq_getElem h, Option.map_some, takeA, agg33, size33]
  rfl
theorem seq_fc (f : FcI) : seqOf (fcA f) = f.seq := rfl
theorem keptOpen_fc (n : Int) (l : List FcI) : keptOpen n (fcsL l) = fcsL (l.filter (keepF n)) := by
  unfold keptOpen
  rw [List.filter_map]
  rfl
theorem keptIdx_none {n : Int} {l : List FcI} (h : l.all (keepF n) = true) : keptIdx n (fcsL l) = -1 := by
  unfold keptIdx
  rw [if_pos]
  rw [List.all_map]; exact h
theorem keptIdx_at {n : Int} {l : List FcI} {i : Nat} (hi : i < l.length) (h : (l.take i).all (keepF n) = true) (h2 : keepF n l[i] = false) : keptIdx n (fcsL l) = i := by
  unfold keptIdx
  have hne : ¬ (fcsL l).all (fun e => !decide (seqOf e < n)) = true := fun hf => by
    rw [List.all_map] at hf
    have := List.all_eq_true.1 hf _ (List.getElem_mem hi)
    rw [show ((fun e => !decide (seqOf e < n)) ∘ fcA) l[i] = keepF n l[i] from rfl, h2] at this
    cases this
  rw [if_neg hne, List.takeWhile_map, List.length_map]
  congr 1
  have e : l = l.take i ++ l[i] :: l.drop (i + 1) := by rw [← List.drop_eq_getElem_cons hi, List.take_append_drop]
  have : (l.takeWhile (keepF n)).length = i := by
    conv => lhs; rw [e]
    rw [List.takeWhile_append_of_pos (fun a ha => List.all_eq_true.1 h a ha), List.takeWhile_cons_of_neg (by rw [h2]; simp)]
    simp; omega
  exact this
theorem keptIdx_cases (n : Int) (l : List FcI) : (keptIdx n (fcsL l) = -1 ∧ l.all (keepF n) = true) ∨ ∃ i : Nat, ∃ h : i < l.length, keptIdx n (fcsL l) = i ∧ (l.take i).all (keepF n) = true ∧ keepF n l[i] = false := by
  by_cases h : l.all (keepF n) = true
  · exact .inl ⟨keptIdx_none h, h⟩
  · right
    have hlen : (l.takeWhile (keepF n)).length < l.length := by
      rcases Nat.lt_or_ge (l.takeWhile (keepF n)).length l.length with h' | h'
      · exact h'
      · have := (List.takeWhile_prefix (keepF n) (l := l)).eq_of_length_le h'
        exact absurd (by rw [← this]; exact List.all_takeWhile) h
    have h1 : (l.take (l.takeWhile (keepF n)).length).all (keepF n) = true := by
      rw [← List.prefix_iff_eq_take.1 (List.takeWhile_prefix (keepF n) (l := l))]
      exact List.all_takeWhile
    have h2 : keepF n l[(l.takeWhile (keepF n)).length] = false := by
      have hd : l = l.takeWhile (keepF n) ++ l.dropWhile (keepF n) := List.takeWhile_append_dropWhile.symm
      have hdl : 0 < (l.dropWhile (keepF n)).length := by
        have := congrArg List.length hd
        rw [List.length_append] at this; omega
      have := List.head_dropWhile_not (p := keepF n) (l := l) (by intro e; rw [e] at hdl; simp at hdl)
      have e2 : ∀ k, k = (l.takeWhile (keepF n)).length → l[k]? = some ((l.dropWhile (keepF n)).head (by intro e; rw [e] at hdl; simp at hdl)) := by
        intro k hk
        have : l[k]? = (l.takeWhile (keepF n) ++ l.dropWhile (keepF n))[k]? := congrArg (·[k]?) hd
        rw [this, List.getElem?_append_right (by omega), hk, Nat.sub_self, ← List.head?_eq_getElem?, List.head?_eq_some_head]
      have e2 := e2 _ rfl
      rw [List.getElem?_eq_getElem hlen] at e2
      injection e2 with e2
      rw [e2]; exact this
    exact ⟨_, hlen, keptIdx_at hlen h1 h2, h1, h2⟩
theorem o47 (m : Int) : ISpecOk PI (GI m) 47 s47 := ispec_of' (m := []) mixedI fun args S p r h hp => by
  unfold s47 at h
  split at h
  case h_3 => cases h
  case h_1 =>
    split at h
    case isFalse => cases h
    rename_i hc
    obtain ⟨rfl, rfl, rfl, rfl, rfl, ha, rfl, rfl, rfl, rfl⟩ := hc
    have ha := List.isEmpty_iff.1 ha
    subst ha
    injection h with h
    injection h with _ h; subst h
    exact ⟨XK, tbl [], itbl [], nAn, tbl_nil, itbl_nil, ⟨by rw [w47]; exact ⟨fun h => ⟨rfl, by rw [h]⟩, fun h => ⟨rfl, by rw [h]⟩⟩⟩⟩
  case h_2 =>
    split at h
    case isFalse => cases h
    rename_i hc
    obtain ⟨rfl, rfl, rfl, rfl, rfl, rfl, ha, rfl, rfl, rfl, rfl⟩ := hc
    have ha := List.isEmpty_iff.1 ha
    subst ha
    injection h with h
    injection h with _ h; subst h
    exact ⟨XK, tbl [], itbl [], nAn, tbl_nil, itbl_nil, ⟨by rw [w47f]; exact ⟨fun h => ⟨rfl, by rw [h]⟩, fun h => ⟨rfl, by rw [h]⟩⟩⟩⟩
end Go.Abs

namespace Go.Abs
open Go.Proofs Go.RowKit
theorem p62 (m : Int) (nm src fsrc tab key : List UInt8) (nx pn seq kind ref ev : Int) (ack : Bool) (l1 fs : List AV) (l : List FcI) (hl : l.length ≤ 2000000) :
    OpenOk PI (GI m) XK (tbl []) (itbl [(47, s47)]) (a62 nm nx l1 (pkD src ack pn fsrc seq kind ref tab key ev fs) pn l) [] 62 [.ms 3 8 l.length, .fn 47 [.ptr 1 0]] (S4 nm nx l1 (pkD src ack pn fsrc seq kind ref tab key ev fs) l) (.int .i64 (keptIdx pn (fcsL l)), S4 nm nx l1 (pkD src ack pn fsrc seq kind ref tab key ev fs) l) := by
  constructor
  rw [w62]
  refine ⟨⟨0, ⟨rfl⟩, ⟨rfl⟩, ⟨Nat.zero_le _, rfl⟩, trivial⟩, fun x hx => ⟨fun hlt => ?_, fun hge => ?_⟩⟩
  · have hlt := of_decide_eq_true hlt
    have hil : x < l.length := by omega
    refine ⟨⟨by omega, hlt⟩, _, _, _, _, _, _, _, _, by rw [Int.toNat_natCast]; exact take_f hil, trivial, fun hs => ⟨rfl, ?_⟩, fun hs => ⟨x + 1, ⟨by rw [wrapN (by omega)]⟩, ⟨rfl⟩, ⟨hil, ?_⟩, by omega⟩⟩
    · rw [keptIdx_at hil hx.2 (by simp only [keepF]; rw [hs]; rfl)]
    · rw [List.take_succ_eq_append_getElem hil, List.all_append, hx.2]
      simp only [List.all_cons, List.all_nil, Bool.and_true, Bool.true_and, keepF]
      rw [hs]; rfl
  · have hge := of_decide_eq_false hge
    refine ⟨rfl, ?_⟩
    rw [keptIdx_none]
    have := hx.2
    rwa [List.take_of_length_le (by omega)] at this
theorem p62e (m : Int) (z1 : Nat) (nm src fsrc tab key : List UInt8) (nx pn seq kind ref ev : Int) (ack : Bool) (l1 fs : List AV) :
    OpenOk PI (GI m) XK (tbl []) (itbl [(47, s47)]) (a62e nm nx z1 l1 (pkD src ack pn fsrc seq kind ref tab key ev fs)) [] 62 [.sl 8 [] .full, .fn 47 [.ptr 1 0]] (S3 nm nx z1 l1 (pkD src ack pn fsrc seq kind ref tab key ev fs)) (.int .i64 (-1), S3 nm nx z1 l1 (pkD src ack pn fsrc seq kind ref tab key ev fs)) := by
  constructor
  rw [w62e]
  exact ⟨⟨(), ⟨rfl⟩, ⟨rfl⟩, trivial, trivial⟩, fun _ _ => ⟨fun h => (by cases h), fun _ => ⟨rfl, rfl⟩⟩⟩
theorem o62 (m : Int) : ISpecOk PI (GI m) 62 s62 := ispec_of' (m := []) mixedI fun args S p r h hp => by
  unfold s62 at h
  split at h
  case h_3 => cases h
  case h_1 =>
    split at h
    case isFalse => cases h
    rename_i hc
    obtain ⟨rfl, rfl, rfl, rfl, rfl, rfl, rfl, ha, rfl, rfl, rfl, rfl⟩ := hc
    have ha := List.isEmpty_iff.1 ha
    subst ha
    injection h with h
    injection h with h1 h; subst h1 h
    obtain ⟨⟨l, rfl⟩, rfl, hl⟩ := hp
    rw [List.length_map] at hl ⊢
    exact ⟨XK, _, _, _, tbl_nil, itbl_cons (o47 m) itbl_nil, p62 m _ _ _ _ _ _ _ _ _ _ _ _ _ _ l hl⟩
  case h_2 =>
    split at h
    case isFalse => cases h
    rename_i hc
    obtain ⟨rfl, rfl, rfl, rfl, rfl, ha, rfl, rfl⟩ := hc
    have ha := List.isEmpty_iff.1 ha
    subst ha
    injection h with h
    injection h with _ h; subst h
    exact ⟨XK, _, _, _, tbl_nil, itbl_cons (o47 m) itbl_nil, p62e m _ _ _ _ _ _ _ _ _ _ _ _ _ _ _⟩
theorem p46 (m : Int) (nm src fsrc tab key : List UInt8) (nx pn seq kind ref ev : Int) (ack : Bool) (l1 fs : List AV) (l : List FcI) (hl : l.length ≤ 2000000) :
    OpenOk PI (GI m) XK (tbl []) (itbl [(47, s47), (62, s62)]) (a46 nm nx l1 (pkD src ack pn fsrc seq kind ref tab key ev fs) pn l) [] 46 [.ms 3 8 l.length, .fn 47 [.ptr 1 0]] (S4 nm nx l1 (pkD src ack pn fsrc seq kind ref tab key ev fs) l) (.ms 3 8 (keptOpen pn (fcsL l)).length, ⟨[some (sdC nm nx 8 l1), some (pkD src ack pn fsrc seq kind ref tab key ev fs), some sdZ, some (ownC 8 (keptOpen pn (fcsL l)))], []⟩) := by
  constructor
  rw [w46]
  rcases keptIdx_cases pn l with ⟨hi, hall⟩ | ⟨i, hil, hi, hpre, hat⟩
  · rw [hi]
    have hf : l.filter (keepF pn) = l := List.filter_eq_self.2 fun a ha => List.all_eq_true.1 hall a ha
    refine ⟨⟨⟨l, rfl⟩, (List.length_map ..).symm, by rw [List.length_map]; exact hl⟩, fun _ => ⟨rfl, ?_⟩, fun h => (by cases h)⟩
    rw [keptOpen_fc, hf, List.length_map]
  · rw [hi]
    have hpf : (l.take i).filter (keepF pn) = l.take i := List.filter_eq_self.2 fun a ha => List.all_eq_true.1 hpre a ha
    refine ⟨⟨⟨l, rfl⟩, (List.length_map ..).symm, by rw [List.length_map]; exact hl⟩, fun h => (by simp at h), fun _ => ⟨⟨⟨i, i + 1, l⟩, ⟨by rw [wrapN (by omega)]⟩, ⟨rfl⟩, ⟨Nat.lt_succ_self _, hil, rfl, ?_, rfl⟩, trivial⟩, fun x hx => ⟨fun hlt => ?_, fun hge => ?_⟩⟩⟩
    · rw [List.take_succ_eq_append_getElem hil, List.filter_append, hpf, List.filter_cons_of_neg (by rw [hat]; simp)]
      simp
    · obtain ⟨j, i, cur⟩ := x
      simp only at hx hlt ⊢
      obtain ⟨hji, hil2, hcl, hpre, hsuf⟩ := hx
      have hlt := of_decide_eq_true hlt
      have hi : i < l.length := by omega
      have hic : i < cur.length := by omega
      have hei : cur[i] = l[i] := by
        have := congrArg (·[0]?) hsuf
        simp only [List.getElem?_drop, Nat.add_zero] at this
        rw [List.getElem?_eq_getElem hi, List.getElem?_eq_getElem hic] at this
        injection this
      have hdrop : cur.drop (i + 1) = l.drop (i + 1) := by
        have := congrArg (·.drop 1) hsuf
        simpa [List.drop_drop, Nat.add_comm] using this
      have htk : (l.take (i + 1)).filter (keepF pn) = (l.take i).filter (keepF pn) ++ (if keepF pn l[i] then [l[i]] else []) := by
        rw [List.take_succ_eq_append_getElem hi, List.filter_append]
        congr 1
        by_cases h : keepF pn l[i] = true
        · rw [if_pos h, List.filter_cons_of_pos h]; rfl
        · rw [if_neg h, List.filter_cons_of_neg h]; rfl
      refine ⟨⟨by omega, hlt⟩, _, _, _, _, _, _, _, _, by rw [Int.toNat_natCast]; exact take_f hic, trivial, fun hs => ⟨⟨j, i + 1, cur⟩, ⟨by rw [wrapN (by omega)]⟩, ⟨rfl⟩, ⟨by show j < i + 1; omega, hi, hcl, ?_, hdrop⟩, by show l.length - (i + 1) < l.length - i; omega⟩, fun hs => ?_⟩
      · rw [hei] at hs
        show cur.take j = _
        rw [htk, if_neg (by simp only [keepF]; rw [hs]; simp), List.append_nil]; exact hpre
      · refine ⟨⟨by omega, by omega⟩, by rw [List.length_map, Int.toNat_natCast]; omega, ⟨j + 1, i + 1, cur.set j l[i]⟩, ⟨by rw [wrapN (by omega), wrapN (by omega)]⟩, ⟨?_⟩, ⟨by show j + 1 < i + 1; omega, hi, by show (cur.set j l[i]).length = _; rw [List.length_set]; exact hcl, ?_, ?_⟩, by show l.length - (i + 1) < l.length - i; omega⟩
        · rw [Int.toNat_natCast]
          have hg : (fcsL cur).getD j .junk = fcA (cur[j]'(by omega)) := by
            rw [List.getD_eq_getElem?_getD, List.getElem?_map, List.getElem?_eq_getElem (by omega)]; rfl
          rw [hg]
          have e : (fcsL cur).set j (fcA cur[i]) = fcsL (cur.set j l[i]) := by rw [hei]; exact List.map_set.symm
          exact congrArg (fun y => ({ boxes := [some (sdC nm nx 8 l1), some (pkD src ack pn fsrc seq kind ref tab key ev fs), some sdZ, some (ownC 8 y)], live := [] } : St)) e
        · rw [hei] at hs
          show (cur.set j l[i]).take (j + 1) = _
          rw [htk, if_pos (by simp only [keepF]; rw [hs]; rfl), ← hpre]
          have hj : j < (cur.set j l[i]).length := by rw [List.length_set]; omega
          rw [List.take_succ_eq_append_getElem hj, List.take_set_of_le (Nat.le_refl _), List.getElem_set_self]
        · show (cur.set j l[i]).drop (i + 1) = _
          rw [List.drop_set_of_lt (by omega)]; exact hdrop
    · obtain ⟨j, i, cur⟩ := x
      simp only at hx hge ⊢
      obtain ⟨hji, hil2, hcl, hpre, hsuf⟩ := hx
      have hge := of_decide_eq_false hge
      obtain rfl : i = l.length := by omega
      rw [List.take_of_length_le (Nat.le_refl _)] at hpre
      rw [Int.toNat_natCast, List.length_map, keptOpen_fc, List.length_map]
      have hjl : j = (l.filter (keepF pn)).length := by
        rw [← hpre, List.length_take]; omega
      refine ⟨by omega, trivial, ⟨by omega, Nat.le_refl _⟩, trivial, by omega, by omega, trivial, ⟨Nat.zero_le _, by omega⟩, rfl, ?_⟩
      rw [← List.map_take, hpre, ← hjl]
theorem p46e (m : Int) (z1 : Nat) (nm src fsrc tab key : List UInt8) (nx pn seq kind ref ev : Int) (ack : Bool) (l1 fs : List AV) :
    OpenOk PI (GI m) XK (tbl []) (itbl [(47, s47), (62, s62)]) nAn [] 46 [.sl 8 [] .full, .fn 47 [.ptr 1 0]] (S3 nm nx z1 l1 (pkD src ack pn fsrc seq kind ref tab key ev fs)) (.sl 8 [] .full, S3 nm nx z1 l1 (pkD src ack pn fsrc seq kind ref tab key ev fs)) := by
  constructor
  rw [w46e]
  exact ⟨trivial, fun _ => ⟨rfl, rfl⟩, fun h => (by cases h)⟩
theorem o46 (m : Int) : ISpecOk PI (GI m) 46 s46 := ispec_of' (m := []) mixedI fun args S p r h hp => by
  have hC := itbl_cons (o47 m) (itbl_cons (o62 m) itbl_nil)
  unfold s46 at h
  split at h
  case h_3 => cases h
  case h_1 =>
    split at h
    case isFalse => cases h
    rename_i hc
    obtain ⟨rfl, rfl, rfl, rfl, rfl, rfl, rfl, ha, rfl, rfl, rfl, rfl⟩ := hc
    have ha := List.isEmpty_iff.1 ha
    subst ha
    injection h with h
    injection h with h1 h; subst h1 h
    obtain ⟨⟨l, rfl⟩, rfl, hl⟩ := hp
    rw [List.length_map] at hl
    have := p46 m
    rw [show (fcsL l).length = l.length from List.length_map ..]
    exact ⟨XK, _, _, _, tbl_nil, hC, p46 m _ _ _ _ _ _ _ _ _ _ _ _ _ _ l hl⟩
  case h_2 =>
    split at h
    case isFalse => cases h
    rename_i hc
    obtain ⟨rfl, rfl, rfl, rfl, rfl, ha, rfl, rfl⟩ := hc
    have ha := List.isEmpty_iff.1 ha
    subst ha
    injection h with h
    injection h with _ h; subst h
    exact ⟨XK, _, _, _, tbl_nil, hC, p46e m _ _ _ _ _ _ _ _ _ _ _ _ _ _ _⟩
end Go.Abs

namespace Go.Abs
open Go.Proofs Go.RowKit
theorem o45 (m : Int) : SpecOk PI (GI m) 45 s45 := spec_of (X := XK) (m := []) mixedI tbl_nil itbl_nil fun args r h => by
  unfold s45 at h
  split at h
  case h_2 => cases h
  split at h
  case isFalse => cases h
  rename_i hz
  subst hz
  injection h with h; subst h
  exact ⟨nAn, ⟨by rw [w45]; exact ⟨rfl⟩⟩⟩
theorem o44p (m : Int) : SpecOk PI (GI m) 44 s44p := spec_of (X := XK) (m := []) mixedI tbl_nil itbl_nil fun args r h => by
  unfold s44p at h
  split at h
  case h_2 => cases h
  rename_i sz x es
  split at h
  case isFalse => cases h
  rename_i hz
  obtain ⟨rfl, hz⟩ := hz
  injection h with h; subst h
  refine ⟨nAn, ⟨?_⟩⟩
  rw [w44]
  simp only [List.length_cons]
  exact ⟨rfl, .inr trivial, by omega, fun h => (by cases h), fun _ => ⟨by omega, ⟨by simp⟩⟩⟩
theorem o44z (m : Int) : SpecOk PI (GI m) 44 s44z := by
  intro g args r lv h E w vs hI hG hn' hv hcl
  simp only at h
  split at h
  case isFalse => cases h
  case isTrue e =>
  subst e
  unfold s44z at h
  split at h
  case h_2 => cases h
  case h_1 sz o =>
  simp only [Option.some.injEq, Prod.mk.injEq] at h
  obtain ⟨rfl, rfl⟩ := h
  obtain ⟨a, rfl⟩ := vs_one hn'
  obtain ⟨A, cap, rfl, hcap⟩ := rep_slice_shape (hv 0 _ _ rfl rfl)
  have hrep : ∀ (A : Option Addr) (w' : World) (B : Nat → Option Nat) (K : Nat → Nat → Value → Prop), Rep ⟨E.I, B, K⟩ w' (.sl 8 [] .full) (.slice A 0 0) := fun A w' B K => .sl 8 [] .full A 0 (fun _ _ => .bool true) (Nat.le_refl _) (Nat.zero_le _) (.inl rfl) (by simp) (by simp) rfl (fun i e j c hi => by simp at hi) (fun _ _ => rfl)
  cases A with
  | none => exact .inl ⟨I41.good44, (I41.cloneNil44 _ cap w).mono fun e w' ⟨he, hw⟩ => ⟨_, he, by subst hw; exact res_same fun B K => hrep none _ B K⟩⟩
  | some a => exact .inl ⟨I41.good44, (I41.cloneEmpty44 a cap w).mono fun e w' ⟨A, he, hw⟩ => ⟨_, he, res_below hw fun B K => hrep A _ B K⟩⟩
theorem o44n (m : Int) : ISpecOk PI (GI m) 44 s44n := (o44 m).mono fun args S p r h hp => by
  unfold s44n at h
  split at h
  case h_2 => cases h
  rename_i sz es o
  split at h
  · rename_i he
    injection h with h
    injection h with h1 h2; subst h1 h2
    exact ⟨True, by simp only [s44, sClone, he, if_true], trivial⟩
  · rename_i he
    split at h
    case isFalse => cases h
    rename_i hz
    subst hz
    injection h with h
    injection h with h1 h2; subst h1 h2
    exact ⟨_, by simp only [s44, sClone, he, if_true]; rfl, hp.2⟩
theorem o22 (m : Int) : SpecOk PI (GI m) 22 s22 := lax_of (X := XK) (m := []) mixedI (tbl_cons (o45 m) tbl_nil) itbl_nil fun args r h => by
  unfold s22 at h
  split at h
  case h_2 => cases h
  rename_i nm nx sz es
  split at h
  case isFalse => cases h
  rename_i hc
  obtain ⟨rfl, hlen⟩ := hc
  split at h
  case h_2 => cases h
  rename_i l hl
  obtain rfl := unGs_inv hl
  injection h with h; subst h
  refine ⟨a22 nm nx l, ⟨?_⟩⟩
  rw [w22]
  have hll : (fcsL l).length = l.length := List.length_map ..
  have hrl : ∀ n, n ≤ l.length → (resP (l.take n)).length = n := fun n hn => by simp [resP]; omega
  have hpl : ∀ n, n ≤ l.length → (pksL (resP (l.take n))).length = n := fun n hn => by simp [resP]; omega
  rw [hll] at hlen ⊢
  refine ⟨⟨0, ⟨rfl⟩, ⟨rfl⟩, Nat.zero_le _, trivial⟩, fun x hx => ⟨fun hlt => ?_, fun hge => ?_⟩⟩
  · have hlt := of_decide_eq_true hlt
    have hil : x < l.length := by omega
    refine ⟨⟨by omega, hlt⟩, _, _, _, _, _, _, _, _, by rw [Int.toNat_natCast]; exact take_f hil, _, _, _, _, _, _, _, _, _, _, _, ⟨rfl⟩, .inl rfl, by rw [hpl _ hx]; omega, by rw [hpl _ hx, hrl _ hx], x + 1, ⟨?_⟩, ⟨?_⟩, hil, by omega⟩
    · rw [wrapN (by omega), List.take_succ_eq_append_getElem hil]
      simp only [resP, List.map_append, List.map_cons, List.map_nil]
      rfl
    · rw [hpl _ hx, hrl _ hil]
  · have hge := of_decide_eq_false hge
    have hx' : x = l.length := by omega
    subst hx'
    rw [List.take_of_length_le (Nat.le_refl _)]
    exact ⟨⟨rfl, rfl, .inl rfl⟩, rfl, rfl⟩
theorem o23 (m : Int) : SpecOk PI (GI m) 23 s23 := lax_of (X := XK) (m := []) mixedI tbl_nil (itbl_cons (o44n m) (itbl_cons (o46 m) itbl_nil)) fun args r h => by
  unfold s23 at h
  split at h
  case h_2 => cases h
  rename_i nm nx sz es src ack n fsrc seq kind ref tab key ev sz2 fs
  split at h
  case isFalse => cases h
  rename_i hc
  obtain ⟨hsz, rfl, hlen⟩ := hc
  split at h
  case h_2 => cases h
  rename_i l hl
  obtain rfl := unGs_inv hl
  injection h with h; subst h
  obtain ⟨q, hq⟩ : ∃ q, ackP ⟨nm, nx, l⟩ src ack n = q := ⟨_, rfl⟩
  rw [hq]
  obtain ⟨⟨rn, rx, rl⟩, rc⟩ := q
  have hz : ackBad nm nx src ack n = true → RetLax (.tup [.agg sdZ, .int .i64 1]) (.tup [.agg (sdC rn rx 8 (fcsL rl)), .int .i64 rc], []) := fun hb => by
    simp only [ackP, hb, if_true, Prod.mk.injEq, SdI.mk.injEq] at hq
    obtain ⟨⟨rfl, rfl, rfl⟩, rfl⟩ := hq
    exact ⟨⟨⟨rfl, rfl, ⟨rfl, rfl, .inr rfl⟩, trivial⟩, rfl, trivial⟩, rfl, rfl⟩
  have hg : ackBad nm nx src ack n = false → (⟨rn, rx, rl⟩, rc) = ((⟨nm, nx, l.filter fun f => !decide (f.seq < n)⟩ : SdI), (0 : Int)) := fun hb => by
    simp only [ackP, hb, Bool.false_eq_true, if_false] at hq
    exact hq.symm
  cases l with
  | nil =>
    refine ⟨nAn, ⟨?_⟩⟩
    have : fcsL rl = [] := by
      cases hb : ackBad nm nx src ack n with
      | true =>
        simp only [ackP, hb, if_true, Prod.mk.injEq, SdI.mk.injEq] at hq
        obtain ⟨⟨rfl, rfl, rfl⟩, rfl⟩ := hq; rfl
      | false =>
        have := hg hb
        simp only [Prod.mk.injEq, SdI.mk.injEq] at this
        rw [this.1.2.2]; rfl
    unfold sdA
    rw [this] at hz ⊢
    show laxW PI (GI m) XK (tbl []) (itbl [(44, s44n), (46, s46)]) nAn [] 23 [.agg (sdC nm nx sz []), .agg (pkD src ack n fsrc seq kind ref tab key ev fs)] (.tup [.agg (sdC rn rx 8 []), .int .i64 rc], [])
    rw [w23e]
    refine ⟨fun h1 => ⟨fun h2 => hz (by simp_all [ackBad]), fun h2 => ⟨fun h3 => hz (by simp_all [ackBad]), fun h3 => ⟨fun h4 => hz (by simp_all [ackBad]), fun h4 => ⟨trivial, trivial, ?_⟩⟩⟩⟩, fun h1 => hz (by simp_all [ackBad])⟩
    have := hg (by simp_all [ackBad])
    simp only [Prod.mk.injEq, SdI.mk.injEq] at this
    obtain ⟨⟨rfl, rfl, _⟩, rfl⟩ := this
    exact ⟨⟨⟨rfl, rfl, ⟨rfl, rfl, .inl rfl⟩, trivial⟩, rfl, trivial⟩, rfl, rfl⟩
  | cons f l =>
    obtain rfl : sz = 8 := hsz.resolve_right (by simp)
    refine ⟨nAn, ⟨?_⟩⟩
    show laxW PI (GI m) XK (tbl []) (itbl [(44, s44n), (46, s46)]) nAn [] 23 [.agg (sdC nm nx 8 (fcA f :: fcsL l)), .agg (pkD src ack n fsrc seq kind ref tab key ev fs)] (.tup [.agg (sdC rn rx 8 (fcsL rl)), .int .i64 rc], [])
    rw [w23]
    have hlen' : l.length + 1 ≤ 2000000 := by simpa using hlen
    refine ⟨fun h1 => ⟨fun h2 => hz (by simp_all [ackBad]), fun h2 => ⟨fun h3 => hz (by simp_all [ackBad]), fun h3 => ⟨fun h4 => hz (by simp_all [ackBad]), fun h4 => ⟨⟨by simp, by simp; omega⟩, ⟨⟨f :: l, rfl⟩, rfl, by simpa using hlen'⟩, rfl, ?_⟩⟩⟩⟩, fun h1 => hz (by simp_all [ackBad])⟩
    have := hg (by simp_all [ackBad])
    simp only [Prod.mk.injEq, SdI.mk.injEq] at this
    obtain ⟨⟨rfl, rfl, rfl⟩, rfl⟩ := this
    refine ⟨⟨⟨rfl, rfl, ⟨rfl, ?_, .inl rfl⟩, trivial⟩, rfl, trivial⟩, rfl, rfl⟩
    exact keptOpen_fc n (f :: l)
theorem o21 (m : Int) : SpecOk PI (GI m) 21 s21 := lax_of' (m := []) mixedI fun args r h => by
  unfold s21 at h
  split at h
  case h_2 => cases h
  rename_i nm nx sz es src seq kind ref tab key ev sz2 es2
  split at h
  case isFalse => cases h
  rename_i hc
  obtain ⟨hsz, rfl, hlen, hnx⟩ := hc
  split at h
  case h_2 => cases h
  rename_i l fs hl hfs
  obtain rfl := unGs_inv hl
  obtain rfl := unL_inv unV_inv hfs
  injection h with h; subst h
  obtain ⟨g, hgd⟩ : ∃ g : FcI, (⟨src, seq, kind, ref, tab, key, ev, fs⟩ : FcI) = g := ⟨_, rfl⟩
  rw [hgd]
  obtain ⟨q, hq⟩ : ∃ q, subP ⟨nm, nx, l⟩ g = q := ⟨_, rfl⟩
  rw [hq]
  obtain ⟨⟨rn, rx, rl⟩, p, rc⟩ := q
  have hZ : ∀ c : Int, (q : (⟨⟨rn, rx, rl⟩, p, rc⟩ : SdI × PkI × Int) = (⟨[], 0, []⟩, ⟨[], false, 0, ⟨[], 0, 0, 0, [], [], 0, []⟩⟩, c)) → RetLax (.tup [.agg sdZ, .agg zeroPC, .int .i64 c]) (.tup [.agg (sdC rn rx 8 (fcsL rl)), pkA p, .int .i64 rc], []) := fun c hq => by
    simp only [Prod.mk.injEq, SdI.mk.injEq] at hq
    obtain ⟨⟨rfl, rfl, rfl⟩, rfl, rfl⟩ := hq
    exact ⟨⟨⟨rfl, rfl, ⟨rfl, rfl, .inr rfl⟩, trivial⟩, ⟨rfl, rfl, rfl, rfl, rfl, rfl, rfl, rfl, rfl, rfl, ⟨rfl, rfl, .inr rfl⟩, trivial⟩, rfl, trivial⟩, rfl, rfl⟩
  have h1 : decide (nx > 1099511627776) = true → (⟨⟨rn, rx, rl⟩, p, rc⟩ : SdI × PkI × Int) = (⟨[], 0, []⟩, ⟨[], false, 0, ⟨[], 0, 0, 0, [], [], 0, []⟩⟩, 2) := fun h => by
    have h := of_decide_eq_true h
    rw [← hq]; unfold subP; rw [if_pos (by show (1099511627776 : Int) < nx; omega)]
  have h2 : decide (nx > 1099511627776) = false → 64 ≤ l.length → (⟨⟨rn, rx, rl⟩, p, rc⟩ : SdI × PkI × Int) = (⟨[], 0, []⟩, ⟨[], false, 0, ⟨[], 0, 0, 0, [], [], 0, []⟩⟩, 410) := fun h h' => by
    have h := of_decide_eq_false h
    rw [← hq]; unfold subP; rw [if_neg (by show ¬ (1099511627776 : Int) < nx; omega), if_pos h']
  have h3 : decide (nx > 1099511627776) = false → ¬ 64 ≤ l.length → (⟨⟨rn, rx, rl⟩, p, rc⟩ : SdI × PkI × Int) = (⟨nm, nx + 1, l ++ [{ g with src := nm, seq := nx }]⟩, ⟨nm, false, 0, { g with src := nm, seq := nx }⟩, 0) := fun h h' => by
    have h := of_decide_eq_false h
    rw [← hq]; unfold subP; rw [if_neg (by show ¬ (1099511627776 : Int) < nx; omega), if_neg h']
  have hw : decide (nx > 1099511627776) = false → IntKind.i64.wrap (nx + 1) = nx + 1 := fun h => by
    have h := of_decide_eq_false h
    exact wrap64_in (by omega) (by omega)
  have hgc : (AV.agg [.str src, .int .i64 seq, .int .i64 kind, .int .i64 ref, .str tab, .str key, .int .i64 ev, .sl 3 (fs.map vaA) .no]) = .agg (fcC g) := by rw [← hgd]
  rw [hgc]
  cases l with
  | nil =>
    refine ⟨XZ, _, _, nAn, tbl_cons (o44z m) (tbl_cons (o45 m) tbl_nil), itbl_nil, ⟨?_⟩⟩
    show laxW PI (GI m) XZ (tbl [(44, s44z), (45, s45)]) (itbl []) nAn [] 21 [.agg (sdC nm nx sz []), .agg (fcC g)] (.tup [.agg (sdC rn rx 8 (fcsL rl)), pkA p, .int .i64 rc], [])
    rw [w21e]
    refine ⟨fun h => hZ 2 (h1 h), fun h => ⟨fun h' => (by cases h'), fun h' => ⟨_, ⟨rfl⟩, .inl rfl, by simp, _, _, _, _, _, _, _, _, _, _, _, ⟨rfl⟩, ?_⟩⟩⟩
    have h3 := h3 h (by simp)
    rw [hw h]
    simp only [Prod.mk.injEq, SdI.mk.injEq] at h3
    obtain ⟨⟨rfl, rfl, rfl⟩, rfl, rfl⟩ := h3
    exact ⟨⟨⟨rfl, rfl, ⟨rfl, rfl, .inl rfl⟩, trivial⟩, ⟨rfl, rfl, rfl, rfl, rfl, rfl, rfl, rfl, rfl, rfl, ⟨rfl, rfl, .inl rfl⟩, trivial⟩, rfl, trivial⟩, rfl, rfl⟩
  | cons f l =>
    obtain rfl : sz = 8 := hsz.resolve_right (by simp)
    refine ⟨XK, _, _, nAn, tbl_cons (o44p m) (tbl_cons (o45 m) tbl_nil), itbl_nil, ⟨?_⟩⟩
    show laxW PI (GI m) XK (tbl [(44, s44p), (45, s45)]) (itbl []) nAn [] 21 [.agg (sdC nm nx 8 (fcA f :: fcsL l)), .agg (fcC g)] (.tup [.agg (sdC rn rx 8 (fcsL rl)), pkA p, .int .i64 rc], [])
    rw [w21]
    have hlen' : l.length + 1 ≤ 2000000 := by simpa using hlen
    have k44 : tbl [(44, s44p), (45, s45)] 44 [.sl 8 (fcA f :: fcsL l) .no] = some (.sl 8 (fcA f :: fcsL l) (.tok 0), [((fcsL l).length + 1, 33)]) := by
      rw [tbl_hit]
      have : (fcsL l).length ≤ 2000000 := by rw [List.length_map]; omega
      simp only [s44p, this, true_and, if_true]
    have hll : (fcA f :: fcsL l).length = l.length + 1 := by simp
    refine ⟨fun h => hZ 2 (h1 h), fun h => ⟨fun h' => hZ 410 (h2 h (by have h' := of_decide_eq_true h'; have : ((fcA f :: fcsL l).length : Int) ≥ 64 := h'; rw [hll] at this; simp only [List.length_cons]; omega)), fun h' => ⟨_, ⟨k44⟩, .inl rfl, by rw [hll]; omega, rfl, _, _, _, _, _, _, _, _, _, _, _, ⟨rfl⟩, ?_⟩⟩⟩
    have h3 := h3 h (by have h' := of_decide_eq_false h'; have h' : ¬ ((fcA f :: fcsL l).length : Int) ≥ 64 := h'; rw [hll] at h'; simp only [List.length_cons]; omega)
    rw [hw h]
    simp only [Prod.mk.injEq, SdI.mk.injEq] at h3
    obtain ⟨⟨rfl, rfl, rfl⟩, rfl, rfl⟩ := h3
    exact ⟨⟨⟨rfl, rfl, ⟨rfl, by rw [show fcsL (f :: l ++ [_]) = fcA f :: (fcsL l ++ [_]) from by simp [fcsL]; rfl]; rfl, .inl rfl⟩, trivial⟩, ⟨rfl, rfl, rfl, rfl, rfl, rfl, rfl, rfl, rfl, rfl, ⟨rfl, rfl, .inl rfl⟩, trivial⟩, rfl, trivial⟩, rfl, rfl⟩
end Go.Abs

namespace Go.Abs
open Go.Proofs
structure EnI where
  tick : Int
  kind : Int
  f : FcI
deriving DecidableEq, Inhabited
def enA (e : EnI) : AV := .agg [.opq, .int .i64 e.tick, .int .i64 e.kind, .str e.f.src, .int .i64 e.f.seq, .int .i64 e.f.kind, .int .i64 e.f.ref, .str e.f.table, .str e.f.key, .int .i64 e.f.event, .sl 3 (vasL e.f.fs) .no, .opq, .opq, .opq, .opq, .opq, .opq, .opq, .opq, .opq, .opq, .opq, .opq, .opq, .opq, .opq, .opq, .opq, .opq, .opq, .opq, .opq, .opq, .opq, .opq, .opq, .opq, .opq, .opq, .opq]
abbrev ensL (l : List EnI) : List AV := l.map enA
def isOpq : AV → Bool
  | .opq => true
  | _ => false
def unE : AV → Option EnI
  | .agg (.opq :: .int .i64 tick :: .int .i64 kind :: .str src :: .int .i64 seq :: .int .i64 k2 :: .int .i64 ref :: .str table :: .str key :: .int .i64 event :: .sl sz es .no :: rest) => if sz = 3 ∧ rest.length = 29 ∧ rest.all isOpq = true then (unL unV es).map fun fs => ⟨tick, kind, ⟨src, seq, k2, ref, table, key, event, fs⟩⟩ else none
  | _ => none
def relB (tick : Int) (e : EnI) : Bool := decide (e.kind = 1) && decide (e.tick ≤ tick)
def metL (tick : Int) (l : List EnI) : List EnI := l.filter (relB tick)
abbrev idA (s : List UInt8) (n : Int) : AV := .agg [.str s, .int .i64 n]
def idsM (L : List EnI) : List AV := L.foldl (fun m e => keptPutM m (idA e.f.src e.f.seq) (.bool true)) []
def srcM (L : List EnI) : List AV := L.foldl (fun m e => keptPutM m (.str e.f.src) (.bool true)) []
def hasId (L : List EnI) (s : List UInt8) (n : Int) : Bool := L.any fun e => decide (e.f.src = s) && decide (e.f.seq = n)
def nextF (has : Int → Bool) : Nat → Int → Int
  | 0, n => n
  | k + 1, n => if has n then nextF has k (n + 1) else n
def nextM (L : List EnI) (s : List UInt8) : Int := nextF (hasId L s) L.length 1
def mkOf (L : List EnI) (s : List UInt8) : MkI := ⟨s, nextM L s⟩
def nmsM (L : List EnI) : List (List UInt8) := keptSort (keysM (srcM L))
def marksM (L : List EnI) : List MkI := (nmsM L).map (mkOf L)
/-- the names, put in their places one after the other -/
def insN (s : List UInt8) (l : List (List UInt8)) : List (List UInt8) :=
  let k := (l.takeWhile fun a => Op.bytesLess a s).length
  if l[k]? = some s then l else l.take k ++ [s] ++ l.drop k
def nmsR (L : List EnI) : List (List UInt8) := L.foldl (fun m e => insN e.f.src m) []
def idsOk (l : List EnI) : Bool := l.all fun e => decide (e.f.src.length ≤ 100000000) && decide (-9223372036854775808 ≤ e.f.seq) && decide (e.f.seq ≤ 9223372036854775807)
/-- Marks, both -/
def s15 : Spec := fun args => match args with
  | [.sl sz es .no, .int .i64 tick] => if sz = 40 ∧ es.length ≤ 2000000 then (match unL unE es with
    | some l => if idsOk l = true then some (.sl 2 (mksL (marksM (metL tick l))) .no, []) else none
    | none => none) else none
  | _ => none
/-- asofref41.seen -/
def s42 : Spec := fun args => match args with
  | [.sl sz es .no, .int .i64 tick, .agg [.str s, .int .i64 n]] => if sz = 40 ∧ es.length ≤ 2000000 then (match unL unE es with
    | some l => some (.bool (hasId (metL tick l) s n), [])
    | none => none) else none
  | _ => none
abbrev shEn : Sh × Option TypeId := (.val (.agg [.is .opq, .int .i64, .int .i64, .str, .int .i64, .int .i64, .int .i64, .str, .str, .int .i64, .sl 3 .no, .is .opq, .is .opq, .is .opq, .is .opq, .is .opq, .is .opq, .is .opq, .is .opq, .is .opq, .is .opq, .is .opq, .is .opq, .is .opq, .is .opq, .is .opq, .is .opq, .is .opq, .is .opq, .is .opq, .is .opq, .is .opq, .is .opq, .is .opq, .is .opq, .is .opq, .is .opq, .is .opq, .is .opq, .is .opq]), none)
def XMa : Shapes := fun f => match f with
  | 42 | 7 | 9 | 14 => some shB
  | 15 | 16 => some (.val (.one (.sl 2 .no)), none)
  | 2000063 => some shEn
  | _ => none
abbrev SM0 (L : List EnI) : St := ⟨[some (mapC 111 L.length (idsM L)), some (mapC 112 L.length (srcM L))], []⟩
structure St15 where
  i : Nat
  j : Nat
  s : List UInt8
def a15 (l : List EnI) (tick : Int) : Anns := ⟨fun k => match k with
  | 4 => some { α := Nat, slots := [1, 4, 5, 6, 14, 15, 16], nb := 2, vals := fun n => [.int .i64 tick, .sl 0 [] .nil, .mp 0, .mp 1, .sl 40 (ensL l) .no, .int .i64 l.length, .int .i64 n], sS := fun n => SM0 (metL tick (l.take n)), I := fun n => n ≤ l.length, μ := fun n => l.length - n }
  | 11 => some { α := Nat, slots := [4, 5, 41, 42, 43], nb := 3, vals := fun n => [.sl 2 (mksL ((marksM (metL tick l)).take n)) (.tok 0), .mp 0, .sl 1 ((nmsM (metL tick l)).map .str) .no, .int .i64 (nmsM (metL tick l)).length, .int .i64 n], sS := fun n => ⟨[some (mapC 111 (metL tick l).length (idsM (metL tick l))), some (mapC 112 (metL tick l).length (srcM (metL tick l))), some [.mp 1]], [(((marksM (metL tick l)).take n).length, 93)]⟩, I := fun n => n ≤ (nmsM (metL tick l)).length, μ := fun n => (nmsM (metL tick l)).length - n, mint := [(4, 93)] }
  | 14 => some { α := St15, slots := [4, 5, 10, 11, 41, 42, 43], nb := 4, vals := fun n => [.sl 2 (mksL ((marksM (metL tick l)).take n.i)) (.tok 0), .mp 0, .str n.s, .ptr 3 0, .sl 1 ((nmsM (metL tick l)).map .str) .no, .int .i64 (nmsM (metL tick l)).length, .int .i64 n.i], sS := fun n => ⟨[some (mapC 111 (metL tick l).length (idsM (metL tick l))), some (mapC 112 (metL tick l).length (srcM (metL tick l))), some [.mp 1], some [.str n.s, .int .i64 (n.j + 1)]], [(((marksM (metL tick l)).take n.i).length, 93)]⟩, I := fun n => (nmsM (metL tick l))[n.i]? = some n.s ∧ n.j ≤ (metL tick l).length ∧ (∀ k : Nat, k < n.j → hasId (metL tick l) n.s (k + 1) = true) ∧ nextF (hasId (metL tick l) n.s) ((metL tick l).length - n.j) (n.j + 1) = nextM (metL tick l) n.s, μ := fun n => (metL tick l).length - n.j, link := some fun T n => T[43]? = some (.int .i64 n.i) }
  | _ => none, nA⟩
def a42 (l : List EnI) (tick : Int) (s : List UInt8) (x : Int) : Anns := ⟨fun k => if k = 2 then some { α := Nat, slots := [0, 1, 5, 7], nb := 1, vals := fun n => [.sl 40 (ensL l) .no, .int .i64 tick, .ptr 0 0, .int .i64 n], sS := fun _ => ⟨[some [.str s, .int .i64 x]], []⟩, I := fun n => n ≤ l.length ∧ hasId (metL tick (l.take n)) s x = false, μ := fun n => l.length - n } else none, nA⟩
def outR (l : List EnI) (tick : Int) (i : Nat) : List MkI := (nmsR (metL tick (l.take i))).map (mkOf (metL tick l))
structure St16 where
  i : Nat
  at_ : Nat
  s : List UInt8
  j : Nat
def a16 (l : List EnI) (tick : Int) : Anns := ⟨fun k => match k with
  | 3 => some { α := Nat, slots := [0, 1, 5, 6], nb := 0, vals := fun n => [.sl 40 (ensL l) .no, .int .i64 tick, .sl 2 (mksL (outR l tick n)) .no, .int .i64 n], sS := fun _ => ⟨[], []⟩, I := fun n => n ≤ l.length, μ := fun n => l.length - n, mint := [(5, 93)], keep := some 0 }
  | 8 => some { α := St16, slots := [0, 1, 5, 6, 7, 8], nb := 1, vals := fun n => [.sl 40 (ensL l) .no, .int .i64 tick, .sl 2 (mksL (outR l tick n.i)) .no, .int .i64 n.i, .ptr 0 0, .int .i64 n.at_], sS := fun n => ⟨[some [.str n.s, .int .i64 1]], []⟩, I := fun n => n.i < l.length ∧ (∃ e, l[n.i]? = some e ∧ relB tick e = true ∧ e.f.src = n.s) ∧ n.at_ ≤ ((nmsR (metL tick (l.take n.i))).takeWhile fun a => Op.bytesLess a n.s).length, μ := fun n => (outR l tick n.i).length - n.at_, link := some fun T n => T[6]? = some (.int .i64 n.i) }
  | 1000010 => some { α := St16, slots := [0, 1, 5, 6, 7, 8], nb := 1, vals := fun n => [.sl 40 (ensL l) .no, .int .i64 tick, .sl 2 (mksL (outR l tick n.i)) .no, .int .i64 n.i, .ptr 0 0, .int .i64 n.at_], sS := fun n => ⟨[some [.str n.s, .int .i64 1]], []⟩, I := fun n => n.i < l.length ∧ (∃ e, l[n.i]? = some e ∧ relB tick e = true ∧ e.f.src = n.s) ∧ n.at_ = ((nmsR (metL tick (l.take n.i))).takeWhile fun a => Op.bytesLess a n.s).length, μ := fun _ => 0, rel := fun T n => T[6]? = some (.int .i64 n.i) }
  | 1000011 => some { α := St16, slots := [0, 1, 5, 6, 7, 8], nb := 1, vals := fun n => [.sl 40 (ensL l) .no, .int .i64 tick, .sl 2 (mksL (outR l tick n.i)) .no, .int .i64 n.i, .ptr 0 0, .int .i64 n.at_], sS := fun n => ⟨[some [.str n.s, .int .i64 1]], []⟩, I := fun n => n.i < l.length ∧ (∃ e, l[n.i]? = some e ∧ relB tick e = true ∧ e.f.src = n.s) ∧ n.at_ = ((nmsR (metL tick (l.take n.i))).takeWhile fun a => Op.bytesLess a n.s).length ∧ (nmsR (metL tick (l.take n.i)))[n.at_]? ≠ some n.s, μ := fun _ => 0, rel := fun T n => T[6]? = some (.int .i64 n.i) }
  | 11 => some { α := St16, slots := [0, 1, 5, 6, 7, 8], nb := 1, vals := fun n => [.sl 40 (ensL l) .no, .int .i64 tick, .sl 2 (mksL (outR l tick n.i)) .no, .int .i64 n.i, .ptr 0 0, .int .i64 n.at_], sS := fun n => ⟨[some [.str n.s, .int .i64 (n.j + 1)]], []⟩, I := fun n => n.i < l.length ∧ (∃ e, l[n.i]? = some e ∧ relB tick e = true ∧ e.f.src = n.s) ∧ n.at_ = ((nmsR (metL tick (l.take n.i))).takeWhile fun a => Op.bytesLess a n.s).length ∧ (nmsR (metL tick (l.take n.i)))[n.at_]? ≠ some n.s ∧ n.j ≤ (metL tick l).length ∧ (∀ k : Nat, k < n.j → hasId (metL tick l) n.s (k + 1) = true) ∧ nextF (hasId (metL tick l) n.s) ((metL tick l).length - n.j) (n.j + 1) = nextM (metL tick l) n.s, μ := fun n => (metL tick l).length - n.j, link := some fun T n => T[6]? = some (.int .i64 n.i) }
  | _ => none, nA⟩
end Go.Abs

namespace Go.Abs
open Go.Proofs
theorem w42 (m : Int) (l : List EnI) (tick : Int) (s : List UInt8) (x : Int) : (pureW PI (GI m) XMa (tbl []) (itbl []) (a42 l tick s x) [] 42 [.sl 40 (ensL l) .no, .int .i64 tick, .agg [.str s, .int .i64 x]] (.bool (hasId (metL tick l) s x), [])) =
((∃ (y : Nat),
    ValsAre [AV.sl ((40 : Nat)) (ensL l) Own.no, AV.int IntKind.i64 tick, AV.ptr ((0 : Nat)) ((0 : Nat)), AV.int IntKind.i64 (0 : Int)]
        [AV.sl ((40 : Nat)) (ensL l) Own.no, AV.int IntKind.i64 tick, AV.ptr ((0 : Nat)) ((0 : Nat)), AV.int IntKind.i64 (↑y : Int)] ∧
      StIs { boxes := [some [AV.str s, AV.int IntKind.i64 x]], live := [] } { boxes := [some [AV.str s, AV.int IntKind.i64 x]], live := [] } ∧
        (y ≤ l.length ∧ hasId (metL tick (List.take y l)) s x = false) ∧ True) ∧
  ∀ (x_1 : Nat),
    x_1 ≤ l.length ∧ hasId (metL tick (List.take x_1 l)) s x = false →
      (decide ((↑x_1 : Int) < (↑(ensL l).length : Int)) = true →
          ((0 : Int) ≤ (↑x_1 : Int) ∧ (↑x_1 : Int) < (↑(ensL l).length : Int)) ∧
            ∃ (n : Int),
              takeAt PI ((3 : Nat)) (ensL l) (↑x_1 : Int).toNat ((2 : Nat)) = some (AV.int IntKind.i64 n) ∧
                ((n == (1 : Int)) = true →
                    ((0 : Int) ≤ (↑x_1 : Int) ∧ (↑x_1 : Int) < (↑(ensL l).length : Int)) ∧
                      ∃ (n : Int),
                        takeAt PI ((3 : Nat)) (ensL l) (↑x_1 : Int).toNat ((1 : Nat)) = some (AV.int IntKind.i64 n) ∧
                          (decide (n ≤ tick) = true →
                              ((0 : Int) ≤ (↑x_1 : Int) ∧ (↑x_1 : Int) < (↑(ensL l).length : Int)) ∧
                                ∃ (s_1 : List UInt8),
                                  ∃ (n : Int),
                                    takeAt PI ((30 : Nat)) (ensL l) (↑x_1 : Int).toNat ((3 : Nat)) = some (AV.agg [AV.str s_1, AV.int IntKind.i64 n]) ∧
                                      ((s_1 == s && (n == x && true)) = true → RetIs (AV.bool true) [] (AV.bool (hasId (metL tick l) s x), [])) ∧
                                        ((s_1 == s && (n == x && true)) = false →
                                          ∃ (y : Nat),
                                            ValsAre
                                                [AV.sl ((40 : Nat)) (ensL l) Own.no, AV.int IntKind.i64 tick, AV.ptr ((0 : Nat)) ((0 : Nat)),
                                                  AV.int IntKind.i64 (IntKind.i64.wrap ((↑x_1 : Int) + (1 : Int)))]
                                                [AV.sl ((40 : Nat)) (ensL l) Own.no, AV.int IntKind.i64 tick, AV.ptr ((0 : Nat)) ((0 : Nat)),
                                                  AV.int IntKind.i64 (↑y : Int)] ∧
                                              StIs { boxes := [some [AV.str s, AV.int IntKind.i64 x]], live := [] }
                                                  { boxes := [some [AV.str s, AV.int IntKind.i64 x]], live := [] } ∧
                                                (y ≤ l.length ∧ hasId (metL tick (List.take y l)) s x = false) ∧ l.length - y < l.length - x_1)) ∧
                            (decide (n ≤ tick) = false →
                              ∃ (y : Nat),
                                ValsAre
                                    [AV.sl ((40 : Nat)) (ensL l) Own.no, AV.int IntKind.i64 tick, AV.ptr ((0 : Nat)) ((0 : Nat)),
                                      AV.int IntKind.i64 (IntKind.i64.wrap ((↑x_1 : Int) + (1 : Int)))]
                                    [AV.sl ((40 : Nat)) (ensL l) Own.no, AV.int IntKind.i64 tick, AV.ptr ((0 : Nat)) ((0 : Nat)),
                                      AV.int IntKind.i64 (↑y : Int)] ∧
                                  StIs { boxes := [some [AV.str s, AV.int IntKind.i64 x]], live := [] }
                                      { boxes := [some [AV.str s, AV.int IntKind.i64 x]], live := [] } ∧
                                    (y ≤ l.length ∧ hasId (metL tick (List.take y l)) s x = false) ∧ l.length - y < l.length - x_1)) ∧
                  ((n == (1 : Int)) = false →
                    ∃ (y : Nat),
                      ValsAre
                          [AV.sl ((40 : Nat)) (ensL l) Own.no, AV.int IntKind.i64 tick, AV.ptr ((0 : Nat)) ((0 : Nat)),
                            AV.int IntKind.i64 (IntKind.i64.wrap ((↑x_1 : Int) + (1 : Int)))]
                          [AV.sl ((40 : Nat)) (ensL l) Own.no, AV.int IntKind.i64 tick, AV.ptr ((0 : Nat)) ((0 : Nat)), AV.int IntKind.i64 (↑y : Int)] ∧
                        StIs { boxes := [some [AV.str s, AV.int IntKind.i64 x]], live := [] } { boxes := [some [AV.str s, AV.int IntKind.i64 x]], live := [] } ∧
                          (y ≤ l.length ∧ hasId (metL tick (List.take y l)) s x = false) ∧ l.length - y < l.length - x_1)) ∧
        (decide ((↑x_1 : Int) < (↑(ensL l).length : Int)) = false → RetIs (AV.bool false) [] (AV.bool (hasId (metL tick l) s x), []))) := by kernel_rfl
theorem w15 (m : Int) (l : List EnI) (tick : Int) : (laxW PI (GI m) XMa (tbl []) (itbl [(41, s41), (40, s40)]) (a15 l tick) [] 15 [.sl 40 (ensL l) .no, .int .i64 tick] (.sl 2 (mksL (marksM (metL tick l))) .no, [])) =
((∃ (y : Nat),
    ValsAre
        [AV.int IntKind.i64 tick, AV.sl ((0 : Nat)) [] Own.nil, AV.mp ((0 : Nat)), AV.mp ((1 : Nat)), AV.sl ((40 : Nat)) (ensL l) Own.no,
          AV.int IntKind.i64 (↑(ensL l).length : Int), AV.int IntKind.i64 (0 : Int)]
        [AV.int IntKind.i64 tick, AV.sl ((0 : Nat)) [] Own.nil, AV.mp ((0 : Nat)), AV.mp ((1 : Nat)), AV.sl ((40 : Nat)) (ensL l) Own.no,
          AV.int IntKind.i64 (↑l.length : Int), AV.int IntKind.i64 (↑y : Int)] ∧
      StIs
          {
            boxes :=
              [some [AV.tup [AV.int IntKind.i64 (111 : Int), AV.int IntKind.i64 (0 : Int), AV.tup []]],
                some [AV.tup [AV.int IntKind.i64 (112 : Int), AV.int IntKind.i64 (0 : Int), AV.tup []]]],
            live := [] }
          {
            boxes :=
              [some
                  [AV.tup
                      [AV.int IntKind.i64 (111 : Int), AV.int IntKind.i64 (↑(metL tick (List.take y l)).length : Int),
                        AV.tup (idsM (metL tick (List.take y l)))]],
                some
                  [AV.tup
                      [AV.int IntKind.i64 (112 : Int), AV.int IntKind.i64 (↑(metL tick (List.take y l)).length : Int),
                        AV.tup (srcM (metL tick (List.take y l)))]]],
            live := [] } ∧
        y ≤ l.length ∧ True) ∧
  ∀ (x : Nat),
    x ≤ l.length →
      (decide ((↑x : Int) < (↑l.length : Int)) = true →
          ((0 : Int) ≤ (↑x : Int) ∧ (↑x : Int) < (↑(ensL l).length : Int)) ∧
            ∃ (n : Int),
              ∃ (n_1 : Int),
                ∃ (s : List UInt8),
                  ∃ (n_2 : Int),
                    ∃ (n_3 : Int),
                      ∃ (n_4 : Int),
                        ∃ (s_1 : List UInt8),
                          ∃ (s_2 : List UInt8),
                            ∃ (n_5 : Int),
                              ∃ (es : List AV),
                                takeAt PI ((63 : Nat)) (ensL l) (↑x : Int).toNat ((0 : Nat)) =
                                    some
                                      (AV.agg
                                        [AV.opq, AV.int IntKind.i64 n, AV.int IntKind.i64 n_1, AV.str s, AV.int IntKind.i64 n_2, AV.int IntKind.i64 n_3,
                                          AV.int IntKind.i64 n_4, AV.str s_1, AV.str s_2, AV.int IntKind.i64 n_5, AV.sl ((3 : Nat)) es Own.no, AV.opq, AV.opq,
                                          AV.opq, AV.opq, AV.opq, AV.opq, AV.opq, AV.opq, AV.opq, AV.opq, AV.opq, AV.opq, AV.opq, AV.opq, AV.opq, AV.opq,
                                          AV.opq, AV.opq, AV.opq, AV.opq, AV.opq, AV.opq, AV.opq, AV.opq, AV.opq, AV.opq, AV.opq, AV.opq, AV.opq]) ∧
                                  ((n_1 == (1 : Int)) = true →
                                      (decide (n ≤ tick) = true →
                                          True ∧
                                            KeyIs PI ((30 : Nat)) (AV.agg [AV.str s, AV.int IntKind.i64 n_2]) ∧
                                              ValIs (AV.bool true) ∧
                                                (0 : Int) ≤ (↑(metL tick (List.take x l)).length : Int) ∧
                                                  (↑(metL tick (List.take x l)).length : Int) < (70368744177664 : Int) ∧
                                                    True ∧
                                                      KeyIs PI ((9 : Nat)) (AV.str s) ∧
                                                        ValIs (AV.bool true) ∧
                                                          (0 : Int) ≤ (↑(metL tick (List.take x l)).length : Int) ∧
                                                            (↑(metL tick (List.take x l)).length : Int) < (70368744177664 : Int) ∧
                                                              ∃ (y : Nat),
                                                                ValsAre
                                                                    [AV.int IntKind.i64 tick, AV.sl ((0 : Nat)) [] Own.nil, AV.mp ((0 : Nat)),
                                                                      AV.mp ((1 : Nat)), AV.sl ((40 : Nat)) (ensL l) Own.no,
                                                                      AV.int IntKind.i64 (↑l.length : Int),
                                                                      AV.int IntKind.i64 (IntKind.i64.wrap ((↑x : Int) + (1 : Int)))]
                                                                    [AV.int IntKind.i64 tick, AV.sl ((0 : Nat)) [] Own.nil, AV.mp ((0 : Nat)),
                                                                      AV.mp ((1 : Nat)), AV.sl ((40 : Nat)) (ensL l) Own.no,
                                                                      AV.int IntKind.i64 (↑l.length : Int), AV.int IntKind.i64 (↑y : Int)] ∧
                                                                  StIs
                                                                      {
                                                                        boxes :=
                                                                          [some
                                                                              [AV.tup
                                                                                  [AV.int IntKind.i64 (111 : Int),
                                                                                    AV.int IntKind.i64
                                                                                      ((↑(metL tick (List.take x l)).length : Int) + (1 : Int)),
                                                                                    AV.tup
                                                                                      (keptPutM (idsM (metL tick (List.take x l)))
                                                                                        (AV.agg [AV.str s, AV.int IntKind.i64 n_2]) (AV.bool true))]],
                                                                            some
                                                                              [AV.tup
                                                                                  [AV.int IntKind.i64 (112 : Int),
                                                                                    AV.int IntKind.i64
                                                                                      ((↑(metL tick (List.take x l)).length : Int) + (1 : Int)),
                                                                                    AV.tup
                                                                                      (keptPutM (srcM (metL tick (List.take x l))) (AV.str s)
                                                                                        (AV.bool true))]]],
                                                                        live := [] }
                                                                      {
                                                                        boxes :=
                                                                          [some
                                                                              [AV.tup
                                                                                  [AV.int IntKind.i64 (111 : Int),
                                                                                    AV.int IntKind.i64 (↑(metL tick (List.take y l)).length : Int),
                                                                                    AV.tup (idsM (metL tick (List.take y l)))]],
                                                                            some
                                                                              [AV.tup
                                                                                  [AV.int IntKind.i64 (112 : Int),
                                                                                    AV.int IntKind.i64 (↑(metL tick (List.take y l)).length : Int),
                                                                                    AV.tup (srcM (metL tick (List.take y l)))]]],
                                                                        live := [] } ∧
                                                                    y ≤ l.length ∧ l.length - y < l.length - x) ∧
                                        (decide (n ≤ tick) = false →
                                          ∃ (y : Nat),
                                            ValsAre
                                                [AV.int IntKind.i64 tick, AV.sl ((0 : Nat)) [] Own.nil, AV.mp ((0 : Nat)), AV.mp ((1 : Nat)),
                                                  AV.sl ((40 : Nat)) (ensL l) Own.no, AV.int IntKind.i64 (↑l.length : Int),
                                                  AV.int IntKind.i64 (IntKind.i64.wrap ((↑x : Int) + (1 : Int)))]
                                                [AV.int IntKind.i64 tick, AV.sl ((0 : Nat)) [] Own.nil, AV.mp ((0 : Nat)), AV.mp ((1 : Nat)),
                                                  AV.sl ((40 : Nat)) (ensL l) Own.no, AV.int IntKind.i64 (↑l.length : Int), AV.int IntKind.i64 (↑y : Int)] ∧
                                              StIs
                                                  {
                                                    boxes :=
                                                      [some
                                                          [AV.tup
                                                              [AV.int IntKind.i64 (111 : Int), AV.int IntKind.i64 (↑(metL tick (List.take x l)).length : Int),
                                                                AV.tup (idsM (metL tick (List.take x l)))]],
                                                        some
                                                          [AV.tup
                                                              [AV.int IntKind.i64 (112 : Int), AV.int IntKind.i64 (↑(metL tick (List.take x l)).length : Int),
                                                                AV.tup (srcM (metL tick (List.take x l)))]]],
                                                    live := [] }
                                                  {
                                                    boxes :=
                                                      [some
                                                          [AV.tup
                                                              [AV.int IntKind.i64 (111 : Int), AV.int IntKind.i64 (↑(metL tick (List.take y l)).length : Int),
                                                                AV.tup (idsM (metL tick (List.take y l)))]],
                                                        some
                                                          [AV.tup
                                                              [AV.int IntKind.i64 (112 : Int), AV.int IntKind.i64 (↑(metL tick (List.take y l)).length : Int),
                                                                AV.tup (srcM (metL tick (List.take y l)))]]],
                                                    live := [] } ∧
                                                y ≤ l.length ∧ l.length - y < l.length - x)) ∧
                                    ((n_1 == (1 : Int)) = false →
                                      ∃ (y : Nat),
                                        ValsAre
                                            [AV.int IntKind.i64 tick, AV.sl ((0 : Nat)) [] Own.nil, AV.mp ((0 : Nat)), AV.mp ((1 : Nat)),
                                              AV.sl ((40 : Nat)) (ensL l) Own.no, AV.int IntKind.i64 (↑l.length : Int),
                                              AV.int IntKind.i64 (IntKind.i64.wrap ((↑x : Int) + (1 : Int)))]
                                            [AV.int IntKind.i64 tick, AV.sl ((0 : Nat)) [] Own.nil, AV.mp ((0 : Nat)), AV.mp ((1 : Nat)),
                                              AV.sl ((40 : Nat)) (ensL l) Own.no, AV.int IntKind.i64 (↑l.length : Int), AV.int IntKind.i64 (↑y : Int)] ∧
                                          StIs
                                              {
                                                boxes :=
                                                  [some
                                                      [AV.tup
                                                          [AV.int IntKind.i64 (111 : Int), AV.int IntKind.i64 (↑(metL tick (List.take x l)).length : Int),
                                                            AV.tup (idsM (metL tick (List.take x l)))]],
                                                    some
                                                      [AV.tup
                                                          [AV.int IntKind.i64 (112 : Int), AV.int IntKind.i64 (↑(metL tick (List.take x l)).length : Int),
                                                            AV.tup (srcM (metL tick (List.take x l)))]]],
                                                live := [] }
                                              {
                                                boxes :=
                                                  [some
                                                      [AV.tup
                                                          [AV.int IntKind.i64 (111 : Int), AV.int IntKind.i64 (↑(metL tick (List.take y l)).length : Int),
                                                            AV.tup (idsM (metL tick (List.take y l)))]],
                                                    some
                                                      [AV.tup
                                                          [AV.int IntKind.i64 (112 : Int), AV.int IntKind.i64 (↑(metL tick (List.take y l)).length : Int),
                                                            AV.tup (srcM (metL tick (List.take y l)))]]],
                                                live := [] } ∧
                                            y ≤ l.length ∧ l.length - y < l.length - x)) ∧
        (decide ((↑x : Int) < (↑l.length : Int)) = false →
          True ∧
            ((keysM (srcM (metL tick (List.take x l)))).Nodup ∧ (↑(metL tick (List.take x l)).length : Int) ≤ (1000000000000 : Int)) ∧
              (∃ (y : Nat),
                  ValsAre
                      [AV.sl ((2 : Nat)) [] (Own.tok (0 : Nat)), AV.mp ((0 : Nat)),
                        AV.sl ((1 : Nat)) (List.map AV.str (keptSort (keysM (srcM (metL tick (List.take x l)))))) Own.no,
                        AV.int IntKind.i64 (↑(List.map AV.str (keptSort (keysM (srcM (metL tick (List.take x l)))))).length : Int),
                        AV.int IntKind.i64 (0 : Int)]
                      [AV.sl ((2 : Nat)) (mksL (List.take y (marksM (metL tick l)))) (Own.tok ((0 : Nat))), AV.mp ((0 : Nat)),
                        AV.sl ((1 : Nat)) (List.map AV.str (nmsM (metL tick l))) Own.no, AV.int IntKind.i64 (↑(nmsM (metL tick l)).length : Int),
                        AV.int IntKind.i64 (↑y : Int)] ∧
                    StIs
                        {
                          boxes :=
                            [some
                                [AV.tup
                                    [AV.int IntKind.i64 (111 : Int), AV.int IntKind.i64 (↑(metL tick (List.take x l)).length : Int),
                                      AV.tup (idsM (metL tick (List.take x l)))]],
                              some
                                [AV.tup
                                    [AV.int IntKind.i64 (112 : Int), AV.int IntKind.i64 (↑(metL tick (List.take x l)).length : Int),
                                      AV.tup (srcM (metL tick (List.take x l)))]],
                              some [AV.mp ((1 : Nat))]],
                          live := [((0 : Nat), (93 : Nat))] }
                        {
                          boxes :=
                            [some [AV.tup [AV.int IntKind.i64 (111 : Int), AV.int IntKind.i64 (↑(metL tick l).length : Int), AV.tup (idsM (metL tick l))]],
                              some [AV.tup [AV.int IntKind.i64 (112 : Int), AV.int IntKind.i64 (↑(metL tick l).length : Int), AV.tup (srcM (metL tick l))]],
                              some [AV.mp ((1 : Nat))]],
                          live := [((List.take y (marksM (metL tick l))).length, (93 : Nat))] } ∧
                      y ≤ (nmsM (metL tick l)).length ∧ True) ∧
                ∀ (x : Nat),
                  x ≤ (nmsM (metL tick l)).length →
                    (decide ((↑x : Int) < (↑(nmsM (metL tick l)).length : Int)) = true →
                        ((0 : Int) ≤ (↑x : Int) ∧ (↑x : Int) < (↑(List.map AV.str (nmsM (metL tick l))).length : Int)) ∧
                          ∃ (s : List UInt8),
                            takeAt PI ((9 : Nat)) (List.map AV.str (nmsM (metL tick l))) (↑x : Int).toNat ((0 : Nat)) = some (AV.str s) ∧
                              (∃ (y : St15),
                                  ValsAre
                                      [AV.sl ((2 : Nat)) (mksL (List.take x (marksM (metL tick l)))) (Own.tok ((0 : Nat))), AV.mp ((0 : Nat)), AV.str s,
                                        AV.ptr ((3 : Nat)) ((0 : Nat)), AV.sl ((1 : Nat)) (List.map AV.str (nmsM (metL tick l))) Own.no,
                                        AV.int IntKind.i64 (↑(nmsM (metL tick l)).length : Int), AV.int IntKind.i64 (↑x : Int)]
                                      [AV.sl ((2 : Nat)) (mksL (List.take y.i (marksM (metL tick l)))) (Own.tok ((0 : Nat))), AV.mp ((0 : Nat)), AV.str y.s,
                                        AV.ptr ((3 : Nat)) ((0 : Nat)), AV.sl ((1 : Nat)) (List.map AV.str (nmsM (metL tick l))) Own.no,
                                        AV.int IntKind.i64 (↑(nmsM (metL tick l)).length : Int), AV.int IntKind.i64 (↑y.i : Int)] ∧
                                    StIs
                                        {
                                          boxes :=
                                            [some
                                                [AV.tup
                                                    [AV.int IntKind.i64 (111 : Int), AV.int IntKind.i64 (↑(metL tick l).length : Int),
                                                      AV.tup (idsM (metL tick l))]],
                                              some
                                                [AV.tup
                                                    [AV.int IntKind.i64 (112 : Int), AV.int IntKind.i64 (↑(metL tick l).length : Int),
                                                      AV.tup (srcM (metL tick l))]],
                                              some [AV.mp ((1 : Nat))], some [AV.str s, AV.int IntKind.i64 (1 : Int)]],
                                          live := [((List.take x (marksM (metL tick l))).length, (93 : Nat))] }
                                        {
                                          boxes :=
                                            [some
                                                [AV.tup
                                                    [AV.int IntKind.i64 (111 : Int), AV.int IntKind.i64 (↑(metL tick l).length : Int),
                                                      AV.tup (idsM (metL tick l))]],
                                              some
                                                [AV.tup
                                                    [AV.int IntKind.i64 (112 : Int), AV.int IntKind.i64 (↑(metL tick l).length : Int),
                                                      AV.tup (srcM (metL tick l))]],
                                              some [AV.mp ((1 : Nat))], some [AV.str y.s, AV.int IntKind.i64 ((↑y.j : Int) + (1 : Int))]],
                                          live := [((List.take y.i (marksM (metL tick l))).length, (93 : Nat))] } ∧
                                      ((nmsM (metL tick l))[y.i]? = some y.s ∧
                                          y.j ≤ (metL tick l).length ∧
                                            (∀ (k : Nat), k < y.j → hasId (metL tick l) y.s ((↑k : Int) + (1 : Int)) = true) ∧
                                              nextF (hasId (metL tick l) y.s) ((metL tick l).length - y.j) ((↑y.j : Int) + (1 : Int)) =
                                                nextM (metL tick l) y.s) ∧
                                        some (AV.int IntKind.i64 (↑x : Int)) = some (AV.int IntKind.i64 (↑y.i : Int))) ∧
                                ∀ (x_1 : St15),
                                  (nmsM (metL tick l))[x_1.i]? = some x_1.s ∧
                                      x_1.j ≤ (metL tick l).length ∧
                                        (∀ (k : Nat), k < x_1.j → hasId (metL tick l) x_1.s ((↑k : Int) + (1 : Int)) = true) ∧
                                          nextF (hasId (metL tick l) x_1.s) ((metL tick l).length - x_1.j) ((↑x_1.j : Int) + (1 : Int)) =
                                            nextM (metL tick l) x_1.s →
                                    some (AV.int IntKind.i64 (↑x : Int)) = some (AV.int IntKind.i64 (↑x_1.i : Int)) →
                                      KeyIs PI ((30 : Nat)) (AV.agg [AV.str x_1.s, AV.int IntKind.i64 ((↑x_1.j : Int) + (1 : Int))]) ∧
                                        ∃ (b : Bool),
                                          LookIs (idsM (metL tick l)) (AV.agg [AV.str x_1.s, AV.int IntKind.i64 ((↑x_1.j : Int) + (1 : Int))]) (AV.bool false)
                                              (AV.bool b) ∧
                                            (b = true →
                                                ∃ (y : St15),
                                                  ValsAre
                                                      [AV.sl ((2 : Nat)) (mksL (List.take x_1.i (marksM (metL tick l)))) (Own.tok ((0 : Nat))),
                                                        AV.mp ((0 : Nat)), AV.str x_1.s, AV.ptr ((3 : Nat)) ((0 : Nat)),
                                                        AV.sl ((1 : Nat)) (List.map AV.str (nmsM (metL tick l))) Own.no,
                                                        AV.int IntKind.i64 (↑(nmsM (metL tick l)).length : Int), AV.int IntKind.i64 (↑x_1.i : Int)]
                                                      [AV.sl ((2 : Nat)) (mksL (List.take y.i (marksM (metL tick l)))) (Own.tok ((0 : Nat))), AV.mp ((0 : Nat)),
                                                        AV.str y.s, AV.ptr ((3 : Nat)) ((0 : Nat)),
                                                        AV.sl ((1 : Nat)) (List.map AV.str (nmsM (metL tick l))) Own.no,
                                                        AV.int IntKind.i64 (↑(nmsM (metL tick l)).length : Int), AV.int IntKind.i64 (↑y.i : Int)] ∧
                                                    StIs
                                                        {
                                                          boxes :=
                                                            [some
                                                                [AV.tup
                                                                    [AV.int IntKind.i64 (111 : Int), AV.int IntKind.i64 (↑(metL tick l).length : Int),
                                                                      AV.tup (idsM (metL tick l))]],
                                                              some
                                                                [AV.tup
                                                                    [AV.int IntKind.i64 (112 : Int), AV.int IntKind.i64 (↑(metL tick l).length : Int),
                                                                      AV.tup (srcM (metL tick l))]],
                                                              some [AV.mp ((1 : Nat))],
                                                              some
                                                                [AV.str x_1.s, AV.int IntKind.i64 (IntKind.i64.wrap ((↑x_1.j : Int) + (1 : Int) + (1 : Int)))]],
                                                          live := [((List.take x_1.i (marksM (metL tick l))).length, (93 : Nat))] }
                                                        {
                                                          boxes :=
                                                            [some
                                                                [AV.tup
                                                                    [AV.int IntKind.i64 (111 : Int), AV.int IntKind.i64 (↑(metL tick l).length : Int),
                                                                      AV.tup (idsM (metL tick l))]],
                                                              some
                                                                [AV.tup
                                                                    [AV.int IntKind.i64 (112 : Int), AV.int IntKind.i64 (↑(metL tick l).length : Int),
                                                                      AV.tup (srcM (metL tick l))]],
                                                              some [AV.mp ((1 : Nat))], some [AV.str y.s, AV.int IntKind.i64 ((↑y.j : Int) + (1 : Int))]],
                                                          live := [((List.take y.i (marksM (metL tick l))).length, (93 : Nat))] } ∧
                                                      ((nmsM (metL tick l))[y.i]? = some y.s ∧
                                                          y.j ≤ (metL tick l).length ∧
                                                            (∀ (k : Nat), k < y.j → hasId (metL tick l) y.s ((↑k : Int) + (1 : Int)) = true) ∧
                                                              nextF (hasId (metL tick l) y.s) ((metL tick l).length - y.j) ((↑y.j : Int) + (1 : Int)) =
                                                                nextM (metL tick l) y.s) ∧
                                                        some (AV.int IntKind.i64 (↑x : Int)) = some (AV.int IntKind.i64 (↑y.i : Int)) ∧
                                                          (metL tick l).length - y.j < (metL tick l).length - x_1.j) ∧
                                              (b = false →
                                                ((2 : Nat) = (2 : Nat) ∨ mksL (List.take x_1.i (marksM (metL tick l))) = []) ∧
                                                  ((mksL (List.take x_1.i (marksM (metL tick l)))).length + (1 : Nat)) * (25 : Nat) ≤ (70368744177664 : Nat) ∧
                                                    (List.take x_1.i (marksM (metL tick l))).length = (mksL (List.take x_1.i (marksM (metL tick l)))).length ∧
                                                      ∃ (y : Nat),
                                                        ValsAre
                                                            [AV.sl ((2 : Nat))
                                                                (mksL (List.take x_1.i (marksM (metL tick l))) ++
                                                                  [AV.agg [AV.str x_1.s, AV.int IntKind.i64 ((↑x_1.j : Int) + (1 : Int))]])
                                                                (Own.tok ((0 : Nat))),
                                                              AV.mp ((0 : Nat)), AV.sl ((1 : Nat)) (List.map AV.str (nmsM (metL tick l))) Own.no,
                                                              AV.int IntKind.i64 (↑(nmsM (metL tick l)).length : Int),
                                                              AV.int IntKind.i64 (IntKind.i64.wrap ((↑x_1.i : Int) + (1 : Int)))]
                                                            [AV.sl ((2 : Nat)) (mksL (List.take y (marksM (metL tick l)))) (Own.tok ((0 : Nat))),
                                                              AV.mp ((0 : Nat)), AV.sl ((1 : Nat)) (List.map AV.str (nmsM (metL tick l))) Own.no,
                                                              AV.int IntKind.i64 (↑(nmsM (metL tick l)).length : Int), AV.int IntKind.i64 (↑y : Int)] ∧
                                                          StIs
                                                              {
                                                                boxes :=
                                                                  [some
                                                                      [AV.tup
                                                                          [AV.int IntKind.i64 (111 : Int), AV.int IntKind.i64 (↑(metL tick l).length : Int),
                                                                            AV.tup (idsM (metL tick l))]],
                                                                    some
                                                                      [AV.tup
                                                                          [AV.int IntKind.i64 (112 : Int), AV.int IntKind.i64 (↑(metL tick l).length : Int),
                                                                            AV.tup (srcM (metL tick l))]],
                                                                    some [AV.mp ((1 : Nat))]],
                                                                live := [((mksL (List.take x_1.i (marksM (metL tick l)))).length + (1 : Nat), (93 : Nat))] }
                                                              {
                                                                boxes :=
                                                                  [some
                                                                      [AV.tup
                                                                          [AV.int IntKind.i64 (111 : Int), AV.int IntKind.i64 (↑(metL tick l).length : Int),
                                                                            AV.tup (idsM (metL tick l))]],
                                                                    some
                                                                      [AV.tup
                                                                          [AV.int IntKind.i64 (112 : Int), AV.int IntKind.i64 (↑(metL tick l).length : Int),
                                                                            AV.tup (srcM (metL tick l))]],
                                                                    some [AV.mp ((1 : Nat))]],
                                                                live := [((List.take y (marksM (metL tick l))).length, (93 : Nat))] } ∧
                                                            y ≤ (nmsM (metL tick l)).length ∧
                                                              (nmsM (metL tick l)).length - y < (nmsM (metL tick l)).length - x)) ∧
                      (decide ((↑x : Int) < (↑(nmsM (metL tick l)).length : Int)) = false →
                        RetLax (AV.sl ((2 : Nat)) (mksL (List.take x (marksM (metL tick l)))) (Own.tok ((0 : Nat))))
                          (AV.sl ((2 : Nat)) (mksL (marksM (metL tick l))) Own.no, [])))) := by kernel_rfl
theorem w16 (m : Int) (l : List EnI) (tick : Int) : (laxW PI (GI m) XMa (tbl [(42, s42)]) (itbl []) (a16 l tick) [] 16 [.sl 40 (ensL l) .no, .int .i64 tick] (.sl 2 (mksL (marksM (metL tick l))) .no, [])) =
((∃ (y : Nat),
    ValsAre [AV.sl ((40 : Nat)) (ensL l) Own.no, AV.int IntKind.i64 tick, AV.sl ((2 : Nat)) [] Own.no, AV.int IntKind.i64 (0 : Int)]
        [AV.sl ((40 : Nat)) (ensL l) Own.no, AV.int IntKind.i64 tick, AV.sl ((2 : Nat)) (mksL (outR l tick y)) Own.no, AV.int IntKind.i64 (↑y : Int)] ∧
      StIs { boxes := [], live := [] } { boxes := [], live := [] } ∧ y ≤ l.length ∧ True) ∧
  ∀ (x : Nat),
    x ≤ l.length →
      (decide ((↑x : Int) < (↑(ensL l).length : Int)) = true →
          ((0 : Int) ≤ (↑x : Int) ∧ (↑x : Int) < (↑(ensL l).length : Int)) ∧
            ∃ (n : Int),
              takeAt PI ((3 : Nat)) (ensL l) (↑x : Int).toNat ((2 : Nat)) = some (AV.int IntKind.i64 n) ∧
                ((n != (1 : Int)) = true →
                    ∃ (y : Nat),
                      ValsAre
                          [AV.sl ((40 : Nat)) (ensL l) Own.no, AV.int IntKind.i64 tick, AV.sl ((2 : Nat)) (mksL (outR l tick x)) Own.no,
                            AV.int IntKind.i64 (IntKind.i64.wrap ((↑x : Int) + (1 : Int)))]
                          [AV.sl ((40 : Nat)) (ensL l) Own.no, AV.int IntKind.i64 tick, AV.sl ((2 : Nat)) (mksL (outR l tick y)) Own.no,
                            AV.int IntKind.i64 (↑y : Int)] ∧
                        StIs { boxes := [], live := [] } { boxes := [], live := [] } ∧ y ≤ l.length ∧ l.length - y < l.length - x) ∧
                  ((n != (1 : Int)) = false →
                    ((0 : Int) ≤ (↑x : Int) ∧ (↑x : Int) < (↑(ensL l).length : Int)) ∧
                      ∃ (n : Int),
                        takeAt PI ((3 : Nat)) (ensL l) (↑x : Int).toNat ((1 : Nat)) = some (AV.int IntKind.i64 n) ∧
                          (decide (n > tick) = true →
                              ∃ (y : Nat),
                                ValsAre
                                    [AV.sl ((40 : Nat)) (ensL l) Own.no, AV.int IntKind.i64 tick, AV.sl ((2 : Nat)) (mksL (outR l tick x)) Own.no,
                                      AV.int IntKind.i64 (IntKind.i64.wrap ((↑x : Int) + (1 : Int)))]
                                    [AV.sl ((40 : Nat)) (ensL l) Own.no, AV.int IntKind.i64 tick, AV.sl ((2 : Nat)) (mksL (outR l tick y)) Own.no,
                                      AV.int IntKind.i64 (↑y : Int)] ∧
                                  StIs { boxes := [], live := [] } { boxes := [], live := [] } ∧ y ≤ l.length ∧ l.length - y < l.length - x) ∧
                            (decide (n > tick) = false →
                              ((0 : Int) ≤ (↑x : Int) ∧ (↑x : Int) < (↑(ensL l).length : Int)) ∧
                                ∃ (s : List UInt8),
                                  takeAt PI ((9 : Nat)) (ensL l) (↑x : Int).toNat ((3 : Nat)) = some (AV.str s) ∧
                                    ((∃ (y : St16),
                                          ValsAre
                                              [AV.sl ((40 : Nat)) (ensL l) Own.no, AV.int IntKind.i64 tick, AV.sl ((2 : Nat)) (mksL (outR l tick x)) Own.no,
                                                AV.int IntKind.i64 (↑x : Int), AV.ptr ((0 : Nat)) ((0 : Nat)), AV.int IntKind.i64 (0 : Int)]
                                              [AV.sl ((40 : Nat)) (ensL l) Own.no, AV.int IntKind.i64 tick, AV.sl ((2 : Nat)) (mksL (outR l tick y.i)) Own.no,
                                                AV.int IntKind.i64 (↑y.i : Int), AV.ptr ((0 : Nat)) ((0 : Nat)), AV.int IntKind.i64 (↑y.at_ : Int)] ∧
                                            StIs { boxes := [some [AV.str s, AV.int IntKind.i64 (1 : Int)]], live := [] }
                                                { boxes := [some [AV.str y.s, AV.int IntKind.i64 (1 : Int)]], live := [] } ∧
                                              (y.i < l.length ∧
                                                  (∃ (e : EnI), l[y.i]? = some e ∧ relB tick e = true ∧ e.f.src = y.s) ∧
                                                    y.at_ ≤
                                                      (List.takeWhile (fun (a : List UInt8) => Op.bytesLess a y.s)
                                                          (nmsR (metL tick (List.take y.i l)))).length) ∧
                                                some (AV.int IntKind.i64 (↑x : Int)) = some (AV.int IntKind.i64 (↑y.i : Int))) ∧
                                        ∀ (x_1 : St16),
                                          x_1.i < l.length ∧
                                              (∃ (e : EnI), l[x_1.i]? = some e ∧ relB tick e = true ∧ e.f.src = x_1.s) ∧
                                                x_1.at_ ≤
                                                  (List.takeWhile (fun (a : List UInt8) => Op.bytesLess a x_1.s)
                                                      (nmsR (metL tick (List.take x_1.i l)))).length →
                                            some (AV.int IntKind.i64 (↑x : Int)) = some (AV.int IntKind.i64 (↑x_1.i : Int)) →
                                              (decide ((↑x_1.at_ : Int) < (↑(mksL (outR l tick x_1.i)).length : Int)) = true →
                                                  ((0 : Int) ≤ (↑x_1.at_ : Int) ∧ (↑x_1.at_ : Int) < (↑(mksL (outR l tick x_1.i)).length : Int)) ∧
                                                    ∃ (s : List UInt8),
                                                      takeAt PI ((9 : Nat)) (mksL (outR l tick x_1.i)) (↑x_1.at_ : Int).toNat ((0 : Nat)) = some (AV.str s) ∧
                                                        (Op.bytesLess s x_1.s = true →
                                                            ∃ (y : St16),
                                                              ValsAre
                                                                  [AV.sl ((40 : Nat)) (ensL l) Own.no, AV.int IntKind.i64 tick,
                                                                    AV.sl ((2 : Nat)) (mksL (outR l tick x_1.i)) Own.no, AV.int IntKind.i64 (↑x_1.i : Int),
                                                                    AV.ptr ((0 : Nat)) ((0 : Nat)),
                                                                    AV.int IntKind.i64 (IntKind.i64.wrap ((↑x_1.at_ : Int) + (1 : Int)))]
                                                                  [AV.sl ((40 : Nat)) (ensL l) Own.no, AV.int IntKind.i64 tick,
                                                                    AV.sl ((2 : Nat)) (mksL (outR l tick y.i)) Own.no, AV.int IntKind.i64 (↑y.i : Int),
                                                                    AV.ptr ((0 : Nat)) ((0 : Nat)), AV.int IntKind.i64 (↑y.at_ : Int)] ∧
                                                                StIs { boxes := [some [AV.str x_1.s, AV.int IntKind.i64 (1 : Int)]], live := [] }
                                                                    { boxes := [some [AV.str y.s, AV.int IntKind.i64 (1 : Int)]], live := [] } ∧
                                                                  (y.i < l.length ∧
                                                                      (∃ (e : EnI), l[y.i]? = some e ∧ relB tick e = true ∧ e.f.src = y.s) ∧
                                                                        y.at_ ≤
                                                                          (List.takeWhile (fun (a : List UInt8) => Op.bytesLess a y.s)
                                                                              (nmsR (metL tick (List.take y.i l)))).length) ∧
                                                                    some (AV.int IntKind.i64 (↑x : Int)) = some (AV.int IntKind.i64 (↑y.i : Int)) ∧
                                                                      (outR l tick y.i).length - y.at_ < (outR l tick x_1.i).length - x_1.at_) ∧
                                                          (Op.bytesLess s x_1.s = false →
                                                            ∃ (y : St16),
                                                              ValsAre
                                                                  [AV.sl ((40 : Nat)) (ensL l) Own.no, AV.int IntKind.i64 tick,
                                                                    AV.sl ((2 : Nat)) (mksL (outR l tick x_1.i)) Own.no, AV.int IntKind.i64 (↑x_1.i : Int),
                                                                    AV.ptr ((0 : Nat)) ((0 : Nat)), AV.int IntKind.i64 (↑x_1.at_ : Int)]
                                                                  [AV.sl ((40 : Nat)) (ensL l) Own.no, AV.int IntKind.i64 tick,
                                                                    AV.sl ((2 : Nat)) (mksL (outR l tick y.i)) Own.no, AV.int IntKind.i64 (↑y.i : Int),
                                                                    AV.ptr ((0 : Nat)) ((0 : Nat)), AV.int IntKind.i64 (↑y.at_ : Int)] ∧
                                                                StIs { boxes := [some [AV.str x_1.s, AV.int IntKind.i64 (1 : Int)]], live := [] }
                                                                    { boxes := [some [AV.str y.s, AV.int IntKind.i64 (1 : Int)]], live := [] } ∧
                                                                  (y.i < l.length ∧
                                                                      (∃ (e : EnI), l[y.i]? = some e ∧ relB tick e = true ∧ e.f.src = y.s) ∧
                                                                        y.at_ =
                                                                          (List.takeWhile (fun (a : List UInt8) => Op.bytesLess a y.s)
                                                                              (nmsR (metL tick (List.take y.i l)))).length) ∧
                                                                    some (AV.int IntKind.i64 (↑x : Int)) = some (AV.int IntKind.i64 (↑y.i : Int)))) ∧
                                                (decide ((↑x_1.at_ : Int) < (↑(mksL (outR l tick x_1.i)).length : Int)) = false →
                                                  ∃ (y : St16),
                                                    ValsAre
                                                        [AV.sl ((40 : Nat)) (ensL l) Own.no, AV.int IntKind.i64 tick,
                                                          AV.sl ((2 : Nat)) (mksL (outR l tick x_1.i)) Own.no, AV.int IntKind.i64 (↑x_1.i : Int),
                                                          AV.ptr ((0 : Nat)) ((0 : Nat)), AV.int IntKind.i64 (↑x_1.at_ : Int)]
                                                        [AV.sl ((40 : Nat)) (ensL l) Own.no, AV.int IntKind.i64 tick,
                                                          AV.sl ((2 : Nat)) (mksL (outR l tick y.i)) Own.no, AV.int IntKind.i64 (↑y.i : Int),
                                                          AV.ptr ((0 : Nat)) ((0 : Nat)), AV.int IntKind.i64 (↑y.at_ : Int)] ∧
                                                      StIs { boxes := [some [AV.str x_1.s, AV.int IntKind.i64 (1 : Int)]], live := [] }
                                                          { boxes := [some [AV.str y.s, AV.int IntKind.i64 (1 : Int)]], live := [] } ∧
                                                        (y.i < l.length ∧
                                                            (∃ (e : EnI), l[y.i]? = some e ∧ relB tick e = true ∧ e.f.src = y.s) ∧
                                                              y.at_ =
                                                                (List.takeWhile (fun (a : List UInt8) => Op.bytesLess a y.s)
                                                                    (nmsR (metL tick (List.take y.i l)))).length) ∧
                                                          some (AV.int IntKind.i64 (↑x : Int)) = some (AV.int IntKind.i64 (↑y.i : Int)))) ∧
                                      ∀ (x_1 : St16),
                                        x_1.i < l.length ∧
                                            (∃ (e : EnI), l[x_1.i]? = some e ∧ relB tick e = true ∧ e.f.src = x_1.s) ∧
                                              x_1.at_ =
                                                (List.takeWhile (fun (a : List UInt8) => Op.bytesLess a x_1.s) (nmsR (metL tick (List.take x_1.i l)))).length →
                                          some (AV.int IntKind.i64 (↑x : Int)) = some (AV.int IntKind.i64 (↑x_1.i : Int)) →
                                            ((decide ((↑x_1.at_ : Int) < (↑(mksL (outR l tick x_1.i)).length : Int)) = true →
                                                  ((0 : Int) ≤ (↑x_1.at_ : Int) ∧ (↑x_1.at_ : Int) < (↑(mksL (outR l tick x_1.i)).length : Int)) ∧
                                                    ∃ (s : List UInt8),
                                                      takeAt PI ((9 : Nat)) (mksL (outR l tick x_1.i)) (↑x_1.at_ : Int).toNat ((0 : Nat)) = some (AV.str s) ∧
                                                        ((s == x_1.s) = true →
                                                            ∃ (y : Nat),
                                                              ValsAre
                                                                  [AV.sl ((40 : Nat)) (ensL l) Own.no, AV.int IntKind.i64 tick,
                                                                    AV.sl ((2 : Nat)) (mksL (outR l tick x_1.i)) Own.no,
                                                                    AV.int IntKind.i64 (IntKind.i64.wrap ((↑x_1.i : Int) + (1 : Int)))]
                                                                  [AV.sl ((40 : Nat)) (ensL l) Own.no, AV.int IntKind.i64 tick,
                                                                    AV.sl ((2 : Nat)) (mksL (outR l tick y)) Own.no, AV.int IntKind.i64 (↑y : Int)] ∧
                                                                StIs { boxes := [], live := [] } { boxes := [], live := [] } ∧
                                                                  y ≤ l.length ∧ l.length - y < l.length - x) ∧
                                                          ((s == x_1.s) = false →
                                                            ∃ (y : St16),
                                                              ValsAre
                                                                  [AV.sl ((40 : Nat)) (ensL l) Own.no, AV.int IntKind.i64 tick,
                                                                    AV.sl ((2 : Nat)) (mksL (outR l tick x_1.i)) Own.no, AV.int IntKind.i64 (↑x_1.i : Int),
                                                                    AV.ptr ((0 : Nat)) ((0 : Nat)), AV.int IntKind.i64 (↑x_1.at_ : Int)]
                                                                  [AV.sl ((40 : Nat)) (ensL l) Own.no, AV.int IntKind.i64 tick,
                                                                    AV.sl ((2 : Nat)) (mksL (outR l tick y.i)) Own.no, AV.int IntKind.i64 (↑y.i : Int),
                                                                    AV.ptr ((0 : Nat)) ((0 : Nat)), AV.int IntKind.i64 (↑y.at_ : Int)] ∧
                                                                StIs { boxes := [some [AV.str x_1.s, AV.int IntKind.i64 (1 : Int)]], live := [] }
                                                                    { boxes := [some [AV.str y.s, AV.int IntKind.i64 (1 : Int)]], live := [] } ∧
                                                                  (y.i < l.length ∧
                                                                      (∃ (e : EnI), l[y.i]? = some e ∧ relB tick e = true ∧ e.f.src = y.s) ∧
                                                                        y.at_ =
                                                                            (List.takeWhile (fun (a : List UInt8) => Op.bytesLess a y.s)
                                                                                (nmsR (metL tick (List.take y.i l)))).length ∧
                                                                          (nmsR (metL tick (List.take y.i l)))[y.at_]? ≠ some y.s) ∧
                                                                    some (AV.int IntKind.i64 (↑x_1.i : Int)) = some (AV.int IntKind.i64 (↑y.i : Int)))) ∧
                                                (decide ((↑x_1.at_ : Int) < (↑(mksL (outR l tick x_1.i)).length : Int)) = false →
                                                  ∃ (y : St16),
                                                    ValsAre
                                                        [AV.sl ((40 : Nat)) (ensL l) Own.no, AV.int IntKind.i64 tick,
                                                          AV.sl ((2 : Nat)) (mksL (outR l tick x_1.i)) Own.no, AV.int IntKind.i64 (↑x_1.i : Int),
                                                          AV.ptr ((0 : Nat)) ((0 : Nat)), AV.int IntKind.i64 (↑x_1.at_ : Int)]
                                                        [AV.sl ((40 : Nat)) (ensL l) Own.no, AV.int IntKind.i64 tick,
                                                          AV.sl ((2 : Nat)) (mksL (outR l tick y.i)) Own.no, AV.int IntKind.i64 (↑y.i : Int),
                                                          AV.ptr ((0 : Nat)) ((0 : Nat)), AV.int IntKind.i64 (↑y.at_ : Int)] ∧
                                                      StIs { boxes := [some [AV.str x_1.s, AV.int IntKind.i64 (1 : Int)]], live := [] }
                                                          { boxes := [some [AV.str y.s, AV.int IntKind.i64 (1 : Int)]], live := [] } ∧
                                                        (y.i < l.length ∧
                                                            (∃ (e : EnI), l[y.i]? = some e ∧ relB tick e = true ∧ e.f.src = y.s) ∧
                                                              y.at_ =
                                                                  (List.takeWhile (fun (a : List UInt8) => Op.bytesLess a y.s)
                                                                      (nmsR (metL tick (List.take y.i l)))).length ∧
                                                                (nmsR (metL tick (List.take y.i l)))[y.at_]? ≠ some y.s) ∧
                                                          some (AV.int IntKind.i64 (↑x_1.i : Int)) = some (AV.int IntKind.i64 (↑y.i : Int)))) ∧
                                              ∀ (x_2 : St16),
                                                x_2.i < l.length ∧
                                                    (∃ (e : EnI), l[x_2.i]? = some e ∧ relB tick e = true ∧ e.f.src = x_2.s) ∧
                                                      x_2.at_ =
                                                          (List.takeWhile (fun (a : List UInt8) => Op.bytesLess a x_2.s)
                                                              (nmsR (metL tick (List.take x_2.i l)))).length ∧
                                                        (nmsR (metL tick (List.take x_2.i l)))[x_2.at_]? ≠ some x_2.s →
                                                  some (AV.int IntKind.i64 (↑x_1.i : Int)) = some (AV.int IntKind.i64 (↑x_2.i : Int)) →
                                                    (∃ (y : St16),
                                                        ValsAre
                                                            [AV.sl ((40 : Nat)) (ensL l) Own.no, AV.int IntKind.i64 tick,
                                                              AV.sl ((2 : Nat)) (mksL (outR l tick x_2.i)) Own.no, AV.int IntKind.i64 (↑x_2.i : Int),
                                                              AV.ptr ((0 : Nat)) ((0 : Nat)), AV.int IntKind.i64 (↑x_2.at_ : Int)]
                                                            [AV.sl ((40 : Nat)) (ensL l) Own.no, AV.int IntKind.i64 tick,
                                                              AV.sl ((2 : Nat)) (mksL (outR l tick y.i)) Own.no, AV.int IntKind.i64 (↑y.i : Int),
                                                              AV.ptr ((0 : Nat)) ((0 : Nat)), AV.int IntKind.i64 (↑y.at_ : Int)] ∧
                                                          StIs { boxes := [some [AV.str x_2.s, AV.int IntKind.i64 (1 : Int)]], live := [] }
                                                              { boxes := [some [AV.str y.s, AV.int IntKind.i64 ((↑y.j : Int) + (1 : Int))]], live := [] } ∧
                                                            (y.i < l.length ∧
                                                                (∃ (e : EnI), l[y.i]? = some e ∧ relB tick e = true ∧ e.f.src = y.s) ∧
                                                                  y.at_ =
                                                                      (List.takeWhile (fun (a : List UInt8) => Op.bytesLess a y.s)
                                                                          (nmsR (metL tick (List.take y.i l)))).length ∧
                                                                    (nmsR (metL tick (List.take y.i l)))[y.at_]? ≠ some y.s ∧
                                                                      y.j ≤ (metL tick l).length ∧
                                                                        (∀ (k : Nat), k < y.j → hasId (metL tick l) y.s ((↑k : Int) + (1 : Int)) = true) ∧
                                                                          nextF (hasId (metL tick l) y.s) ((metL tick l).length - y.j)
                                                                              ((↑y.j : Int) + (1 : Int)) =
                                                                            nextM (metL tick l) y.s) ∧
                                                              some (AV.int IntKind.i64 (↑x_2.i : Int)) = some (AV.int IntKind.i64 (↑y.i : Int))) ∧
                                                      ∀ (x_3 : St16),
                                                        x_3.i < l.length ∧
                                                            (∃ (e : EnI), l[x_3.i]? = some e ∧ relB tick e = true ∧ e.f.src = x_3.s) ∧
                                                              x_3.at_ =
                                                                  (List.takeWhile (fun (a : List UInt8) => Op.bytesLess a x_3.s)
                                                                      (nmsR (metL tick (List.take x_3.i l)))).length ∧
                                                                (nmsR (metL tick (List.take x_3.i l)))[x_3.at_]? ≠ some x_3.s ∧
                                                                  x_3.j ≤ (metL tick l).length ∧
                                                                    (∀ (k : Nat), k < x_3.j → hasId (metL tick l) x_3.s ((↑k : Int) + (1 : Int)) = true) ∧
                                                                      nextF (hasId (metL tick l) x_3.s) ((metL tick l).length - x_3.j)
                                                                          ((↑x_3.j : Int) + (1 : Int)) =
                                                                        nextM (metL tick l) x_3.s →
                                                          some (AV.int IntKind.i64 (↑x_2.i : Int)) = some (AV.int IntKind.i64 (↑x_3.i : Int)) →
                                                            ∃ (b : Bool),
                                                              CallIs
                                                                  (tbl [((42 : Nat), s42)] ((42 : Nat))
                                                                    [AV.sl ((40 : Nat)) (ensL l) Own.no, AV.int IntKind.i64 tick,
                                                                      AV.agg [AV.str x_3.s, AV.int IntKind.i64 ((↑x_3.j : Int) + (1 : Int))]])
                                                                  (AV.bool b) [] ∧
                                                                (b = true →
                                                                    ∃ (y : St16),
                                                                      ValsAre
                                                                          [AV.sl ((40 : Nat)) (ensL l) Own.no, AV.int IntKind.i64 tick,
                                                                            AV.sl ((2 : Nat)) (mksL (outR l tick x_3.i)) Own.no,
                                                                            AV.int IntKind.i64 (↑x_3.i : Int), AV.ptr ((0 : Nat)) ((0 : Nat)),
                                                                            AV.int IntKind.i64 (↑x_3.at_ : Int)]
                                                                          [AV.sl ((40 : Nat)) (ensL l) Own.no, AV.int IntKind.i64 tick,
                                                                            AV.sl ((2 : Nat)) (mksL (outR l tick y.i)) Own.no, AV.int IntKind.i64 (↑y.i : Int),
                                                                            AV.ptr ((0 : Nat)) ((0 : Nat)), AV.int IntKind.i64 (↑y.at_ : Int)] ∧
                                                                        StIs
                                                                            {
                                                                              boxes :=
                                                                                [some
                                                                                    [AV.str x_3.s,
                                                                                      AV.int IntKind.i64
                                                                                        (IntKind.i64.wrap ((↑x_3.j : Int) + (1 : Int) + (1 : Int)))]],
                                                                              live := [] }
                                                                            { boxes := [some [AV.str y.s, AV.int IntKind.i64 ((↑y.j : Int) + (1 : Int))]],
                                                                              live := [] } ∧
                                                                          (y.i < l.length ∧
                                                                              (∃ (e : EnI), l[y.i]? = some e ∧ relB tick e = true ∧ e.f.src = y.s) ∧
                                                                                y.at_ =
                                                                                    (List.takeWhile (fun (a : List UInt8) => Op.bytesLess a y.s)
                                                                                        (nmsR (metL tick (List.take y.i l)))).length ∧
                                                                                  (nmsR (metL tick (List.take y.i l)))[y.at_]? ≠ some y.s ∧
                                                                                    y.j ≤ (metL tick l).length ∧
                                                                                      (∀ (k : Nat),
                                                                                          k < y.j → hasId (metL tick l) y.s ((↑k : Int) + (1 : Int)) = true) ∧
                                                                                        nextF (hasId (metL tick l) y.s) ((metL tick l).length - y.j)
                                                                                            ((↑y.j : Int) + (1 : Int)) =
                                                                                          nextM (metL tick l) y.s) ∧
                                                                            some (AV.int IntKind.i64 (↑x_2.i : Int)) = some (AV.int IntKind.i64 (↑y.i : Int)) ∧
                                                                              (metL tick l).length - y.j < (metL tick l).length - x_3.j) ∧
                                                                  (b = false →
                                                                    (0 : Int) ≤ (↑x_3.at_ : Int) ∧
                                                                      ((↑x_3.at_ : Int).toNat ≤ (mksL (outR l tick x_3.i)).length ∧
                                                                          (mksL (outR l tick x_3.i)).length ≤ (mksL (outR l tick x_3.i)).length) ∧
                                                                        ((2 : Nat) = (2 : Nat) ∨ mksL (outR l tick x_3.i) = []) ∧
                                                                          ((2 : Nat) = (2 : Nat) ∨
                                                                              [AV.agg [AV.str x_3.s, AV.int IntKind.i64 ((↑x_3.j : Int) + (1 : Int))]] = []) ∧
                                                                            ((1 : Nat) +
                                                                                    (List.drop (↑x_3.at_ : Int).toNat
                                                                                        (List.take (mksL (outR l tick x_3.i)).length
                                                                                          (mksL (outR l tick x_3.i)))).length) *
                                                                                  (25 : Nat) ≤
                                                                                (70368744177664 : Nat) ∧
                                                                              (List.drop (↑x_3.at_ : Int).toNat
                                                                                      (List.take (mksL (outR l tick x_3.i)).length (mksL (outR l tick x_3.i))) =
                                                                                    [] →
                                                                                  (0 : Int) ≤ (↑x_3.at_ : Int) ∧
                                                                                    ((0 : Nat) ≤ (↑x_3.at_ : Int).toNat ∧
                                                                                        (↑x_3.at_ : Int).toNat ≤ (mksL (outR l tick x_3.i)).length) ∧
                                                                                      ((2 : Nat) = (2 : Nat) ∨ mksL (outR l tick x_3.i) = []) ∧
                                                                                        ((2 : Nat) = (2 : Nat) ∨ ([] : List AV) = []) ∧
                                                                                          ((0 : Nat) +
                                                                                                  (List.drop ((0 : Nat))
                                                                                                      (List.take (↑x_3.at_ : Int).toNat
                                                                                                        (mksL (outR l tick x_3.i)))).length) *
                                                                                                (25 : Nat) ≤
                                                                                              (70368744177664 : Nat) ∧
                                                                                            (List.drop ((0 : Nat))
                                                                                                    (List.take (↑x_3.at_ : Int).toNat
                                                                                                      (mksL (outR l tick x_3.i))) =
                                                                                                  [] →
                                                                                                ((2 : Nat) = (2 : Nat) ∨ ([] : List AV) = []) ∧
                                                                                                  ((0 : Nat) + (1 : Nat)) * (25 : Nat) ≤
                                                                                                      (70368744177664 : Nat) ∧
                                                                                                    ∃ (y : Nat),
                                                                                                      ValsAre
                                                                                                          [AV.sl ((40 : Nat)) (ensL l) Own.no,
                                                                                                            AV.int IntKind.i64 tick,
                                                                                                            AV.sl ((2 : Nat))
                                                                                                              [AV.agg
                                                                                                                  [AV.str x_3.s,
                                                                                                                    AV.int IntKind.i64
                                                                                                                      ((↑x_3.j : Int) + (1 : Int))]]
                                                                                                              Own.no,
                                                                                                            AV.int IntKind.i64
                                                                                                              (IntKind.i64.wrap ((↑x_3.i : Int) + (1 : Int)))]
                                                                                                          [AV.sl ((40 : Nat)) (ensL l) Own.no,
                                                                                                            AV.int IntKind.i64 tick,
                                                                                                            AV.sl ((2 : Nat)) (mksL (outR l tick y)) Own.no,
                                                                                                            AV.int IntKind.i64 (↑y : Int)] ∧
                                                                                                        StIs { boxes := [], live := [] }
                                                                                                            { boxes := [], live := [] } ∧
                                                                                                          y ≤ l.length ∧ l.length - y < l.length - x) ∧
                                                                                              (List.drop ((0 : Nat))
                                                                                                    (List.take (↑x_3.at_ : Int).toNat
                                                                                                      (mksL (outR l tick x_3.i))) ≠
                                                                                                  [] →
                                                                                                ((2 : Nat) = (2 : Nat) ∨
                                                                                                    [] ++
                                                                                                        List.drop ((0 : Nat))
                                                                                                          (List.take (↑x_3.at_ : Int).toNat
                                                                                                            (mksL (outR l tick x_3.i))) =
                                                                                                      []) ∧
                                                                                                  (([] ++
                                                                                                              List.drop ((0 : Nat))
                                                                                                                (List.take (↑x_3.at_ : Int).toNat
                                                                                                                  (mksL (outR l tick x_3.i)))).length +
                                                                                                          (1 : Nat)) *
                                                                                                        (25 : Nat) ≤
                                                                                                      (70368744177664 : Nat) ∧
                                                                                                    (0 : Nat) +
                                                                                                          (List.drop ((0 : Nat))
                                                                                                              (List.take (↑x_3.at_ : Int).toNat
                                                                                                                (mksL (outR l tick x_3.i)))).length =
                                                                                                        ([] ++
                                                                                                            List.drop ((0 : Nat))
                                                                                                              (List.take (↑x_3.at_ : Int).toNat
                                                                                                                (mksL (outR l tick x_3.i)))).length ∧
                                                                                                      ∃ (y : Nat),
                                                                                                        ValsAre
                                                                                                            [AV.sl ((40 : Nat)) (ensL l) Own.no,
                                                                                                              AV.int IntKind.i64 tick,
                                                                                                              AV.sl ((2 : Nat))
                                                                                                                ([] ++
                                                                                                                    List.drop ((0 : Nat))
                                                                                                                      (List.take (↑x_3.at_ : Int).toNat
                                                                                                                        (mksL (outR l tick x_3.i))) ++
                                                                                                                  [AV.agg
                                                                                                                      [AV.str x_3.s,
                                                                                                                        AV.int IntKind.i64
                                                                                                                          ((↑x_3.j : Int) + (1 : Int))]])
                                                                                                                Own.no,
                                                                                                              AV.int IntKind.i64
                                                                                                                (IntKind.i64.wrap ((↑x_3.i : Int) + (1 : Int)))]
                                                                                                            [AV.sl ((40 : Nat)) (ensL l) Own.no,
                                                                                                              AV.int IntKind.i64 tick,
                                                                                                              AV.sl ((2 : Nat)) (mksL (outR l tick y)) Own.no,
                                                                                                              AV.int IntKind.i64 (↑y : Int)] ∧
                                                                                                          StIs { boxes := [], live := [] }
                                                                                                              { boxes := [], live := [] } ∧
                                                                                                            y ≤ l.length ∧ l.length - y < l.length - x)) ∧
                                                                                (List.drop (↑x_3.at_ : Int).toNat
                                                                                      (List.take (mksL (outR l tick x_3.i)).length (mksL (outR l tick x_3.i))) ≠
                                                                                    [] →
                                                                                  (0 : Int) ≤ (↑x_3.at_ : Int) ∧
                                                                                    ((0 : Nat) ≤ (↑x_3.at_ : Int).toNat ∧
                                                                                        (↑x_3.at_ : Int).toNat ≤ (mksL (outR l tick x_3.i)).length) ∧
                                                                                      ((2 : Nat) = (2 : Nat) ∨ mksL (outR l tick x_3.i) = []) ∧
                                                                                        ((2 : Nat) = (2 : Nat) ∨ ([] : List AV) = []) ∧
                                                                                          ((0 : Nat) +
                                                                                                  (List.drop ((0 : Nat))
                                                                                                      (List.take (↑x_3.at_ : Int).toNat
                                                                                                        (mksL (outR l tick x_3.i)))).length) *
                                                                                                (25 : Nat) ≤
                                                                                              (70368744177664 : Nat) ∧
                                                                                            (List.drop ((0 : Nat))
                                                                                                    (List.take (↑x_3.at_ : Int).toNat
                                                                                                      (mksL (outR l tick x_3.i))) =
                                                                                                  [] →
                                                                                                ((2 : Nat) = (2 : Nat) ∨ ([] : List AV) = []) ∧
                                                                                                  ((0 : Nat) +
                                                                                                          ([AV.agg
                                                                                                                  [AV.str x_3.s,
                                                                                                                    AV.int IntKind.i64
                                                                                                                      ((↑x_3.j : Int) + (1 : Int))]] ++
                                                                                                              List.drop (↑x_3.at_ : Int).toNat
                                                                                                                (List.take (mksL (outR l tick x_3.i)).length
                                                                                                                  (mksL (outR l tick x_3.i)))).length) *
                                                                                                        (25 : Nat) ≤
                                                                                                      (70368744177664 : Nat) ∧
                                                                                                    ([AV.agg
                                                                                                                [AV.str x_3.s,
                                                                                                                  AV.int IntKind.i64
                                                                                                                    ((↑x_3.j : Int) + (1 : Int))]] ++
                                                                                                            List.drop (↑x_3.at_ : Int).toNat
                                                                                                              (List.take (mksL (outR l tick x_3.i)).length
                                                                                                                (mksL (outR l tick x_3.i))) =
                                                                                                          [] →
                                                                                                        ∃ (y : Nat),
                                                                                                          ValsAre
                                                                                                              [AV.sl ((40 : Nat)) (ensL l) Own.no,
                                                                                                                AV.int IntKind.i64 tick,
                                                                                                                AV.sl ((2 : Nat)) [] Own.full,
                                                                                                                AV.int IntKind.i64
                                                                                                                  (IntKind.i64.wrap
                                                                                                                    ((↑x_3.i : Int) + (1 : Int)))]
                                                                                                              [AV.sl ((40 : Nat)) (ensL l) Own.no,
                                                                                                                AV.int IntKind.i64 tick,
                                                                                                                AV.sl ((2 : Nat)) (mksL (outR l tick y)) Own.no,
                                                                                                                AV.int IntKind.i64 (↑y : Int)] ∧
                                                                                                            StIs { boxes := [], live := [] }
                                                                                                                { boxes := [], live := [] } ∧
                                                                                                              y ≤ l.length ∧ l.length - y < l.length - x) ∧
                                                                                                      ([AV.agg
                                                                                                                [AV.str x_3.s,
                                                                                                                  AV.int IntKind.i64
                                                                                                                    ((↑x_3.j : Int) + (1 : Int))]] ++
                                                                                                            List.drop (↑x_3.at_ : Int).toNat
                                                                                                              (List.take (mksL (outR l tick x_3.i)).length
                                                                                                                (mksL (outR l tick x_3.i))) ≠
                                                                                                          [] →
                                                                                                        ∃ (y : Nat),
                                                                                                          ValsAre
                                                                                                              [AV.sl ((40 : Nat)) (ensL l) Own.no,
                                                                                                                AV.int IntKind.i64 tick,
                                                                                                                AV.sl ((2 : Nat))
                                                                                                                  ([] ++
                                                                                                                    ([AV.agg
                                                                                                                          [AV.str x_3.s,
                                                                                                                            AV.int IntKind.i64
                                                                                                                              ((↑x_3.j : Int) + (1 : Int))]] ++
                                                                                                                      List.drop (↑x_3.at_ : Int).toNat
                                                                                                                        (List.take
                                                                                                                          (mksL (outR l tick x_3.i)).length
                                                                                                                          (mksL (outR l tick x_3.i)))))
                                                                                                                  Own.no,
                                                                                                                AV.int IntKind.i64
                                                                                                                  (IntKind.i64.wrap
                                                                                                                    ((↑x_3.i : Int) + (1 : Int)))]
                                                                                                              [AV.sl ((40 : Nat)) (ensL l) Own.no,
                                                                                                                AV.int IntKind.i64 tick,
                                                                                                                AV.sl ((2 : Nat)) (mksL (outR l tick y)) Own.no,
                                                                                                                AV.int IntKind.i64 (↑y : Int)] ∧
                                                                                                            StIs { boxes := [], live := [] }
                                                                                                                { boxes := [], live := [] } ∧
                                                                                                              y ≤ l.length ∧ l.length - y < l.length - x)) ∧
                                                                                              (List.drop ((0 : Nat))
                                                                                                    (List.take (↑x_3.at_ : Int).toNat
                                                                                                      (mksL (outR l tick x_3.i))) ≠
                                                                                                  [] →
                                                                                                ((2 : Nat) = (2 : Nat) ∨
                                                                                                    [] ++
                                                                                                        List.drop ((0 : Nat))
                                                                                                          (List.take (↑x_3.at_ : Int).toNat
                                                                                                            (mksL (outR l tick x_3.i))) =
                                                                                                      []) ∧
                                                                                                  (([] ++
                                                                                                              List.drop ((0 : Nat))
                                                                                                                (List.take (↑x_3.at_ : Int).toNat
                                                                                                                  (mksL (outR l tick x_3.i)))).length +
                                                                                                          ([AV.agg
                                                                                                                  [AV.str x_3.s,
                                                                                                                    AV.int IntKind.i64
                                                                                                                      ((↑x_3.j : Int) + (1 : Int))]] ++
                                                                                                              List.drop (↑x_3.at_ : Int).toNat
                                                                                                                (List.take (mksL (outR l tick x_3.i)).length
                                                                                                                  (mksL (outR l tick x_3.i)))).length) *
                                                                                                        (25 : Nat) ≤
                                                                                                      (70368744177664 : Nat) ∧
                                                                                                    (0 : Nat) +
                                                                                                          (List.drop ((0 : Nat))
                                                                                                              (List.take (↑x_3.at_ : Int).toNat
                                                                                                                (mksL (outR l tick x_3.i)))).length =
                                                                                                        ([] ++
                                                                                                            List.drop ((0 : Nat))
                                                                                                              (List.take (↑x_3.at_ : Int).toNat
                                                                                                                (mksL (outR l tick x_3.i)))).length ∧
                                                                                                      ∃ (y : Nat),
                                                                                                        ValsAre
                                                                                                            [AV.sl ((40 : Nat)) (ensL l) Own.no,
                                                                                                              AV.int IntKind.i64 tick,
                                                                                                              AV.sl ((2 : Nat))
                                                                                                                ([] ++
                                                                                                                    List.drop ((0 : Nat))
                                                                                                                      (List.take (↑x_3.at_ : Int).toNat
                                                                                                                        (mksL (outR l tick x_3.i))) ++
                                                                                                                  ([AV.agg
                                                                                                                        [AV.str x_3.s,
                                                                                                                          AV.int IntKind.i64
                                                                                                                            ((↑x_3.j : Int) + (1 : Int))]] ++
                                                                                                                    List.drop (↑x_3.at_ : Int).toNat
                                                                                                                      (List.take
                                                                                                                        (mksL (outR l tick x_3.i)).length
                                                                                                                        (mksL (outR l tick x_3.i)))))
                                                                                                                Own.no,
                                                                                                              AV.int IntKind.i64
                                                                                                                (IntKind.i64.wrap ((↑x_3.i : Int) + (1 : Int)))]
                                                                                                            [AV.sl ((40 : Nat)) (ensL l) Own.no,
                                                                                                              AV.int IntKind.i64 tick,
                                                                                                              AV.sl ((2 : Nat)) (mksL (outR l tick y)) Own.no,
                                                                                                              AV.int IntKind.i64 (↑y : Int)] ∧
                                                                                                          StIs { boxes := [], live := [] }
                                                                                                              { boxes := [], live := [] } ∧
                                                                                                            y ≤ l.length ∧ l.length - y < l.length - x)))))) ∧
        (decide ((↑x : Int) < (↑(ensL l).length : Int)) = false →
          RetLax (AV.sl ((2 : Nat)) (mksL (outR l tick x)) Own.no) (AV.sl ((2 : Nat)) (mksL (marksM (metL tick l))) Own.no, []))) := by kernel_rfl
end Go.Abs
