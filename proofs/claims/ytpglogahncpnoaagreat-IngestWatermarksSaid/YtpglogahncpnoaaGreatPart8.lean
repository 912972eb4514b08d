/- Own texts, part 8. -/
import Derived.Test.YtpglogahncpnoaaGreatPart7

namespace Go.Abs
open Go.Proofs Go.RowKit
def pkBd (p : PkI) : Bool := decide (p.src.length ≤ 2000000) && decide (p.f.fs.length ≤ 100000000)
/-- values, facts: are they equal? -/
def v42 : Spec := z61
def v22 : Spec := fun args => z38 (args.map wk1)
/-- channel: formed, with, without, Send, Deliver, Drop, Copy -/
def v77 : Spec := fun args => match args with
  | [a] => match unK a with
    | some p => if pkBd p = true then some (.bool (pkOkC p), []) else none
    | none => none
  | _ => none
def v78 : Spec := fun args => match args with
  | [.sl sz es .no, a] => if sz = 11 ∧ es.length ≤ 2000000 then (match unL unK es, unK a with
    | some l, some p => some (.sl 11 (pksL (l ++ [p])) .no, [])
    | _, _ => none) else none
  | _ => none
def v64 : Spec := fun args => match args with
  | [.sl sz es .no, .int .i64 n] => if sz = 11 ∧ es.length ≤ 2000000 ∧ 0 ≤ n ∧ n < es.length then (match unL unK es with
    | some l => some (.sl 11 (pksL (l.eraseIdx n.toNat)) .no, [])
    | none => none) else none
  | _ => none
def zPk : PkI := ⟨[], false, 0, zFc⟩
def chDel (c : List PkI) (n : Int) : List PkI × PkI × Int := if n < 0 ∨ (c.length : Int) ≤ n then ([], zPk, 4) else (c.eraseIdx n.toNat, c.getD n.toNat zPk, 0)
def chDrop (c : List PkI) (n : Int) : List PkI × Int := ((chDel c n).1, (chDel c n).2.2)
def chDup (c : List PkI) (n : Int) : List PkI × Int := if n < 0 ∨ (c.length : Int) ≤ n then ([], 4) else chSend c (c.getD n.toNat zPk)
abbrev chA (c : List PkI) : AV := .agg [.sl 11 (pksL c) .no]
def v63 : Spec := fun args => match args with
  | [.agg [.sl sz es .no], a] => if sz = 11 ∧ es.length ≤ 2000000 then (match unL unK es, unK a with
    | some l, some p => if pkBd p = true then some (.tup [chA (chSend l p).1, .int .i64 (chSend l p).2], []) else none
    | _, _ => none) else none
  | _ => none
def v44 : Spec := fun args => match args with
  | [.agg [.sl sz es .no], .int .i64 n] => if sz = 11 ∧ es.length ≤ 2000000 then (match unL unK es with
    | some l => some (.tup [chA (chDel l n).1, pkA (chDel l n).2.1, .int .i64 (chDel l n).2.2], [])
    | none => none) else none
  | _ => none
def v45 : Spec := fun args => match args with
  | [.agg [.sl sz es .no], .int .i64 n] => if sz = 11 ∧ es.length ≤ 2000000 then (match unL unK es with
    | some l => some (.tup [chA (chDrop l n).1, .int .i64 (chDrop l n).2], [])
    | none => none) else none
  | _ => none
def v46 : Spec := fun args => match args with
  | [.agg [.sl sz es .no], .int .i64 n] => if sz = 11 ∧ es.length ≤ 2000000 then (match unL unK es with
    | some l => if l.all pkBd = true then some (.tup [chA (chDup l n).1, .int .i64 (chDup l n).2], []) else none
    | none => none) else none
  | _ => none
/-! ### the world -/
abbrev wC (w : WoI) : List AV := [.str w.a.nm, .int .i64 w.a.nx, .sl 8 (fcsL w.a.l) .no, .str w.b.nm, .int .i64 w.b.nx, .sl 8 (fcsL w.b.l) .no, .sl 11 (pksL w.c) .no, .sl 3 (bxsL w.r) .no, .sl 8 (fcsL w.all) (.tok 0), .sl 8 (fcsL w.fresh) (.tok 1), .bool w.bad]
def wA (w : WoI) : AV := .agg (wC w)
/-- a world in which nothing went wrong -/
abbrev wCg (w : WoI) : List AV := [.str w.a.nm, .int .i64 w.a.nx, .sl 8 (fcsL w.a.l) .no, .str w.b.nm, .int .i64 w.b.nx, .sl 8 (fcsL w.b.l) .no, .sl 11 (pksL w.c) .no, .sl 3 (bxsL w.r) .no, .sl 8 (fcsL w.all) (.tok 0), .sl 8 (fcsL w.fresh) (.tok 1), .bool false]
abbrev wL (w : WoI) : List (Nat × TypeId) := [(w.all.length, 29), (w.fresh.length, 29)]
abbrev wZ : List AV := [.str [], .int .i64 0, .sl 0 [] .nil, .str [], .int .i64 0, .sl 0 [] .nil, .sl 0 [] .nil, .sl 0 [] .nil, .sl 0 [] .nil, .sl 0 [] .nil, .bool false]
/-- bounds of a world -/
structure WBd (w : WoI) : Prop where
  a : w.a.l.length ≤ 1000
  b : w.b.l.length ≤ 1000
  ax : 0 ≤ w.a.nx
  bx : 0 ≤ w.b.nx
  c : w.c.length ≤ 2000
  cb : ∀ p ∈ w.c, pkBd p = true
  r : rcvOk w.r = true
  all : w.all.length ≤ 100000
  fresh : w.fresh.length ≤ 100000
  ab : ∀ f ∈ w.a.l, f.src.length ≤ 2000000 ∧ f.fs.length ≤ 100000000
  bb : ∀ f ∈ w.b.l, f.src.length ≤ 2000000 ∧ f.fs.length ≤ 100000000
  an : w.a.nm.length ≤ 2000000
  bn : w.b.nm.length ≤ 2000000
def lFs (es : List AV) : List FcI := (unL unG es).getD []
def lPs (es : List AV) : List PkI := (unL unK es).getD []
def lBs (es : List AV) : List BxI := (unL unB es).getD []
def lVs (es : List AV) : List VaI := (unL unV es).getD []
def wOf (cs : List AV) : WoI := match cs with
  | [.str an, .int .i64 ax, .sl _ al .no, .str bn, .int .i64 bx, .sl _ bl .no, .sl _ c .no, .sl _ r .no, .sl _ all (.tok _), .sl _ fresh (.tok _), .bool bad] => ⟨⟨an, ax, lFs al⟩, ⟨bn, bx, lFs bl⟩, lPs c, lBs r, lFs all, lFs fresh, bad⟩
  | _ => startO
def pOf (cs : List AV) : PkI := match cs with
  | [.str src, .bool ack, .int .i64 next, .str fsrc, .int .i64 seq, .int .i64 kind, .int .i64 ref, .str table, .str key, .int .i64 event, .sl _ fs .no] => ⟨src, ack, next, ⟨fsrc, seq, kind, ref, table, key, event, lVs fs⟩⟩
  | _ => zPk
def xOf (cs : List AV) : AcI := match cs with
  | [.int .i64 k, .int .i64 s, .int .i64 n] => ⟨k, s, n⟩
  | _ => ⟨0, 0, 0⟩
def isWc (cs : List AV) : Bool := match cs with
  | [.str _, .int .i64 _, .sl za _ .no, .str _, .int .i64 _, .sl zb _ .no, .sl zc _ .no, .sl zr _ .no, .sl zl _ (.tok t0), .sl zf _ (.tok t1), .bool _] => decide (za = 8 ∧ zb = 8 ∧ zc = 11 ∧ zr = 3 ∧ zl = 8 ∧ zf = 8 ∧ t0 = 0 ∧ t1 = 1)
  | _ => false
def isPc (cs : List AV) : Bool := match cs with
  | [.str _, .bool _, .int .i64 _, .str _, .int .i64 _, .int .i64 _, .int .i64 _, .str _, .str _, .int .i64 _, .sl z _ .no] => decide (z = 3)
  | _ => false
def isXc (cs : List AV) : Bool := match cs with
  | [.int .i64 _, .int .i64 _, .int .i64 _] => true
  | _ => false
def keptWA (w : WoI) : AV := wA w
def keptSend (cs ps : List AV) : WoI := sendO (wOf cs) (pOf ps)
def keptRecv (cs ps : List AV) : WoI := recvO (wOf cs) (pOf ps)
def keptAct (cs xs : List AV) : WoI := actO (wOf cs) (xOf xs)
/-- asked of a world and its owners -/
structure WAsk (cs : List AV) (n0 n1 : Nat) : Prop where
  ex : ∃ w, cs = wC w ∧ n0 = w.all.length ∧ n1 = w.fresh.length ∧ WBd w
structure PAsk (cs : List AV) : Prop where
  ex : ∃ p, .agg cs = pkA p ∧ pkBd p = true
structure RAsk (cs : List AV) (n0 n1 : Nat) : Prop where
  ex : ∃ w, cs = wC w ∧ n0 = w.all.length ∧ n1 = w.fresh.length ∧ WBd w ∧ w.bad = false ∧ w.fresh.length < 100000
structure XAsk (cs : List AV) (n0 n1 : Nat) : Prop where
  ex : ∃ w, cs = wC w ∧ n0 = w.all.length ∧ n1 = w.fresh.length ∧ WInv w ∧ w.all.length < 1000
/-- the facts of a packet may be appended -/
def v43 : LSpec := fun args live => match args, live with
  | [.agg cs, .agg ps], [(n0, e0), (n1, e1)] =>
    if isWc cs && isPc ps && decide (e0 = 29 ∧ e1 = 29) then some (WAsk cs n0 n1 ∧ PAsk ps, keptWA (keptSend cs ps), wL (keptSend cs ps)) else none
  | _, _ => none
def v23 : LSpec := fun args live => match args, live with
  | [.agg cs, .agg ps], [(n0, e0), (n1, e1)] =>
    if isWc cs && isPc ps && decide (e0 = 29 ∧ e1 = 29) then some (RAsk cs n0 n1 ∧ PAsk ps, keptWA (keptRecv cs ps), wL (keptRecv cs ps)) else none
  | _, _ => none
def v24 : LSpec := fun args live => match args, live with
  | [.agg cs, .agg xs], [(n0, e0), (n1, e1)] =>
    if isWc cs && isXc xs && decide (e0 = 29 ∧ e1 = 29) then some (XAsk cs n0 n1, keptWA (keptAct cs xs), wL (keptAct cs xs)) else none
  | _, _ => none
def acA (x : AcI) : AV := .agg [.int .i64 x.k, .int .i64 x.s, .int .i64 x.n]
abbrev acsL (l : List AcI) : List AV := l.map acA
def unX : AV → Option AcI
  | .agg [.int .i64 k, .int .i64 s, .int .i64 n] => some ⟨k, s, n⟩
  | _ => none
def lXs (es : List AV) : List AcI := (unL unX es).getD []
def keptRan (es : List AV) : WoI := ranO (lXs es)
def v20 : LSpec := fun args live => match args, live with
  | [.sl sz es .no], [] => if sz = 3 then some ((∃ l, es = acsL l ∧ l.length ≤ 100), keptWA (keptRan es), wL (keptRan es)) else none
  | _, _ => none
def v41 : Spec := fun args => match args with
  | [] => some (.agg [.str appB, .int .i64 1, .sl 8 [] .no, .str webB, .int .i64 1, .sl 8 [] .no, .sl 0 [] .nil, .sl 0 [] .nil, .sl 0 [] .nil, .sl 0 [] .nil, .bool false], [])
  | _ => none
abbrev shWo : Sh × Option TypeId := (.val (.agg [.str, .int .i64, .sl 8 .no, .str, .int .i64, .sl 8 .no, .sl 11 .no, .sl 3 .no, .sl 8 (.tok 0), .sl 8 (.tok 1), .bool]), none)
abbrev sh1Pk : Sh1 := .agg [.str, .bool, .int .i64, .str, .int .i64, .int .i64, .int .i64, .str, .str, .int .i64, .sl 3 .no]
abbrev shRcW : Sh × Option TypeId := (.tup [.agg [.sl 3 .no], .one .bool, .agg [.str, .bool, .int .i64, .is (.str []), .is (.int .i64 0), .is (.int .i64 0), .is (.int .i64 0), .is (.str []), .is (.str []), .is (.int .i64 0), .is (.sl 3 [] .no)], .one (.int .i64)], none)
def XWo : Shapes := fun f => match f with
  | 33 | 34 | 7 | 22 | 38 | 42 | 61 | 77 | 48 | 25 | 26 => some shB
  | 9 | 18 => some shSd
  | 13 => some (.tup [.agg [.str, .int .i64, .sl 8 .no], sh1Pk, .one (.int .i64)], none)
  | 16 | 78 | 64 => some (.val (.one (.sl 11 .no)), none)
  | 63 | 45 | 46 => some (.tup [.agg [.sl 11 .no], .one (.int .i64)], none)
  | 44 => some (.tup [.agg [.sl 11 .no], sh1Pk, .one (.int .i64)], none)
  | 29 => some shRcW
  | 41 => some (.val (.agg [.is (.str appB), .is (.int .i64 1), .is (.sl 8 [] .no), .is (.str webB), .is (.int .i64 1), .is (.sl 8 [] .no), .is (.sl 0 [] .nil), .is (.sl 0 [] .nil), .is (.sl 0 [] .nil), .is (.sl 0 [] .nil), .is (.bool false)]), none)
  | 21 | 27 => some shI
  | 3000043 | 3000023 | 3000024 | 3000020 => some shWo
  | 4000042 => some shB
  | 2000029 => some shFc
  | 2000031 => some shPk
  | _ => none
/-! ### annotations -/
def av42 (a b : List VaI) : Anns := ⟨fun k => if k = 4 then some { α := Nat, slots := [0, 1, 12, 13], nb := 0, vals := fun n => [.sl 3 (vasL a) .no, .sl 3 (vasL b) .no, .int .i64 a.length, .int .i64 n], sS := fun _ => ⟨[], []⟩, I := fun n => n ≤ a.length ∧ a.take n = b.take n, μ := fun n => a.length - n } else none, nA⟩
/-- the index of a packet; the source of an act -/
def nIdx (c : List PkI) (n : Int) : Int := if c = [] then -1 else ((n.tmod c.length) + c.length).tmod c.length
def parI (s : Int) : Int := if s % 2 = 1 then 1 else 0
def parB (s : Int) : Bool := decide (s % 2 = 1)
def openP (w : WoI) (s : Int) : List PkI := resP (sdOf w (parB s)).l
def againL (w : WoI) (s : Int) (n : Nat) : WoI := ((openP w s).take n).foldl sendO w
def av24 (w : WoI) (k s n : Int) : Anns := ⟨fun i => match i with
  | 1000006 => some { α := Unit, slots := [2, 3, 4, 5, 6, 7], nb := 3, vals := fun _ => [.ptr 0 0, .ptr 1 0, .ptr 2 0, .int .i64 (parI s), .int .i64 (nIdx w.c n), .int .i64 w.c.length], sS := fun _ => ⟨[some (wCg w), some [.int .i64 k, .int .i64 s, .int .i64 n], some wZ], wL w⟩, I := fun _ => True, μ := fun _ => 0, bools := [1005] }
  | 31 => some { α := Nat, slots := [2, 4, 18, 19], nb := 3, vals := fun j => [.ptr 0 0, .ptr 2 0, .sl 11 (pksL (openP w s)) .no, .int .i64 j], sS := fun j => ⟨[some (wC (againL w s j)), some [.int .i64 k, .int .i64 s, .int .i64 n], some wZ], wL (againL w s j)⟩, I := fun j => j ≤ (openP w s).length, μ := fun j => (openP w s).length - j }
  | _ => none, nA⟩
/-- without a fork on the source -/
def av24n (w : WoI) (k s n : Int) : Anns := ⟨fun i => match i with
  | 1000006 => some { α := Unit, slots := [2, 3, 4, 6, 7], nb := 3, vals := fun _ => [.ptr 0 0, .ptr 1 0, .ptr 2 0, .int .i64 (nIdx w.c n), .int .i64 w.c.length], sS := fun _ => ⟨[some (wCg w), some [.int .i64 k, .int .i64 s, .int .i64 n], some wZ], wL w⟩, I := fun _ => True, μ := fun _ => 0 }
  | _ => none, nA⟩
def XNo : Shapes := fun _ => none
/-- one callee alone -/
def XAct (g : Nat) : Shapes := fun f => if f = g ∨ 1000000 ≤ f then XWo f else none
def av20 (l : List AcI) : Anns := ⟨fun k => if k = 3 then some { α := Nat, slots := [0, 2, 3, 4], nb := 2, vals := fun n => [.sl 3 (acsL l) .no, .ptr 0 0, .ptr 1 0, .int .i64 n], sS := fun n => ⟨[some wZ, some (wC (ranO (l.take n)))], wL (ranO (l.take n))⟩, I := fun n => n ≤ l.length, μ := fun n => l.length - n, mintB := [(8001, 29), (9001, 29), (6001, 1000031), (7001, 1000067)] } else none, nA⟩
end Go.Abs

namespace Go.Abs
open Go.Proofs
theorem ww42 (m : Int) (a b : List VaI) : (pureW PI (GI m) XWo (tbl []) (itbl []) (av42 a b) [] 42 [.sl 3 (vasL a) .no, .sl 3 (vasL b) .no] (.bool (decide (a = b)), [])) =
((((↑(vasL a).length : Int) != (↑(vasL b).length : Int)) = true → RetIs (AV.bool false) [] (AV.bool (decide (a = b)), [])) ∧
  (((↑(vasL a).length : Int) != (↑(vasL b).length : Int)) = false →
    (∃ (y : Nat),
        ValsAre
 [AV.sl 3 (vasL a) Own.no, AV.sl 3 (vasL b) Own.no, AV.int IntKind.i64 (↑(vasL a).length : Int), AV.int IntKind.i64 0]
 [AV.sl 3 (vasL a) Own.no, AV.sl 3 (vasL b) Own.no, AV.int IntKind.i64 (↑a.length : Int), AV.int IntKind.i64 (↑y : Int)] ∧
 StIs { boxes := [], live := [] } { boxes := [], live := [] } ∧ (y ≤ a.length ∧ List.take y a = List.take y b) ∧ True) ∧
      ∀ (x : Nat),
        x ≤ a.length ∧ List.take x a = List.take x b →
 (decide ((↑x : Int) < (↑a.length : Int)) = true →
 ((0 : Int) ≤ (↑x : Int) ∧ (↑x : Int) < (↑(vasL a).length : Int)) ∧
 ∃ (n : Int),
 ∃ (n_1 : Int),
 ∃ (s : List UInt8),
 takeAt PI 78 (vasL a) (↑x : Int).toNat 0 = some (AV.agg [AV.int IntKind.i64 n, AV.int IntKind.i64 n_1, AV.str s]) ∧
 ((0 : Int) ≤ (↑x : Int) ∧ (↑x : Int) < (↑(vasL b).length : Int)) ∧
 ∃ (n_2 : Int),
 ∃ (n_3 : Int),
 ∃ (s_1 : List UInt8),
 takeAt PI 78 (vasL b) (↑x : Int).toNat 0 =
 some (AV.agg [AV.int IntKind.i64 n_2, AV.int IntKind.i64 n_3, AV.str s_1]) ∧
 ((!(n == n_2 && (n_1 == n_3 && (s == s_1 && true)))) = true → RetIs (AV.bool false) [] (AV.bool (decide (a = b)), [])) ∧
 ((!(n == n_2 && (n_1 == n_3 && (s == s_1 && true)))) = false →
 ∃ (y : Nat),
 ValsAre
 [AV.sl 3 (vasL a) Own.no, AV.sl 3 (vasL b) Own.no, AV.int IntKind.i64 (↑a.length : Int),
 AV.int IntKind.i64 (IntKind.i64.wrap ((↑x : Int) + (1 : Int)))]
 [AV.sl 3 (vasL a) Own.no, AV.sl 3 (vasL b) Own.no, AV.int IntKind.i64 (↑a.length : Int),
 AV.int IntKind.i64 (↑y : Int)] ∧
 StIs { boxes := [], live := [] } { boxes := [], live := [] } ∧
 (y ≤ a.length ∧ List.take y a = List.take y b) ∧ a.length - y < a.length - x)) ∧
 (decide ((↑x : Int) < (↑a.length : Int)) = false → RetIs (AV.bool true) [] (AV.bool (decide (a = b)), [])))) := by kernel_rfl
theorem ww22 (m : Int) (f g : FcI) : (pureW PI (GI m) XWo (tbl [(42, v42)]) (itbl []) nAn [] 22 [.agg (fcC f), .agg (fcC g)] (.bool (decide (f = g)), [])) =
(((f.src == g.src && (f.seq == g.seq && true)) = true →
    ((f.kind == g.kind) = true →
        ((f.ref == g.ref) = true →
 ((f.table == g.table) = true →
 ((f.key == g.key) = true →
 ((f.event == g.event) = true →
 ∃ (b : Bool),
 CallIs (tbl [((42 : Nat), v42)] 42 [AV.sl 3 (vasL f.fs) Own.no, AV.sl 3 (vasL g.fs) Own.no]) (AV.bool b)
 [] ∧
 (b = true → RetIs (AV.bool true) [] (AV.bool (decide (f = g)), [])) ∧
 (b = false → RetIs (AV.bool false) [] (AV.bool (decide (f = g)), []))) ∧
 ((f.event == g.event) = false → RetIs (AV.bool false) [] (AV.bool (decide (f = g)), []))) ∧
 ((f.key == g.key) = false → RetIs (AV.bool false) [] (AV.bool (decide (f = g)), []))) ∧
 ((f.table == g.table) = false → RetIs (AV.bool false) [] (AV.bool (decide (f = g)), []))) ∧
 ((f.ref == g.ref) = false → RetIs (AV.bool false) [] (AV.bool (decide (f = g)), []))) ∧
      ((f.kind == g.kind) = false → RetIs (AV.bool false) [] (AV.bool (decide (f = g)), []))) ∧
  ((f.src == g.src && (f.seq == g.seq && true)) = false → RetIs (AV.bool false) [] (AV.bool (decide (f = g)), []))) := by kernel_rfl
theorem ww77 (m : Int) (p : PkI) : (pureW PI (GI m) XWo (tbl [(33, s27), (22, v22)]) (itbl []) nAn [] 77 [pkA p] (.bool (pkOkC p), [])) =
(∃ (b : Bool),
  CallIs (tbl [((33 : Nat), s27), ((22 : Nat), v22)] 33 [AV.str p.src]) (AV.bool b) [] ∧
    (b = true →
        (p.ack = true →
 (decide (p.next ≥ (1 : Int)) = true →
 (decide (p.next ≤ (1099511627777 : Int)) = true →
 ∃ (b : Bool),
 CallIs
 (tbl [((33 : Nat), s27), ((22 : Nat), v22)] 22
 [AV.agg
 [AV.str p.f.src, AV.int IntKind.i64 p.f.seq, AV.int IntKind.i64 p.f.kind, AV.int IntKind.i64 p.f.ref, AV.str p.f.table,
 AV.str p.f.key, AV.int IntKind.i64 p.f.event, AV.sl 3 (vasL p.f.fs) Own.no],
 AV.agg
 [AV.str [], AV.int IntKind.i64 0, AV.int IntKind.i64 0, AV.int IntKind.i64 0, AV.str [], AV.str [],
 AV.int IntKind.i64 0, AV.sl 0 [] Own.nil]])
 (AV.bool b) [] ∧
 (b = true → RetIs (AV.bool true) [] (AV.bool (pkOkC p), [])) ∧ (b = false → RetIs (AV.bool false) [] (AV.bool (pkOkC p), []))) ∧
 (decide (p.next ≤ (1099511627777 : Int)) = false → RetIs (AV.bool false) [] (AV.bool (pkOkC p), []))) ∧
 (decide (p.next ≥ (1 : Int)) = false → RetIs (AV.bool false) [] (AV.bool (pkOkC p), []))) ∧
 (p.ack = false →
 ((p.next == (0 : Int)) = true →
 ((p.f.src == p.src) = true → RetIs (AV.bool true) [] (AV.bool (pkOkC p), [])) ∧
 ((p.f.src == p.src) = false → RetIs (AV.bool false) [] (AV.bool (pkOkC p), []))) ∧
 ((p.next == (0 : Int)) = false → RetIs (AV.bool false) [] (AV.bool (pkOkC p), [])))) ∧
      (b = false → RetIs (AV.bool false) [] (AV.bool (pkOkC p), []))) := by kernel_rfl
theorem ww78 (m : Int) (l : List PkI) (p : PkI) (r : List AV) : (pureW PI (GI m) XWo (tbl []) (itbl []) nAn [] 78 [.sl 11 (pksL l) .no, pkA p] (.sl 11 r .no, [])) =
(((0 : Int) ≤ IntKind.i64.wrap ((↑(pksL l).length : Int) + (1 : Int)) ∧
    IntKind.i64.wrap ((↑(pksL l).length : Int) + (1 : Int)) ≤ IntKind.i64.wrap ((↑(pksL l).length : Int) + (1 : Int)) ∧
      IntKind.i64.wrap ((↑(pksL l).length : Int) + (1 : Int)) * (137 : Int) ≤ (70368744177664 : Int)) ∧
  True ∧
    ((11 : Nat) = (11 : Nat) ∨ pksL l = []) ∧
      (0 : Nat) + (IntKind.i64.wrap ((↑(pksL l).length : Int) + (1 : Int))).toNat ≤
 (List.replicate (IntKind.i64.wrap ((↑(pksL l).length : Int) + (1 : Int))).toNat
 (AV.agg
 [AV.str [], AV.bool false, AV.int IntKind.i64 0, AV.str [], AV.int IntKind.i64 0, AV.int IntKind.i64 0,
 AV.int IntKind.i64 0, AV.str [], AV.str [], AV.int IntKind.i64 0, AV.sl 0 [] Own.nil])).length ∧
        ((0 : Int) ≤ (↑(pksL l).length : Int) ∧ (↑(pksL l).length : Int) < (↑(IntKind.i64.wrap ((↑(pksL l).length : Int) + (1 : Int))).toNat : Int)) ∧
 (↑(pksL l).length : Int).toNat <
 ([] ++ List.take (IntKind.i64.wrap ((↑(pksL l).length : Int) + (1 : Int))).toNat (pksL l) ++
 List.drop ((0 : Nat) + min (pksL l).length (IntKind.i64.wrap ((↑(pksL l).length : Int) + (1 : Int))).toNat)
 (List.replicate (IntKind.i64.wrap ((↑(pksL l).length : Int) + (1 : Int))).toNat
 (AV.agg
 [AV.str [], AV.bool false, AV.int IntKind.i64 0, AV.str [], AV.int IntKind.i64 0, AV.int IntKind.i64 0,
 AV.int IntKind.i64 0, AV.str [], AV.str [], AV.int IntKind.i64 0, AV.sl 0 [] Own.nil]))).length ∧
 (([] ++ List.take (IntKind.i64.wrap ((↑(pksL l).length : Int) + (1 : Int))).toNat (pksL l) ++
 List.drop ((0 : Nat) + min (pksL l).length (IntKind.i64.wrap ((↑(pksL l).length : Int) + (1 : Int))).toNat)
 (List.replicate (IntKind.i64.wrap ((↑(pksL l).length : Int) + (1 : Int))).toNat
 (AV.agg
 [AV.str [], AV.bool false, AV.int IntKind.i64 0, AV.str [], AV.int IntKind.i64 0, AV.int IntKind.i64 0,
 AV.int IntKind.i64 0, AV.str [], AV.str [], AV.int IntKind.i64 0, AV.sl 0 [] Own.nil]))).set
 (↑(pksL l).length : Int).toNat
 (keptSetC
 (([] ++ List.take (IntKind.i64.wrap ((↑(pksL l).length : Int) + (1 : Int))).toNat (pksL l) ++
 List.drop ((0 : Nat) + min (pksL l).length (IntKind.i64.wrap ((↑(pksL l).length : Int) + (1 : Int))).toNat)
 (List.replicate (IntKind.i64.wrap ((↑(pksL l).length : Int) + (1 : Int))).toNat
 (AV.agg
 [AV.str [], AV.bool false, AV.int IntKind.i64 0, AV.str [], AV.int IntKind.i64 0,
 AV.int IntKind.i64 0, AV.int IntKind.i64 0, AV.str [], AV.str [], AV.int IntKind.i64 0,
 AV.sl 0 [] Own.nil]))).getD
 (↑(pksL l).length : Int).toNat AV.junk)
 0
 [AV.str p.src, AV.bool p.ack, AV.int IntKind.i64 p.next, AV.str p.f.src, AV.int IntKind.i64 p.f.seq, AV.int IntKind.i64 p.f.kind,
 AV.int IntKind.i64 p.f.ref, AV.str p.f.table, AV.str p.f.key, AV.int IntKind.i64 p.f.event,
 AV.sl 3 (vasL p.f.fs) Own.no])).length =
 (IntKind.i64.wrap ((↑(pksL l).length : Int) + (1 : Int))).toNat ∧
 RetIs
 (AV.sl 11
 (([] ++ List.take (IntKind.i64.wrap ((↑(pksL l).length : Int) + (1 : Int))).toNat (pksL l) ++
 List.drop ((0 : Nat) + min (pksL l).length (IntKind.i64.wrap ((↑(pksL l).length : Int) + (1 : Int))).toNat)
 (List.replicate (IntKind.i64.wrap ((↑(pksL l).length : Int) + (1 : Int))).toNat
 (AV.agg
 [AV.str [], AV.bool false, AV.int IntKind.i64 0, AV.str [], AV.int IntKind.i64 0, AV.int IntKind.i64 0,
 AV.int IntKind.i64 0, AV.str [], AV.str [], AV.int IntKind.i64 0, AV.sl 0 [] Own.nil]))).set
 (↑(pksL l).length : Int).toNat
 (keptSetC
 (([] ++ List.take (IntKind.i64.wrap ((↑(pksL l).length : Int) + (1 : Int))).toNat (pksL l) ++
 List.drop ((0 : Nat) + min (pksL l).length (IntKind.i64.wrap ((↑(pksL l).length : Int) + (1 : Int))).toNat)
 (List.replicate (IntKind.i64.wrap ((↑(pksL l).length : Int) + (1 : Int))).toNat
 (AV.agg
 [AV.str [], AV.bool false, AV.int IntKind.i64 0, AV.str [], AV.int IntKind.i64 0,
 AV.int IntKind.i64 0, AV.int IntKind.i64 0, AV.str [], AV.str [], AV.int IntKind.i64 0,
 AV.sl 0 [] Own.nil]))).getD
 (↑(pksL l).length : Int).toNat AV.junk)
 0
 [AV.str p.src, AV.bool p.ack, AV.int IntKind.i64 p.next, AV.str p.f.src, AV.int IntKind.i64 p.f.seq, AV.int IntKind.i64 p.f.kind,
 AV.int IntKind.i64 p.f.ref, AV.str p.f.table, AV.str p.f.key, AV.int IntKind.i64 p.f.event, AV.sl 3 (vasL p.f.fs) Own.no]))
 Own.no)
 [] (AV.sl 11 r Own.no, [])) := by kernel_rfl
theorem ww64 (m : Int) (l : List PkI) (n : Int) (r : List AV) : (pureW PI (GI m) XWo (tbl []) (itbl []) nAn [] 64 [.sl 11 (pksL l) .no, .int .i64 n] (.sl 11 r .no, [])) =
(((0 : Int) ≤ IntKind.i64.wrap ((↑(pksL l).length : Int) - (1 : Int)) ∧
    IntKind.i64.wrap ((↑(pksL l).length : Int) - (1 : Int)) ≤ IntKind.i64.wrap ((↑(pksL l).length : Int) - (1 : Int)) ∧
      IntKind.i64.wrap ((↑(pksL l).length : Int) - (1 : Int)) * (137 : Int) ≤ (70368744177664 : Int)) ∧
  (0 : Int) ≤ n ∧
    ((0 : Nat) ≤ n.toNat ∧ n.toNat ≤ (pksL l).length) ∧
      ((11 : Nat) = (11 : Nat) ∨ pksL l = []) ∧
        True ∧
 ((11 : Nat) = (11 : Nat) ∨ List.drop 0 (List.take n.toNat (pksL l)) = []) ∧
 (0 : Nat) + (IntKind.i64.wrap ((↑(pksL l).length : Int) - (1 : Int))).toNat ≤
 (List.replicate (IntKind.i64.wrap ((↑(pksL l).length : Int) - (1 : Int))).toNat
 (AV.agg
 [AV.str [], AV.bool false, AV.int IntKind.i64 0, AV.str [], AV.int IntKind.i64 0, AV.int IntKind.i64 0,
 AV.int IntKind.i64 0, AV.str [], AV.str [], AV.int IntKind.i64 0, AV.sl 0 [] Own.nil])).length ∧
 (0 : Int) ≤ n ∧
 True ∧
 (n.toNat ≤ (IntKind.i64.wrap ((↑(pksL l).length : Int) - (1 : Int))).toNat ∧
 (IntKind.i64.wrap ((↑(pksL l).length : Int) - (1 : Int))).toNat ≤ (IntKind.i64.wrap ((↑(pksL l).length : Int) - (1 : Int))).toNat) ∧
 (0 : Int) ≤ IntKind.i64.wrap (n + (1 : Int)) ∧
 ((IntKind.i64.wrap (n + (1 : Int))).toNat ≤ (pksL l).length ∧ (pksL l).length ≤ (pksL l).length) ∧
 ((11 : Nat) = (11 : Nat) ∨ pksL l = []) ∧
 True ∧
 ((11 : Nat) = (11 : Nat) ∨ List.drop (IntKind.i64.wrap (n + (1 : Int))).toNat (List.take (pksL l).length (pksL l)) = []) ∧
 n.toNat + ((IntKind.i64.wrap ((↑(pksL l).length : Int) - (1 : Int))).toNat - n.toNat) ≤
 ([] ++
 List.take (IntKind.i64.wrap ((↑(pksL l).length : Int) - (1 : Int))).toNat
 (List.drop 0 (List.take n.toNat (pksL l))) ++
 List.drop
 ((0 : Nat) +
 min (List.drop 0 (List.take n.toNat (pksL l))).length
 (IntKind.i64.wrap ((↑(pksL l).length : Int) - (1 : Int))).toNat)
 (List.replicate (IntKind.i64.wrap ((↑(pksL l).length : Int) - (1 : Int))).toNat
 (AV.agg
 [AV.str [], AV.bool false, AV.int IntKind.i64 0, AV.str [], AV.int IntKind.i64 0,
 AV.int IntKind.i64 0, AV.int IntKind.i64 0, AV.str [], AV.str [], AV.int IntKind.i64 0,
 AV.sl 0 [] Own.nil]))).length ∧
 (List.take n.toNat
 ([] ++
 List.take (IntKind.i64.wrap ((↑(pksL l).length : Int) - (1 : Int))).toNat
 (List.drop 0 (List.take n.toNat (pksL l))) ++
 List.drop
 ((0 : Nat) +
 min (List.drop 0 (List.take n.toNat (pksL l))).length
 (IntKind.i64.wrap ((↑(pksL l).length : Int) - (1 : Int))).toNat)
 (List.replicate (IntKind.i64.wrap ((↑(pksL l).length : Int) - (1 : Int))).toNat
 (AV.agg
 [AV.str [], AV.bool false, AV.int IntKind.i64 0, AV.str [], AV.int IntKind.i64 0,
 AV.int IntKind.i64 0, AV.int IntKind.i64 0, AV.str [], AV.str [],
 AV.int IntKind.i64 0, AV.sl 0 [] Own.nil]))) ++
 List.take ((IntKind.i64.wrap ((↑(pksL l).length : Int) - (1 : Int))).toNat - n.toNat)
 (List.drop (IntKind.i64.wrap (n + (1 : Int))).toNat (List.take (pksL l).length (pksL l))) ++
 List.drop
 (n.toNat +
 min (List.drop (IntKind.i64.wrap (n + (1 : Int))).toNat (List.take (pksL l).length (pksL l))).length
 ((IntKind.i64.wrap ((↑(pksL l).length : Int) - (1 : Int))).toNat - n.toNat))
 ([] ++
 List.take (IntKind.i64.wrap ((↑(pksL l).length : Int) - (1 : Int))).toNat
 (List.drop 0 (List.take n.toNat (pksL l))) ++
 List.drop
 ((0 : Nat) +
 min (List.drop 0 (List.take n.toNat (pksL l))).length
 (IntKind.i64.wrap ((↑(pksL l).length : Int) - (1 : Int))).toNat)
 (List.replicate (IntKind.i64.wrap ((↑(pksL l).length : Int) - (1 : Int))).toNat
 (AV.agg
 [AV.str [], AV.bool false, AV.int IntKind.i64 0, AV.str [], AV.int IntKind.i64 0,
 AV.int IntKind.i64 0, AV.int IntKind.i64 0, AV.str [], AV.str [],
 AV.int IntKind.i64 0, AV.sl 0 [] Own.nil])))).length =
 (IntKind.i64.wrap ((↑(pksL l).length : Int) - (1 : Int))).toNat ∧
 RetIs
 (AV.sl 11
 (List.take n.toNat
 ([] ++
 List.take (IntKind.i64.wrap ((↑(pksL l).length : Int) - (1 : Int))).toNat
 (List.drop 0 (List.take n.toNat (pksL l))) ++
 List.drop
 ((0 : Nat) +
 min (List.drop 0 (List.take n.toNat (pksL l))).length
 (IntKind.i64.wrap ((↑(pksL l).length : Int) - (1 : Int))).toNat)
 (List.replicate (IntKind.i64.wrap ((↑(pksL l).length : Int) - (1 : Int))).toNat
 (AV.agg
 [AV.str [], AV.bool false, AV.int IntKind.i64 0, AV.str [], AV.int IntKind.i64 0,
 AV.int IntKind.i64 0, AV.int IntKind.i64 0, AV.str [], AV.str [],
 AV.int IntKind.i64 0, AV.sl 0 [] Own.nil]))) ++
 List.take ((IntKind.i64.wrap ((↑(pksL l).length : Int) - (1 : Int))).toNat - n.toNat)
 (List.drop (IntKind.i64.wrap (n + (1 : Int))).toNat (List.take (pksL l).length (pksL l))) ++
 List.drop
 (n.toNat +
 min (List.drop (IntKind.i64.wrap (n + (1 : Int))).toNat (List.take (pksL l).length (pksL l))).length
 ((IntKind.i64.wrap ((↑(pksL l).length : Int) - (1 : Int))).toNat - n.toNat))
 ([] ++
 List.take (IntKind.i64.wrap ((↑(pksL l).length : Int) - (1 : Int))).toNat
 (List.drop 0 (List.take n.toNat (pksL l))) ++
 List.drop
 ((0 : Nat) +
 min (List.drop 0 (List.take n.toNat (pksL l))).length
 (IntKind.i64.wrap ((↑(pksL l).length : Int) - (1 : Int))).toNat)
 (List.replicate (IntKind.i64.wrap ((↑(pksL l).length : Int) - (1 : Int))).toNat
 (AV.agg
 [AV.str [], AV.bool false, AV.int IntKind.i64 0, AV.str [], AV.int IntKind.i64 0,
 AV.int IntKind.i64 0, AV.int IntKind.i64 0, AV.str [], AV.str [],
 AV.int IntKind.i64 0, AV.sl 0 [] Own.nil]))))
 Own.no)
 [] (AV.sl 11 r Own.no, [])) := by kernel_rfl
theorem ww63 (m : Int) (l : List PkI) (p : PkI) (r : List PkI) (rc : Int) : (laxW PI (GI m) XWo (tbl [(77, v77), (78, v78)]) (itbl []) nAn [] 63 [chA l, pkA p] (.tup [chA r, .int .i64 rc], [])) =
(∃ (b : Bool),
  CallIs
      (tbl [((77 : Nat), v77), ((78 : Nat), v78)] 77
        [AV.agg
 [AV.str p.src, AV.bool p.ack, AV.int IntKind.i64 p.next, AV.str p.f.src, AV.int IntKind.i64 p.f.seq, AV.int IntKind.i64 p.f.kind,
 AV.int IntKind.i64 p.f.ref, AV.str p.f.table, AV.str p.f.key, AV.int IntKind.i64 p.f.event, AV.sl 3 (vasL p.f.fs) Own.no]])
      (AV.bool b) [] ∧
    (b = true →
        (decide ((↑(pksL l).length : Int) ≥ (1024 : Int)) = true →
 RetLax (AV.tup [AV.agg [AV.sl 0 [] Own.nil], AV.int IntKind.i64 2])
 (AV.tup [AV.agg [AV.sl 11 (pksL r) Own.no], AV.int IntKind.i64 rc], [])) ∧
 (decide ((↑(pksL l).length : Int) ≥ (1024 : Int)) = false →
 ∃ (es : List AV),
 CallIs
 (tbl [((77 : Nat), v77), ((78 : Nat), v78)] 78
 [AV.sl 11 (pksL l) Own.no,
 AV.agg
 [AV.str p.src, AV.bool p.ack, AV.int IntKind.i64 p.next, AV.str p.f.src, AV.int IntKind.i64 p.f.seq, AV.int IntKind.i64 p.f.kind,
 AV.int IntKind.i64 p.f.ref, AV.str p.f.table, AV.str p.f.key, AV.int IntKind.i64 p.f.event, AV.sl 3 (vasL p.f.fs) Own.no]])
 (AV.sl 11 es Own.no) [] ∧
 RetLax (AV.tup [AV.agg [AV.sl 11 es Own.no], AV.int IntKind.i64 0])
 (AV.tup [AV.agg [AV.sl 11 (pksL r) Own.no], AV.int IntKind.i64 rc], []))) ∧
      (b = false →
        RetLax (AV.tup [AV.agg [AV.sl 0 [] Own.nil], AV.int IntKind.i64 1])
 (AV.tup [AV.agg [AV.sl 11 (pksL r) Own.no], AV.int IntKind.i64 rc], []))) := by kernel_rfl
theorem ww44 (m : Int) (l : List PkI) (n : Int) (r : List PkI) (p : PkI) (rc : Int) : (laxW PI (GI m) XWo (tbl [(64, v64)]) (itbl []) nAn [] 44 [chA l, .int .i64 n] (.tup [chA r, pkA p, .int .i64 rc], [])) =
((decide (n < (0 : Int)) = true →
    RetLax
      (AV.tup
        [AV.agg [AV.sl 0 [] Own.nil],
 AV.agg
 [AV.str [], AV.bool false, AV.int IntKind.i64 0, AV.str [], AV.int IntKind.i64 0, AV.int IntKind.i64 0,
 AV.int IntKind.i64 0, AV.str [], AV.str [], AV.int IntKind.i64 0, AV.sl 0 [] Own.nil],
 AV.int IntKind.i64 4])
      (AV.tup
 [AV.agg [AV.sl 11 (pksL r) Own.no],
 AV.agg
 [AV.str p.src, AV.bool p.ack, AV.int IntKind.i64 p.next, AV.str p.f.src, AV.int IntKind.i64 p.f.seq, AV.int IntKind.i64 p.f.kind,
 AV.int IntKind.i64 p.f.ref, AV.str p.f.table, AV.str p.f.key, AV.int IntKind.i64 p.f.event, AV.sl 3 (vasL p.f.fs) Own.no],
 AV.int IntKind.i64 rc],
        [])) ∧
  (decide (n < (0 : Int)) = false →
    (decide (n ≥ (↑(pksL l).length : Int)) = true →
        RetLax
 (AV.tup
 [AV.agg [AV.sl 0 [] Own.nil],
 AV.agg
 [AV.str [], AV.bool false, AV.int IntKind.i64 0, AV.str [], AV.int IntKind.i64 0, AV.int IntKind.i64 0,
 AV.int IntKind.i64 0, AV.str [], AV.str [], AV.int IntKind.i64 0, AV.sl 0 [] Own.nil],
 AV.int IntKind.i64 4])
 (AV.tup
 [AV.agg [AV.sl 11 (pksL r) Own.no],
 AV.agg
 [AV.str p.src, AV.bool p.ack, AV.int IntKind.i64 p.next, AV.str p.f.src, AV.int IntKind.i64 p.f.seq, AV.int IntKind.i64 p.f.kind,
 AV.int IntKind.i64 p.f.ref, AV.str p.f.table, AV.str p.f.key, AV.int IntKind.i64 p.f.event, AV.sl 3 (vasL p.f.fs) Own.no],
 AV.int IntKind.i64 rc],
 [])) ∧
      (decide (n ≥ (↑(pksL l).length : Int)) = false →
        ∃ (es : List AV),
 CallIs (tbl [((64 : Nat), v64)] 64 [AV.sl 11 (pksL l) Own.no, AV.int IntKind.i64 n]) (AV.sl 11 es Own.no) [] ∧
 ((0 : Int) ≤ n ∧ n < (↑(pksL l).length : Int)) ∧
 ∃ (s : List UInt8),
 ∃ (b : Bool),
 ∃ (n_1 : Int),
 ∃ (s_1 : List UInt8),
 ∃ (n_2 : Int),
 ∃ (n_3 : Int),
 ∃ (n_4 : Int),
 ∃ (s_2 : List UInt8),
 ∃ (s_3 : List UInt8),
 ∃ (n_5 : Int),
 ∃ (es_1 : List AV),
 takeAt PI 31 (pksL l) n.toNat 0 =
 some
 (AV.agg
 [AV.str s, AV.bool b, AV.int IntKind.i64 n_1, AV.str s_1, AV.int IntKind.i64 n_2, AV.int IntKind.i64 n_3,
 AV.int IntKind.i64 n_4, AV.str s_2, AV.str s_3, AV.int IntKind.i64 n_5, AV.sl 3 es_1 Own.no]) ∧
 RetLax
 (AV.tup
 [AV.agg [AV.sl 11 es Own.no],
 AV.agg
 [AV.str s, AV.bool b, AV.int IntKind.i64 n_1, AV.str s_1, AV.int IntKind.i64 n_2, AV.int IntKind.i64 n_3,
 AV.int IntKind.i64 n_4, AV.str s_2, AV.str s_3, AV.int IntKind.i64 n_5, AV.sl 3 es_1 Own.no],
 AV.int IntKind.i64 0])
 (AV.tup
 [AV.agg [AV.sl 11 (pksL r) Own.no],
 AV.agg
 [AV.str p.src, AV.bool p.ack, AV.int IntKind.i64 p.next, AV.str p.f.src, AV.int IntKind.i64 p.f.seq,
 AV.int IntKind.i64 p.f.kind, AV.int IntKind.i64 p.f.ref, AV.str p.f.table, AV.str p.f.key,
 AV.int IntKind.i64 p.f.event, AV.sl 3 (vasL p.f.fs) Own.no],
 AV.int IntKind.i64 rc],
 [])))) := by kernel_rfl
theorem ww45 (m : Int) (l : List PkI) (n : Int) (r : List PkI) (rc : Int) : (laxW PI (GI m) XWo (tbl [(44, v44)]) (itbl []) nAn [] 45 [chA l, .int .i64 n] (.tup [chA r, .int .i64 rc], [])) =
(∃ (es : List AV),
  ∃ (s : List UInt8),
    ∃ (b : Bool),
      ∃ (n_1 : Int),
        ∃ (s_1 : List UInt8),
 ∃ (n_2 : Int),
 ∃ (n_3 : Int),
 ∃ (n_4 : Int),
 ∃ (s_2 : List UInt8),
 ∃ (s_3 : List UInt8),
 ∃ (n_5 : Int),
 ∃ (es_1 : List AV),
 ∃ (n_6 : Int),
 CallIs (tbl [((44 : Nat), v44)] 44 [AV.agg [AV.sl 11 (pksL l) Own.no], AV.int IntKind.i64 n])
 (AV.tup
 [AV.agg [AV.sl 11 es Own.no],
 AV.agg
 [AV.str s, AV.bool b, AV.int IntKind.i64 n_1, AV.str s_1, AV.int IntKind.i64 n_2, AV.int IntKind.i64 n_3,
 AV.int IntKind.i64 n_4, AV.str s_2, AV.str s_3, AV.int IntKind.i64 n_5, AV.sl 3 es_1 Own.no],
 AV.int IntKind.i64 n_6])
 [] ∧
 RetLax (AV.tup [AV.agg [AV.sl 11 es Own.no], AV.int IntKind.i64 n_6])
 (AV.tup [AV.agg [AV.sl 11 (pksL r) Own.no], AV.int IntKind.i64 rc], [])) := by kernel_rfl
theorem ww46 (m : Int) (l : List PkI) (n : Int) (r : List PkI) (rc : Int) : (laxW PI (GI m) XWo (tbl [(63, v63)]) (itbl []) nAn [] 46 [chA l, .int .i64 n] (.tup [chA r, .int .i64 rc], [])) =
((decide (n < (0 : Int)) = true →
    RetLax (AV.tup [AV.agg [AV.sl 0 [] Own.nil], AV.int IntKind.i64 4])
      (AV.tup [AV.agg [AV.sl 11 (pksL r) Own.no], AV.int IntKind.i64 rc], [])) ∧
  (decide (n < (0 : Int)) = false →
    (decide (n ≥ (↑(pksL l).length : Int)) = true →
        RetLax (AV.tup [AV.agg [AV.sl 0 [] Own.nil], AV.int IntKind.i64 4])
 (AV.tup [AV.agg [AV.sl 11 (pksL r) Own.no], AV.int IntKind.i64 rc], [])) ∧
      (decide (n ≥ (↑(pksL l).length : Int)) = false →
        ((0 : Int) ≤ n ∧ n < (↑(pksL l).length : Int)) ∧
 ∃ (s : List UInt8),
 ∃ (b : Bool),
 ∃ (n_1 : Int),
 ∃ (s_1 : List UInt8),
 ∃ (n_2 : Int),
 ∃ (n_3 : Int),
 ∃ (n_4 : Int),
 ∃ (s_2 : List UInt8),
 ∃ (s_3 : List UInt8),
 ∃ (n_5 : Int),
 ∃ (es : List AV),
 takeAt PI 31 (pksL l) n.toNat 0 =
 some
 (AV.agg
 [AV.str s, AV.bool b, AV.int IntKind.i64 n_1, AV.str s_1, AV.int IntKind.i64 n_2, AV.int IntKind.i64 n_3,
 AV.int IntKind.i64 n_4, AV.str s_2, AV.str s_3, AV.int IntKind.i64 n_5, AV.sl 3 es Own.no]) ∧
 ∃ (es_1 : List AV),
 ∃ (n : Int),
 CallIs
 (tbl [((63 : Nat), v63)] 63
 [AV.agg [AV.sl 11 (pksL l) Own.no],
 AV.agg
 [AV.str s, AV.bool b, AV.int IntKind.i64 n_1, AV.str s_1, AV.int IntKind.i64 n_2, AV.int IntKind.i64 n_3,
 AV.int IntKind.i64 n_4, AV.str s_2, AV.str s_3, AV.int IntKind.i64 n_5, AV.sl 3 es Own.no]])
 (AV.tup [AV.agg [AV.sl 11 es_1 Own.no], AV.int IntKind.i64 n]) [] ∧
 RetLax (AV.tup [AV.agg [AV.sl 11 es_1 Own.no], AV.int IntKind.i64 n])
 (AV.tup [AV.agg [AV.sl 11 (pksL r) Own.no], AV.int IntKind.i64 rc], [])))) := by kernel_rfl
theorem ww43 (m : Int) (w : WoI) (p : PkI) (r : WoI) : (lkW PI (GI m) XWo (tbl [(63, v63)]) (itbl []) nAn [] 43 [wA w, pkA p] (wL w) (wA r, wL r)) =
(∃ (es : List AV),
  ∃ (n : Int),
    CallIs
        (tbl [((63 : Nat), v63)] 63
 [AV.agg [AV.sl 11 (pksL w.c) Own.no],
 AV.agg
 [AV.str p.src, AV.bool p.ack, AV.int IntKind.i64 p.next, AV.str p.f.src, AV.int IntKind.i64 p.f.seq, AV.int IntKind.i64 p.f.kind,
 AV.int IntKind.i64 p.f.ref, AV.str p.f.table, AV.str p.f.key, AV.int IntKind.i64 p.f.event, AV.sl 3 (vasL p.f.fs) Own.no]])
        (AV.tup [AV.agg [AV.sl 11 es Own.no], AV.int IntKind.i64 n]) [] ∧
      ((n == (0 : Int)) = true →
 (w.bad = true →
 RetK
 (AV.agg
 [AV.str w.a.nm, AV.int IntKind.i64 w.a.nx, AV.sl 8 (fcsL w.a.l) Own.no, AV.str w.b.nm, AV.int IntKind.i64 w.b.nx,
 AV.sl 8 (fcsL w.b.l) Own.no, AV.sl 11 es Own.no, AV.sl 3 (bxsL w.r) Own.no,
 AV.sl 8 (fcsL w.all) (Own.tok 0), AV.sl 8 (fcsL w.fresh) (Own.tok 1), AV.bool true])
 [(w.all.length, (29 : Nat)), (w.fresh.length, (29 : Nat))]
 (AV.agg
 (wC r),
 [(r.all.length, (29 : Nat)), (r.fresh.length, (29 : Nat))])) ∧
 (w.bad = false →
 ((n != (0 : Int)) = true →
 ((n != (2 : Int)) = true →
 RetK
 (AV.agg
 [AV.str w.a.nm, AV.int IntKind.i64 w.a.nx, AV.sl 8 (fcsL w.a.l) Own.no, AV.str w.b.nm, AV.int IntKind.i64 w.b.nx,
 AV.sl 8 (fcsL w.b.l) Own.no, AV.sl 11 es Own.no, AV.sl 3 (bxsL w.r) Own.no,
 AV.sl 8 (fcsL w.all) (Own.tok 0), AV.sl 8 (fcsL w.fresh) (Own.tok 1), AV.bool true])
 [(w.all.length, (29 : Nat)), (w.fresh.length, (29 : Nat))]
 (AV.agg
 (wC r),
 [(r.all.length, (29 : Nat)), (r.fresh.length, (29 : Nat))])) ∧
 ((n != (2 : Int)) = false →
 RetK
 (AV.agg
 [AV.str w.a.nm, AV.int IntKind.i64 w.a.nx, AV.sl 8 (fcsL w.a.l) Own.no, AV.str w.b.nm, AV.int IntKind.i64 w.b.nx,
 AV.sl 8 (fcsL w.b.l) Own.no, AV.sl 11 es Own.no, AV.sl 3 (bxsL w.r) Own.no,
 AV.sl 8 (fcsL w.all) (Own.tok 0), AV.sl 8 (fcsL w.fresh) (Own.tok 1), AV.bool false])
 [(w.all.length, (29 : Nat)), (w.fresh.length, (29 : Nat))]
 (AV.agg
 (wC r),
 [(r.all.length, (29 : Nat)), (r.fresh.length, (29 : Nat))]))) ∧
 ((n != (0 : Int)) = false →
 RetK
 (AV.agg
 [AV.str w.a.nm, AV.int IntKind.i64 w.a.nx, AV.sl 8 (fcsL w.a.l) Own.no, AV.str w.b.nm, AV.int IntKind.i64 w.b.nx,
 AV.sl 8 (fcsL w.b.l) Own.no, AV.sl 11 es Own.no, AV.sl 3 (bxsL w.r) Own.no,
 AV.sl 8 (fcsL w.all) (Own.tok 0), AV.sl 8 (fcsL w.fresh) (Own.tok 1), AV.bool false])
 [(w.all.length, (29 : Nat)), (w.fresh.length, (29 : Nat))]
 (AV.agg
 (wC r),
 [(r.all.length, (29 : Nat)), (r.fresh.length, (29 : Nat))])))) ∧
        ((n == (0 : Int)) = false →
 (w.bad = true →
 RetK
 (AV.agg
 [AV.str w.a.nm, AV.int IntKind.i64 w.a.nx, AV.sl 8 (fcsL w.a.l) Own.no, AV.str w.b.nm, AV.int IntKind.i64 w.b.nx,
 AV.sl 8 (fcsL w.b.l) Own.no, AV.sl 11 (pksL w.c) Own.no, AV.sl 3 (bxsL w.r) Own.no,
 AV.sl 8 (fcsL w.all) (Own.tok 0), AV.sl 8 (fcsL w.fresh) (Own.tok 1), AV.bool true])
 [(w.all.length, (29 : Nat)), (w.fresh.length, (29 : Nat))]
 (AV.agg
 (wC r),
 [(r.all.length, (29 : Nat)), (r.fresh.length, (29 : Nat))])) ∧
 (w.bad = false →
 ((n != (0 : Int)) = true →
 ((n != (2 : Int)) = true →
 RetK
 (AV.agg
 [AV.str w.a.nm, AV.int IntKind.i64 w.a.nx, AV.sl 8 (fcsL w.a.l) Own.no, AV.str w.b.nm, AV.int IntKind.i64 w.b.nx,
 AV.sl 8 (fcsL w.b.l) Own.no, AV.sl 11 (pksL w.c) Own.no, AV.sl 3 (bxsL w.r) Own.no,
 AV.sl 8 (fcsL w.all) (Own.tok 0), AV.sl 8 (fcsL w.fresh) (Own.tok 1), AV.bool true])
 [(w.all.length, (29 : Nat)), (w.fresh.length, (29 : Nat))]
 (AV.agg
 (wC r),
 [(r.all.length, (29 : Nat)), (r.fresh.length, (29 : Nat))])) ∧
 ((n != (2 : Int)) = false →
 RetK
 (AV.agg
 (wCg w))
 [(w.all.length, (29 : Nat)), (w.fresh.length, (29 : Nat))]
 (AV.agg
 (wC r),
 [(r.all.length, (29 : Nat)), (r.fresh.length, (29 : Nat))]))) ∧
 ((n != (0 : Int)) = false →
 RetK
 (AV.agg
 (wCg w))
 [(w.all.length, (29 : Nat)), (w.fresh.length, (29 : Nat))]
 (AV.agg
 (wC r),
 [(r.all.length, (29 : Nat)), (r.fresh.length, (29 : Nat))]))))) := by kernel_rfl
theorem ww23 (m : Int) (w : WoI) (p : PkI) (r : WoI) : (lkW PI (GI m) XWo (tbl [(18, s23x), (29, s10w)]) (itbl [(43, v43.up)]) nAn [] 23 [.agg (wCg w), pkA p] (wL w) (wA r, wL r)) =
((p.ack = true →
    ((p.src == [(119 : UInt8), (101 : UInt8), (98 : UInt8)]) = true →
        ((0 : Int) ≤ (1 : Int) ∧ (1 : Int) < (2 : Int)) ∧
 ∃ (s : List UInt8),
 ∃ (n : Int),
 ∃ (es : List AV),
 ∃ (n_1 : Int),
 CallIs
 (tbl [((18 : Nat), s23x), ((29 : Nat), s10w)] 18
 [AV.agg [AV.str w.b.nm, AV.int IntKind.i64 w.b.nx, AV.sl 8 (fcsL w.b.l) Own.no],
 AV.agg
 [AV.str p.src, AV.bool p.ack, AV.int IntKind.i64 p.next, AV.str p.f.src, AV.int IntKind.i64 p.f.seq, AV.int IntKind.i64 p.f.kind,
 AV.int IntKind.i64 p.f.ref, AV.str p.f.table, AV.str p.f.key, AV.int IntKind.i64 p.f.event,
 AV.sl 3 (vasL p.f.fs) Own.no]])
 (AV.tup [AV.agg [AV.str s, AV.int IntKind.i64 n, AV.sl 8 es Own.no], AV.int IntKind.i64 n_1]) [] ∧
 ((0 : Int) ≤ (1 : Int) ∧ (1 : Int) < (2 : Int)) ∧
 (false = true →
 RetK
 (AV.agg
 [AV.str w.a.nm, AV.int IntKind.i64 w.a.nx, AV.sl 8 (fcsL w.a.l) Own.no, AV.str s, AV.int IntKind.i64 n,
 AV.sl 8 es Own.no, AV.sl 11 (pksL w.c) Own.no, AV.sl 3 (bxsL w.r) Own.no,
 AV.sl 8 (fcsL w.all) (Own.tok 0), AV.sl 8 (fcsL w.fresh) (Own.tok 1), AV.bool true])
 [(w.all.length, (29 : Nat)), (w.fresh.length, (29 : Nat))]
 (AV.agg
 (wC r),
 [(r.all.length, (29 : Nat)), (r.fresh.length, (29 : Nat))])) ∧
 (false = false →
 ((n_1 != (0 : Int)) = true →
 RetK
 (AV.agg
 [AV.str w.a.nm, AV.int IntKind.i64 w.a.nx, AV.sl 8 (fcsL w.a.l) Own.no, AV.str s, AV.int IntKind.i64 n,
 AV.sl 8 es Own.no, AV.sl 11 (pksL w.c) Own.no, AV.sl 3 (bxsL w.r) Own.no,
 AV.sl 8 (fcsL w.all) (Own.tok 0), AV.sl 8 (fcsL w.fresh) (Own.tok 1), AV.bool true])
 [(w.all.length, (29 : Nat)), (w.fresh.length, (29 : Nat))]
 (AV.agg
 (wC r),
 [(r.all.length, (29 : Nat)), (r.fresh.length, (29 : Nat))])) ∧
 ((n_1 != (0 : Int)) = false →
 RetK
 (AV.agg
 [AV.str w.a.nm, AV.int IntKind.i64 w.a.nx, AV.sl 8 (fcsL w.a.l) Own.no, AV.str s, AV.int IntKind.i64 n,
 AV.sl 8 es Own.no, AV.sl 11 (pksL w.c) Own.no, AV.sl 3 (bxsL w.r) Own.no,
 AV.sl 8 (fcsL w.all) (Own.tok 0), AV.sl 8 (fcsL w.fresh) (Own.tok 1),
 AV.bool false])
 [(w.all.length, (29 : Nat)), (w.fresh.length, (29 : Nat))]
 (AV.agg
 (wC r),
 [(r.all.length, (29 : Nat)), (r.fresh.length, (29 : Nat))])))) ∧
      ((p.src == [(119 : UInt8), (101 : UInt8), (98 : UInt8)]) = false →
        ((0 : Int) ≤ (0 : Int) ∧ (0 : Int) < (2 : Int)) ∧
 ∃ (s : List UInt8),
 ∃ (n : Int),
 ∃ (es : List AV),
 ∃ (n_1 : Int),
 CallIs
 (tbl [((18 : Nat), s23x), ((29 : Nat), s10w)] 18
 [AV.agg [AV.str w.a.nm, AV.int IntKind.i64 w.a.nx, AV.sl 8 (fcsL w.a.l) Own.no],
 AV.agg
 [AV.str p.src, AV.bool p.ack, AV.int IntKind.i64 p.next, AV.str p.f.src, AV.int IntKind.i64 p.f.seq, AV.int IntKind.i64 p.f.kind,
 AV.int IntKind.i64 p.f.ref, AV.str p.f.table, AV.str p.f.key, AV.int IntKind.i64 p.f.event,
 AV.sl 3 (vasL p.f.fs) Own.no]])
 (AV.tup [AV.agg [AV.str s, AV.int IntKind.i64 n, AV.sl 8 es Own.no], AV.int IntKind.i64 n_1]) [] ∧
 ((0 : Int) ≤ (0 : Int) ∧ (0 : Int) < (2 : Int)) ∧
 (false = true →
 RetK
 (AV.agg
 [AV.str s, AV.int IntKind.i64 n, AV.sl 8 es Own.no, AV.str w.b.nm, AV.int IntKind.i64 w.b.nx,
 AV.sl 8 (fcsL w.b.l) Own.no, AV.sl 11 (pksL w.c) Own.no, AV.sl 3 (bxsL w.r) Own.no,
 AV.sl 8 (fcsL w.all) (Own.tok 0), AV.sl 8 (fcsL w.fresh) (Own.tok 1), AV.bool true])
 [(w.all.length, (29 : Nat)), (w.fresh.length, (29 : Nat))]
 (AV.agg
 (wC r),
 [(r.all.length, (29 : Nat)), (r.fresh.length, (29 : Nat))])) ∧
 (false = false →
 ((n_1 != (0 : Int)) = true →
 RetK
 (AV.agg
 [AV.str s, AV.int IntKind.i64 n, AV.sl 8 es Own.no, AV.str w.b.nm, AV.int IntKind.i64 w.b.nx,
 AV.sl 8 (fcsL w.b.l) Own.no, AV.sl 11 (pksL w.c) Own.no, AV.sl 3 (bxsL w.r) Own.no,
 AV.sl 8 (fcsL w.all) (Own.tok 0), AV.sl 8 (fcsL w.fresh) (Own.tok 1), AV.bool true])
 [(w.all.length, (29 : Nat)), (w.fresh.length, (29 : Nat))]
 (AV.agg
 (wC r),
 [(r.all.length, (29 : Nat)), (r.fresh.length, (29 : Nat))])) ∧
 ((n_1 != (0 : Int)) = false →
 RetK
 (AV.agg
 [AV.str s, AV.int IntKind.i64 n, AV.sl 8 es Own.no, AV.str w.b.nm, AV.int IntKind.i64 w.b.nx,
 AV.sl 8 (fcsL w.b.l) Own.no, AV.sl 11 (pksL w.c) Own.no, AV.sl 3 (bxsL w.r) Own.no,
 AV.sl 8 (fcsL w.all) (Own.tok 0), AV.sl 8 (fcsL w.fresh) (Own.tok 1),
 AV.bool false])
 [(w.all.length, (29 : Nat)), (w.fresh.length, (29 : Nat))]
 (AV.agg
 (wC r),
 [(r.all.length, (29 : Nat)), (r.fresh.length, (29 : Nat))]))))) ∧
  (p.ack = false →
    ∃ (es : List AV),
      ∃ (b : Bool),
        ∃ (s : List UInt8),
 ∃ (b_1 : Bool),
 ∃ (n : Int),
 ∃ (n_1 : Int),
 CallIs
 (tbl [((18 : Nat), s23x), ((29 : Nat), s10w)] 29
 [AV.agg [AV.sl 3 (bxsL w.r) Own.no],
 AV.agg
 [AV.str p.src, AV.bool p.ack, AV.int IntKind.i64 p.next, AV.str p.f.src, AV.int IntKind.i64 p.f.seq, AV.int IntKind.i64 p.f.kind,
 AV.int IntKind.i64 p.f.ref, AV.str p.f.table, AV.str p.f.key, AV.int IntKind.i64 p.f.event,
 AV.sl 3 (vasL p.f.fs) Own.no]])
 (AV.tup
 [AV.agg [AV.sl 3 es Own.no], AV.bool b,
 AV.agg
 [AV.str s, AV.bool b_1, AV.int IntKind.i64 n, AV.str [], AV.int IntKind.i64 0, AV.int IntKind.i64 0,
 AV.int IntKind.i64 0, AV.str [], AV.str [], AV.int IntKind.i64 0, AV.sl 3 [] Own.no],
 AV.int IntKind.i64 n_1])
 [] ∧
 (b = true →
 (false = true →
 ((8 : Nat) = (8 : Nat) ∨ fcsL w.fresh = []) ∧
 ((fcsL w.fresh).length + (1 : Nat)) * (105 : Nat) ≤ (70368744177664 : Nat) ∧
 w.fresh.length = (fcsL w.fresh).length ∧
 (WAsk
 [AV.str w.a.nm, AV.int IntKind.i64 w.a.nx, AV.sl 8 (fcsL w.a.l) Own.no, AV.str w.b.nm,
 AV.int IntKind.i64 w.b.nx, AV.sl 8 (fcsL w.b.l) Own.no, AV.sl 11 (pksL w.c) Own.no,
 AV.sl 3 es Own.no, AV.sl 8 (fcsL w.all) (Own.tok 0),
 AV.sl 8
 (fcsL w.fresh ++
 [AV.agg
 [AV.str p.f.src, AV.int IntKind.i64 p.f.seq, AV.int IntKind.i64 p.f.kind, AV.int IntKind.i64 p.f.ref,
 AV.str p.f.table, AV.str p.f.key, AV.int IntKind.i64 p.f.event, AV.sl 3 (vasL p.f.fs) Own.no]])
 (Own.tok 1),
 AV.bool true]
 w.all.length ((fcsL w.fresh).length + (1 : Nat)) ∧
 PAsk
 [AV.str s, AV.bool b_1, AV.int IntKind.i64 n, AV.str [], AV.int IntKind.i64 0, AV.int IntKind.i64 0,
 AV.int IntKind.i64 0, AV.str [], AV.str [], AV.int IntKind.i64 0, AV.sl 3 [] Own.no]) ∧
 ∃ (s_1 : List UInt8),
 ∃ (n_2 : Int),
 ∃ (es_1 : List AV),
 ∃ (s_2 : List UInt8),
 ∃ (n_3 : Int),
 ∃ (es_2 : List AV),
 ∃ (es_3 : List AV),
 ∃ (es_4 : List AV),
 ∃ (es_5 : List AV),
 ∃ (es_6 : List AV),
 ∃ (b : Bool),
 OutIs
 (keptWA
 (keptSend
 [AV.str w.a.nm, AV.int IntKind.i64 w.a.nx, AV.sl 8 (fcsL w.a.l) Own.no, AV.str w.b.nm,
 AV.int IntKind.i64 w.b.nx, AV.sl 8 (fcsL w.b.l) Own.no,
 AV.sl 11 (pksL w.c) Own.no, AV.sl 3 es Own.no,
 AV.sl 8 (fcsL w.all) (Own.tok 0),
 AV.sl 8
 (fcsL w.fresh ++
 [AV.agg
 [AV.str p.f.src, AV.int IntKind.i64 p.f.seq, AV.int IntKind.i64 p.f.kind,
 AV.int IntKind.i64 p.f.ref, AV.str p.f.table, AV.str p.f.key,
 AV.int IntKind.i64 p.f.event, AV.sl 3 (vasL p.f.fs) Own.no]])
 (Own.tok 1),
 AV.bool true]
 [AV.str s, AV.bool b_1, AV.int IntKind.i64 n, AV.str [], AV.int IntKind.i64 0,
 AV.int IntKind.i64 0, AV.int IntKind.i64 0, AV.str [], AV.str [],
 AV.int IntKind.i64 0, AV.sl 3 [] Own.no]))
 (AV.agg
 [AV.str s_1, AV.int IntKind.i64 n_2, AV.sl 8 es_1 Own.no, AV.str s_2,
 AV.int IntKind.i64 n_3, AV.sl 8 es_2 Own.no, AV.sl 11 es_3 Own.no,
 AV.sl 3 es_4 Own.no, AV.sl 8 es_5 (Own.tok 0),
 AV.sl 8 es_6 (Own.tok 1), AV.bool b]) ∧
 RetK
 (AV.agg
 [AV.str s_1, AV.int IntKind.i64 n_2, AV.sl 8 es_1 Own.no, AV.str s_2,
 AV.int IntKind.i64 n_3, AV.sl 8 es_2 Own.no, AV.sl 11 es_3 Own.no,
 AV.sl 3 es_4 Own.no, AV.sl 8 es_5 (Own.tok 0),
 AV.sl 8 es_6 (Own.tok 1), AV.bool b])
 [((keptSend
 [AV.str w.a.nm, AV.int IntKind.i64 w.a.nx, AV.sl 8 (fcsL w.a.l) Own.no,
 AV.str w.b.nm, AV.int IntKind.i64 w.b.nx, AV.sl 8 (fcsL w.b.l) Own.no,
 AV.sl 11 (pksL w.c) Own.no, AV.sl 3 es Own.no,
 AV.sl 8 (fcsL w.all) (Own.tok 0),
 AV.sl 8
 (fcsL w.fresh ++
 [AV.agg
 [AV.str p.f.src, AV.int IntKind.i64 p.f.seq, AV.int IntKind.i64 p.f.kind,
 AV.int IntKind.i64 p.f.ref, AV.str p.f.table, AV.str p.f.key,
 AV.int IntKind.i64 p.f.event, AV.sl 3 (vasL p.f.fs) Own.no]])
 (Own.tok 1),
 AV.bool true]
 [AV.str s, AV.bool b_1, AV.int IntKind.i64 n, AV.str [], AV.int IntKind.i64 0,
 AV.int IntKind.i64 0, AV.int IntKind.i64 0, AV.str [], AV.str [],
 AV.int IntKind.i64 0, AV.sl 3 [] Own.no]).all.length,
 (29 : Nat)),
 ((keptSend
 [AV.str w.a.nm, AV.int IntKind.i64 w.a.nx, AV.sl 8 (fcsL w.a.l) Own.no,
 AV.str w.b.nm, AV.int IntKind.i64 w.b.nx, AV.sl 8 (fcsL w.b.l) Own.no,
 AV.sl 11 (pksL w.c) Own.no, AV.sl 3 es Own.no,
 AV.sl 8 (fcsL w.all) (Own.tok 0),
 AV.sl 8
 (fcsL w.fresh ++
 [AV.agg
 [AV.str p.f.src, AV.int IntKind.i64 p.f.seq, AV.int IntKind.i64 p.f.kind,
 AV.int IntKind.i64 p.f.ref, AV.str p.f.table, AV.str p.f.key,
 AV.int IntKind.i64 p.f.event, AV.sl 3 (vasL p.f.fs) Own.no]])
 (Own.tok 1),
 AV.bool true]
 [AV.str s, AV.bool b_1, AV.int IntKind.i64 n, AV.str [], AV.int IntKind.i64 0,
 AV.int IntKind.i64 0, AV.int IntKind.i64 0, AV.str [], AV.str [],
 AV.int IntKind.i64 0, AV.sl 3 [] Own.no]).fresh.length,
 (29 : Nat))]
 (AV.agg
 (wC r),
 [(r.all.length, (29 : Nat)), (r.fresh.length, (29 : Nat))])) ∧
 (false = false →
 ((n_1 != (0 : Int)) = true →
 ((8 : Nat) = (8 : Nat) ∨ fcsL w.fresh = []) ∧
 ((fcsL w.fresh).length + (1 : Nat)) * (105 : Nat) ≤ (70368744177664 : Nat) ∧
 w.fresh.length = (fcsL w.fresh).length ∧
 (WAsk
 [AV.str w.a.nm, AV.int IntKind.i64 w.a.nx, AV.sl 8 (fcsL w.a.l) Own.no, AV.str w.b.nm,
 AV.int IntKind.i64 w.b.nx, AV.sl 8 (fcsL w.b.l) Own.no, AV.sl 11 (pksL w.c) Own.no,
 AV.sl 3 es Own.no, AV.sl 8 (fcsL w.all) (Own.tok 0),
 AV.sl 8
 (fcsL w.fresh ++
 [AV.agg
 [AV.str p.f.src, AV.int IntKind.i64 p.f.seq, AV.int IntKind.i64 p.f.kind, AV.int IntKind.i64 p.f.ref,
 AV.str p.f.table, AV.str p.f.key, AV.int IntKind.i64 p.f.event, AV.sl 3 (vasL p.f.fs) Own.no]])
 (Own.tok 1),
 AV.bool true]
 w.all.length ((fcsL w.fresh).length + (1 : Nat)) ∧
 PAsk
 [AV.str s, AV.bool b_1, AV.int IntKind.i64 n, AV.str [], AV.int IntKind.i64 0, AV.int IntKind.i64 0,
 AV.int IntKind.i64 0, AV.str [], AV.str [], AV.int IntKind.i64 0, AV.sl 3 [] Own.no]) ∧
 ∃ (s_1 : List UInt8),
 ∃ (n_2 : Int),
 ∃ (es_1 : List AV),
 ∃ (s_2 : List UInt8),
 ∃ (n_3 : Int),
 ∃ (es_2 : List AV),
 ∃ (es_3 : List AV),
 ∃ (es_4 : List AV),
 ∃ (es_5 : List AV),
 ∃ (es_6 : List AV),
 ∃ (b : Bool),
 OutIs
 (keptWA
 (keptSend
 [AV.str w.a.nm, AV.int IntKind.i64 w.a.nx, AV.sl 8 (fcsL w.a.l) Own.no,
 AV.str w.b.nm, AV.int IntKind.i64 w.b.nx, AV.sl 8 (fcsL w.b.l) Own.no,
 AV.sl 11 (pksL w.c) Own.no, AV.sl 3 es Own.no,
 AV.sl 8 (fcsL w.all) (Own.tok 0),
 AV.sl 8
 (fcsL w.fresh ++
 [AV.agg
 [AV.str p.f.src, AV.int IntKind.i64 p.f.seq, AV.int IntKind.i64 p.f.kind,
 AV.int IntKind.i64 p.f.ref, AV.str p.f.table, AV.str p.f.key,
 AV.int IntKind.i64 p.f.event, AV.sl 3 (vasL p.f.fs) Own.no]])
 (Own.tok 1),
 AV.bool true]
 [AV.str s, AV.bool b_1, AV.int IntKind.i64 n, AV.str [], AV.int IntKind.i64 0,
 AV.int IntKind.i64 0, AV.int IntKind.i64 0, AV.str [], AV.str [],
 AV.int IntKind.i64 0, AV.sl 3 [] Own.no]))
 (AV.agg
 [AV.str s_1, AV.int IntKind.i64 n_2, AV.sl 8 es_1 Own.no, AV.str s_2,
 AV.int IntKind.i64 n_3, AV.sl 8 es_2 Own.no, AV.sl 11 es_3 Own.no,
 AV.sl 3 es_4 Own.no, AV.sl 8 es_5 (Own.tok 0),
 AV.sl 8 es_6 (Own.tok 1), AV.bool b]) ∧
 RetK
 (AV.agg
 [AV.str s_1, AV.int IntKind.i64 n_2, AV.sl 8 es_1 Own.no, AV.str s_2,
 AV.int IntKind.i64 n_3, AV.sl 8 es_2 Own.no, AV.sl 11 es_3 Own.no,
 AV.sl 3 es_4 Own.no, AV.sl 8 es_5 (Own.tok 0),
 AV.sl 8 es_6 (Own.tok 1), AV.bool b])
 [((keptSend
 [AV.str w.a.nm, AV.int IntKind.i64 w.a.nx, AV.sl 8 (fcsL w.a.l) Own.no,
 AV.str w.b.nm, AV.int IntKind.i64 w.b.nx, AV.sl 8 (fcsL w.b.l) Own.no,
 AV.sl 11 (pksL w.c) Own.no, AV.sl 3 es Own.no,
 AV.sl 8 (fcsL w.all) (Own.tok 0),
 AV.sl 8
 (fcsL w.fresh ++
 [AV.agg
 [AV.str p.f.src, AV.int IntKind.i64 p.f.seq, AV.int IntKind.i64 p.f.kind,
 AV.int IntKind.i64 p.f.ref, AV.str p.f.table, AV.str p.f.key,
 AV.int IntKind.i64 p.f.event, AV.sl 3 (vasL p.f.fs) Own.no]])
 (Own.tok 1),
 AV.bool true]
 [AV.str s, AV.bool b_1, AV.int IntKind.i64 n, AV.str [], AV.int IntKind.i64 0,
 AV.int IntKind.i64 0, AV.int IntKind.i64 0, AV.str [], AV.str [],
 AV.int IntKind.i64 0, AV.sl 3 [] Own.no]).all.length,
 (29 : Nat)),
 ((keptSend
 [AV.str w.a.nm, AV.int IntKind.i64 w.a.nx, AV.sl 8 (fcsL w.a.l) Own.no,
 AV.str w.b.nm, AV.int IntKind.i64 w.b.nx, AV.sl 8 (fcsL w.b.l) Own.no,
 AV.sl 11 (pksL w.c) Own.no, AV.sl 3 es Own.no,
 AV.sl 8 (fcsL w.all) (Own.tok 0),
 AV.sl 8
 (fcsL w.fresh ++
 [AV.agg
 [AV.str p.f.src, AV.int IntKind.i64 p.f.seq, AV.int IntKind.i64 p.f.kind,
 AV.int IntKind.i64 p.f.ref, AV.str p.f.table, AV.str p.f.key,
 AV.int IntKind.i64 p.f.event, AV.sl 3 (vasL p.f.fs) Own.no]])
 (Own.tok 1),
 AV.bool true]
 [AV.str s, AV.bool b_1, AV.int IntKind.i64 n, AV.str [], AV.int IntKind.i64 0,
 AV.int IntKind.i64 0, AV.int IntKind.i64 0, AV.str [], AV.str [],
 AV.int IntKind.i64 0, AV.sl 3 [] Own.no]).fresh.length,
 (29 : Nat))]
 (AV.agg
 (wC r),
 [(r.all.length, (29 : Nat)), (r.fresh.length, (29 : Nat))])) ∧
 ((n_1 != (0 : Int)) = false →
 ((8 : Nat) = (8 : Nat) ∨ fcsL w.fresh = []) ∧
 ((fcsL w.fresh).length + (1 : Nat)) * (105 : Nat) ≤ (70368744177664 : Nat) ∧
 w.fresh.length = (fcsL w.fresh).length ∧
 (WAsk
 [AV.str w.a.nm, AV.int IntKind.i64 w.a.nx, AV.sl 8 (fcsL w.a.l) Own.no, AV.str w.b.nm,
 AV.int IntKind.i64 w.b.nx, AV.sl 8 (fcsL w.b.l) Own.no, AV.sl 11 (pksL w.c) Own.no,
 AV.sl 3 es Own.no, AV.sl 8 (fcsL w.all) (Own.tok 0),
 AV.sl 8
 (fcsL w.fresh ++
 [AV.agg
 [AV.str p.f.src, AV.int IntKind.i64 p.f.seq, AV.int IntKind.i64 p.f.kind, AV.int IntKind.i64 p.f.ref,
 AV.str p.f.table, AV.str p.f.key, AV.int IntKind.i64 p.f.event, AV.sl 3 (vasL p.f.fs) Own.no]])
 (Own.tok 1),
 AV.bool false]
 w.all.length ((fcsL w.fresh).length + (1 : Nat)) ∧
 PAsk
 [AV.str s, AV.bool b_1, AV.int IntKind.i64 n, AV.str [], AV.int IntKind.i64 0, AV.int IntKind.i64 0,
 AV.int IntKind.i64 0, AV.str [], AV.str [], AV.int IntKind.i64 0, AV.sl 3 [] Own.no]) ∧
 ∃ (s_1 : List UInt8),
 ∃ (n_2 : Int),
 ∃ (es_1 : List AV),
 ∃ (s_2 : List UInt8),
 ∃ (n_3 : Int),
 ∃ (es_2 : List AV),
 ∃ (es_3 : List AV),
 ∃ (es_4 : List AV),
 ∃ (es_5 : List AV),
 ∃ (es_6 : List AV),
 ∃ (b : Bool),
 OutIs
 (keptWA
 (keptSend
 [AV.str w.a.nm, AV.int IntKind.i64 w.a.nx, AV.sl 8 (fcsL w.a.l) Own.no,
 AV.str w.b.nm, AV.int IntKind.i64 w.b.nx, AV.sl 8 (fcsL w.b.l) Own.no,
 AV.sl 11 (pksL w.c) Own.no, AV.sl 3 es Own.no,
 AV.sl 8 (fcsL w.all) (Own.tok 0),
 AV.sl 8
 (fcsL w.fresh ++
 [AV.agg
 [AV.str p.f.src, AV.int IntKind.i64 p.f.seq, AV.int IntKind.i64 p.f.kind,
 AV.int IntKind.i64 p.f.ref, AV.str p.f.table, AV.str p.f.key,
 AV.int IntKind.i64 p.f.event, AV.sl 3 (vasL p.f.fs) Own.no]])
 (Own.tok 1),
 AV.bool false]
 [AV.str s, AV.bool b_1, AV.int IntKind.i64 n, AV.str [], AV.int IntKind.i64 0,
 AV.int IntKind.i64 0, AV.int IntKind.i64 0, AV.str [], AV.str [],
 AV.int IntKind.i64 0, AV.sl 3 [] Own.no]))
 (AV.agg
 [AV.str s_1, AV.int IntKind.i64 n_2, AV.sl 8 es_1 Own.no, AV.str s_2,
 AV.int IntKind.i64 n_3, AV.sl 8 es_2 Own.no, AV.sl 11 es_3 Own.no,
 AV.sl 3 es_4 Own.no, AV.sl 8 es_5 (Own.tok 0),
 AV.sl 8 es_6 (Own.tok 1), AV.bool b]) ∧
 RetK
 (AV.agg
 [AV.str s_1, AV.int IntKind.i64 n_2, AV.sl 8 es_1 Own.no, AV.str s_2,
 AV.int IntKind.i64 n_3, AV.sl 8 es_2 Own.no, AV.sl 11 es_3 Own.no,
 AV.sl 3 es_4 Own.no, AV.sl 8 es_5 (Own.tok 0),
 AV.sl 8 es_6 (Own.tok 1), AV.bool b])
 [((keptSend
 [AV.str w.a.nm, AV.int IntKind.i64 w.a.nx, AV.sl 8 (fcsL w.a.l) Own.no,
 AV.str w.b.nm, AV.int IntKind.i64 w.b.nx, AV.sl 8 (fcsL w.b.l) Own.no,
 AV.sl 11 (pksL w.c) Own.no, AV.sl 3 es Own.no,
 AV.sl 8 (fcsL w.all) (Own.tok 0),
 AV.sl 8
 (fcsL w.fresh ++
 [AV.agg
 [AV.str p.f.src, AV.int IntKind.i64 p.f.seq, AV.int IntKind.i64 p.f.kind,
 AV.int IntKind.i64 p.f.ref, AV.str p.f.table, AV.str p.f.key,
 AV.int IntKind.i64 p.f.event, AV.sl 3 (vasL p.f.fs) Own.no]])
 (Own.tok 1),
 AV.bool false]
 [AV.str s, AV.bool b_1, AV.int IntKind.i64 n, AV.str [], AV.int IntKind.i64 0,
 AV.int IntKind.i64 0, AV.int IntKind.i64 0, AV.str [], AV.str [],
 AV.int IntKind.i64 0, AV.sl 3 [] Own.no]).all.length,
 (29 : Nat)),
 ((keptSend
 [AV.str w.a.nm, AV.int IntKind.i64 w.a.nx, AV.sl 8 (fcsL w.a.l) Own.no,
 AV.str w.b.nm, AV.int IntKind.i64 w.b.nx, AV.sl 8 (fcsL w.b.l) Own.no,
 AV.sl 11 (pksL w.c) Own.no, AV.sl 3 es Own.no,
 AV.sl 8 (fcsL w.all) (Own.tok 0),
 AV.sl 8
 (fcsL w.fresh ++
 [AV.agg
 [AV.str p.f.src, AV.int IntKind.i64 p.f.seq, AV.int IntKind.i64 p.f.kind,
 AV.int IntKind.i64 p.f.ref, AV.str p.f.table, AV.str p.f.key,
 AV.int IntKind.i64 p.f.event, AV.sl 3 (vasL p.f.fs) Own.no]])
 (Own.tok 1),
 AV.bool false]
 [AV.str s, AV.bool b_1, AV.int IntKind.i64 n, AV.str [], AV.int IntKind.i64 0,
 AV.int IntKind.i64 0, AV.int IntKind.i64 0, AV.str [], AV.str [],
 AV.int IntKind.i64 0, AV.sl 3 [] Own.no]).fresh.length,
 (29 : Nat))]
 (AV.agg
 (wC r),
 [(r.all.length, (29 : Nat)), (r.fresh.length, (29 : Nat))])))) ∧
 (b = false →
 (false = true →
 (WAsk
 [AV.str w.a.nm, AV.int IntKind.i64 w.a.nx, AV.sl 8 (fcsL w.a.l) Own.no, AV.str w.b.nm, AV.int IntKind.i64 w.b.nx,
 AV.sl 8 (fcsL w.b.l) Own.no, AV.sl 11 (pksL w.c) Own.no, AV.sl 3 es Own.no,
 AV.sl 8 (fcsL w.all) (Own.tok 0), AV.sl 8 (fcsL w.fresh) (Own.tok 1), AV.bool true]
 w.all.length w.fresh.length ∧
 PAsk
 [AV.str s, AV.bool b_1, AV.int IntKind.i64 n, AV.str [], AV.int IntKind.i64 0, AV.int IntKind.i64 0,
 AV.int IntKind.i64 0, AV.str [], AV.str [], AV.int IntKind.i64 0, AV.sl 3 [] Own.no]) ∧
 ∃ (s_1 : List UInt8),
 ∃ (n_2 : Int),
 ∃ (es_1 : List AV),
 ∃ (s_2 : List UInt8),
 ∃ (n_3 : Int),
 ∃ (es_2 : List AV),
 ∃ (es_3 : List AV),
 ∃ (es_4 : List AV),
 ∃ (es_5 : List AV),
 ∃ (es_6 : List AV),
 ∃ (b : Bool),
 OutIs
 (keptWA
 (keptSend
 [AV.str w.a.nm, AV.int IntKind.i64 w.a.nx, AV.sl 8 (fcsL w.a.l) Own.no, AV.str w.b.nm,
 AV.int IntKind.i64 w.b.nx, AV.sl 8 (fcsL w.b.l) Own.no,
 AV.sl 11 (pksL w.c) Own.no, AV.sl 3 es Own.no,
 AV.sl 8 (fcsL w.all) (Own.tok 0),
 AV.sl 8 (fcsL w.fresh) (Own.tok 1), AV.bool true]
 [AV.str s, AV.bool b_1, AV.int IntKind.i64 n, AV.str [], AV.int IntKind.i64 0,
 AV.int IntKind.i64 0, AV.int IntKind.i64 0, AV.str [], AV.str [],
 AV.int IntKind.i64 0, AV.sl 3 [] Own.no]))
 (AV.agg
 [AV.str s_1, AV.int IntKind.i64 n_2, AV.sl 8 es_1 Own.no, AV.str s_2, AV.int IntKind.i64 n_3,
 AV.sl 8 es_2 Own.no, AV.sl 11 es_3 Own.no, AV.sl 3 es_4 Own.no,
 AV.sl 8 es_5 (Own.tok 0), AV.sl 8 es_6 (Own.tok 1),
 AV.bool b]) ∧
 RetK
 (AV.agg
 [AV.str s_1, AV.int IntKind.i64 n_2, AV.sl 8 es_1 Own.no, AV.str s_2, AV.int IntKind.i64 n_3,
 AV.sl 8 es_2 Own.no, AV.sl 11 es_3 Own.no, AV.sl 3 es_4 Own.no,
 AV.sl 8 es_5 (Own.tok 0), AV.sl 8 es_6 (Own.tok 1),
 AV.bool b])
 [((keptSend
 [AV.str w.a.nm, AV.int IntKind.i64 w.a.nx, AV.sl 8 (fcsL w.a.l) Own.no, AV.str w.b.nm,
 AV.int IntKind.i64 w.b.nx, AV.sl 8 (fcsL w.b.l) Own.no,
 AV.sl 11 (pksL w.c) Own.no, AV.sl 3 es Own.no,
 AV.sl 8 (fcsL w.all) (Own.tok 0),
 AV.sl 8 (fcsL w.fresh) (Own.tok 1), AV.bool true]
 [AV.str s, AV.bool b_1, AV.int IntKind.i64 n, AV.str [], AV.int IntKind.i64 0,
 AV.int IntKind.i64 0, AV.int IntKind.i64 0, AV.str [], AV.str [],
 AV.int IntKind.i64 0, AV.sl 3 [] Own.no]).all.length,
 (29 : Nat)),
 ((keptSend
 [AV.str w.a.nm, AV.int IntKind.i64 w.a.nx, AV.sl 8 (fcsL w.a.l) Own.no, AV.str w.b.nm,
 AV.int IntKind.i64 w.b.nx, AV.sl 8 (fcsL w.b.l) Own.no,
 AV.sl 11 (pksL w.c) Own.no, AV.sl 3 es Own.no,
 AV.sl 8 (fcsL w.all) (Own.tok 0),
 AV.sl 8 (fcsL w.fresh) (Own.tok 1), AV.bool true]
 [AV.str s, AV.bool b_1, AV.int IntKind.i64 n, AV.str [], AV.int IntKind.i64 0,
 AV.int IntKind.i64 0, AV.int IntKind.i64 0, AV.str [], AV.str [],
 AV.int IntKind.i64 0, AV.sl 3 [] Own.no]).fresh.length,
 (29 : Nat))]
 (AV.agg
 (wC r),
 [(r.all.length, (29 : Nat)), (r.fresh.length, (29 : Nat))])) ∧
 (false = false →
 ((n_1 != (0 : Int)) = true →
 (WAsk
 [AV.str w.a.nm, AV.int IntKind.i64 w.a.nx, AV.sl 8 (fcsL w.a.l) Own.no, AV.str w.b.nm, AV.int IntKind.i64 w.b.nx,
 AV.sl 8 (fcsL w.b.l) Own.no, AV.sl 11 (pksL w.c) Own.no, AV.sl 3 es Own.no,
 AV.sl 8 (fcsL w.all) (Own.tok 0), AV.sl 8 (fcsL w.fresh) (Own.tok 1),
 AV.bool true]
 w.all.length w.fresh.length ∧
 PAsk
 [AV.str s, AV.bool b_1, AV.int IntKind.i64 n, AV.str [], AV.int IntKind.i64 0, AV.int IntKind.i64 0,
 AV.int IntKind.i64 0, AV.str [], AV.str [], AV.int IntKind.i64 0, AV.sl 3 [] Own.no]) ∧
 ∃ (s_1 : List UInt8),
 ∃ (n_2 : Int),
 ∃ (es_1 : List AV),
 ∃ (s_2 : List UInt8),
 ∃ (n_3 : Int),
 ∃ (es_2 : List AV),
 ∃ (es_3 : List AV),
 ∃ (es_4 : List AV),
 ∃ (es_5 : List AV),
 ∃ (es_6 : List AV),
 ∃ (b : Bool),
 OutIs
 (keptWA
 (keptSend
 [AV.str w.a.nm, AV.int IntKind.i64 w.a.nx, AV.sl 8 (fcsL w.a.l) Own.no, AV.str w.b.nm,
 AV.int IntKind.i64 w.b.nx, AV.sl 8 (fcsL w.b.l) Own.no,
 AV.sl 11 (pksL w.c) Own.no, AV.sl 3 es Own.no,
 AV.sl 8 (fcsL w.all) (Own.tok 0),
 AV.sl 8 (fcsL w.fresh) (Own.tok 1), AV.bool true]
 [AV.str s, AV.bool b_1, AV.int IntKind.i64 n, AV.str [], AV.int IntKind.i64 0,
 AV.int IntKind.i64 0, AV.int IntKind.i64 0, AV.str [], AV.str [],
 AV.int IntKind.i64 0, AV.sl 3 [] Own.no]))
 (AV.agg
 [AV.str s_1, AV.int IntKind.i64 n_2, AV.sl 8 es_1 Own.no, AV.str s_2,
 AV.int IntKind.i64 n_3, AV.sl 8 es_2 Own.no, AV.sl 11 es_3 Own.no,
 AV.sl 3 es_4 Own.no, AV.sl 8 es_5 (Own.tok 0),
 AV.sl 8 es_6 (Own.tok 1), AV.bool b]) ∧
 RetK
 (AV.agg
 [AV.str s_1, AV.int IntKind.i64 n_2, AV.sl 8 es_1 Own.no, AV.str s_2,
 AV.int IntKind.i64 n_3, AV.sl 8 es_2 Own.no, AV.sl 11 es_3 Own.no,
 AV.sl 3 es_4 Own.no, AV.sl 8 es_5 (Own.tok 0),
 AV.sl 8 es_6 (Own.tok 1), AV.bool b])
 [((keptSend
 [AV.str w.a.nm, AV.int IntKind.i64 w.a.nx, AV.sl 8 (fcsL w.a.l) Own.no,
 AV.str w.b.nm, AV.int IntKind.i64 w.b.nx, AV.sl 8 (fcsL w.b.l) Own.no,
 AV.sl 11 (pksL w.c) Own.no, AV.sl 3 es Own.no,
 AV.sl 8 (fcsL w.all) (Own.tok 0),
 AV.sl 8 (fcsL w.fresh) (Own.tok 1), AV.bool true]
 [AV.str s, AV.bool b_1, AV.int IntKind.i64 n, AV.str [], AV.int IntKind.i64 0,
 AV.int IntKind.i64 0, AV.int IntKind.i64 0, AV.str [], AV.str [],
 AV.int IntKind.i64 0, AV.sl 3 [] Own.no]).all.length,
 (29 : Nat)),
 ((keptSend
 [AV.str w.a.nm, AV.int IntKind.i64 w.a.nx, AV.sl 8 (fcsL w.a.l) Own.no,
 AV.str w.b.nm, AV.int IntKind.i64 w.b.nx, AV.sl 8 (fcsL w.b.l) Own.no,
 AV.sl 11 (pksL w.c) Own.no, AV.sl 3 es Own.no,
 AV.sl 8 (fcsL w.all) (Own.tok 0),
 AV.sl 8 (fcsL w.fresh) (Own.tok 1), AV.bool true]
 [AV.str s, AV.bool b_1, AV.int IntKind.i64 n, AV.str [], AV.int IntKind.i64 0,
 AV.int IntKind.i64 0, AV.int IntKind.i64 0, AV.str [], AV.str [],
 AV.int IntKind.i64 0, AV.sl 3 [] Own.no]).fresh.length,
 (29 : Nat))]
 (AV.agg
 (wC r),
 [(r.all.length, (29 : Nat)), (r.fresh.length, (29 : Nat))])) ∧
 ((n_1 != (0 : Int)) = false →
 (WAsk
 [AV.str w.a.nm, AV.int IntKind.i64 w.a.nx, AV.sl 8 (fcsL w.a.l) Own.no, AV.str w.b.nm, AV.int IntKind.i64 w.b.nx,
 AV.sl 8 (fcsL w.b.l) Own.no, AV.sl 11 (pksL w.c) Own.no, AV.sl 3 es Own.no,
 AV.sl 8 (fcsL w.all) (Own.tok 0), AV.sl 8 (fcsL w.fresh) (Own.tok 1),
 AV.bool false]
 w.all.length w.fresh.length ∧
 PAsk
 [AV.str s, AV.bool b_1, AV.int IntKind.i64 n, AV.str [], AV.int IntKind.i64 0, AV.int IntKind.i64 0,
 AV.int IntKind.i64 0, AV.str [], AV.str [], AV.int IntKind.i64 0, AV.sl 3 [] Own.no]) ∧
 ∃ (s_1 : List UInt8),
 ∃ (n_2 : Int),
 ∃ (es_1 : List AV),
 ∃ (s_2 : List UInt8),
 ∃ (n_3 : Int),
 ∃ (es_2 : List AV),
 ∃ (es_3 : List AV),
 ∃ (es_4 : List AV),
 ∃ (es_5 : List AV),
 ∃ (es_6 : List AV),
 ∃ (b : Bool),
 OutIs
 (keptWA
 (keptSend
 [AV.str w.a.nm, AV.int IntKind.i64 w.a.nx, AV.sl 8 (fcsL w.a.l) Own.no, AV.str w.b.nm,
 AV.int IntKind.i64 w.b.nx, AV.sl 8 (fcsL w.b.l) Own.no,
 AV.sl 11 (pksL w.c) Own.no, AV.sl 3 es Own.no,
 AV.sl 8 (fcsL w.all) (Own.tok 0),
 AV.sl 8 (fcsL w.fresh) (Own.tok 1), AV.bool false]
 [AV.str s, AV.bool b_1, AV.int IntKind.i64 n, AV.str [], AV.int IntKind.i64 0,
 AV.int IntKind.i64 0, AV.int IntKind.i64 0, AV.str [], AV.str [],
 AV.int IntKind.i64 0, AV.sl 3 [] Own.no]))
 (AV.agg
 [AV.str s_1, AV.int IntKind.i64 n_2, AV.sl 8 es_1 Own.no, AV.str s_2,
 AV.int IntKind.i64 n_3, AV.sl 8 es_2 Own.no, AV.sl 11 es_3 Own.no,
 AV.sl 3 es_4 Own.no, AV.sl 8 es_5 (Own.tok 0),
 AV.sl 8 es_6 (Own.tok 1), AV.bool b]) ∧
 RetK
 (AV.agg
 [AV.str s_1, AV.int IntKind.i64 n_2, AV.sl 8 es_1 Own.no, AV.str s_2,
 AV.int IntKind.i64 n_3, AV.sl 8 es_2 Own.no, AV.sl 11 es_3 Own.no,
 AV.sl 3 es_4 Own.no, AV.sl 8 es_5 (Own.tok 0),
 AV.sl 8 es_6 (Own.tok 1), AV.bool b])
 [((keptSend
 [AV.str w.a.nm, AV.int IntKind.i64 w.a.nx, AV.sl 8 (fcsL w.a.l) Own.no,
 AV.str w.b.nm, AV.int IntKind.i64 w.b.nx, AV.sl 8 (fcsL w.b.l) Own.no,
 AV.sl 11 (pksL w.c) Own.no, AV.sl 3 es Own.no,
 AV.sl 8 (fcsL w.all) (Own.tok 0),
 AV.sl 8 (fcsL w.fresh) (Own.tok 1), AV.bool false]
 [AV.str s, AV.bool b_1, AV.int IntKind.i64 n, AV.str [], AV.int IntKind.i64 0,
 AV.int IntKind.i64 0, AV.int IntKind.i64 0, AV.str [], AV.str [],
 AV.int IntKind.i64 0, AV.sl 3 [] Own.no]).all.length,
 (29 : Nat)),
 ((keptSend
 [AV.str w.a.nm, AV.int IntKind.i64 w.a.nx, AV.sl 8 (fcsL w.a.l) Own.no,
 AV.str w.b.nm, AV.int IntKind.i64 w.b.nx, AV.sl 8 (fcsL w.b.l) Own.no,
 AV.sl 11 (pksL w.c) Own.no, AV.sl 3 es Own.no,
 AV.sl 8 (fcsL w.all) (Own.tok 0),
 AV.sl 8 (fcsL w.fresh) (Own.tok 1), AV.bool false]
 [AV.str s, AV.bool b_1, AV.int IntKind.i64 n, AV.str [], AV.int IntKind.i64 0,
 AV.int IntKind.i64 0, AV.int IntKind.i64 0, AV.str [], AV.str [],
 AV.int IntKind.i64 0, AV.sl 3 [] Own.no]).fresh.length,
 (29 : Nat))]
 (AV.agg
 (wC r),
 [(r.all.length, (29 : Nat)), (r.fresh.length, (29 : Nat))])))))) := by kernel_rfl
end Go.Abs

namespace Go.Abs
open Go.Proofs Go.RowKit
theorem pv42 (m : Int) (a b : List VaI) (hl : a.length ≤ 100000000) : PureOk PI (GI m) XWo (tbl []) (itbl []) (av42 a b) [] 42 [.sl 3 (vasL a) .no, .sl 3 (vasL b) .no] (.bool (decide (a = b)), []) := by
  constructor
  rw [ww42]
  have hla : (vasL a).length = a.length := List.length_map ..
  have hlb : (vasL b).length = b.length := List.length_map ..
  rw [hla, hlb]
  refine ⟨fun h => ⟨?_⟩, fun h => ⟨⟨0, ⟨rfl⟩, ⟨rfl⟩, ⟨Nat.zero_le _, rfl⟩, trivial⟩, fun x ⟨hx, ht⟩ => ⟨fun h2 => ?_, fun h2 => ⟨?_⟩⟩⟩⟩
  · rw [decide_eq_false]
    rintro rfl
    simp at h
  · have hlen : a.length = b.length := by simp at h; omega
    have h2 := of_decide_eq_true h2
    have hxa : x < a.length := by omega
    have hxb : x < b.length := by omega
    refine ⟨⟨by omega, by omega⟩, _, _, _, by rw [Int.toNat_natCast]; exact take_va hxa, ⟨by omega, by omega⟩, _, _, _, by rw [Int.toNat_natCast]; exact take_va hxb, fun h3 => ⟨?_⟩, fun h3 => ⟨x + 1, ⟨by rw [wrap64_in (n := (x : Int) + 1) (by omega) (by omega)]; simp⟩, ⟨rfl⟩, ⟨by omega, ?_⟩, by omega⟩⟩
    · rw [decide_eq_false]
      exact ne_of_at (List.getElem?_eq_getElem hxa) (List.getElem?_eq_getElem hxb) fun e => by rw [e] at h3; simp at h3
    · have e : a[x] = b[x] := by
        simp at h3
        exact va_ext h3.1 h3.2.1 h3.2.2
      exact take_next (List.getElem?_eq_getElem hxa) (by rw [List.getElem?_eq_getElem hxb, e]) ht
  · have hlen : a.length = b.length := by simp at h; omega
    have h2 := of_decide_eq_false h2
    have hxe : x = a.length := by omega
    rw [hxe, List.take_length, hlen, List.take_length] at ht
    rw [decide_eq_true ht]
theorem ov42 (m : Int) : SpecOk PI (GI m) 42 v42 := spec_of (X := XWo) (m := []) mixedI tbl_nil itbl_nil fun args r h => by
  unfold v42 z61 at h
  split at h
  case h_2 => cases h
  split at h
  case isFalse => cases h
  rename_i hz
  obtain ⟨rfl, rfl⟩ := hz
  split at h
  case h_2 => cases h
  rename_i a b ha hb
  split at h
  case isFalse => cases h
  rename_i hc
  injection h with h; subst h
  obtain rfl := unL_inv unV_inv ha
  obtain rfl := unL_inv unV_inv hb
  exact ⟨_, pv42 m a b hc⟩
theorem pv22 (m : Int) (f g : FcI) (hl : f.fs.length ≤ 100000000) : PureOk PI (GI m) XWo (tbl [(42, v42)]) (itbl []) nAn [] 22 [.agg (fcC f), .agg (fcC g)] (.bool (decide (f = g)), []) := by
  constructor
  rw [ww22]
  refine ⟨fun h0 => ⟨fun h1 => ⟨fun h2 => ⟨fun h3 => ⟨fun h4 => ⟨fun h5 => ⟨decide (f.fs = g.fs), ⟨by rw [tbl_hit]; exact cy61 hl⟩, fun h6 => ⟨?_⟩, fun h6 => ⟨?_⟩⟩, fun h5 => ⟨?_⟩⟩, fun h4 => ⟨?_⟩⟩, fun h3 => ⟨?_⟩⟩, fun h2 => ⟨?_⟩⟩, fun h1 => ⟨?_⟩⟩, fun h0 => ⟨?_⟩⟩
  · have h0' : f.src = g.src ∧ f.seq = g.seq := by simpa using h0
    rw [decide_eq_true (fc_ext h0'.1 h0'.2 (by simpa using h1) (by simpa using h2) (by simpa using h3) (by simpa using h4) (by simpa using h5) (of_decide_eq_true h6))]
  · rw [decide_eq_false]; rintro rfl; simp at h6
  · rw [decide_eq_false]; rintro rfl; simp at h5
  · rw [decide_eq_false]; rintro rfl; simp at h4
  · rw [decide_eq_false]; rintro rfl; simp at h3
  · rw [decide_eq_false]; rintro rfl; simp at h2
  · rw [decide_eq_false]; rintro rfl; simp at h1
  · rw [decide_eq_false]; rintro rfl; simp at h0
theorem ov22b (m : Int) : SpecOk PI (GI m) 22 z38 := spec_of (X := XWo) (m := []) mixedI (tbl_cons (ov42 m) tbl_nil) itbl_nil fun args r h => by
  unfold z38 at h
  split at h
  case h_2 => cases h
  rename_i a b
  split at h
  case h_2 => cases h
  rename_i f g hf hg
  split at h
  case isFalse => cases h
  rename_i hc
  injection h with h; subst h
  obtain rfl := unG_inv _ _ hf
  obtain rfl := unG_inv _ _ hg
  exact ⟨_, pv22 m f g hc⟩
theorem ov22 (m : Int) : SpecOk PI (GI m) 22 v22 := (ov22b m).wk
theorem wk1_fc (f : FcI) : wk1 (.agg (fcC f)) = .agg (fcC f) := by
  cases h : f.fs with
  | nil => simp [wk1, wk0, fcC, vasL, h]
  | cons v l => simp [wk1, wk0, fcC, vasL, h]
theorem cv22z {f : FcI} (h : f.fs.length ≤ 100000000) : v22 [.agg (fcC f), .agg [.str [], .int .i64 0, .int .i64 0, .int .i64 0, .str [], .str [], .int .i64 0, .sl 0 [] .nil]] = some (.bool (decide (f = zFc)), []) := by
  unfold v22
  rw [List.map_cons, List.map_cons, List.map_nil, wk1_fc]
  exact cy38 (g := zFc) h
theorem pkBd_iff {p : PkI} : pkBd p = true ↔ p.src.length ≤ 2000000 ∧ p.f.fs.length ≤ 100000000 := by simp [pkBd]
theorem ov77 (m : Int) : SpecOk PI (GI m) 77 v77 := spec_of (X := XWo) (m := []) mixedI (tbl_cons (o27 m) (tbl_cons (ov22 m) tbl_nil)) itbl_nil fun args r h => by
  unfold v77 at h
  split at h
  case h_2 => cases h
  split at h
  case h_2 => cases h
  rename_i p hp
  split at h
  case isFalse => cases h
  rename_i hb
  injection h with h; subst h
  obtain rfl := unK_inv hp
  obtain ⟨hb1, hb2⟩ := pkBd_iff.1 hb
  refine ⟨nAn, ⟨?_⟩⟩
  rw [ww77]
  refine ⟨nameR p.src, ⟨by rw [tbl_hit]; simp only [s27]; rw [if_pos hb1]⟩, fun h0 => ⟨fun h1 => ⟨fun h2 => ⟨fun h3 => ⟨decide (p.f = zFc), ⟨by rw [tbl_miss (by decide), tbl_hit]; exact cv22z hb2⟩, fun h4 => ⟨?_⟩, fun h4 => ⟨?_⟩⟩, fun h3 => ⟨?_⟩⟩, fun h2 => ⟨?_⟩⟩, fun h1 => ⟨fun h2 => ⟨fun h3 => ⟨?_⟩, fun h3 => ⟨?_⟩⟩, fun h2 => ⟨?_⟩⟩⟩, fun h0 => ⟨?_⟩⟩
  · have a := of_decide_eq_true h2
    have b := of_decide_eq_true h3
    have c := of_decide_eq_true h4
    have : pkOkC p = true := by simp only [pkOkC, h0, h1, if_true, Bool.true_and, Bool.and_eq_true, decide_eq_true_eq]; exact ⟨⟨by omega, by unfold maxT; omega⟩, c⟩
    rw [this]
  · have : pkOkC p = false := by simp [pkOkC, h0, h1, of_decide_eq_false h4]
    rw [this]
  · have b := of_decide_eq_false h3
    have : decide (p.next ≤ maxT + 1) = false := decide_eq_false (by unfold maxT; omega)
    have : pkOkC p = false := by simp [pkOkC, h0, h1, this]
    rw [this]
  · have b := of_decide_eq_false h2
    have : decide (1 ≤ p.next) = false := decide_eq_false (by omega)
    have : pkOkC p = false := by simp [pkOkC, h0, h1, this]
    rw [this]
  · have : pkOkC p = true := by simp_all [pkOkC]
    rw [this]
  · have : pkOkC p = false := by simp_all [pkOkC]
    rw [this]
  · have : pkOkC p = false := by simp_all [pkOkC]
    rw [this]
  · have : pkOkC p = false := by simp [pkOkC, h0]
    rw [this]
theorem pkL_len (l : List PkI) : (pksL l).length = l.length := List.length_map ..
theorem ov78 (m : Int) : SpecOk PI (GI m) 78 v78 := spec_of (X := XWo) (m := []) mixedI tbl_nil itbl_nil fun args r h => by
  unfold v78 at h
  split at h
  case h_2 => cases h
  rename_i sz es a
  split at h
  case isFalse => cases h
  rename_i hc
  obtain ⟨rfl, hlen⟩ := hc
  split at h
  case h_2 => cases h
  rename_i l p hl hp
  injection h with h; subst h
  obtain rfl := unL_inv (fun _ _ => unK_inv) hl
  obtain rfl := unK_inv hp
  refine ⟨nAn, ⟨?_⟩⟩
  show pureW PI (GI m) XWo (tbl []) (itbl []) nAn [] 78 [.sl 11 (pksL l) .no, pkA p] (.sl 11 (pksL (l ++ [p])) .no, [])
  rw [ww78]
  rw [List.length_map] at hlen
  rw [pkL_len]
  have ew : IntKind.i64.wrap ((l.length : Int) + 1) = ((l.length + 1 : Nat) : Int) := wrap64_in (by omega) (by omega)
  rw [ew, Int.toNat_natCast, Int.toNat_natCast]
  have e1 : ∀ Z : AV, ([] ++ List.take (l.length + 1) (pksL l) ++ List.drop (0 + min l.length (l.length + 1)) (List.replicate (l.length + 1) Z)) = pksL l ++ [Z] := fun Z => by
    rw [List.nil_append, List.take_of_length_le (by rw [pkL_len]; omega), Nat.zero_add, Nat.min_eq_left (by omega), List.drop_replicate, show l.length + 1 - l.length = 1 by omega]; rfl
  rw [e1]
  have e2 : ∀ Z X : AV, (pksL l ++ [Z]).set l.length X = pksL l ++ [X] := fun Z X => by
    rw [← pkL_len l, List.set_append_right _ _ (Nat.le_refl _), Nat.sub_self]; rfl
  have e3 : ∀ Z, (pksL l ++ [Z]).getD l.length .junk = Z := fun Z => by rw [← pkL_len l]; simp
  rw [e2, e3]
  refine ⟨⟨by omega, by omega, by omega⟩, trivial, .inl rfl, by rw [List.length_replicate]; omega, ⟨by omega, by omega⟩, by rw [List.length_append, pkL_len]; simp, by rw [List.length_append, pkL_len]; rfl, ⟨?_⟩⟩
  rw [show pksL (l ++ [p]) = pksL l ++ [pkA p] from List.map_append ..]
  rfl
theorem ov64 (m : Int) : SpecOk PI (GI m) 64 v64 := spec_of (X := XWo) (m := []) mixedI tbl_nil itbl_nil fun args r h => by
  unfold v64 at h
  split at h
  case h_2 => cases h
  rename_i sz es n
  split at h
  case isFalse => cases h
  rename_i hc
  obtain ⟨rfl, hlen, hn0, hn1⟩ := hc
  split at h
  case h_2 => cases h
  rename_i l hl
  injection h with h; subst h
  obtain rfl := unL_inv (fun _ _ => unK_inv) hl
  refine ⟨nAn, ⟨?_⟩⟩
  show pureW PI (GI m) XWo (tbl []) (itbl []) nAn [] 64 [.sl 11 (pksL l) .no, .int .i64 n] (.sl 11 (pksL (l.eraseIdx n.toNat)) .no, [])
  rw [ww64]
  rw [List.length_map] at hlen hn1
  obtain ⟨i, rfl⟩ := Int.eq_ofNat_of_zero_le hn0
  obtain ⟨L, hL⟩ : ∃ L, l.length = L + 1 := ⟨l.length - 1, by omega⟩
  have hpl : (pksL l).length = L + 1 := by rw [pkL_len, hL]
  have ew : IntKind.i64.wrap (((L + 1 : Nat) : Int) - 1) = ((L : Nat) : Int) := by rw [wrap64_in (by omega) (by omega)]; omega
  have ew2 : IntKind.i64.wrap ((i : Int) + 1) = ((i + 1 : Nat) : Int) := wrap64_in (by omega) (by omega)
  rw [hpl, ew, ew2]
  simp only [Int.toNat_natCast]
  have hi : i ≤ L := by omega
  have htl : (List.drop 0 (List.take i (pksL l))).length = i := by rw [List.drop_zero, List.length_take, hpl]; omega
  rw [htl]
  have e1 : ∀ Z : AV, ([] ++ List.take L (List.drop 0 (List.take i (pksL l))) ++ List.drop (0 + min i L) (List.replicate L Z)) = List.take i (pksL l) ++ List.replicate (L - i) Z := fun Z => by
    rw [List.nil_append, List.take_of_length_le (by rw [htl]; omega), List.drop_zero, Nat.zero_add, Nat.min_eq_left hi, List.drop_replicate]
  rw [e1]
  have hdl : (List.drop (i + 1) (List.take (L + 1) (pksL l))).length = L - i := by rw [List.length_drop, List.length_take, hpl]; omega
  have htk : List.take (L + 1) (pksL l) = pksL l := List.take_of_length_le (by rw [hpl]; omega)
  rw [hdl, htk]
  have hti : (List.take i (pksL l)).length = i := by rw [List.length_take, hpl]; omega
  have e2 : ∀ Z : AV, (List.take i (List.take i (pksL l) ++ List.replicate (L - i) Z) ++ List.take (L - i) (List.drop (i + 1) (pksL l)) ++ List.drop (i + min (L - i) (L - i)) (List.take i (pksL l) ++ List.replicate (L - i) Z)) = pksL (l.eraseIdx i) := fun Z => by
    rw [List.take_left' hti, List.take_of_length_le (l := List.drop (i + 1) (pksL l)) (by rw [List.length_drop, hpl]; omega), List.drop_of_length_le (l := List.take i (pksL l) ++ List.replicate (L - i) Z) (by rw [List.length_append, hti, List.length_replicate]; omega), List.append_nil]
    rw [List.eraseIdx_eq_take_drop_succ, show pksL (l.take i ++ l.drop (i + 1)) = pksL (l.take i) ++ pksL (l.drop (i + 1)) from List.map_append ..]
    rw [show pksL (l.take i) = (pksL l).take i from List.map_take .., show pksL (l.drop (i + 1)) = (pksL l).drop (i + 1) from List.map_drop ..]
  rw [e2]
  have hlr : ∀ Z : AV, (List.take i (pksL l) ++ List.replicate (L - i) Z).length = L := fun Z => by rw [List.length_append, hti, List.length_replicate]; omega
  refine ⟨⟨by omega, by omega, by omega⟩, by omega, ⟨by omega, by omega⟩, .inl trivial, trivial, .inl trivial, by rw [List.length_replicate]; omega, by omega, trivial, ⟨by omega, by omega⟩, by omega, ⟨by omega, by omega⟩, .inl trivial, trivial, .inl trivial, by rw [hlr]; omega, ?_, ⟨rfl⟩⟩
  rw [pkL_len, List.length_eraseIdx]
  rw [if_pos (by omega)]; omega
theorem cv63 {l : List PkI} {p : PkI} (hl : l.length ≤ 2000000) (hp : pkBd p = true) : v63 [chA l, pkA p] = some (.tup [chA (chSend l p).1, .int .i64 (chSend l p).2], []) := by
  simp only [v63]
  rw [if_pos ⟨trivial, by rw [pkL_len]; exact hl⟩, show unL unK (pksL l) = some l from unL_map unK_ok l, unK_ok]
  simp only
  rw [if_pos hp]
theorem ov63 (m : Int) : SpecOk PI (GI m) 63 v63 := lax_of (X := XWo) (m := []) mixedI (tbl_cons (ov77 m) (tbl_cons (ov78 m) tbl_nil)) itbl_nil fun args r h => by
  unfold v63 at h
  split at h
  case h_2 => cases h
  rename_i sz es a
  split at h
  case isFalse => cases h
  rename_i hc
  obtain ⟨rfl, hlen⟩ := hc
  split at h
  case h_2 => cases h
  rename_i l p hl hp
  split at h
  case isFalse => cases h
  rename_i hb
  injection h with h; subst h
  obtain rfl := unL_inv (fun _ _ => unK_inv) hl
  obtain rfl := unK_inv hp
  rw [List.length_map] at hlen
  refine ⟨nAn, ⟨?_⟩⟩
  show laxW PI (GI m) XWo (tbl [(77, v77), (78, v78)]) (itbl []) nAn [] 63 [chA l, pkA p] (.tup [chA (chSend l p).1, .int .i64 (chSend l p).2], [])
  rw [ww63]
  rw [pkL_len]
  refine ⟨pkOkC p, ⟨by rw [tbl_hit]; simp only [v77]; rw [show unK (AV.agg _) = some p from unK_ok p]; simp only; rw [if_pos hb]⟩, fun h0 => ⟨fun h1 => ?_, fun h1 => ⟨pksL (l ++ [p]), ⟨by
    rw [tbl_miss (by decide), tbl_hit]
    simp only [v78]
    rw [if_pos ⟨trivial, by rw [pkL_len]; exact hlen⟩, show unL unK (pksL l) = some l from unL_map unK_ok l, show unK (AV.agg _) = some p from unK_ok p]⟩, ?_⟩⟩, fun h0 => ?_⟩
  · have h1 := of_decide_eq_true h1
    have e : chSend l p = ([], 2) := by unfold chSend; rw [h0, if_neg (by simp), if_pos (by omega)]
    rw [e]
    exact ⟨⟨⟨⟨rfl, rfl, .inr rfl⟩, trivial⟩, rfl, trivial⟩, rfl, rfl⟩
  · have h1 := of_decide_eq_false h1
    have e : chSend l p = (l ++ [p], 0) := by unfold chSend; rw [h0, if_neg (by simp), if_neg (by omega)]
    rw [e]
    exact ⟨⟨⟨⟨rfl, rfl, .inl rfl⟩, trivial⟩, rfl, trivial⟩, rfl, rfl⟩
  · have e : chSend l p = ([], 1) := by unfold chSend; rw [h0, if_pos (by simp)]
    rw [e]
    exact ⟨⟨⟨⟨rfl, rfl, .inr rfl⟩, trivial⟩, rfl, trivial⟩, rfl, rfl⟩
theorem getD_at {l : List PkI} {n : Int} (h1 : ¬ n < 0) (h2 : n < (l.length : Int)) : ∃ h : n.toNat < l.length, l.getD n.toNat zPk = l[n.toNat] := by
  have h : n.toNat < l.length := by omega
  exact ⟨h, by rw [List.getD_eq_getElem?_getD, List.getElem?_eq_getElem h]; rfl⟩
end Go.Abs

namespace Go.Abs
open Go.Proofs Go.RowKit Go.Sort
theorem lPs_ok (l : List PkI) : lPs (pksL l) = l := by unfold lPs; rw [show unL unK (pksL l) = some l from unL_map unK_ok l]; rfl
theorem lFs_ok (l : List FcI) : lFs (fcsL l) = l := by unfold lFs; rw [show unL unG (fcsL l) = some l from unGs_ok l]; rfl
theorem unB_ok' (b : BxI) : unB (bxA b) = some b := by
  obtain ⟨s, n, a⟩ := b
  simp only [bxA, unB, if_true]
  rw [show unL unIn (intsA a) = some a from unL_map (f := unIn) (fun _ => rfl) a]
  rfl
theorem lBs_ok (l : List BxI) : lBs (bxsL l) = l := by unfold lBs; rw [show unL unB (bxsL l) = some l from unL_map unB_ok' l]; rfl
theorem lVs_ok (l : List VaI) : lVs (vasL l) = l := by unfold lVs; rw [show unL unV (vasL l) = some l from unL_map unV_ok l]; rfl
theorem wOf_ok (w : WoI) : wOf (wC w) = w := by
  simp only [wOf, lPs_ok, lFs_ok, lBs_ok]
abbrev pkCw (p : PkI) : List AV := [.str p.src, .bool p.ack, .int .i64 p.next, .str p.f.src, .int .i64 p.f.seq, .int .i64 p.f.kind, .int .i64 p.f.ref, .str p.f.table, .str p.f.key, .int .i64 p.f.event, .sl 3 (vasL p.f.fs) .no]
theorem pOf_ok (p : PkI) : pOf (pkCw p) = p := by
  simp only [pOf, lVs_ok]
theorem take_pkA {l : List PkI} {i : Nat} (h : i < l.length) : takeAt PI 31 (pksL l) i 0 = some (pkA l[i]) := take_pk h
theorem lax_del {e : Int} : RetLax (.tup [.agg [.sl 0 [] .nil], .agg [.str [], .bool false, .int .i64 0, .str [], .int .i64 0, .int .i64 0, .int .i64 0, .str [], .str [], .int .i64 0, .sl 0 [] .nil], .int .i64 e]) (.tup [chA [], pkA zPk, .int .i64 e], []) :=
  ⟨⟨⟨⟨rfl, rfl, .inr rfl⟩, trivial⟩, ⟨rfl, rfl, rfl, rfl, rfl, rfl, rfl, rfl, rfl, rfl, ⟨rfl, rfl, .inr rfl⟩, trivial⟩, rfl, trivial⟩, rfl, rfl⟩
theorem lax_ch {e : Int} : RetLax (.tup [.agg [.sl 0 [] .nil], .int .i64 e]) (.tup [chA [], .int .i64 e], []) :=
  ⟨⟨⟨⟨rfl, rfl, .inr rfl⟩, trivial⟩, rfl, trivial⟩, rfl, rfl⟩
theorem ov44 (m : Int) : SpecOk PI (GI m) 44 v44 := lax_of (X := XWo) (m := []) mixedI (tbl_cons (ov64 m) tbl_nil) itbl_nil fun args r h => by
  unfold v44 at h
  split at h
  case h_2 => cases h
  rename_i sz es n
  split at h
  case isFalse => cases h
  rename_i hc
  obtain ⟨rfl, hlen⟩ := hc
  split at h
  case h_2 => cases h
  rename_i l hl
  injection h with h; subst h
  obtain rfl := unL_inv (fun _ _ => unK_inv) hl
  rw [List.length_map] at hlen
  refine ⟨nAn, ⟨?_⟩⟩
  show laxW PI (GI m) XWo (tbl [(64, v64)]) (itbl []) nAn [] 44 [chA l, .int .i64 n] (.tup [chA (chDel l n).1, pkA (chDel l n).2.1, .int .i64 (chDel l n).2.2], [])
  rw [ww44, pkL_len]
  refine ⟨fun h0 => ?_, fun h0 => ⟨fun h1 => ?_, fun h1 => ?_⟩⟩
  · have h0 := of_decide_eq_true h0
    have e : chDel l n = ([], zPk, 4) := by unfold chDel; rw [if_pos (.inl h0)]
    rw [e]; exact lax_del
  · have h1 := of_decide_eq_true h1
    have e : chDel l n = ([], zPk, 4) := by unfold chDel; rw [if_pos (.inr (by omega))]
    rw [e]; exact lax_del
  · have h0 := of_decide_eq_false h0
    have h1 := of_decide_eq_false h1
    obtain ⟨hi, e2⟩ := getD_at (l := l) h0 (by omega)
    have e : chDel l n = (l.eraseIdx n.toNat, l[n.toNat], 0) := by unfold chDel; rw [if_neg (by omega), e2]
    rw [e]
    refine ⟨pksL (l.eraseIdx n.toNat), ⟨?_⟩, ⟨by omega, by omega⟩, _, _, _, _, _, _, _, _, _, _, _, take_pkA hi, ?_⟩
    · rw [tbl_hit]
      simp only [v64]
      rw [if_pos ⟨trivial, by rw [pkL_len]; exact hlen, by omega, by rw [pkL_len]; omega⟩, show unL unK (pksL l) = some l from unL_map unK_ok l]
    · exact ⟨⟨⟨⟨rfl, rfl, .inl rfl⟩, trivial⟩, ⟨rfl, rfl, rfl, rfl, rfl, rfl, rfl, rfl, rfl, rfl, ⟨rfl, rfl, .inl rfl⟩, trivial⟩, rfl, trivial⟩, rfl, rfl⟩
theorem cv44 {l : List PkI} {n : Int} (hl : l.length ≤ 2000000) : v44 [chA l, .int .i64 n] = some (.tup [chA (chDel l n).1, pkA (chDel l n).2.1, .int .i64 (chDel l n).2.2], []) := by
  simp only [v44]
  rw [if_pos ⟨trivial, by rw [pkL_len]; exact hl⟩, show unL unK (pksL l) = some l from unL_map unK_ok l]
theorem ov45 (m : Int) : SpecOk PI (GI m) 45 v45 := lax_of (X := XWo) (m := []) mixedI (tbl_cons (ov44 m) tbl_nil) itbl_nil fun args r h => by
  unfold v45 at h
  split at h
  case h_2 => cases h
  rename_i sz es n
  split at h
  case isFalse => cases h
  rename_i hc
  obtain ⟨rfl, hlen⟩ := hc
  split at h
  case h_2 => cases h
  rename_i l hl
  injection h with h; subst h
  obtain rfl := unL_inv (fun _ _ => unK_inv) hl
  rw [List.length_map] at hlen
  refine ⟨nAn, ⟨?_⟩⟩
  show laxW PI (GI m) XWo (tbl [(44, v44)]) (itbl []) nAn [] 45 [chA l, .int .i64 n] (.tup [chA (chDrop l n).1, .int .i64 (chDrop l n).2], [])
  rw [ww45]
  exact ⟨_, _, _, _, _, _, _, _, _, _, _, _, _, ⟨by rw [tbl_hit]; exact cv44 hlen⟩, ⟨⟨⟨rfl, rfl, .inl rfl⟩, trivial⟩, rfl, trivial⟩, rfl, rfl⟩
theorem ov46 (m : Int) : SpecOk PI (GI m) 46 v46 := lax_of (X := XWo) (m := []) mixedI (tbl_cons (ov63 m) tbl_nil) itbl_nil fun args r h => by
  unfold v46 at h
  split at h
  case h_2 => cases h
  rename_i sz es n
  split at h
  case isFalse => cases h
  rename_i hc
  obtain ⟨rfl, hlen⟩ := hc
  split at h
  case h_2 => cases h
  rename_i l hl
  split at h
  case isFalse => cases h
  rename_i hb
  injection h with h; subst h
  obtain rfl := unL_inv (fun _ _ => unK_inv) hl
  rw [List.length_map] at hlen
  refine ⟨nAn, ⟨?_⟩⟩
  show laxW PI (GI m) XWo (tbl [(63, v63)]) (itbl []) nAn [] 46 [chA l, .int .i64 n] (.tup [chA (chDup l n).1, .int .i64 (chDup l n).2], [])
  rw [ww46, pkL_len]
  refine ⟨fun h0 => ?_, fun h0 => ⟨fun h1 => ?_, fun h1 => ?_⟩⟩
  · have h0 := of_decide_eq_true h0
    have e : chDup l n = ([], 4) := by unfold chDup; rw [if_pos (.inl h0)]
    rw [e]; exact lax_ch
  · have h1 := of_decide_eq_true h1
    have e : chDup l n = ([], 4) := by unfold chDup; rw [if_pos (.inr (by omega))]
    rw [e]; exact lax_ch
  · have h0 := of_decide_eq_false h0
    have h1 := of_decide_eq_false h1
    obtain ⟨hi, e2⟩ := getD_at (l := l) h0 (by omega)
    have e : chDup l n = chSend l l[n.toNat] := by unfold chDup; rw [if_neg (by omega), e2]
    rw [e]
    exact ⟨⟨by omega, by omega⟩, _, _, _, _, _, _, _, _, _, _, _, take_pkA hi, _, _, ⟨by rw [tbl_hit]; exact cv63 hlen (List.all_eq_true.1 hb _ (List.getElem_mem hi))⟩, ⟨⟨⟨rfl, rfl, .inl rfl⟩, trivial⟩, rfl, trivial⟩, rfl, rfl⟩
/-! ### send, receive -/
theorem rk {w r : WoI} (h : w = r) : RetK (wA w) (wL w) (wA r, wL r) := by
  subst h
  have h : LaxK1 (wA w) (wA w) := by
    unfold wA LaxK1
    exact ⟨.inl rfl, .inl rfl, .inl rfl, .inl rfl, .inl rfl, .inl rfl, .inl rfl, .inl rfl, .inl rfl, .inl rfl, .inl rfl, trivial⟩
  exact ⟨h, rfl⟩
theorem ov43 (m : Int) : ISpecOk PI (GI m) 43 v43.up := lspec_of (X := XWo) (m := []) mixedI (tbl_cons (ov63 m) tbl_nil) itbl_nil fun args l p r h hp => by
  unfold v43 at h
  split at h
  case h_2 => cases h
  rename_i cs ps n0 e0 n1 e1
  split at h
  case isFalse => cases h
  rename_i hc
  simp only [Bool.and_eq_true, decide_eq_true_eq] at hc
  obtain ⟨⟨_, _⟩, rfl, rfl⟩ := hc
  injection h with h
  injection h with h1 h2
  subst h1
  obtain ⟨⟨w, rfl, rfl, rfl, hb⟩, ⟨p, hpk, hpb⟩⟩ := hp
  injection hpk with hpk
  subst hpk
  have hr : r = (wA (sendO w p), wL (sendO w p)) := by
    rw [← h2]
    simp only [keptWA, keptSend, wOf_ok]
    rw [show pOf _ = p from pOf_ok p]
  subst hr
  refine ⟨nAn, rfl, rfl, ?_⟩
  show lkW PI (GI m) XWo (tbl [(63, v63)]) (itbl []) nAn [] 43 [wA w, pkA p] (wL w) (wA (sendO w p), wL (sendO w p))
  rw [ww43]
  have hcl : w.c.length ≤ 2000000 := by have := hb.c; omega
  refine ⟨_, _, ⟨by rw [tbl_hit]; exact cv63 hcl hpb⟩, ?_⟩
  have leaf : ∀ (C : List PkI) (B : Bool), sendO w p = ⟨w.a, w.b, C, w.r, w.all, w.fresh, B⟩ → RetK (wA ⟨w.a, w.b, C, w.r, w.all, w.fresh, B⟩) (wL ⟨w.a, w.b, C, w.r, w.all, w.fresh, B⟩) (wA (sendO w p), wL (sendO w p)) := fun C B h => rk h.symm
  obtain ⟨q, hq⟩ : ∃ q, chSend w.c p = q := ⟨_, rfl⟩
  rw [hq]
  have e : sendO w p = { w with c := if q.2 = 0 then q.1 else w.c, bad := w.bad || (q.2 != 0 && q.2 != 2) } := by unfold sendO; rw [hq]
  refine ⟨fun h0 => ⟨fun hb => leaf q.1 true ?_, fun hb => ⟨fun h1 => ⟨fun h2 => leaf q.1 true ?_, fun h2 => leaf q.1 false ?_⟩, fun h1 => leaf q.1 false ?_⟩⟩, fun h0 => ⟨fun hb => leaf w.c true ?_, fun hb => ⟨fun h1 => ⟨fun h2 => leaf w.c true ?_, fun h2 => leaf w.c false ?_⟩, fun h1 => leaf w.c false ?_⟩⟩⟩ <;> rw [e] <;> simp_all
end Go.Abs

namespace Go.Abs
open Go.Proofs Go.RowKit Go.Sort
/-- worlds that hold the invariant are bounded -/
theorem WInv.freshLen {w : WoI} (h : WInv w) : w.fresh.length ≤ w.all.length := by
  have := nodup_len h.fnd (m := idsF w.all) fun p hp => ids_sub h.sub p hp
  rwa [ids_len, ids_len] at this
theorem WInv.box {w : WoI} (h : WInv w) (_hb : w.all.length ≤ 1000) {b : BxI} (hm : b ∈ w.r) : ∃ k, b.src = nmOf k ∧ (sdOf w k).nx - (sdOf w k).l.length ≤ b.next ∧ b.next ≤ (sdOf w k).nx := by
  obtain ⟨k, hk⟩ := h.box_src b hm
  have hB := h.can.box b hm
  have hS := h.sd k
  refine ⟨k, hk, ?_, ?_⟩
  · by_cases hc : b.next < (sdOf w k).nx - (sdOf w k).l.length
    · exact absurd (hS.old _ hB.lo hc) (hk ▸ hB.miss)
    · omega
  · by_cases hc : b.next ≤ (sdOf w k).nx
    · exact hc
    · have := (h.fresh_ids (k := k) (n := (sdOf w k).nx) (hk ▸ hB.seen _ (h.nx_lo k) (by omega))).2
      omega
theorem WInv.rcv {w : WoI} (h : WInv w) (hb : w.all.length ≤ 1000) : RcvP w.r := by
  refine ⟨fun b hm => ?_, h.can.asc, by have := h.boxes; omega⟩
  obtain ⟨k, hk, h1, h2⟩ := h.box hb hm
  have hB := h.can.box b hm
  have hhi := h.nx_hi hb k
  have h64 := (h.sd k).len
  refine ⟨by rw [hk]; exact name_of k, hB.lo, by unfold maxT; omega, hB.asc, fun x hx => ?_⟩
  obtain ⟨a1, a2⟩ := (hB.mem x).1 hx
  have := (h.fresh_ids (k := k) (n := x) (hk ▸ a1)).2
  exact ⟨a2, by omega, by unfold maxT; omega⟩
theorem nm_len (k : Bool) : (nmOf k).length = 3 := by cases k <;> rfl
theorem WInv.pk {w : WoI} (h : WInv w) {p : PkI} (hp : PkW w p) : pkBd p = true := by
  rw [pkBd_iff]
  rcases hp with ⟨_, h2, k, h3, _⟩ | ⟨_, _, h3, h4⟩
  · rw [h3, h2, nm_len]; exact ⟨by omega, by simp [zFc]⟩
  · obtain ⟨k, hk⟩ := h.src _ h4
    rw [← h3, hk, nm_len, h.fs _ h4]; exact ⟨by omega, by simp⟩
theorem WInv.bd {w : WoI} (h : WInv w) (hb : w.all.length ≤ 1000) : WBd w ∧ w.fresh.length < 100000 := by
  have hf := h.freshLen
  have ha := (h.sd false).len
  have hb2 := (h.sd true).len
  have hl1 := h.nx_lo false
  have hl2 := h.nx_lo true
  have hn1 := (h.sd false).nm
  have hn2 := (h.sd true).nm
  have mem : ∀ k, ∀ f ∈ (sdOf w k).l, f.src.length ≤ 2000000 ∧ f.fs.length ≤ 100000000 := fun k f hf => by
    have hm := (h.sd k).mem f hf
    obtain ⟨j, hj⟩ := h.src f hm
    rw [hj, nm_len, h.fs f hm]; exact ⟨by omega, by simp⟩
  refine ⟨⟨?_, ?_, ?_, ?_, by have := h.chl; omega, fun p hp => h.pk (h.ch p hp), rcvOk_iff.2 (h.rcv hb), by omega, by omega, mem false, mem true, ?_, ?_⟩, by omega⟩
  · show (sdOf w false).l.length ≤ 1000; omega
  · show (sdOf w true).l.length ≤ 1000; omega
  · show 0 ≤ (sdOf w false).nx; omega
  · show 0 ≤ (sdOf w true).nx; omega
  · show (sdOf w false).nm.length ≤ 2000000; rw [hn1, nm_len]; omega
  · show (sdOf w true).nm.length ≤ 2000000; rw [hn2, nm_len]; omega
theorem rcvX_ok {w : WoI} {p : PkI} (hr : rcvOk w.r = true) (hp : p.src.length ≤ 2000000) : rcvOk (rcvX w p).r = true ∧ (rcvX w p).src.length ≤ 2000000 := by
  unfold rcvX
  cases hx : recvP w.r ⟨p.src, p.ack, p.next, p.f.src, p.f.seq⟩ with
  | err c => exact ⟨by simp [recvW, rcvOk, srcLt], by simp [recvW]⟩
  | out r f s n =>
    refine ⟨rcvOk_iff.2 (recv_ok (rcvOk_iff.1 hr) hx), ?_⟩
    have : s = p.src := by
      unfold recvP at hx
      split at hx
      · cases hx
      split at hx
      · cases hx
      split at hx
      · cases hx
      split at hx
      · injection hx with _ _ h _; exact h.symm
      · injection hx with _ _ h _; exact h.symm
    rw [this]; exact hp
/-- what a call of send leads to -/
theorem send_leaf {w r : WoI} {p : PkI} (hb : WBd w) (hp : pkBd p = true) (h : sendO w p = r) :
    (WAsk (wC w) w.all.length w.fresh.length ∧ PAsk (pkCw p)) ∧ ∃ (s_1 : List UInt8), ∃ (n_2 : Int), ∃ (es_1 : List AV), ∃ (s_2 : List UInt8), ∃ (n_3 : Int), ∃ (es_2 : List AV), ∃ (es_3 : List AV), ∃ (es_4 : List AV), ∃ (es_5 : List AV), ∃ (es_6 : List AV), ∃ (b : Bool),
      OutIs (keptWA (keptSend (wC w) (pkCw p))) (.agg [.str s_1, .int .i64 n_2, .sl 8 es_1 .no, .str s_2, .int .i64 n_3, .sl 8 es_2 .no, .sl 11 es_3 .no, .sl 3 es_4 .no, .sl 8 es_5 (.tok 0), .sl 8 es_6 (.tok 1), .bool b]) ∧
      RetK (.agg [.str s_1, .int .i64 n_2, .sl 8 es_1 .no, .str s_2, .int .i64 n_3, .sl 8 es_2 .no, .sl 11 es_3 .no, .sl 3 es_4 .no, .sl 8 es_5 (.tok 0), .sl 8 es_6 (.tok 1), .bool b]) [((keptSend (wC w) (pkCw p)).all.length, 29), ((keptSend (wC w) (pkCw p)).fresh.length, 29)] (wA r, wL r) := by
  have e : keptSend (wC w) (pkCw p) = r := by unfold keptSend; rw [wOf_ok, show pOf (pkCw p) = p from pOf_ok p]; exact h
  refine ⟨⟨⟨w, rfl, rfl, rfl, hb⟩, ⟨p, rfl, hp⟩⟩, r.a.nm, r.a.nx, fcsL r.a.l, r.b.nm, r.b.nx, fcsL r.b.l, pksL r.c, bxsL r.r, fcsL r.all, fcsL r.fresh, r.bad, ⟨by rw [e]; rfl⟩, ?_⟩
  rw [e]
  exact rk rfl
theorem cs23 {s : SdI} {p : PkI} (h : s.l.length ≤ 2000000) : s23 [sdA s, pkA p] = some (.tup [sdA (ackP s p.src p.ack p.next).1, .int .i64 (ackP s p.src p.ack p.next).2], []) := by
  unfold sdA pkA
  simp only [s23, unGs_ok]
  rw [if_pos ⟨.inl trivial, trivial, by rw [List.length_map]; exact h⟩]
  rfl
theorem cs23x {s : SdI} {p : PkI} (h : s.l.length ≤ 2000000) : s23x [.agg (sdC s.nm s.nx 8 (fcsL s.l)), .agg (pkCw p)] = some (.tup [sdA (ackP s p.src p.ack p.next).1, .int .i64 (ackP s p.src p.ack p.next).2], []) := by
  unfold s23x
  have e2 : wk1 (.agg (pkCw p)) = .agg (pkCw p) := by
    cases hf : p.f.fs with
    | nil => simp [wk1, wk0, pkCw, vasL, hf]
    | cons v l => simp [wk1, wk0, pkCw, vasL, hf]
  rw [List.map_cons, List.map_cons, List.map_nil, e2]
  cases hl : s.l with
  | nil =>
    have e1 : wk1 (.agg (sdC s.nm s.nx 8 (fcsL []))) = .agg [.str s.nm, .int .i64 s.nx, .sl 3 [] .no] := rfl
    rw [e1]
    simp only [s23]
    rw [if_pos ⟨.inr trivial, trivial, by simp⟩]
    simp only [unL]
    rw [show (⟨s.nm, s.nx, []⟩ : SdI) = s from by cases s; simp_all]
  | cons f l =>
    have e1 : wk1 (.agg (sdC s.nm s.nx 8 (fcsL (f :: l)))) = .agg (sdC s.nm s.nx 8 (fcsL (f :: l))) := rfl
    rw [e1, ← hl]
    exact cs23 (s := s) (p := p) h
theorem cs10w {r : List BxI} {p : PkI} (hp : p.src.length ≤ 2000000) (hr : rcvOk r = true) : s10w [.agg [.sl 3 (bxsL r) .no], .agg (pkCw p)] = some (rcvWA (recvW (recvP r ⟨p.src, p.ack, p.next, p.f.src, p.f.seq⟩)), []) := by
  simp only [s10w]
  rw [if_pos hp, show rcvOf 3 (bxsL r) .no = some r from (by simp only [rcvOf, if_true]; exact unL_map unB_ok' r)]
  simp only
  rw [if_pos hr]
theorem ov23 (m : Int) : ISpecOk PI (GI m) 23 v23.up := lspec_of (X := XWo) (m := []) mixedI (tbl_cons (o23x m) (tbl_cons (o10w m) tbl_nil)) (itbl_cons (ov43 m) itbl_nil) fun args l p r h hp => by
  unfold v23 at h
  split at h
  case h_2 => cases h
  rename_i cs ps n0 e0 n1 e1
  split at h
  case isFalse => cases h
  rename_i hc
  simp only [Bool.and_eq_true, decide_eq_true_eq] at hc
  obtain ⟨⟨_, _⟩, rfl, rfl⟩ := hc
  injection h with h
  injection h with h1 h2
  subst h1
  obtain ⟨⟨w, rfl, rfl, rfl, hb, hbad, hfl⟩, ⟨p, hpk, hpb⟩⟩ := hp
  injection hpk with hpk
  subst hpk
  have hr : r = (wA (recvO w p), wL (recvO w p)) := by
    rw [← h2]
    simp only [keptWA, keptRecv, wOf_ok]
    rw [show pOf _ = p from pOf_ok p]
  subst hr
  have hcg : wC w = wCg w := by unfold wC; rw [hbad]
  refine ⟨nAn, rfl, rfl, ?_⟩
  rw [hcg]
  show lkW PI (GI m) XWo (tbl [(18, s23x), (29, s10w)]) (itbl [(43, v43.up)]) nAn [] 23 [.agg (wCg w), pkA p] (wL w) (wA (recvO w p), wL (recvO w p))
  rw [ww23]
  obtain ⟨hp1, hp2⟩ := pkBd_iff.1 hpb
  obtain ⟨hX1, hX2⟩ := rcvX_ok (p := p) hb.r hp1
  have hla : w.a.l.length ≤ 2000000 := by have := hb.a; omega
  have hlb : w.b.l.length ≤ 2000000 := by have := hb.b; omega
  refine ⟨fun hack => ⟨fun hweb => ⟨⟨by omega, by omega⟩, _, _, _, _, ⟨by rw [tbl_hit]; exact cs23x (s := w.b) hlb⟩, ⟨by omega, by omega⟩, fun h => (by cases h), fun _ => ⟨fun h0 => ?_, fun h0 => ?_⟩⟩, fun hweb => ⟨⟨by omega, by omega⟩, _, _, _, _, ⟨by rw [tbl_hit]; exact cs23x (s := w.a) hla⟩, ⟨by omega, by omega⟩, fun h => (by cases h), fun _ => ⟨fun h0 => ?_, fun h0 => ?_⟩⟩⟩, fun hack => ?_⟩
  · refine rk (w := { w with b := (ackP w.b p.src p.ack p.next).1, bad := true }) ?_
    have hw : p.src = webB := by simpa [webB] using hweb
    unfold recvO ackX
    rw [if_pos hack]
    simp only [hw, decide_true, setS, sdOf, if_true, hbad, Bool.false_or]
    rw [hw] at h0
    rw [h0]
  · refine rk (w := { w with b := (ackP w.b p.src p.ack p.next).1, bad := false }) ?_
    have hw : p.src = webB := by simpa [webB] using hweb
    unfold recvO ackX
    rw [if_pos hack]
    simp only [hw, decide_true, setS, sdOf, if_true, hbad, Bool.false_or]
    rw [hw] at h0
    rw [h0]
  · refine rk (w := { w with a := (ackP w.a p.src p.ack p.next).1, bad := true }) ?_
    have hw : decide (p.src = webB) = false := by
      have : ¬ p.src = webB := by simpa [webB] using hweb
      exact decide_eq_false this
    unfold recvO ackX
    rw [if_pos hack, hw]
    simp only [setS, sdOf, Bool.false_eq_true, if_false, hbad, Bool.false_or]
    rw [h0]
  · refine rk (w := { w with a := (ackP w.a p.src p.ack p.next).1, bad := false }) ?_
    have hw : decide (p.src = webB) = false := by
      have : ¬ p.src = webB := by simpa [webB] using hweb
      exact decide_eq_false this
    unfold recvO ackX
    rw [if_pos hack, hw]
    simp only [setS, sdOf, Bool.false_eq_true, if_false, hbad, Bool.false_or]
    rw [h0]
  · have ec : s10w [.agg [.sl 3 (bxsL w.r) .no], .agg (pkCw p)] = some (rcvWA (rcvX w p), []) := cs10w hp1 hb.r
    have hra : recvO w p = sendO { w with r := (rcvX w p).r, fresh := if (rcvX w p).fresh then w.fresh ++ [p.f] else w.fresh, bad := (rcvX w p).code != 0 } ⟨(rcvX w p).src, (rcvX w p).ack, (rcvX w p).next, zFc⟩ := by
      unfold recvO
      rw [if_neg (by rw [hack]; simp), hbad, Bool.false_or]
    obtain ⟨X, hX⟩ : ∃ X, rcvX w p = X := ⟨_, rfl⟩
    rw [hX] at ec hra hX1 hX2
    have hfr : fcsL w.fresh ++ [AV.agg (fcC p.f)] = fcsL (w.fresh ++ [p.f]) := by
      rw [show fcsL (w.fresh ++ [p.f]) = fcsL w.fresh ++ [fcA p.f] from List.map_append ..]; rfl
    have hlf : (fcsL w.fresh).length = w.fresh.length := List.length_map ..
    have hl1 : w.fresh.length + 1 = (w.fresh ++ [p.f]).length := by simp
    have hpk : pkBd ⟨X.src, X.ack, X.next, zFc⟩ = true := pkBd_iff.2 ⟨hX2, by simp [zFc]⟩
    have hB : ∀ (fr : List FcI) (b : Bool), fr.length ≤ 100000 → WBd { w with r := X.r, fresh := fr, bad := b } := fun fr b hf => ⟨hb.a, hb.b, hb.ax, hb.bx, hb.c, hb.cb, hX1, hb.all, hf, hb.ab, hb.bb, hb.an, hb.bn⟩
    refine ⟨_, _, _, _, _, _, ⟨by rw [tbl_miss (by decide), tbl_hit]; exact ec⟩, fun hf => ⟨fun h => (by cases h), fun _ => ⟨fun h0 => ?_, fun h0 => ?_⟩⟩, fun hf => ⟨fun h => (by cases h), fun _ => ⟨fun h0 => ?_, fun h0 => ?_⟩⟩⟩
    · refine ⟨.inl rfl, by rw [hlf]; omega, hlf.symm, ?_⟩
      rw [hfr, hlf, hl1]
      exact send_leaf (w := { w with r := X.r, fresh := w.fresh ++ [p.f], bad := true }) (p := ⟨X.src, X.ack, X.next, zFc⟩) (hB _ _ (by simp; omega)) hpk (by rw [hra, hf, if_pos rfl, h0])
    · refine ⟨.inl rfl, by rw [hlf]; omega, hlf.symm, ?_⟩
      rw [hfr, hlf, hl1]
      exact send_leaf (w := { w with r := X.r, fresh := w.fresh ++ [p.f], bad := false }) (p := ⟨X.src, X.ack, X.next, zFc⟩) (hB _ _ (by simp; omega)) hpk (by rw [hra, hf, if_pos rfl, h0])
    · exact send_leaf (w := { w with r := X.r, fresh := w.fresh, bad := true }) (p := ⟨X.src, X.ack, X.next, zFc⟩) (hB _ _ hb.fresh) hpk (by rw [hra, hf, if_neg (by simp), h0])
    · exact send_leaf (w := { w with r := X.r, fresh := w.fresh, bad := false }) (p := ⟨X.src, X.ack, X.next, zFc⟩) (hB _ _ hb.fresh) hpk (by rw [hra, hf, if_neg (by simp), h0])
end Go.Abs
