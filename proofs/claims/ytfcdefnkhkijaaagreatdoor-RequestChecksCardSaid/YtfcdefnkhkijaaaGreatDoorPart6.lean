/- Own texts, part 6. -/
import Derived.Test.YtfcdefnkhkijaaaGreatDoorPart4
import Derived.WalkLawsBesides
import Derived.Test.YtfcdefnkhkijaaaGreatDoorPart5
import Derived.Lib.Hide
import Derived.Lib.AppendStr
import Derived.Lib.SlBytesConst

namespace Go.Abs
open Go.Proofs Go.RowKit
section
variable {G : Glob} {N0 : Nat → Prop} {w0 : World} {I0 : Nat → Nat → Prop} {S : St} {E : Env} {w : World}
theorem bld_at {b blk : Nat} {buf : AV} (hS : SR PQ G N0 w0 I0 S E w) (hb : S.boxes[b]? = some (some (typB 107 [.opq, buf]))) (hB : E.B b = some blk) :
  ∃ p v, w.heap[blk]? = some (.cells #[p, v] 107 (0, 0)) ∧ (p = .pointer none ∨ p = .pointer (some ⟨blk, 0, none⟩)) ∧ Rep E w buf v ∧ v.oneCell' = true := by
 obtain ⟨blk', hB', hbx⟩ := hS.box b _ hb
 obtain rfl : blk = blk' := by rw [hB] at hB'; injection hB'
 cases hbx with
 | row arr ty hr => simp [isRow] at hr
 | iter s pos hcs => simp at hcs
 | map t n es k e D hcs => simp [mapC] at hcs
 | own sz es f arr ty hcs => simp at hcs
 | dead hcs => simp at hcs
 | typ t cs' arr hcs hh hn hcl hself hc =>
  have h1 : t = 107 ∧ cs' = [.opq, buf] := by
   simp at hcs
   exact ⟨by omega, hcs.2.symm⟩
  obtain ⟨rfl, rfl⟩ := h1
  have hs := hself (by kernel_rfl)
  obtain ⟨l⟩ := arr
  match l, hn with
  | [p, v], _ =>
   obtain ⟨h2, h3⟩ := hc 1 buf v rfl rfl
   refine ⟨p, v, hh, ?_, h2, h3⟩
   simpa using hs
theorem not_frz {b : Nat} {cs : List AV} (hb : S.boxes[b]? = some (some (typB 107 cs))) : ¬ Frz S b := by
 intro h
 rcases h.row hb with e | ⟨sz, es, e⟩
 ·cases e
 ·simp at e
theorem bld_set {b blk : Nat} {buf buf' : AV} {p v p' v' : Value} (hS : SR PQ G N0 w0 I0 S E w) (hb : S.boxes[b]? = some (some (typB 107 [.opq, buf]))) (hB : E.B b = some blk) (hh : w.heap[blk]? = some (.cells #[p, v] 107 (0, 0)))
  (hp : p' = .pointer none ∨ p' = .pointer (some ⟨blk, 0, none⟩)) (hv : Rep E w buf' v') (h1 : v'.oneCell' = true) (hcl : buf'.closed = true ∨ buf'.tokSl = true) :
  SR PQ G N0 w0 I0 { S with boxes := S.boxes.set b (some (typB 107 [.opq, buf'])) } E (w.setRow blk #[p', v']) ∧ Env.Le E E w (w.setRow blk #[p', v']) := by
 have hblk : ∀ k, k ≠ blk → (w.setRow blk #[p', v']).heap[k]? = w.heap[k]? := fun k hk => setRow_other w blk k #[p', v'] hk
 have hnf := not_frz hb
 have hle : Env.Le E E w (w.setRow blk #[p', v']) := ⟨fun c o hi => ⟨hi, World.cell?_of_block (a := ⟨c, o, none⟩) (hblk c (fun e => hnf ((hS.Blt b blk hB).2.2.2 o (e ▸ hi))))⟩, fun _ _ h => h, fun _ _ _ h => h, fun id' x hx => by
  by_cases e : x = blk
  ·subst e; exact rows_setRow hh rfl
  ·exact rowsOf_block (hblk x e)⟩
 refine hS.obj_set hB rfl rfl rfl (by simp) hblk (.typ 107 [.opq, buf'] #[p', v'] rfl (setRow_heap w blk #[p, v] #[p', v'] 107 _ hh) rfl (fun c hc => ?_) (fun _ => ?_) fun i c u hi hu => ?_) hnf (rows_setRow hh rfl)
 ·simp only [List.mem_cons, List.not_mem_nil, or_false] at hc
  rcases hc with rfl | rfl
  ·exact .inl rfl
  ·exact hcl
 ·simpa using hp
 ·match i, hi, hu with
  | 0, hi, hu =>
   simp at hi hu; subst hi; subst hu
   exact ⟨.opq _ (by rcases hp with rfl | rfl <;> rfl), by rcases hp with rfl | rfl <;> rfl⟩
  | 1, hi, hu => simp at hi hu; subst hi; subst hu; exact ⟨hv.le hle, h1⟩
  | i + 2, hi, hu => simp at hi
end
theorem bld_check_used (b : Nat) (w : World) (h0 : w.cell? ⟨b, 0, none⟩ = some (.pointer (some ⟨b, 0, none⟩))) :
  Calls PQ 102 #[.pointer (some ⟨b, 0, none⟩)] w fun e w' => e = .returned (.tuple #[]) ∧ w' = w :=
 Any.Builder_copyCheck_used (ρ := Tryz.lays156_ren) { Tryz.lays156 with } Tryz.Builder_Extra_156.toX72 b w h0
theorem bld_check_fresh (b : Nat) (w : World) (h0 : w.cell? ⟨b, 0, none⟩ = some (.pointer none)) (hsh : w.shape? b = some (107, 2)) (hfz : w.frozen? ⟨b, 0, none⟩ = false) :
  Calls PQ 102 #[.pointer (some ⟨b, 0, none⟩)] w fun e w' => e = .returned (.tuple #[]) ∧ w' = w.setCell ⟨b, 0, none⟩ (.pointer (some ⟨b, 0, none⟩)) :=
 Any.Builder_copyCheck_fresh (ρ := Tryz.lays156_ren) { Tryz.lays156 with } Tryz.Builder_Extra_156.toX72 b w h0 hsh hfz
theorem setCell_row0 {w : World} {b : Nat} {p v q : Value} {T : TypeId} {fr : Nat × Nat} (h : w.heap[b]? = some (.cells #[p, v] T fr)) : w.setCell ⟨b, 0, none⟩ q = w.setRow b #[q, v] := by
 unfold World.setCell World.setRow
 congr 1
 apply Array.ext_getElem?
 intro i
 simp only [Array.getElem?_modify]
 by_cases hi : b = i
 ·subst hi; simp [h]
 ·simp [hi]
theorem setCell_row1 {w : World} {b : Nat} {p v q : Value} {T : TypeId} {fr : Nat × Nat} (h : w.heap[b]? = some (.cells #[p, v] T fr)) : w.setCell ⟨b, 1, none⟩ q = w.setRow b #[p, q] := by
 unfold World.setCell World.setRow
 congr 1
 apply Array.ext_getElem?
 intro i
 simp only [Array.getElem?_modify]
 by_cases hi : b = i
 ·subst hi; simp [h]
 ·simp [hi]
theorem wpList_append_run {P : Program} {w : World} {ops : Array Oper} {rest : List Oper} {o : Oper} {a : Act} {Q : Exit → Act → World → Prop} (hgd : o.guard = none) (sl x : Operand) (t u : TypeId)
  (ho : o.op = .call { callee := .builtin .append, args := #[sl, x], argTypes := #[t, u] }) {v y v' : Value} {w' : World} (hs : a.eval sl = v) (hx : a.eval x = y) (hr : (Builtin.append_ #[t, u] o.type #[v, y]).run P w = .ok v' w')
  (h : wpList P ops Q rest (a.put o.dst v') w') : wpList P ops Q (o :: rest) a w := by
 refine wpList_plain hgd fun K hK => ?_
 unfold Oper.wp execOp
 simp only [ho, resolve, invoke, builtin, Sem.run_bind, Sem.run_pure, Result.andThen_ok, List.map_toArray, List.map_cons, List.map_nil, hs, hx, hr]
 exact hK _ _ h
section
variable {N0 : Nat → Prop} {w0 : World} {I0 : Nat → Nat → Prop} {S : St} {E : Env} {w : World}
theorem check_walk {m : Int} {b blk k : Nat} {es : List AV} (hS : SR PQ (GQ m) N0 w0 I0 S E w) (hb : S.boxes[b]? = some (some (typB 107 [.opq, .sl 1 es (.tok k)]))) (hB : E.B b = some blk) :
  Calls PQ 102 #[.pointer (some ⟨blk, 0, none⟩)] w fun e w1 => e = .returned (.tuple #[]) ∧ SR PQ (GQ m) N0 w0 I0 S E w1 ∧ Env.Le E E w w1 ∧ ∃ v, w1.heap[blk]? = some (.cells #[.pointer (some ⟨blk, 0, none⟩), v] 107 (0, 0)) ∧ Rep E w1 (.sl 1 es (.tok k)) v ∧ v.oneCell' = true := by
 obtain ⟨p, v, hh, hp, hv, h1⟩ := bld_at hS hb hB
 rcases hp with rfl | rfl
 ·refine (bld_check_fresh blk w (by simp [World.cell?, hh]) (by simp [World.shape?, hh]) (by simp [World.frozen?, hh])).mono ?_
  rintro e w1 ⟨rfl, rfl⟩
  rw [setCell_row0 hh]
  obtain ⟨hS1, hL⟩ := bld_set hS hb hB hh (.inr rfl) hv h1 (.inr rfl)
  have hid : S.boxes.set b (some (typB 107 [.opq, .sl 1 es (.tok k)])) = S.boxes := by
   apply List.ext_getElem?
   intro i
   rw [List.getElem?_set]
   by_cases hi : b = i
   ·subst hi
    have := (List.getElem?_eq_some_iff.1 hb).1
    rw [if_pos rfl, if_pos this, hb]
   ·simp [hi]
  rw [hid] at hS1
  exact ⟨rfl, hS1, hL, v, setRow_heap w blk _ _ 107 _ hh, hv.le hL, h1⟩
 ·refine (bld_check_used blk w (by simp [World.cell?, hh])).mono ?_
  rintro e w1 ⟨rfl, rfl⟩
  exact ⟨rfl, hS, Env.Le.refl _ _, v, hh, hv, h1⟩
set_option maxHeartbeats 4000000 in
set_option maxRecDepth 100000 in
theorem ws_walk {m : Int} {b blk k : Nat} {es : List AV} {s : List UInt8} {sb : ByteArray} (hS : SR PQ (GQ m) N0 w0 I0 S E w) (hb : S.boxes[b]? = some (some (typB 107 [.opq, .sl 1 es (.tok k)]))) (hB : E.B b = some blk)
  (hl : S.live[k]? = some (es.length, 5)) (hs : sb.data.toList = s) (hne : s ≠ []) (hroom : (es.length + s.length) * 2 ≤ 70368744177664) :
  Calls PQ 50 #[.pointer (some ⟨blk, 0, none⟩), .string sb] w fun e w' => e = .returned (.tuple #[.int .i64 s.length, .nilIface]) ∧
   ∃ E', SR PQ (GQ m) N0 w0 I0 ⟨S.boxes.set b (some (typB 107 [.opq, .sl 1 (es ++ bytesL s) (.tok k)])), S.live.set k (es.length + s.length, 5)⟩ E' w' ∧ Env.Le E E' w w' := by
 go_enter Tryz.func50, Tryz.ntmps50
 go_wp2_with fail
 refine (check_walk hS hb hB).mono ?_
 rintro e w1 ⟨rfl, hS1, hL1, v, hh, hv, h1⟩
 have hlen : (bytesL s).length = s.length := List.length_map _
 have ha : appendA PQ S 22 9 (.sl 1 es (.tok k)) (.str s) = some (.sl 1 (es ++ bytesL s) (.tok k), { S with live := S.live.set k (es.length + s.length, 5) }) := by
  have hu : PQ.underlying 22 = some (.slice 5) := by kernel_rfl
  have hu9 : PQ.underlying 9 = some .string := by kernel_rfl
  obtain ⟨i0, hi, hz0, hz1, hz2⟩ := info_parts Tryz.Builder_Extra_156.infoByte
  have hi : PQ.info? 5 = some i0 := hi
  have hb0 : bytesL s ≠ [] := by cases s with
   | nil => exact absurd rfl hne
   | cons c t => simp
  have hl' : S.live[k]? = some (es.length, 5) := hl
  simp only [appendA, hu, hi, srcA, hu9, hz0, hz1, hz2, Option.map_some, if_true, hlen, Own.weak, hl', hb0, if_false]
  rw [if_pos ⟨.inl trivial, by decide, rfl⟩, if_pos (c := (es.length + s.length) * (1 + 1) ≤ roomA) hroom, if_pos ⟨trivial, trivial⟩]
 obtain ⟨v2, w2, E2, hrun, hS2, hL2, hr2⟩ := appendA_run (ty := 22) hS1 ha hv (.str s sb hs)
 have c1 : w1.cell? ⟨blk, 1, none⟩ = some v := by simp [World.cell?, hh]
 have hb2 := hb
 obtain ⟨p3, v3, hh3, hp3, _, _⟩ := bld_at hS2 hb ((hL1.trans hL2).B _ _ hB)
 have c3 : w2.cell? ⟨blk, 1, none⟩ = some v3 := by simp [World.cell?, hh3]
 have f3 : w2.frozen? ⟨blk, 1, none⟩ = false := by simp [World.frozen?, hh3]
 have hone : v2.oneCell' = true := by cases hr2 with | sl => rfl
 have hcells : v2.cells = #[v2] := by cases hr2 with | sl => rfl
 have fin := bld_set hS2 hb ((hL1.trans hL2).B _ _ hB) hh3 hp3 hr2 hone (.inr rfl)
 rw [← setCell_row1 hh3] at fin
 have FIN := Lib.hid fin
 have HL := Lib.hid (hL1.trans hL2)
 obtain ⟨A, n3, cap3, rfl⟩ : ∃ A n c, v2 = .slice A n c := by cases hr2 with | sl => exact ⟨_, _, _, rfl⟩
 clear ha hS hS1 hS2 hL1 hL2 hr2 hv fin hl hroom hh hp3 hb2 hone hcells
 go_wp2_with (at_builtin; refine wpList_append_run rfl _ _ 22 9 rfl rfl rfl hrun ?_)
 go_ret2
 refine ⟨?_, E2, FIN.out.1, HL.out.trans FIN.out.2⟩
 rw [size_data, hs]; rfl
end
def s50 : ISpec := fun args S => match args with
 | [.ptr b 0, .str s] =>
  match S.boxes[b]? with
  | some (some [.tup [.int .i64 t, .agg [.opq, .sl sz es (.tok k)]]]) =>
   match S.live[k]? with
   | some (n, e) => some ((t = 107 ∧ sz = 1 ∧ e = 5 ∧ n = es.length) ∧ s ≠ [] ∧ (es.length + s.length) * 2 ≤ 70368744177664, .tup [.int .i64 s.length, .lit .nilIface], ⟨S.boxes.set b (some (typB 107 [.opq, .sl 1 (es ++ bytesL s) (.tok k)])), S.live.set k (es.length + s.length, 5)⟩)
   | none => none
  | _ => none
 | _ => none
theorem o50 (m : Int) : ISpecOk PQ (GQ m) 50 s50 := by
 intro g args S r S' hr
 simp only [lowC] at hr
 by_cases e : g = 50
 ·subst e
  simp only [if_true] at hr
  split at hr
  case h_2 => cases hr
  case h_1 x hx =>
  split at hr
  case isFalse => cases hr
  case isTrue hp =>
  simp only [Option.some.injEq] at hr
  unfold s50 at hx
  split at hx
  case h_2 => cases hx
  rename_i b s
  split at hx
  case h_2 => cases hx
  rename_i t sz es k hb
  split at hx
  case h_2 => cases hx
  rename_i n e hl
  injection hx with hx
  subst hx
  obtain ⟨⟨rfl, rfl, rfl, rfl⟩, hne, hroom⟩ := hp
  injection hr with e1 e2
  subst e1; subst e2
  refine ⟨goodQ (by kernel_rfl), fun N0 w0 I0 E w vs hS hn hv => ?_⟩
  obtain ⟨l⟩ := vs
  match l, hn with
  | [a, c], _ =>
   have ha := hv 0 _ a rfl rfl
   obtain ⟨sb, rfl, hsb⟩ := rep_str (hv 1 _ c rfl rfl)
   cases ha with | ptr _ _ blk hB =>
   exact (ws_walk hS hb hB hl hsb hne hroom).mono fun e w' ⟨he, E', h1, h2⟩ => ⟨_, E', he, h1, h2, rep_tup2 (.int _ _) (.lit _ rfl)⟩
 ·simp only [if_neg e] at hr
  cases hr
/-! String -/
section
variable {P : Program} {G : Glob} {N0 : Nat → Prop} {w0 : World} {I0 : Nat → Nat → Prop} {S : St} {E : Env} {w w' : World}
theorem SR.other (h : SR P G N0 w0 I0 S E w) (hl : S.live = []) {g : Nat} (hg1 : ¬ N0 g) (hg2 : ∀ id, E.B id ≠ some g) (hos : w'.os = w.os) (htp : w'.tape = w.tape) (hout : w'.output = w.output) (hsz : w'.heap.size = w.heap.size)
  (hblk : ∀ k, k ≠ g → w'.heap[k]? = w.heap[k]?) (hcell : ∀ o, w'.cell? ⟨g, o, none⟩ = w.cell? ⟨g, o, none⟩) : SR P G N0 w0 I0 S E w' ∧ Env.Le E E w w' := by
 have hle : Env.Le E E w w' := ⟨fun b o hi => ⟨hi, by
  by_cases e : b = g
  ·subst e; exact hcell o
  ·exact World.cell?_of_block (a := ⟨b, o, none⟩) (hblk b e)⟩, fun _ _ h => h, fun _ _ _ h => h, fun id x hx => rowsOf_block (hblk x fun e => hg2 id (e ▸ hx))⟩
 refine ⟨⟨h.below.trans ⟨hos, htp, hout, by omega, fun k hk => hblk k (fun e => hg1 (e ▸ hk))⟩, fun b hb' => by have := h.n0 b hb'; omega, fun b o hi => by have := h.Ilt b o hi; omega, h.Iold, fun id b he => ?_, h.Binj, fun id cs hi => ?_, h.glob.le hle, h.hole, h.Klt, fun t n v hk g hg => by have hlt := h.Kblk t n v hk g hg; omega, fun t n e ht => ?_⟩, hle⟩
 ·obtain ⟨a1, a2, a3, a4⟩ := h.Blt id b he
  exact ⟨a1, a2, by omega, a4⟩
 ·obtain ⟨blk, hB, hx⟩ := h.box id cs hi
  exact ⟨blk, hB, hx.le (hblk blk fun e => hg2 id (e ▸ hB)) hle⟩
 ·rw [hl] at ht; cases ht
end
set_option maxHeartbeats 4000000 in
set_option maxRecDepth 100000 in
theorem str_exact (b g cap : Nat) (p : Value) (cur : Array Value) (l : List UInt8) (w : World) (h0 : l ≠ []) (hbk : w.heap[b]? = some (.cells #[p, .slice (some ⟨g, 0, none⟩) l.length cap] 107 (0, 0))) (hg : w.heap[g]? = some (.cells cur 5 (0, 0)))
  (hnc : l.length ≤ cap) (hcm : cap ≤ maxLen) (hcs : cur.size = cap) (hcur : ∀ (j : Nat) (x : UInt8), l[j]? = some x → cur[j]? = some (Value.int .u8 x.toNat)) :
  Calls PQ 53 #[.pointer (some ⟨b, 0, none⟩)] w fun e w' => e = .returned (.string ⟨l.toArray⟩) ∧ w' = w.drew.freeze ⟨g, 0, none⟩ l.length := by
 have hl0 : l.length ≠ 0 := by simpa using h0
 have c1 : w.drew.cell? ⟨b, 1, none⟩ = some (.slice (some ⟨g, 0, none⟩) l.length cap) := by
  have : w.drew.heap[b]? = some (.cells #[p, .slice (some ⟨g, 0, none⟩) l.length cap] 107 (0, 0)) := hbk
  rw [Lib.cell_of_heap this]; rfl
 have hg' : w.drew.heap[g]? = some (.cells cur 5 (0, 0)) := hg
 have hSD : (Builtin.unsafeSliceData_ #[22] 161 #[.slice (some ⟨g, 0, none⟩) l.length cap]).run PQ w.drew = .ok (.pointer (some ⟨g, 0, none⟩)) w.drew := Lib.run_unsafeSliceData_row _ _ _ _ _ _ (by omega)
 have hUS : (Builtin.unsafeString_ #[161, 3] 9 #[.pointer (some ⟨g, 0, none⟩), .int .i64 l.length]).run PQ w.drew = .ok (.string ⟨l.toArray⟩) (w.drew.freeze ⟨g, 0, none⟩ l.length) := by
  refine Lib.run_unsafeString_row w.drew 161 3 9 5 (by kernel_rfl) (by kernel_rfl) g cur.size (by simp [World.shape?, hg']) l h0 (by omega) (by unfold maxLen at hcm; omega) ?_
  intro j x hx
  have := hcur j x hx
  rw [show (⟨g, 0, none⟩ : Addr).add j = ⟨g, j, none⟩ from by unfold Addr.add; split <;> simp_all]
  simp [World.cell?, hg', this]
 clear hcur hg hbk hg'
 have mixed : PQ.follows .mixedOrders = true := mixedQ
 go_enter Tryz.func53, Tryz.ntmps53
 go_wp2
 go_region_o
 all_goals (go_wp2; go_ret; exact ⟨rfl, rfl⟩)
theorem freeze_facts (w : World) (g n : Nat) : (w.freeze ⟨g, 0, none⟩ n).os = w.os ∧ (w.freeze ⟨g, 0, none⟩ n).tape = w.tape ∧ (w.freeze ⟨g, 0, none⟩ n).output = w.output ∧ (w.freeze ⟨g, 0, none⟩ n).heap.size = w.heap.size ∧
  (∀ k, k ≠ g → (w.freeze ⟨g, 0, none⟩ n).heap[k]? = w.heap[k]?) ∧ ∀ o, (w.freeze ⟨g, 0, none⟩ n).cell? ⟨g, o, none⟩ = w.cell? ⟨g, o, none⟩ := by
 unfold World.freeze
 split
 ·exact ⟨rfl, rfl, rfl, rfl, fun _ _ => rfl, fun _ => rfl⟩
 ·refine ⟨rfl, rfl, rfl, by simp, fun k hk => ?_, fun o => ?_⟩
  ·simp only [Array.getElem?_modify]
   rw [if_neg (fun e => hk e.symm)]
  ·unfold World.cell?
   simp only [Array.getElem?_modify, if_true]
   cases w.heap[g]? with
   | none => rfl
   | some ob => cases ob <;> rfl
set_option maxRecDepth 100000 in
theorem str_walk {m : Int} {N0 : Nat → Prop} {w0 : World} {I0 : Nat → Nat → Prop} {S : St} {E : Env} {w : World} {b blk : Nat} {l : List UInt8} (hS : SR PQ (GQ m) N0 w0 I0 S E w) (hb : S.boxes[b]? = some (some (typB 107 [.opq, .sl 1 (bytesL l) (.tok 0)]))) (hB : E.B b = some blk)
  (hl : S.live = [(l.length, 5)]) (h0 : l ≠ []) :
  Calls PQ 53 #[.pointer (some ⟨blk, 0, none⟩)] w fun e w' => e = .returned (.string ⟨l.toArray⟩) ∧ BelowQ N0 w0 w' ∧ w'.heap.size = w.heap.size := by
 obtain ⟨p, v, hh, hp, hv, h1⟩ := bld_at hS hb hB
 have hl0 : l.length ≠ 0 := by simpa using h0
 obtain ⟨v0, xs, sz, hsz, hown, hu, hK, hg⟩ := hS.live 0 l.length 5 (by rw [hl]; rfl)
 have hsz1 : sz = 1 := by
  have : sizeA PQ 5 = some 1 := by kernel_rfl
  rw [this] at hsz; injection hsz with hsz; exact hsz.symm
 subst hsz1
 have hlen : (bytesL l).length = l.length := List.length_map _
 cases hv with
 | sl _ _ _ A cap u hcap hmax hA hszs hcl ho hr h1u =>
 rw [hlen] at hcap
 have hv0 : v0 = .slice A (bytesL l).length cap := by
  have h3 : E.K 0 (bytesL l).length (.slice A (bytesL l).length cap) := ho
  rw [hlen] at h3 ⊢
  exact (hu _ h3).symm
 subst hv0
 rw [hlen] at hown hK hg hh h1
 obtain ⟨⟨hx, hrow⟩, hnq⟩ := hown
 rcases hrow with ⟨_, hz⟩ | ⟨g, cap', cur, hvv, _, hgc, hnc, hcm, hcs, htk⟩
 ·exact absurd hz hl0
 injection hvv with e1 _ e2
 subst e1; subst e2
 rcases hA with hA | ⟨b', off, hA1, hA2⟩
 ·have : (bytesL l).length = 0 := by rw [hA]; rfl
  omega
 injection hA1 with hA1
 injection hA1 with e3 e4
 subst e3; subst e4
 have hcur : ∀ (j : Nat) (x : UInt8), l[j]? = some x → cur[j]? = some (Value.int .u8 x.toNat) := fun j x hj => by
  have he : (bytesL l)[j]? = some (.int .u8 x.toNat) := by rw [List.getElem?_map, hj]; rfl
  obtain ⟨_, h3⟩ := hA2 j _ 0 _ he rfl
  have h4 := rep_int (hr j _ 0 _ he rfl)
  rw [h4] at h3
  simp [World.cell?, hgc] at h3
  exact h3
 have hgg : (Value.slice (some ⟨g, 0, none⟩) l.length cap).ownBlock = some g := rfl
 obtain ⟨k1, k2, k3⟩ := hg g hgg
 refine (str_exact blk g cap p cur l w h0 hh hgc hnc hcm (by simpa using hcs) hcur).mono ?_
 rintro e w' ⟨rfl, rfl⟩
 obtain ⟨f1, f2, f3, f4, f5, f6⟩ := freeze_facts w.drew g l.length
 have f4' : (w.drew.freeze ⟨g, 0, none⟩ l.length).heap.size = w.heap.size := f4
 exact ⟨rfl, hS.below.trans ⟨f1, f2, f3, by omega, fun k hk => f5 k fun e => hnq g hgg (e ▸ hk)⟩, f4⟩
end Go.Abs
namespace Go.Abs
open Go.RowKit
def codeAt (z : Nat) : Code → Option Code
 | .seq _ b => if firstReg b == z then some b else codeAt z b
 | _ => none
section
variable {P : Program} {G : Glob} {N0 : Nat → Prop} {w0 : World} {I0 : Nat → Nat → Prop}
end
def coversA (ops : List Oper) (ol : Oper) : Bool :=
 ((ops ++ [ol]).zipIdx.all fun (oi, i) => oi.guard.isNone && oi.after.toList.all fun e => !Region.binds .any e || decide (e.on < i)) &&
 (List.range ops.length).all fun i => (List.range (ops.length + 1)).any fun j => decide (i < j) && dirA (ops ++ [ol]) j i
section
variable {P : Program} {Q : Exit → Act → World → Prop}
def lastQ (Q : Exit → Act → World → Prop) (X : Act → World → Prop) : Exit → Act → World → Prop := fun e a w =>
 match e with
 | .normal => X a w
 | e => Q e a w
theorem upon_lastQ {o : Oper} {a : Act} {K : Act → World → Prop} {X : Act → World → Prop} (r : Result Next) : o.upon P a K (lastQ Q X) r = o.upon P a K Q r := by
 cases r with
 | ok n w' => cases n <;> rfl
 | halt x w' => cases x <;> rfl
structure Cov (ops : List Oper) (ol : Oper) : Prop where
 grd : ∀ (i : Nat) (o : Oper), (ops ++ [ol])[i]? = some o → o.guard = none
 back : ∀ (i : Nat) (o : Oper), (ops ++ [ol])[i]? = some o → ∀ e ∈ o.after, Region.binds .any e = true → e.on < i
 next : ∀ i, i < ops.length → ∃ j o e, i < j ∧ (ops ++ [ol])[j]? = some o ∧ e ∈ o.after ∧ Region.binds .any e = true ∧ e.on = i
theorem cov_of {ops : List Oper} {ol : Oper} (h : coversA ops ol = true) : Cov ops ol := by
 unfold coversA at h
 rw [Bool.and_eq_true] at h
 obtain ⟨h1, h2⟩ := h
 have g : ∀ (i : Nat) (o : Oper), (ops ++ [ol])[i]? = some o → o.guard = none ∧ ∀ e ∈ o.after, Region.binds .any e = true → e.on < i := fun i o ho => by
  have := zip_all h1 ho
  simp only [Bool.and_eq_true, List.all_eq_true] at this
  refine ⟨by simpa using this.1, fun e he hb => ?_⟩
  have h3 := this.2 e (by simpa using he)
  simpa [hb] using h3
 refine ⟨fun i o ho => (g i o ho).1, fun i o ho => (g i o ho).2, fun i hi => ?_⟩
 rw [List.all_eq_true] at h2
 have h3 := h2 i (List.mem_range.2 hi)
 rw [List.any_eq_true] at h3
 obtain ⟨j, _, h4⟩ := h3
 simp only [Bool.and_eq_true, decide_eq_true_eq] at h4
 obtain ⟨h5, h6⟩ := h4
 unfold dirA at h6
 split at h6
 ·rename_i o ho
  rw [List.any_eq_true] at h6
  obtain ⟨e, he, h7⟩ := h6
  simp only [Bool.and_eq_true, beq_iff_eq] at h7
  exact ⟨j, o, e, h5, ho, by simpa using he, h7.1, h7.2⟩
 ·cases h6
theorem getD_push_lt {l : Array Bool} {i : Nat} {b d : Bool} (h : i < l.size) : (l.push b).getD i d = l.getD i d := by
 simp [Array.getD, Array.size_push, Nat.lt_succ_of_lt h, h, Array.getElem_push_lt h]
theorem getD_push_eq {l : Array Bool} {b d : Bool} : (l.push b).getD l.size d = b := by
 simp [Array.getD]
theorem set_push {l : Array Bool} {i : Nat} {b c : Bool} (h : i < l.size) : (l.push b).setIfInBounds i c = (l.setIfInBounds i c).push b := by
 apply Array.ext_getElem?
 intro j
 simp only [Array.getElem?_setIfInBounds, Array.getElem?_push, Array.size_push, Array.size_setIfInBounds]
 by_cases h1 : i = j
 ·subst h1
  rw [if_pos rfl, if_pos (by omega), if_neg (by omega), if_pos rfl, if_pos h]
 ·rw [if_neg h1]
  split
  ·rfl
  ·rfl
theorem getD_set {l : Array Bool} {i k : Nat} {d : Bool} : (l.setIfInBounds i true).getD k d = if i = k ∧ k < l.size then true else l.getD k d := by
 rw [Array.getD_eq_getD_getElem?, Array.getD_eq_getD_getElem?, Array.getElem?_setIfInBounds]
 by_cases h1 : i = k
 ·subst h1
  by_cases h2 : i < l.size
  ·simp [h2]
  ·simp [h2]
 ·simp [h1]
def ClL (ops : List Oper) (l : Array Bool) : Prop := ∀ (j : Nat) (o : Oper), ops[j]? = some o → l.getD j false = true → ∀ e ∈ o.after, Region.binds .any e = true → l.getD e.on false = true
theorem mem_last {ops : List Oper} {ol : Oper} {l : Array Bool} (hc : Cov ops ol) (hn : l.size = ops.length) {i : Nat} (hi : i < ops.length) : i ∈ Region.ready .any (ops ++ [ol]).toArray (l.push false) ↔ i ∈ Region.ready .any ops.toArray l := by
 have e1 : (ops ++ [ol]).toArray[i]? = ops.toArray[i]? := by
  simp [List.getElem?_append_left hi]
 rw [mem_ready, mem_ready, e1, getD_push_lt (by omega)]
 refine and_congr Iff.rfl ⟨fun ⟨o, ho, h⟩ => ⟨o, ho, fun e he hb => ?_⟩, fun ⟨o, ho, h⟩ => ⟨o, ho, fun e he hb => ?_⟩⟩
 ·have hlt := hc.back i o (by rw [List.getElem?_append_left hi]; simpa using ho) e he hb
  have := h e he hb
  rwa [getD_push_lt (by omega)] at this
 ·have hlt := hc.back i o (by rw [List.getElem?_append_left hi]; simpa using ho) e he hb
  rw [getD_push_lt (by omega)]
  exact h e he hb
theorem last_ready {ops : List Oper} {ol : Oper} {l : Array Bool} (hc : Cov ops ol) (hn : l.size = ops.length) (hcl : ClL ops l) : ops.length ∈ Region.ready .any (ops ++ [ol]).toArray (l.push false) ↔ ∀ i, i < ops.length → l.getD i false = true := by
 have e1 : (ops ++ [ol]).toArray[ops.length]? = some ol := by simp
 rw [mem_ready, e1]
 constructor
 ·rintro ⟨_, o, ho, h⟩
  injection ho with ho
  subst ho
  -- from the top down
  have key : ∀ k i, i < ops.length → ops.length - i ≤ k → l.getD i false = true := by
   intro k
   induction k with
   | zero => intro i hi hk; omega
   | succ k ih =>
    intro i hi hk
    obtain ⟨j, o, e, hij, ho, he, hb, heo⟩ := hc.next i hi
    by_cases hj : j < ops.length
    ·have h1 := ih j hj (by omega)
     rw [List.getElem?_append_left hj] at ho
     have := hcl j o ho h1 e he hb
     rwa [heo] at this
    ·have hjn : j = ops.length := by
      have := (List.getElem?_eq_some_iff.1 ho).1
      simp at this; omega
     subst hjn
     simp at ho
     subst ho
     have := h e he hb
     rw [getD_push_lt (by omega), heo] at this
     exact this
  exact fun i hi => key ops.length i hi (by omega)
 ·intro h
  refine ⟨by rw [← hn]; exact getD_push_eq, ol, rfl, fun e he hb => ?_⟩
  have hlt := hc.back ops.length ol (by simp) e he hb
  rw [getD_push_lt (by omega)]
  exact h _ hlt
theorem ready_nil {ops : List Oper} {ol : Oper} {l : Array Bool} (hc : Cov ops ol) (hn : l.size = ops.length) (h : Region.ready .any ops.toArray l = []) : ∀ i, i < ops.length → l.getD i false = true := by
 intro i
 induction i using Nat.strongRecOn with
 | _ i ih =>
  intro hi
  have hni : i ∉ Region.ready .any ops.toArray l := by rw [h]; simp
  rw [mem_ready] at hni
  have hlt : i < l.size := by omega
  cases hv : l.getD i false with
  | true => rfl
  | false =>
   exfalso
   apply hni
   refine ⟨by simpa [Array.getD, hlt] using hv, ops[i], by simp [hi], fun e he hb => ?_⟩
   have hb' := hc.back i ops[i] (by rw [List.getElem?_append_left hi]; simp [hi]) e he hb
   exact ih e.on hb' (by omega)
theorem wpOp_plain {ops : Array Oper} {Q : Exit → Act → World → Prop} {i : Nat} {o : Oper} (ho : ops[i]? = some o) (hg : o.guard = none) {K : Act → World → Prop} {a : Act} {w : World} : wpOp P ops Q i K a w ↔ (o.wp P a w K Q ∨ (o.asks P a w ∧ LetsOut Q)) := by
 unfold wpOp
 rw [ho]
 simp only [Region.wanted, hg]
 simp
theorem any_last {ops : List Oper} {ol : Oper} {X : Act → World → Prop} (hc : Cov ops ol) (hX : ∀ a w, X a w → wpOp P (ops ++ [ol]).toArray Q ops.length (Q .normal) a w) :
  ∀ (fuel : Nat) (l : Array Bool) (a : Act) (w : World), l.size = ops.length → ClL ops l → wpAny P .any ops.toArray (lastQ Q X) fuel l a w → wpAny P .any (ops ++ [ol]).toArray Q (fuel + 1) (l.push false) a w := by
 have fin : ∀ (fuel : Nat) (l : Array Bool) (a : Act) (w : World), l.size = ops.length → ClL ops l → Region.ready .any ops.toArray l = [] → X a w → wpAny P .any (ops ++ [ol]).toArray Q (fuel + 1) (l.push false) a w := fun fuel l a w hn hcl hr hx => by
  have hall := ready_nil hc hn hr
  have hlast := (last_ready hc hn hcl).2 hall
  refine ⟨fun h => by rw [h] at hlast; simp at hlast, fun i hi => ?_⟩
  have hin : i = ops.length := by
   rcases Nat.lt_trichotomy i ops.length with h | h | h
   ·have := (mem_last hc hn h).1 hi
    rw [hr] at this; simp at this
   ·exact h
   ·obtain ⟨_, o, ho, _⟩ := mem_ready.1 hi
    have := (Array.getElem?_eq_some_iff.1 ho).1
    simp at this; omega
  subst hin
  refine wpOp_mono (fun a' w' h => ?_) (hX a w hx)
  have hnil : Region.ready .any (ops ++ [ol]).toArray ((l.push false).setIfInBounds ops.length true) = [] := by
   rw [List.eq_nil_iff_forall_not_mem]
   intro j hj
   obtain ⟨h1, o, ho, _⟩ := mem_ready.1 hj
   have hjn := (Array.getElem?_eq_some_iff.1 ho).1
   simp at hjn
   rcases Nat.lt_or_ge j ops.length with hjl | hjl
   ·have h2 := hall j hjl
    have h3 : ((l.push false).setIfInBounds ops.length true).getD j true = l.getD j true := by
     rw [getD_set, if_neg (by omega), getD_push_lt (by omega)]
    rw [h3] at h1
    simp only [Array.getD] at h1 h2
    rw [dif_pos (by omega)] at h1 h2
    rw [h1] at h2; cases h2
   ·have : j = ops.length := by omega
    subst this
    simp [Array.getD, hn] at h1
  exact wpAny_done hnil h _
 intro fuel
 induction fuel with
 | zero => intro l a w hn hcl h; exact fin 0 l a w hn hcl h.1 h.2
 | succ fuel ih =>
  intro l a w hn hcl h
  by_cases hr : Region.ready .any ops.toArray l = []
  ·exact fin _ l a w hn hcl hr (h.1 hr)
  ·have hnl : ops.length ∉ Region.ready .any (ops ++ [ol]).toArray (l.push false) := fun hm => by
    have hall := (last_ready hc hn hcl).1 hm
    obtain ⟨i, hi⟩ := List.exists_mem_of_ne_nil _ hr
    obtain ⟨h1, o, ho, _⟩ := mem_ready.1 hi
    have hil := (Array.getElem?_eq_some_iff.1 ho).1
    simp at hil
    have h2 := hall i hil
    simp only [Array.getD] at h1 h2
    rw [dif_pos (by omega)] at h1 h2
    rw [h1] at h2; cases h2
   have hne : Region.ready .any (ops ++ [ol]).toArray (l.push false) ≠ [] := fun he => by
    obtain ⟨i, hi⟩ := List.exists_mem_of_ne_nil _ hr
    obtain ⟨h1, o, ho, _⟩ := mem_ready.1 hi
    have hil := (Array.getElem?_eq_some_iff.1 ho).1
    simp at hil
    have := (mem_last hc hn hil).2 hi
    rw [he] at this; simp at this
   refine ⟨fun h => absurd h hne, fun i hi => ?_⟩
   have hil : i < ops.length := by
    rcases Nat.lt_trichotomy i ops.length with h | h | h
    ·exact h
    ·subst h; exact absurd hi hnl
    ·obtain ⟨_, o, ho, _⟩ := mem_ready.1 hi
     have := (Array.getElem?_eq_some_iff.1 ho).1
     simp at this; omega
   have hiB := (mem_last hc hn hil).1 hi
   have h2 := h.2 i hiB
   obtain ⟨h1, o, ho, hdeps⟩ := mem_ready.1 hiB
   have ho2 : (ops ++ [ol])[i]? = some o := by rw [List.getElem?_append_left hil]; simpa using ho
   have hg := hc.grd i o ho2
   rw [wpOp_plain ho hg] at h2
   rw [wpOp_plain (by simpa using ho2) hg]
   have hcl2 : ClL ops (l.setIfInBounds i true) := fun j o' ho' hj e he hb => by
    have hmono : ∀ k, l.getD k false = true → (l.setIfInBounds i true).getD k false = true := fun k hk => by
     rw [getD_set]
     split
     ·rfl
     ·exact hk
    by_cases hji : j = i
    ·subst hji
     have : o' = o := by
      have e1 : ops.toArray[j]? = some o' := by simpa using ho'
      rw [ho] at e1; injection e1 with e1; exact e1.symm
     subst this
     exact hmono _ (hdeps e he hb)
    ·have hj2 : l.getD j false = true := by
      rwa [getD_set, if_neg (fun e => hji e.1.symm)] at hj
     exact hmono _ (hcl j o' ho' hj2 e he hb)
   have conv : ∀ K K' : Act → World → Prop, (∀ a w, K a w → K' a w) → (o.wp P a w K (lastQ Q X) ∨ (o.asks P a w ∧ LetsOut (lastQ Q X))) → (o.wp P a w K' Q ∨ (o.asks P a w ∧ LetsOut Q)) := fun K K' hK hh => by
    rcases hh with hh | ⟨h3, h4⟩
    ·left
     unfold Oper.wp at hh ⊢
     rw [upon_lastQ] at hh
     exact Oper.wp_mono (o := o) (w := w) hK hh
    ·exact .inr ⟨h3, h4⟩
   refine conv _ _ (fun a' w' hk => ?_) h2
   rw [set_push (by omega)]
   exact ih _ a' w' (by simpa using hn) hcl2 hk
end
def lastRW (P : Program) (G : Glob) (X : Shapes) (R : Callee) (C : CCallee) (ops : List Oper) (T : List AV) (S : St) (K : List AV → St → Prop) : Prop :=
 match ops.getLast? with
 | none => False
 | some ol =>
  if drawOk ops.dropLast && coversA ops.dropLast ol then
   logW P G X R (drawC C) (lkOn C) ops.dropLast ops.dropLast S.boxes.length T (roomFor ops.dropLast S) fun lg T' S' => if confOk ops.dropLast lg then listW P G X R C ops [ol] S.boxes.length T' S' K else False
  else False
def litA (P : Program) (G : Glob) (o o2 : Oper) (T : List AV) : Option AV :=
 match o.op, o2.op with
 | .buildSlice t n parts, .convert s d (.tmp x) =>
  if s = t ∧ d = t ∧ o.dst = some x ∧ x < T.length ∧ o.guard.isNone ∧ o2.guard.isNone then
   match P.underlying t with
   | some (.slice e) =>
    match P.underlying e with
    | some (.int .u8) => buildSliceA P t n (parts.toList.map fun p => (p.1, evA G T p.2))
    | _ => none
   | _ => none
  else none
 | _, _ => none
def pairW (P : Program) (G : Glob) (X : Shapes) (R : Callee) (C : CCallee) (ops : List Oper) : List Oper → Nat → List AV → St → (List AV → St → Prop) → Prop
 | [], _, T, S, K => K T S
 | [o], bid, T, S, K => stepWl P G X R C ops bid o T S fun r S' => K (putA T o.dst r) S'
 | o :: o2 :: l, bid, T, S, K =>
  match litA P G o o2 T with
  | some r => pairW P G X R C ops l (nextBid o2 (nextBid o bid)) (putA (putA T o.dst r) o2.dst r) S K
  | none => stepWl P G X R C ops bid o T S fun r S' => pairW P G X R C ops (o2 :: l) (nextBid o bid) (putA T o.dst r) S' K
def pairRW (P : Program) (G : Glob) (X : Shapes) (R : Callee) (C : CCallee) (ops : List Oper) (T : List AV) (S : St) (K : List AV → St → Prop) : Prop :=
 pairW P G X R C ops ops S.boxes.length T (roomFor ops S) K
def qcodeW (P : Program) (mk : Mk) (G : Glob) (X : Shapes) (R : Callee) (C : CCallee) (qs : List Nat) (A : Anns) (m : List Bool) : Code → WStep
 | .region id ops draw =>
  if hasP qs (.region id ops draw) then
   if draw then fun T S K => lastRW P G X R C ops.toList T S fun T' S' => mk (maskA m T') S' (K .normal)
   else fun T S K => pairRW P G X R C ops.toList T S fun T' S' => mk (maskA m T') S' (K .normal)
  else codeW P mk G X R C A m (.region id ops draw) noLd
 | .seq a b =>
  if hasP qs (.seq a b) then cutW P mk (A.loop (cutAt (firstReg b))) (qcodeW P mk G X R C qs A m a) (qcodeW P mk G X R C qs A m b)
  else codeW P mk G X R C A m (.seq a b) noLd
 | .cond q x y =>
  if hasP qs (.cond q x y) then fun T S K =>
   match evA G T q with
   | .bool true => qcodeW P mk G X R C qs A m x T S K
   | .bool false => qcodeW P mk G X R C qs A m y T S K
   | _ => False
  else codeW P mk G X R C A m (.cond q x y) noLd
 | .block id b =>
  if hasP qs (.block id b) then fun T S K => qcodeW P mk G X R C qs A m b T S (blockK id K)
  else codeW P mk G X R C A m (.block id b) noLd
 | .loop b =>
  if hasP qs (.loop b) then loopW P mk (A.loop (firstReg b)) (qcodeW P mk G X R C qs A m b)
  else codeW P mk G X R C A m (.loop b) noLd
 | c => codeW P mk G X R C A m c noLd
section
variable {P : Program} {G : Glob} {N0 : Nat → Prop} {w0 : World} {I0 : Nat → Nat → Prop}
theorem wpOp_list {ops : List Oper} {o : Oper} {Q : Exit → Act → World → Prop} {a : Act} {w : World} {i : Nat} (ho : ops[i]? = some o) (h : wpList P ops.toArray Q [o] a w) : wpOp P ops.toArray Q i (Q .normal) a w := by
 unfold wpOp
 have : ops.toArray[i]? = some o := by simpa using ho
 rw [this]
 exact h
theorem lastRW_ok {X : Shapes} {R : Callee} {C : CCallee} (hm : P.follows .mixedOrders = true) (hR : CalleeOk P G R) (hC : ICalleeOk P G (lowC C)) {id : Nat} {ops : Array Oper} {m : List Bool} :
  WOk P G N0 w0 I0 (fun T S K => lastRW P G X R C ops.toList T S fun T' S' => K .normal (maskA m T') S') (.region id ops true) := by
 intro T S K E a w Q h hS hT hQ
 unfold lastRW at h
 split at h
 ·exact h.elim
 rename_i ol hol
 split at h
 case isFalse => exact h.elim
 rename_i hoc
 rw [Bool.and_eq_true] at hoc
 obtain ⟨ho, hcov⟩ := hoc
 have hc := cov_of hcov
 obtain ⟨lg, T', S', h1, hN⟩ := logW_imp h
 clear h
 split at hN
 case isFalse => exact hN.elim
 rename_i hcf
 have hok : ICalleeOk P G (lowC (drawC C)) := fun f args S r S' h => by
  rw [drawC_low] at h
  split at h
  ·exact locC_ok hC f args S r S' h
  ·exact noC_ok f args S r S' h
 have hlc : LocC (lowC (drawC C)) := fun f args S S2 h => by
  rw [drawC_low]
  by_cases hl : lkOn C f = true
  ·rw [if_pos hl]; exact locC_loc (lowC C) f args S S2 h
  ·rw [if_neg hl]; exact noC_loc f args S S2 h
 have hops : ops.toList.dropLast ++ [ol] = ops.toList := by
  obtain ⟨ys, hys⟩ := List.getLast?_eq_some_iff.1 hol
  rw [hys]; simp
 generalize hd : ops.toList.dropLast = l at *
 have hops2 : ops = (l ++ [ol]).toArray := by rw [hops]
 let X1 : Act → World → Prop := fun a' w' => wpList P (l ++ [ol]).toArray Q [ol] a' w'
 have hA := drawA_any (N0 := N0) (w0 := w0) (I0 := I0) (C := lowC (drawC C)) (lk := lkOn C) hm hR hok hlc (fun f e args S => by rw [drawC_low, e, if_neg (by simp)]; rfl) ho h1 hcf (hS.roomFor l) hT (Q := lastQ Q X1) fun E' w' a' k1 k2 k3 k4 => by
  show wpList P (l ++ [ol]).toArray Q [ol] a' w'
  rw [hops]
  exact listW_wp (N0 := N0) (w0 := w0) (I0 := I0) hR hC (Q := Q) k1 k3 hN fun T2 S2 E2 w2 a2 l0 l1 l2 l3 l4 => hQ .normal _ _ E2 w2 a2 l0 l1 (k2.trans l2) (l3.mask' m) (l4.trans k4)
 have hL := any_last hc (X := X1) (Q := Q) (fun a' w' hx => wpOp_list (by simp) hx) _ _ _ _ (by simp) (fun j o hj hl => by simp [Array.getD] at hl) hA
 rw [hops2]
 refine wp_region_any hm ?_
 have e1 : ((l ++ [ol]).toArray).size = l.toArray.size + 1 := by simp
 rw [e1, Array.replicate_succ]
 exact hL
theorem buildLit_run {S : St} {E : Env} {w : World} (hS : SR P G N0 w0 I0 S E w) {t e : TypeId} {len : Nat} {ps : List (Nat × AV)} {qs : Array (Nat × Value)} {r : AV} (h : buildSliceA P t len ps = some r) (hu : P.underlying t = some (.slice e)) (he : P.underlying e = some (.int .u8)) (hp : PR E w ps qs.toList) :
  ∃ v w1 w2 E', (Instr.buildSlice t len qs).run P w = .ok v w1 ∧ (convert t t v).run P w1 = .ok v w2 ∧ SR P G N0 w0 I0 S E' w2 ∧ Env.Le E E' w w2 ∧ Rep E' w2 r v := by
 unfold buildSliceA at h
 rw [hu] at h
 simp only at h
 split at h
 case h_2 => cases h
 rename_i s hs
 split at h
 case isFalse => cases h
 rename_i hh
 obtain ⟨hi, hlen, hlen2, hz, hall⟩ := hh
 simp at h; subst h
 obtain ⟨z, hz⟩ := Option.isSome_iff_exists.1 hz
 rw [List.all_eq_true] at hall
 have hall' : ∀ p ∈ ps, p.2.strip1.closed1 = true ∧ p.2.cells.length = s := fun p hp => by
  have := hall p hp
  simpa using this
 have hv := Vals.parts ps qs.toList hp hall'
 have hps : ps.length = len := by have := congrArg List.length hi; simpa using this
 have hqi : qs.toList.map (·.1) = List.range' 0 qs.toList.length := by
  rw [← List.range_eq_range', ← hp.1, hps, ← hi]
  apply List.ext_getElem?
  intro k
  rw [List.getElem?_map, List.getElem?_map]
  cases hk : ps[k]? with
  | none =>
   have : ¬ k < qs.toList.length := by rw [← hp.1]; intro h'; rw [List.getElem?_eq_getElem h'] at hk; cases hk
   rw [List.getElem?_eq_none (by omega)]
   rfl
  | some p =>
   have hlt : k < qs.toList.length := by rw [← hp.1]; exact (List.getElem?_eq_some_iff.1 hk).1
   rw [List.getElem?_eq_getElem hlt]
   have := (hp.2 k p _ hk (List.getElem?_eq_getElem hlt)).1
   simp [this]
 have hqs : ∀ q ∈ qs.toList, q.2.cells.size = s := fun q hq => by
  obtain ⟨k, hk⟩ := List.mem_iff_getElem?.1 hq
  have hlt : k < ps.length := by rw [hp.1]; exact (List.getElem?_eq_some_iff.1 hk).1
  have h0 := hp.2 k _ q (List.getElem?_eq_getElem hlt) hk
  have hc := hall' ps[k] (List.getElem_mem hlt)
  have := h0.2.strip1.cr (closed1_plain hc.1)
  rw [this.1, strip1_cells]; exact hc.2
 have hfill : ∀ (z : Array Value), Instr.fill (fun i => some (i * s, s)) ((Array.range (len * s)).map (z[· % z.size]!)) qs.toList = some (qs.toList.flatMap fun q => q.2.cells.toList).toArray := fun z => by
  have := fill_row (s := s) qs.toList 0 [] ((Array.range (len * s)).map (z[· % z.size]!)).toList hqi hqs (by simp) (by simp [← hp.1, hps])
  simpa only [List.nil_append, Array.toArray_toList] using this
 have hlen' : ¬ len * s > 2 ^ 24 := by omega
 have hrun : (Instr.buildSlice t len qs).run P w = .ok (.slice (some ⟨w.heap.size, 0, none⟩) len len) (w.alloc (.cells (qs.toList.flatMap fun q => q.2.cells.toList).toArray e)) := by
  unfold Instr.buildSlice
  simp only [Sem.run_bind, run_underlying hu, run_sizeOf' hs, Result.andThen_ok]
  rw [if_neg hlen']
  by_cases h0 : len * s = 0
  ·simp only [h0, if_true, Sem.run_bind, Sem.run_pure, Result.andThen_ok]
   have := hfill #[]
   rw [h0] at this
   rw [this]
   rfl
  ·simp only [h0, if_false, Sem.run_bind, run_zero hz, Sem.run_pure, Result.andThen_ok, hfill]
   rfl
 generalize hC : (qs.toList.flatMap fun q => q.2.cells.toList).toArray = C at *
 obtain ⟨hS', hle⟩ := hS.ext (w' := w.alloc (.cells C e (C.size, C.size + 1))) (below_alloc w _) (I' := fun b o => E.I b o ∨ (b = w.heap.size)) (fun b o h => .inl h) (fun b o h => h.imp id fun e => by subst e; simp)
 refine ⟨_, _, _, _, hrun, Lib.run_convert_bytes_const w t e C len len hu he, hS', hle, ?_⟩
 have hv' := hv.le hle
 have hl : (ps.map fun p => p.2.strip1).length = len := by simpa using hps
 have := hv'.rep w.heap.size 0 len .full (by omega) (by simp only [maxLen]; omega) (fun j u hj => ⟨.inr rfl, by
   rw [Nat.zero_add, cell_of_row _ w.heap.size j _ e _ (heap_alloc_new w _), ← hC]
   simpa using hj⟩) (by simp [OwnOk, hl])
 rw [hl] at this
 exact this
theorem litA_wp {o o2 : Oper} {T : List AV} {S : St} {E : Env} {a : Act} {w : World} {Q : Exit → Act → World → Prop} {r : AV} {ops l : List Oper} (h : litA P G o o2 T = some r) (hS : SR P G N0 w0 I0 S E w) (hT : TR E w T a.tmps)
  (hK : ∀ E' w' a', SR P G N0 w0 I0 S E' w' → Env.Le E E' w w' → TR E' w' (putA (putA T o.dst r) o2.dst r) a'.tmps → a'.defers = a.defers → wpList P ops.toArray Q l a' w') : wpList P ops.toArray Q (o :: o2 :: l) a w := by
 obtain ⟨dst, op, type, pos, after, guard⟩ := o
 obtain ⟨dst2, op2, type2, pos2, after2, guard2⟩ := o2
 unfold litA at h
 simp only at h
 split at h
 case h_2 => cases h
 rename_i t n parts s d x
 split at h
 case isFalse => cases h
 rename_i hc
 obtain ⟨rfl, rfl, rfl, hx, hg1, hg2⟩ := hc
 obtain rfl : guard = none := by simpa using hg1
 obtain rfl : guard2 = none := by simpa using hg2
 split at h
 case h_2 => cases h
 rename_i e hu
 split at h
 case h_2 => cases h
 rename_i he
 have hpr : PR E w (parts.toList.map fun p => (p.1, evA G T p.2)) (parts.map fun p => (p.1, a.eval p.2)).toList := parts_rep hS hT parts
 obtain ⟨v, w1, w2, E', h1, h2, h3, h4, h5⟩ := buildLit_run hS h hu he hpr
 have hx2 : x < a.tmps.size := by rw [← hT.1]; exact hx
 refine .inl ?_
 refine wp_value (by exact run_v h1) ?_
 refine .inl ?_
 have e1 : (a.put (some x) v).eval (.tmp x) = v := by simp [Act.put, Act.eval, hx2]
 refine wp_value (by
  have : (convert d d ((a.put (some x) v).eval (.tmp x))).run P w1 = .ok v w2 := by rw [e1]; exact h2
  exact run_v this) ?_
 exact hK E' w2 _ h3 h4 (((hT.le h4).putA (some x) h5).putA dst2 h5) (by rw [put_defers, put_defers])
theorem pairW_wp {X : Shapes} {R : Callee} {C : CCallee} (hR : CalleeOk P G R) (hC : ICalleeOk P G (lowC C)) {ops : List Oper} {Q : Exit → Act → World → Prop} : ∀ {l : List Oper} {bid : Nat} {T : List AV} {S : St} {K : List AV → St → Prop} {E : Env} {a : Act} {w : World},
  SR P G N0 w0 I0 S E w → TR E w T a.tmps → pairW P G X R C ops l bid T S K →
  (∀ T' S' E' w' a', K T' S' → SR P G N0 w0 I0 S' E' w' → Env.Le E E' w w' → TR E' w' T' a'.tmps → a'.defers = a.defers → Q .normal a' w') → wpList P ops.toArray Q l a w
 | [], _, T, S, K, E, a, w, hS, hT, h, hQ => hQ T S E w a h hS (Env.Le.refl _ _) hT rfl
 | [o], bid, T, S, K, E, a, w, hS, hT, h, hQ => by
  simp only [pairW] at h
  exact step_wp hR hC hS hT h fun E' w' v r S' hk h1 h2 h3 => hQ _ _ E' w' _ hk h1 h2 ((hT.le h2).putA o.dst h3) (put_defers _ _ _)
 | o :: o2 :: l, bid, T, S, K, E, a, w, hS, hT, h, hQ => by
  simp only [pairW] at h
  split at h
  ·rename_i r hr
   exact litA_wp hr hS hT fun E' w' a' h1 h2 h3 h4 => pairW_wp hR hC h1 h3 h fun T2 S2 E2 w2 a2 k0 k1 k2 k3 k4 => hQ T2 S2 E2 w2 a2 k0 k1 (h2.trans k2) k3 (k4.trans h4)
  ·refine step_wp hR hC hS hT h fun E' w' v r S' hk h1 h2 h3 => ?_
   exact pairW_wp hR hC h1 ((hT.le h2).putA o.dst h3) hk fun T2 S2 E2 w2 a2 k0 k1 k2 k3 k4 => hQ T2 S2 E2 w2 a2 k0 k1 (h2.trans k2) k3 (k4.trans (put_defers _ _ _))
theorem pairRW_ok {X : Shapes} {R : Callee} {C : CCallee} (_ : P.follows .mixedOrders = true) (hR : CalleeOk P G R) (hC : ICalleeOk P G (lowC C)) {id : Nat} {ops : Array Oper} {m : List Bool} :
  WOk P G N0 w0 I0 (fun T S K => pairRW P G X R C ops.toList T S fun T' S' => K .normal (maskA m T') S') (.region id ops false) := by
 intro T S K E a w Q h hS hT hQ
 refine wp_region_list ?_
 have := pairW_wp (N0 := N0) (w0 := w0) (I0 := I0) hR hC (Q := Q) (hS.roomFor ops.toList) hT h fun T' S' E' w' a' k0 k1 k2 k3 k4 => hQ .normal _ _ E' w' a' k0 k1 k2 (k3.mask' m) k4
 simpa using this
theorem qcodeW_ok {X : Shapes} {R : Callee} {C : CCallee} {qs : List Nat} (hm : P.follows .mixedOrders = true) (hR : CalleeOk P G R) (hC : ICalleeOk P G (lowC C)) (A : Anns) (m : List Bool) :
  ∀ (c : Code), WOk P G N0 w0 I0 (qcodeW P idMk G X R C qs A m c) c := by
 intro c
 have lift : ∀ c, WOk P G N0 w0 I0 (codeW P idMk G X R C A m c noLd) c := fun c => (codeW_ok hm hR hC A m c).2.2.2
 induction c with
 | region id ops draw =>
  unfold qcodeW
  split
  case isFalse => exact lift _
  split
  ·rename_i hd
   subst hd
   exact lastRW_ok hm hR hC
  ·rename_i hd
   have hd' : draw = false := by simpa using hd
   subst hd'
   exact pairRW_ok hm hR hC
 | seq x y ihx ihy =>
  unfold qcodeW
  split
  case isFalse => exact lift _
  exact cutW_ok ihx ihy
 | cond q x y ihx ihy =>
  unfold qcodeW
  split
  case isFalse => exact lift _
  intro T S K E a w Q h hS hT hQ
  have hc := evA_rep hS.glob hT q
  split at h
  ·rename_i he
   rw [he] at hc
   exact wp_cond (rep_bool hc) (by simpa using ihx _ _ _ E a w Q h hS hT hQ)
  ·rename_i he
   rw [he] at hc
   exact wp_cond (rep_bool hc) (by simpa using ihy _ _ _ E a w Q h hS hT hQ)
  ·exact h.elim
 | block id b ih =>
  unfold qcodeW
  split
  case isFalse => exact lift _
  exact blockW_ok ih
 | loop b ih =>
  unfold qcodeW
  split
  case isFalse => exact lift _
  exact loopW_ok ih
 | _ => unfold qcodeW; exact lift _
end
def tailQ (P : Program) (mk : Mk) (G : Glob) (X : Shapes) (R : Callee) (C : CCallee) (qs : List Nat) (A : Anns) (m : List Bool) (z : Nat) (H : List AV → St → Prop) : Code → List AV → St → (AExit → List AV → St → Prop) → Prop
 | .seq a b => fun T S K => qcodeW P mk G X R C qs A m a T S fun x T' S' =>
  match x with
  | .normal => if firstReg b == z then H T' S' else tailQ P mk G X R C qs A m z H b T' S' K
  | x => K x T' S'
 | c => qcodeW P mk G X R C qs A m c
def tqW (P : Program) (mk : Mk) (G : Glob) (X : Shapes) (R : Callee) (C : CCallee) (qs : List Nat) (A : Anns) (m : List Bool) (z : Nat) (H : List AV → St → Prop) (f : FuncId) (args : List AV) (K : AV → St → Prop) : Prop :=
 match P.funcs[f]? with
 | none => False
 | some fn =>
  match fn.body with
  | none => False
  | some c =>
   tailQ P mk G X R C qs A m z H c (args ++ List.replicate (fn.ntmps - args.length) (.tup [])) ⟨[], []⟩ fun x T S' =>
    match x with
    | .normal | .ret => someK (resultsA P T S' fn.results.toList) fun vs => K (packA vs) S'
    | _ => False
structure TqOk (P : Program) (G : Glob) (X : Shapes) (R : Callee) (C : CCallee) (qs : List Nat) (A : Anns) (m : List Bool) (z : Nat) (H : List AV → St → Prop) (f : FuncId) (args : List AV) (r : AV) : Prop where
 out : tqW P idMk G X R C qs A m z H f args fun r0 _ => RetLax r0 (r, [])
section
variable {P : Program} {G : Glob} {N0 : Nat → Prop} {w0 : World} {I0 : Nat → Nat → Prop}
theorem tailQ_wp {X : Shapes} {R : Callee} {C : CCallee} (hm : P.follows .mixedOrders = true) (hR : CalleeOk P G R) (hC : ICalleeOk P G (lowC C)) {qs : List Nat} {A : Anns} {m : List Bool} {z : Nat} {H : List AV → St → Prop} :
  ∀ (c : Code) {T : List AV} {S : St} {K : AExit → List AV → St → Prop} {E : Env} {a : Act} {w : World} {Q : Exit → Act → World → Prop}, tailQ P idMk G X R C qs A m z H c T S K → SR P G N0 w0 I0 S E w → TR E w T a.tmps →
  (∀ x T' S' E' w' a', K x T' S' → SR P G N0 w0 I0 S' E' w' → Env.Le E E' w w' → TR E' w' T' a'.tmps → a'.defers = a.defers → Q x.to a' w') →
  (∀ b T' S' E' w' a', codeAt z c = some b → H T' S' → SR P G N0 w0 I0 S' E' w' → Env.Le E E' w w' → TR E' w' T' a'.tmps → a'.defers = a.defers → b.wp P Q a' w') → c.wp P Q a w := by
 intro c
 have base : ∀ (c : Code) {T : List AV} {S : St} {K : AExit → List AV → St → Prop} {E : Env} {a : Act} {w : World} {Q : Exit → Act → World → Prop}, qcodeW P idMk G X R C qs A m c T S K → SR P G N0 w0 I0 S E w → TR E w T a.tmps →
   (∀ x T' S' E' w' a', K x T' S' → SR P G N0 w0 I0 S' E' w' → Env.Le E E' w w' → TR E' w' T' a'.tmps → a'.defers = a.defers → Q x.to a' w') → c.wp P Q a w := fun c _ _ _ E a w Q h hS hT hQ =>
  qcodeW_ok (N0 := N0) (w0 := w0) (I0 := I0) hm hR hC A m c _ _ _ E a w Q h hS hT fun x T' S' E' w' a' k0 k1 k2 k3 k4 => hQ x T' S' E' w' a' k0 k1 k2 k3 k4
 induction c with
 | seq ca cb _ ihb =>
  intro T S K E a w Q h hS hT hQ hH
  simp only [tailQ] at h
  refine wp_seq (base ca h hS hT fun x T' S' E' w' a' hk k1 k2 k3 k4 => ?_)
  cases x with
  | exit id => exact hQ (.exit id) T' S' E' w' a' hk k1 k2 k3 k4
  | goto l => exact hQ (.goto l) T' S' E' w' a' hk k1 k2 k3 k4
  | ret => exact hQ .ret T' S' E' w' a' hk k1 k2 k3 k4
  | normal =>
   simp only at hk
   split at hk
   ·rename_i hz
    exact hH cb T' S' E' w' a' (by simp only [codeAt, hz, if_true]) hk k1 k2 k3 k4
   ·rename_i hz
    exact ihb hk k1 k3 (fun x T2 S2 E2 w2 a2 l0 l1 l2 l3 l4 => hQ x T2 S2 E2 w2 a2 l0 l1 (k2.trans l2) l3 (l4.trans k4)) fun b T2 S2 E2 w2 a2 l0 l1 l2 l3 l4 l5 => hH b T2 S2 E2 w2 a2 (by simp only [codeAt, hz]; exact l0) l1 l2 (k2.trans l3) l4 (l5.trans k4)
 | _ => intro T S K E a w Q h hS hT hQ hH; exact base _ h hS hT hQ
theorem tailQ_of {X : Shapes} {R : Callee} {C : CCallee} (hm : P.follows .mixedOrders = true) (hR : CalleeOk P G R) (hC : ICalleeOk P G (lowC C)) {f : FuncId} {fn : Func} {c : Code} (hf : P.funcs[f]? = some fn) (hb : fn.body = some c) (hg : goodFn P f) {s : Spec}
  (h : ∀ args r, s args = some r → ∃ qs A m z H, r.2 = [] ∧ TqOk P G X R C qs A m z H f args r.1 ∧
   ∀ (wb : World) (Eb : Env) (b : Code) (T : List AV) (S : St) (E : Env) (w : World) (a : Act), codeAt z c = some b → H T S → SR P G (· < wb.heap.size) wb Eb.I S E w → Env.Le ⟨Eb.I, fun _ => none, fun _ _ _ => False⟩ E wb w → TR E w T a.tmps → a.defers = [] →
    b.wp P (bodyPost P fn fun e w' => ∃ v, e = .returned v ∧ Res P Eb wb w' r.1 [] v) a w) : SpecOk P G f s := by
 intro g args r lv hr
 simp only at hr
 split at hr
 case isFalse => cases hr
 rename_i e
 subst e
 obtain ⟨qs, A, m, z, H, hlv, hA, hH⟩ := h args _ hr
 simp only at hlv
 subst hlv
 refine fun E w vs hI hG hn hv hcl => .inl ⟨hg, ?_⟩
 have hS0 : SR P G (· < w.heap.size) w E.I ⟨[], []⟩ ⟨E.I, fun _ => none, fun _ _ _ => False⟩ w :=
  ⟨BelowQ.refl _ _, fun _ h => h, hI, fun b o h _ => h, fun id b h => (nomatch h), fun id id' b h => (nomatch h), fun id cs h => (nomatch h), fun g e hg => ⟨(hG g e hg).1, rep_elt_rebase (hG g e hg).2.1 _ _, (hG g e hg).2.2⟩, fun id h => (nomatch h), fun t n v h => False.elim h, fun t n v h => False.elim h, fun t n e h => (nomatch h)⟩
 have hv0 : ∀ (i : Nat) (c : AV) (v : Value), args[i]? = some c → vs[i]? = some v → Rep ⟨E.I, fun _ => none, fun _ _ _ => False⟩ w c v := fun i c v hi hv' => (hv i c v hi hv').rebase (hcl c (List.mem_of_getElem? hi)) _ _
 have hT0 : TR ⟨E.I, fun _ => none, fun _ _ _ => False⟩ w (args ++ List.replicate (fn.ntmps - args.length) (.tup [])) (vs ++ Array.replicate (fn.ntmps - vs.size) undef) := by
  refine ⟨by simp [hn], fun i c v hi hv' => ?_⟩
  by_cases hlt : i < args.length
  ·rw [List.getElem?_append_left hlt] at hi
   rw [Array.getElem?_append_left (by omega)] at hv'
   exact hv0 i c v hi hv'
  ·rw [List.getElem?_append_right (by omega), List.getElem?_replicate] at hi
   rw [Array.getElem?_append_right (by omega), Array.getElem?_replicate] at hv'
   split at hi
   ·split at hv'
    ·simp at hi hv'; subst hi; subst hv'
     exact rep_undef
    ·cases hv'
   ·cases hi
 have hout := hA.out
 unfold tqW at hout
 rw [hf] at hout
 simp only [hb] at hout
 have fin : ∀ (E' : Env) (S' : St) (w' : World) (v : Value), SR P G (· < w.heap.size) w E.I S' E' w' → Env.Le ⟨E.I, fun _ => none, fun _ _ _ => False⟩ E' w w' → (∀ B K, Rep ⟨E'.I, B, K⟩ w' r v) → Res P E w w' r [] v := fun E' S' w' v h1 h2 h3 =>
  ⟨E'.I, fun b o hi => (h2.I b o hi).1, fun b o hi => by
   rcases Nat.lt_or_ge b w.heap.size with hlt | hge
   ·exact .inl (h1.Iold b o hi hlt)
   ·exact .inr ⟨hge, h1.Ilt b o hi⟩, h1.below.below, .inl ⟨rfl, h3⟩⟩
 refine calls_of_wp hf hb (tailQ_wp (N0 := (· < w.heap.size)) (w0 := w) (I0 := E.I) hm hR hC c hout hS0 hT0 (fun x T S1 E' w' a' hk h1 h2 h3 h4 => ?_) fun b T' S' E' w' a' h0 h1 h2 h3 h4 h5 => ?_)
 ·cases x with
  | exit id => exact hk.elim
  | goto l => exact hk.elim
  | normal =>
   obtain ⟨us, hus, hL⟩ := someK_imp hk
   obtain ⟨v, hv, hrep⟩ := results_run h1 h3 hus
   exact ⟨h4, v, hv, v, rfl, fin E' S1 w' v h1 h2 fun B K => rep_closed2 (hL.lax.rep hrep) hL.closed B K⟩
  | ret =>
   obtain ⟨us, hus, hL⟩ := someK_imp hk
   obtain ⟨v, hv, hrep⟩ := results_run h1 h3 hus
   exact ⟨h4, v, hv, v, rfl, fin E' S1 w' v h1 h2 fun B K => rep_closed2 (hL.lax.rep hrep) hL.closed B K⟩
 ·exact hH w E b T' S' E' w' a' h0 h1 h2 h3 h4 h5
end
end Go.Abs
