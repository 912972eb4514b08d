/- Own texts, part 11. -/
import Derived.Test.YtpglogahncpnoaaPart10
import Derived.Test.YtpglogahncpnoaaRows
import Derived.LaidLaws
import Derived.Lay
import Derived.Shelf.Lay

namespace Go.Abs
open Go.ChangeShapes Go.WideShapes Go.ChangeAt Go.RowKit Go.Deep Go.ChangeMaps
open Go.Proofs Go.Proofs.Ytpglogahncpnoaa
section
variable {H : Type} {enc : TypeId × Value → H} {P : Program} {W : World}
theorem fieldR {t:TypeId} {α:Type} {g:α→List AV} {Q:α→Nat→Prop} (hr:ReadsAs P W enc t g Q) (hQ:∀ a n m,Q a n→n≤m→Q a m) {T:TypeId} {fs:Array Field} (hu:P.underlying T = some (.struct fs)) {xs:List (DataW H × List MemPlace)} {n:Nat} {cs:List Value} {x:DataW H × List MemPlace}
  (hx:x = (.agg (xs.map (·.1)),xs.flatMap (·.2))) (hxl:xs.length = fs.size)
  (hf:∀ (i:Nat) (f:Field),fs[i]? = some f→DataW.trod enc P W 0 (fun _=>true) true n f.type ((cs.drop f.offset).take (P.cellsOf f.type)) = xs[i]?)
  (i:Nat) {f:Field} (hi:fs[i]? = some f) (ht:f.type = t) {o s:Nat} (ho:f.offset = o) (hs:P.cellsOf t = s):∃ a,Q a (wmax P T x.1)∧CellsAre W (g a) ((cs.drop o).take s):=by
 have h:=hf i f hi
 rw [ht,ho,hs] at h
 have hil:i < xs.length:=by rw [hxl]; exact (Array.getElem?_eq_some_iff.1 hi).1
 have hg:=List.getElem?_eq_getElem hil
 rw [hg] at h
 obtain ⟨a,h1,h2⟩:=hr n _ _ h
 refine ⟨a,hQ a _ _ h1 ?_,h2⟩
 rw [hx]
 exact wmax_field hu hi ht hg
theorem ReadsAs.map {t:TypeId} {α β:Type} {g:α→List AV} {g':β→List AV} {Q:α→Nat→Prop} {Q':β→Nat→Prop} (h:ReadsAs P W enc t g Q) (f:α→β) (hg:∀ a,g a = g' (f a)) (hQ:∀ a n,Q a n→Q' (f a) n):ReadsAs P W enc t g' Q':=fun n cs x hx=>by
 obtain ⟨a,h1,h2⟩:=h n cs x hx
 exact ⟨f a,hQ a _ h1,by rw [← hg]; exact h2⟩
end
section
variable {H : Type} {enc : TypeId × Value → H} {W : World}
theorem cz3:PI.cellsOf 3 = 1:=by kernel_rfl
theorem cz4:PI.cellsOf 4 = 1:=by kernel_rfl
theorem cz9:PI.cellsOf 9 = 1:=by kernel_rfl
theorem cz30:PI.cellsOf 30 = 2:=by kernel_rfl
theorem cz31:PI.cellsOf 31 = 1:=by kernel_rfl
theorem cz33:PI.cellsOf 33 = 8:=by kernel_rfl
theorem cz35:PI.cellsOf 35 = 11:=by kernel_rfl
theorem cz44:PI.cellsOf 44 = 5:=by kernel_rfl
theorem cz52:PI.cellsOf 52 = 3:=by kernel_rfl
theorem cz61:PI.cellsOf 61 = 24:=by kernel_rfl
theorem cz63:PI.cellsOf 63 = 40:=by kernel_rfl
theorem cz68:PI.cellsOf 68 = 1:=by kernel_rfl
theorem cz75:PI.cellsOf 75 = 3:=by kernel_rfl
theorem cz22:PI.cellsOf 22 = 1:=by kernel_rfl
theorem laidP:laidOutB PI = true:=by kernel_rfl
theorem st30:∃ f0 f1:Field,PI.underlying 30 = some (.struct #[f0,f1])∧(f0.type = 9∧f0.offset = 0)∧(f1.type = 3∧f1.offset = 1):=⟨_,_,Try.underlying30,⟨rfl,rfl⟩,⟨rfl,rfl⟩⟩
theorem st52:∃ f0 f1 f2:Field,PI.underlying 52 = some (.struct #[f0,f1,f2])∧(f0.type = 3∧f0.offset = 0)∧(f1.type = 3∧f1.offset = 1)∧(f2.type = 9∧f2.offset = 2):=⟨_,_,_,Try.underlying52,⟨rfl,rfl⟩,⟨rfl,rfl⟩,⟨rfl,rfl⟩⟩
theorem st75:∃ f0 f1 f2:Field,PI.underlying 75 = some (.struct #[f0,f1,f2])∧(f0.type = 9∧f0.offset = 0)∧(f1.type = 3∧f1.offset = 1)∧(f2.type = 68∧f2.offset = 2):=⟨_,_,_,Try.underlying75,⟨rfl,rfl⟩,⟨rfl,rfl⟩,⟨rfl,rfl⟩⟩
theorem st33:∃ f0 f1 f2 f3 f4 f5 f6:Field,PI.underlying 33 = some (.struct #[f0,f1,f2,f3,f4,f5,f6])∧(f0.type = 30∧f0.offset = 0)∧(f1.type = 3∧f1.offset = 2)∧(f2.type = 3∧f2.offset = 3)∧(f3.type = 9∧f3.offset = 4)∧(f4.type = 9∧f4.offset = 5)∧(f5.type = 3∧f5.offset = 6)∧(f6.type = 31∧f6.offset = 7):=
 ⟨_,_,_,_,_,_,_,Try.underlying33,⟨rfl,rfl⟩,⟨rfl,rfl⟩,⟨rfl,rfl⟩,⟨rfl,rfl⟩,⟨rfl,rfl⟩,⟨rfl,rfl⟩,⟨rfl,rfl⟩⟩
theorem st35:∃ f0 f1 f2 f3:Field,PI.underlying 35 = some (.struct #[f0,f1,f2,f3])∧(f0.type = 9∧f0.offset = 0)∧(f1.type = 4∧f1.offset = 1)∧(f2.type = 3∧f2.offset = 2)∧(f3.type = 33∧f3.offset = 3):=⟨_,_,_,_,Try.underlying35,⟨rfl,rfl⟩,⟨rfl,rfl⟩,⟨rfl,rfl⟩,⟨rfl,rfl⟩⟩
theorem st63:∃ f0 f1 f2 f3 f4 f5:Field,PI.underlying 63 = some (.struct #[f0,f1,f2,f3,f4,f5])∧(f0.type = 3∧f0.offset = 0)∧(f1.type = 3∧f1.offset = 1)∧(f2.type = 3∧f2.offset = 2)∧(f3.type = 33∧f3.offset = 3)∧(f4.type = 44∧f4.offset = 11)∧(f5.type = 61∧f5.offset = 16):=⟨_,_,_,_,_,_,Try.underlying63,⟨rfl,rfl⟩,⟨rfl,rfl⟩,⟨rfl,rfl⟩,⟨rfl,rfl⟩,⟨rfl,rfl⟩,⟨rfl,rfl⟩⟩
theorem st24:∃ f0:Field,PI.underlying 24 = some (.struct #[f0])∧(f0.type = 22∧f0.offset = 0):=⟨_,Try.underlying24,⟨rfl,rfl⟩⟩
def rngI (n:Int):Prop:=-9223372036854775808≤n∧n≤9223372036854775807
theorem mono_le {k n m:Nat} (h:k≤n) (hm:n≤m):k≤m:=Nat.le_trans h hm
theorem rStr:ReadsAs PI W enc 9 (fun s:List UInt8=>[.str s]) (fun s n=>s.length≤n):=reads_str Try.underlying9
theorem rInt:ReadsAs PI W enc 3 (fun n:Int=>[.int .i64 n]) (fun n _=>rngI n):=reads_int Try.underlying3
theorem rBool:ReadsAs PI W enc 4 (fun b:Bool=>[.bool b]) (fun _ _=>True):=reads_bool Try.underlying4
theorem rId:ReadsAs PI W enc 30 (fun p:List UInt8 × Int=>[.str p.1,.int .i64 p.2]) (fun p n=>p.1.length≤n∧rngI p.2):=by
 intro n cs x h
 obtain ⟨f0,f1,hu,⟨t0,o0⟩,⟨t1,o1⟩⟩:=st30
 obtain ⟨xs,m,_,hx,hlen,hxl,hf⟩:=DataW.trod_struct hu h
 obtain ⟨a0,q0,c0⟩:=fieldR rStr (fun _ _ _=>mono_le) hu hx hxl hf 0 rfl t0 o0 cz9
 obtain ⟨a1,q1,c1⟩:=fieldR rInt (fun _ _ _ h _=>h) hu hx hxl hf 1 rfl t1 o1 cz3
 exact ⟨(a0,a1),⟨q0,q1⟩,c0.next rfl (c1.last (by rw [hlen]; exact cz30))⟩
theorem rVal:ReadsAs PI W enc 52 (fun v:VaI=>(vaA v).cells) (fun _ _=>True):=by
 intro n cs x h
 obtain ⟨f0,f1,f2,hu,⟨t0,o0⟩,⟨t1,o1⟩,⟨t2,o2⟩⟩:=st52
 obtain ⟨xs,m,_,hx,hlen,hxl,hf⟩:=DataW.trod_struct hu h
 obtain ⟨a0,q0,c0⟩:=fieldR rInt (fun _ _ _ h _=>h) hu hx hxl hf 0 rfl t0 o0 cz3
 obtain ⟨a1,q1,c1⟩:=fieldR rInt (fun _ _ _ h _=>h) hu hx hxl hf 1 rfl t1 o1 cz3
 obtain ⟨a2,q2,c2⟩:=fieldR rStr (fun _ _ _=>mono_le) hu hx hxl hf 2 rfl t2 o2 cz9
 exact ⟨⟨a0,a1,a2⟩,trivial,c0.next rfl (c1.next rfl (c2.last (by rw [hlen]; exact cz52)))⟩
theorem rVals:ReadsAs PI W enc 31 (fun l:List VaI=>[.sl 3 (vasL l) .no]) (fun l n=>l.length≤n):=fun n cs x h=>by
 obtain ⟨l,h1,h2⟩:=reads_slice (g:=vaA) Try.underlying31 cz52 (by omega) (by decide +kernel) (fun _=>⟨rfl,rfl⟩) rVal (fun _ _ _ _ _=>trivial) n cs x h
 exact ⟨l,h1.1,h2⟩
theorem rInts:ReadsAs PI W enc 68 (fun l:List Int=>[.sl 1 (intsA l) .no]) (fun l n=>l.length≤n):=fun n cs x h=>by
 obtain ⟨l,h1,h2⟩:=reads_slice (g:=AV.int .i64) Try.underlying68 cz3 (by omega) (by decide +kernel) (fun _=>⟨rfl,rfl⟩) rInt (fun _ _ _ h _=>h) n cs x h
 exact ⟨l,h1.1,h2⟩
def fcQ (f:FcI) (n:Nat):Prop:=(f.src.length≤n∧rngI f.seq)∧f.table.length≤n∧f.key.length≤n∧f.fs.length≤n∧rngI f.kind
theorem fcQ_mono (f:FcI) (n m:Nat) (h:fcQ f n) (hm:n≤m):fcQ f m:=⟨⟨mono_le h.1.1 hm,h.1.2⟩,mono_le h.2.1 hm,mono_le h.2.2.1 hm,mono_le h.2.2.2.1 hm,h.2.2.2.2⟩
theorem rFact:ReadsAs PI W enc 33 fcC fcQ:=by
 intro n cs x h
 obtain ⟨f0,f1,f2,f3,f4,f5,f6,hu,⟨t0,o0⟩,⟨t1,o1⟩,⟨t2,o2⟩,⟨t3,o3⟩,⟨t4,o4⟩,⟨t5,o5⟩,⟨t6,o6⟩⟩:=st33
 obtain ⟨xs,m,_,hx,hlen,hxl,hf⟩:=DataW.trod_struct hu h
 obtain ⟨a0,q0,c0⟩:=fieldR rId (fun _ _ _ h hm=>⟨mono_le h.1 hm,h.2⟩) hu hx hxl hf 0 rfl t0 o0 cz30
 obtain ⟨a1,q1,c1⟩:=fieldR rInt (fun _ _ _ h _=>h) hu hx hxl hf 1 rfl t1 o1 cz3
 obtain ⟨a2,q2,c2⟩:=fieldR rInt (fun _ _ _ h _=>h) hu hx hxl hf 2 rfl t2 o2 cz3
 obtain ⟨a3,q3,c3⟩:=fieldR rStr (fun _ _ _=>mono_le) hu hx hxl hf 3 rfl t3 o3 cz9
 obtain ⟨a4,q4,c4⟩:=fieldR rStr (fun _ _ _=>mono_le) hu hx hxl hf 4 rfl t4 o4 cz9
 obtain ⟨a5,q5,c5⟩:=fieldR rInt (fun _ _ _ h _=>h) hu hx hxl hf 5 rfl t5 o5 cz3
 obtain ⟨a6,q6,c6⟩:=fieldR rVals (fun _ _ _=>mono_le) hu hx hxl hf 6 rfl t6 o6 cz31
 exact ⟨⟨a0.1,a0.2,a1,a2,a3,a4,a5,a6⟩,⟨q0,q3,q4,q6,q1⟩,c0.next rfl (c1.next rfl (c2.next rfl (c3.next rfl (c4.next rfl (c5.next rfl (c6.last (by rw [hlen]; exact cz33)))))))⟩
theorem rPacket:ReadsAs PI W enc 35 (fun p:PkI=>(pkA p).cells) (fun p n=>fcQ p.f n∧p.src.length≤n):=by
 intro n cs x h
 obtain ⟨f0,f1,f2,f3,hu,⟨t0,o0⟩,⟨t1,o1⟩,⟨t2,o2⟩,⟨t3,o3⟩⟩:=st35
 obtain ⟨xs,m,_,hx,hlen,hxl,hf⟩:=DataW.trod_struct hu h
 obtain ⟨a0,q0,c0⟩:=fieldR rStr (fun _ _ _=>mono_le) hu hx hxl hf 0 rfl t0 o0 cz9
 obtain ⟨a1,q1,c1⟩:=fieldR rBool (fun _ _ _ h _=>h) hu hx hxl hf 1 rfl t1 o1 cz4
 obtain ⟨a2,q2,c2⟩:=fieldR rInt (fun _ _ _ h _=>h) hu hx hxl hf 2 rfl t2 o2 cz3
 obtain ⟨a3,q3,c3⟩:=fieldR rFact fcQ_mono hu hx hxl hf 3 rfl t3 o3 cz33
 exact ⟨⟨a0,a1,a2,a3⟩,⟨q3,q0⟩,c0.next rfl (c1.next rfl (c2.next rfl (c3.last (by rw [hlen]; exact cz35))))⟩
theorem rPackets:ReadsAs PI W enc 25 (fun l:List PkI=>[.sl 11 (pksL l) .no]) (fun l n=>l.length≤n∧∀ p ∈ l,fcQ p.f n∧p.src.length≤n):=
 reads_slice (g:=pkA) Try.underlying25 cz35 (by omega) (by decide +kernel) (fun _=>⟨rfl,rfl⟩) rPacket (fun p n m h hm=>⟨fcQ_mono _ _ _ h.1 hm,mono_le h.2 hm⟩)
theorem rInbox:ReadsAs PI W enc 75 (fun b:BxI=>(bxA b).cells) (fun b n=>b.src.length≤n∧b.ahead.length≤n):=by
 intro n cs x h
 obtain ⟨f0,f1,f2,hu,⟨t0,o0⟩,⟨t1,o1⟩,⟨t2,o2⟩⟩:=st75
 obtain ⟨xs,m,_,hx,hlen,hxl,hf⟩:=DataW.trod_struct hu h
 obtain ⟨a0,q0,c0⟩:=fieldR rStr (fun _ _ _=>mono_le) hu hx hxl hf 0 rfl t0 o0 cz9
 obtain ⟨a1,q1,c1⟩:=fieldR rInt (fun _ _ _ h _=>h) hu hx hxl hf 1 rfl t1 o1 cz3
 obtain ⟨a2,q2,c2⟩:=fieldR rInts (fun _ _ _=>mono_le) hu hx hxl hf 2 rfl t2 o2 cz68
 exact ⟨⟨a0,a1,a2⟩,⟨q0,q2⟩,c0.next rfl (c1.next rfl (c2.last (by rw [hlen]; exact cz75)))⟩
theorem rInboxes:ReadsAs PI W enc 22 (fun l:List BxI=>[.sl 3 (bxsL l) .no]) (fun l n=>l.length≤n∧∀ b ∈ l,b.src.length≤n∧b.ahead.length≤n):=
 reads_slice (g:=bxA) Try.underlying22 cz75 (by omega) (by decide +kernel) (fun _=>⟨rfl,rfl⟩) rInbox (fun p n m h hm=>⟨mono_le h.1 hm,mono_le h.2 hm⟩)
theorem rReceiver:ReadsAs PI W enc 24 (fun l:List BxI=>[.sl 3 (bxsL l) .no]) (fun l n=>l.length≤n∧∀ b ∈ l,b.src.length≤n∧b.ahead.length≤n):=by
 intro n cs x h
 obtain ⟨f0,hu,⟨t0,o0⟩⟩:=st24
 obtain ⟨xs,m,_,hx,hlen,hxl,hf⟩:=DataW.trod_struct hu h
 obtain ⟨a0,q0,c0⟩:=fieldR rInboxes (fun _ _ _ h hm=>⟨mono_le h.1 hm,fun b hb=>⟨mono_le (h.2 b hb).1 hm,mono_le (h.2 b hb).2 hm⟩⟩) hu hx hxl hf 0 rfl t0 o0 cz22
 exact ⟨a0,q0,c0.last (by rw [hlen]; kernel_rfl)⟩
theorem rEntry:ReadsAs PI W enc 63 (fun e:EnI=>(enA e).cells) (fun e n=>fcQ e.f n):=by
 intro n cs x h
 obtain ⟨f0,f1,f2,f3,f4,f5,hu,⟨t0,o0⟩,⟨t1,o1⟩,⟨t2,o2⟩,⟨t3,o3⟩,⟨t4,o4⟩,⟨t5,o5⟩⟩:=st63
 obtain ⟨xs,m,_,hx,hlen,hxl,hf⟩:=DataW.trod_struct hu h
 obtain ⟨a0,q0,c0⟩:=fieldR rInt (fun _ _ _ h _=>h) hu hx hxl hf 0 rfl t0 o0 cz3
 obtain ⟨a1,q1,c1⟩:=fieldR rInt (fun _ _ _ h _=>h) hu hx hxl hf 1 rfl t1 o1 cz3
 obtain ⟨a2,q2,c2⟩:=fieldR rInt (fun _ _ _ h _=>h) hu hx hxl hf 2 rfl t2 o2 cz3
 obtain ⟨a3,q3,c3⟩:=fieldR rFact fcQ_mono hu hx hxl hf 3 rfl t3 o3 cz33
 obtain ⟨a4,q4,c4⟩:=fieldR (reads_any laidP (t:=44) (by kernel_rfl) ⟨_,Try.underlying44⟩) (fun _ _ _ h _=>h) hu hx hxl hf 4 rfl t4 o4 cz44
 obtain ⟨a5,q5,c5⟩:=fieldR (reads_any laidP (t:=61) (by kernel_rfl) ⟨_,Try.underlying61⟩) (fun _ _ _ h _=>h) hu hx hxl hf 5 rfl t5 o5 cz61
 rw [cz44] at c4
 rw [cz61] at c5
 have c0':CellsAre W [AV.opq] ((cs.drop 0).take 1):=⟨c0.1,fun j c u hc hu=>by
  match j,hc,hu with
  | 0,hc,hu =>
   simp only [List.getElem?_cons_zero,Option.some.injEq] at hc
   subst hc
   have:=c0.2 0 _ u rfl hu
   exact ⟨.opq _ this.2,this.2⟩
  | j + 1,hc,_=>simp at hc⟩
 exact ⟨⟨a1,a2,a3⟩,q3,c0'.next rfl (c1.next rfl (c2.next rfl (c3.next rfl (c4.next rfl (c5.last (by rw [hlen]; exact cz63))))))⟩
theorem rEntries:ReadsAs PI W enc 42 (fun l:List EnI=>[.sl 40 (ensL l) .no]) (fun l n=>l.length≤n∧∀ e ∈ l,fcQ e.f n):=
 reads_slice (g:=enA) Try.underlying42 cz63 (by omega) (by decide +kernel) (fun _=>⟨rfl,rfl⟩) rEntry (fun p n m h hm=>fcQ_mono _ _ _ h hm)
/-! arguments -/
theorem open_one {t:TypeId} {α:Type} {g:α→AV} {Q:α→Nat→Prop} (hr:ReadsAs PI W enc t (fun a=>[g a]) Q) {v:Value} {d:DataW H} {ps:List MemPlace} (h1:∃ u,v.cells = #[u]∧v = u) (h:DataW.Trod enc PI W 0 (fun _=>true) true t v d ps):∃ a,Rep (oldE W) W (g a) v∧Q a (wmax PI t d):=by
 obtain ⟨u,hu,rfl⟩:=h1
 obtain ⟨fuel,h⟩:=h
 rw [hu] at h
 obtain ⟨a,q,c⟩:=hr fuel _ _ h
 exact ⟨a,(c.2 0 _ _ rfl rfl).1,q⟩
theorem open_agg {t:TypeId} {α:Type} {g:α→List AV} {Q:α→Nat→Prop} (hr:ReadsAs PI W enc t g Q) {v:Value} {d:DataW H} {ps:List MemPlace} (h1:∃ cs,v = .agg cs) (h:DataW.Trod enc PI W 0 (fun _=>true) true t v d ps):∃ a,Rep (oldE W) W (.agg (g a)) v∧Q a (wmax PI t d):=by
 obtain ⟨cs,rfl⟩:=h1
 obtain ⟨fuel,h⟩:=h
 obtain ⟨a,q,c⟩:=hr fuel _ _ h
 refine ⟨a,.agg _ cs ?_ (fun i v hv=>?_) fun i c' v hc hv=>?_,q⟩
 ·have:(g a).length = cs.toList.length:=c.1
  rw [this,Array.length_toList]
 ·have hv':cs.toList[i]? = some v:=by rw [Array.getElem?_toList]; exact hv
  have hil:i < (g a).length:=by rw [c.1]; exact (List.getElem?_eq_some_iff.1 hv').1
  exact (c.2 i _ v (List.getElem?_eq_getElem hil) hv').2
 ·exact (c.2 i c' v hc (by show cs.toList[i]? = some v; rw [Array.getElem?_toList]; exact hv)).1
end
open Go.Proofs Go.Proofs.Ytpglogahncpnoaa
section
variable {W : World}
theorem nGlobI:0 < PI.globals.size:=by
 have:decide (0 < PI.globals.size) = true:=by kernel_rfl
 exact of_decide_eq_true this
theorem globI (hsh:W.ShapedOpen PI) {m:Int} (hm:W.cell? ⟨0,0,none⟩ = some (.int .i64 m)):GlobOk (GI m) (oldE W) W:=by
 refine globA (fun g e hg=>?_) fun g e hg=>?_
 ·match g,hg with
  | 0,hg =>
   simp only [GI,Option.some.injEq] at hg
   subst hg
   refine ⟨rfl,fun j c hj=>?_⟩
   match j,hj with
   | 0,hj=>simp [AV.cells] at hj; subst hj; exact ⟨_,hm,.int _ _,rfl⟩
   | j + 1,hj=>simp [AV.cells] at hj
  | g + 1,hg=>cases hg
 ·match g,hg with
  | 0,hg =>
   simp only [GI,Option.some.injEq] at hg
   subst hg
   exact glob_size hsh (n:=1) nGlobI (by kernel_rfl)
  | g + 1,hg=>cases hg
end
/-! what the bound on all that is read gives -/
theorem rc3_of {l:List BxI} {n:Nat} (h:l.length≤n∧∀ b ∈ l,b.src.length≤n∧b.ahead.length≤n) (hn:n≤140737488351232):rc3 l = true:=by
 simp only [rc3,List.all_eq_true,Bool.and_eq_true,decide_eq_true_eq]
 intro b hb
 have:=h.2 b hb
 omega
theorem pk3_of {l:List PkI} {n:Nat} (h:l.length≤n∧∀ p ∈ l,fcQ p.f n∧p.src.length≤n) (hn:n≤140737488351232):pk3 l = true:=by
 simp only [pk3,List.all_eq_true,Bool.and_eq_true,decide_eq_true_eq]
 intro p hp
 obtain ⟨⟨⟨h1,_⟩,h2,h3,h4,_⟩,_⟩:=h.2 p hp
 omega
theorem en4_of {l:List EnI} {n:Nat} (h:l.length≤n∧∀ e ∈ l,fcQ e.f n) (hn:n≤140737488351232):∀ e ∈ l,enOk e:=fun e he=>by
 obtain ⟨⟨h1,h5⟩,h2,h3,h4,_⟩:=h.2 e he
 exact ⟨by omega,by omega,by omega,by omega,h5.1,h5.2⟩
theorem one_slice {P:Program} {W:World} {t e:TypeId} {v:Value} {b:Nat} (ht:P.underlying t = some (.slice e)) (h:Value.okWide P W .any b t v):∃ u,v.cells = #[u]∧v = u:=by
 obtain ⟨A,n,c,rfl⟩:=okWide_slice ht h
 exact ⟨_,rfl,rfl⟩
theorem one_int {P:Program} {W:World} {t:TypeId} {k:IntKind} {v:Value} {b:Nat} (ht:P.underlying t = some (.int k)) (h:Value.okWide P W .any b t v):∃ u,v.cells = #[u]∧v = u:=by
 obtain ⟨n,rfl⟩:=okWide_int ht h
 exact ⟨_,rfl,rfl⟩
theorem is_agg {P:Program} {W:World} {t:TypeId} {fs:Array Field} {v:Value} {b:Nat} (ht:P.underlying t = some (.struct fs)) (h:Value.okWide P W .any b t v):∃ cs,v = .agg cs:=by
 obtain ⟨cs,h,_⟩:=okWide_struct ht h
 exact ⟨cs,h⟩
theorem witness_row_shaped {H:Type} {enc:TypeId × Value→H} {C:Checked} {os:Os} {f:FuncId} {fn:Func} {s:OpenSpec} {conds:List PathCond} {apart:Bool} {laid:List (String × DataW Unit)} (w0:World) (args:Array Value) (hos:w0.os = os)
  (hsh:(w0.forCall (fun _ _=>0) ⟨#[],args,[]⟩).Shaped C.prog)
  (hok:Input.okWideB C.prog (w0.forCall (fun _ _=>0) ⟨#[],args,[]⟩) f ⟨#[],args,[]⟩ = true)
  (hrow:s.preRow enc C.prog fn conds apart laid (w0.forCall (fun _ _=>0) ⟨#[],args,[]⟩).memory args) :
  ∃ (w:World) (tape:Tape) (i:Input),w.os = os∧(w.forCall tape i).Shaped C.prog∧i.vars = []∧Input.okWide C.prog (w.forCall tape i) .any w.heap.size f i ∧
   s.preRow enc C.prog fn conds apart laid (w.forCall tape i).memory i.args∧({}:Assume).holds C.prog (lone (Frame.enter C.prog f i.args .normal) [] (w.forCall tape i)):=
 ⟨w0,fun _ _=>0,⟨#[],args,[]⟩,hos,hsh,(Input.okWide_of_okWideB (base:=0) hok).1,(Input.okWide_of_okWideB hok).2,hrow,by
  simp only [Assume.holds]
  exact ⟨by simp,by simp,fun _=>Modest.zero,by simp,by simp⟩⟩
end Go.Abs
