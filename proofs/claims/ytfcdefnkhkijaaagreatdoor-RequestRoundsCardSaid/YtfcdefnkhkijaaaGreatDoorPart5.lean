/- Own texts, part 5. -/
import Derived.Test.YtfcdefnkhkijaaaGreatDoorProg
import Derived.Test.YtfcdefnkhkijaaaGreatDoorChecked
import Derived.WalkKit
import Derived.Defers
import Derived.Recover
import Derived.KernelRfl
import Derived.Laws.Pointers
import Derived.WalkLawsBesides
import Derived.BigQuiet
import Derived.Laws.BitsAllLaws
import Derived.Below
import Derived.WalkSmall
import Derived.Tactics2
import Derived.Laws.BytesString
import Derived.Test.YtfcdefnkhkijaaaGreatDoorPart4
import Derived.Test.YtfcdefnkhkijaaaGreatDoorShelf
import Derived.Lib.DecodeNEq
import Derived.Lib.IndexMore
import Derived.Lib.IndexBytes
import Derived.Test.YtfcdefnkhkijaaaGreatDoorPart3
import Derived.Lib.AtoiAll
import Derived.Lib.AtoiErrMem
import Derived.Lib.AppendIntMem

namespace Go.Proofs.Z05
open Go.RowKit
theorem caught_idle (p q:Addr) (w:World) :
  CallsD Tryz.prog 80 #[.pointer (some p),.pointer (some q)] .returning w fun e u' w'=>e = .returned (.tuple #[])∧u' = .returning∧w' = w:=by
 refine callsD_of_wpS Tryz.func80 rfl fun c₀ cs hu=>?_
 apply wpS_seq
 apply wpS_region
 simp [wpOpsS,go_sem,recoverD,hu,Tryz.ntmps80,Exit.thenS]
 have hnil:∀ w:World,(binOp BinOp.neq 20 .nilIface .nilIface).run Tryz.prog w = .ok (.bool false) w:=fun _=>by kernel_rfl
 apply wpS_seq
 apply wpS_region
 simp [wpOpsS,go_sem,Exit.thenS]
 refine wpS_cond (t:=false) (by simp [Act.eval,Array.replicate]) ?_
 simp only [Bool.false_eq_true,if_false]
 refine wpS_of_wp (wp_skip ?_)
 cases c₀
 simp_all [bodyPostS,results,Tryz.results80]
theorem caught_code (p q:Addr) (x y c:Int) (older:List PanicEntry) (w:World) (hp:w.cell? p = some (.int .i64 x)) (hq:(w.setCell p (.int .i64 0)).cell? q = some (.int .i64 y)) (fp:w.frozen? p = false) (fq:w.frozen? q = false) :
  CallsD Tryz.prog 80 #[.pointer (some p),.pointer (some q)] (.panicking ({ v:=.iface 28 (.int .i64 c),recovered:=false } :: older)) w fun e u' w' =>
   e = .returned (.tuple #[])∧u' = .panicking ({ v:=.iface 28 (.int .i64 c),recovered:=true } :: older)∧w' = (w.setCell p (.int .i64 0)).setCell q (.int .i64 c):=by
 refine callsD_of_wpS Tryz.func80 rfl fun c₀ cs hu=>?_
 apply wpS_seq
 apply wpS_region
 simp [wpOpsS,go_sem,recoverD,hu,Tryz.ntmps80,Exit.thenS]
 have hne:∀ w:World,(binOp BinOp.neq 20 (.iface 28 (.int .i64 c)) .nilIface).run Tryz.prog w = .ok (.bool true) w:=fun _=>by kernel_rfl
 have hta:∀ w:World,(Instr.typeAssert (.iface 28 (.int .i64 c)) 20 28 true).run Tryz.prog w = .ok (.tuple #[.int .i64 c,.bool true]) w:=fun _=>by kernel_rfl
 apply wpS_seq
 apply wpS_region
 simp [wpOpsS,go_sem,Exit.thenS,hne]
 refine wpS_cond (t:=true) (by simp [Act.eval,Array.replicate]) ?_
 simp only [if_true]
 apply wpS_seq
 apply wpS_region
 simp [wpOpsS,go_sem,Exit.thenS,hta]
 apply wpS_seq
 apply wpS_seq
 apply wpS_region
 simp [wpOpsS,go_sem,Exit.thenS]
 refine wpS_cond (t:=false) (by simp [Act.eval,Array.replicate]) ?_
 simp only [Bool.false_eq_true,if_false]
 refine wpS_of_wp (wp_skip ?_)
 simp only [Exit.thenS]
 apply wpS_region
 simp [wpOpsS,go_sem,hp,hq,fp,fq,bodyPostS,results,Tryz.results80]
end Go.Proofs.Z05
namespace Go.Proofs.Z05
open Go.RowKit
theorem open_bad (oa:Option Addr) (n c:Nat) (at_:Int) (h:at_ < 0∨(n:Int) < at_) (w:World) :
  Calls Tryz.prog 81 #[.slice oa n c,.int .i64 at_] w fun e w'=>e = .panicked [{ v:=.iface 28 (.int .i64 1),recovered:=false }]∧w' = w:=by
 go_enter Tryz.func81,Tryz.ntmps81
 go_wp2
 all_goals first | exact ⟨rfl,rfl⟩ | (simp [bodyPost]; done) | (exfalso; omega) | trace_state
theorem open_ok (oa:Option Addr) (n c:Nat) (at_:Int) (h0:0≤at_) (h:at_≤(n:Int)) (w:World) :
  Calls Tryz.prog 81 #[.slice oa n c,.int .i64 at_] w fun e w'=>e = .returned (.pointer (some ⟨w.heap.size,0,none⟩))∧w' = w.alloc (.cells #[.slice oa n c,.int .i64 at_] 146):=by
 go_enter Tryz.func81,Tryz.ntmps81
 go_wp2
 all_goals first | (exfalso; omega) | (go_ret; exact ⟨rfl,rfl⟩) | trace_state
end Go.Proofs.Z05
namespace Go.Proofs.Z05
open Go.RowKit
theorem take_short (b:Nat) (oa:Option Addr) (n c:Nat) (a k:Int) (w:World) (ha:0≤a) (han:a≤n) (hn:(n:Int)≤1000000000000) (_hk0:0≤k) (_hk1:k < 18446744073709551616) (h:(n:Int) - a < k)
  (hb:w.cell? ⟨b,0,none⟩ = some (.slice oa n c)) (hc:w.cell? ⟨b,1,none⟩ = some (.int .i64 a)) :
  Calls Tryz.prog 82 #[.pointer (some ⟨b,0,none⟩),.int .u64 k] w fun e w'=>e = .panicked [{ v:=.iface 28 (.int .i64 41),recovered:=false }]∧∃ q,w' = w.drewN q:=by
 go_enter Tryz.func82,Tryz.ntmps82
 go_wp2_with fail
 go_quiet (fail)
 go_wp2
 all_goals first | exact ⟨rfl,rfl,_,rfl⟩ | (simp [bodyPost]; done) | (exfalso; omega) | trace_state
def Stands (k a:Int) (off o:Nat):Prop:=k = 0∨o = off + a.toNat
theorem take_some (b bb off n c:Nat) (a k:Int) (w:World) (ha:0≤a) (han:a≤n) (hn:(n:Int)≤1000000000000) (hnc:n≤c) (hk0:0≤k) (h:k≤(n:Int) - a) (hfz:w.frozen? ⟨b,1,none⟩ = false)
  (hb:w.cell? ⟨b,0,none⟩ = some (.slice (some ⟨bb,off,none⟩) n c)) (hc:w.cell? ⟨b,1,none⟩ = some (.int .i64 a)) :
  Calls Tryz.prog 82 #[.pointer (some ⟨b,0,none⟩),.int .u64 k] w fun e w'=>∃ q o,Stands k a off o∧e = .returned (.slice (some ⟨bb,o,none⟩) k.toNat k.toNat)∧w' = (w.drewN q).setCell ⟨b,1,none⟩ (.int .i64 (a + k)):=by
 go_enter Tryz.func82,Tryz.ntmps82
 go_wp2_with fail
 go_quiet (fail)
 go_wp2_with fail
 go_quiet (fail)
 go_wp2
 ·have hk:k = 0:=by omega
  subst hk
  go_ret
  exact ⟨_,_,.inl rfl,rfl,rfl⟩
 ·have e:(a + k).toNat - a.toNat = k.toNat:=by omega
  go_ret
  rw [e]
  exact ⟨_,_,.inr rfl,rfl,rfl⟩
end Go.Proofs.Z05
namespace Go.Wire
def accZ (acc:Int) (j:Nat) (c:UInt8):Int:=bits BinOp.or .u64 acc (IntKind.u64.wrap (IntKind.u64.wrap (bits BinOp.and .u8 c.toNat 127) * 2 ^ (7 * j)))
def numR:Nat→Nat→List UInt8→Int→Except Int (Int × Nat)
 | 0,_,_,_=>.error 3
 | _ + 1,_,[],_=>.error 41
 | f + 1,i,c :: t,acc =>
  if c.toNat < 128 then (if (i = 9∧1 < c.toNat)∨(0 < i∧c.toNat = 0) then .error 3 else .ok (accZ acc i c,i + 1))
  else numR f (i + 1) t (accZ acc i c)
def uintP:Nat→List UInt8→Except Int (Nat × Nat)
 | 0,_=>.error 3
 | _ + 1,[]=>.error 41
 | f + 1,c :: t =>
  if c.toNat < 128 then (if (f = 0∧1 < c.toNat)∨(f < 9∧c.toNat = 0) then .error 3 else .ok (c.toNat,1))
  else match uintP f t with
   | .error x=>.error x
   | .ok (v,m)=>.ok (v * 128 + (c.toNat - 128),m + 1)
theorem uintP_bound:∀ (f:Nat) (l:List UInt8) (v m:Nat),uintP f l = .ok (v,m)→v < 2 ^ (7 * (f - 1) + 1)∧1≤m∧m≤f∧m≤l.length
 | 0,l,v,m,h=>by simp [uintP] at h
 | f + 1,[],v,m,h=>by simp [uintP] at h
 | f + 1,c :: t,v,m,h=>by
  have hc:=c.toNat_lt
  rw [uintP] at h
  split at h
  ·rename_i h1
   split at h
   ·cases h
   ·rename_i h2
    simp only [Except.ok.injEq,Prod.mk.injEq] at h
    obtain ⟨rfl,rfl⟩:=h
    refine ⟨?_,Nat.le_refl _,by omega,by simp⟩
    rcases Nat.eq_zero_or_pos f with h0 | h0
    ·subst h0
     have:¬ 1 < c.toNat:=fun h=>h2 (.inl ⟨rfl,h⟩)
     simp; omega
    ·have:2 ^ 8≤2 ^ (7 * (f + 1 - 1) + 1):=Nat.pow_le_pow_right (by omega) (by omega)
     omega
  ·rename_i h1
   cases hr:uintP f t with
   | error x=>rw [hr] at h; cases h
   | ok vm =>
    obtain ⟨v',m'⟩:=vm
    rw [hr] at h
    simp only [Except.ok.injEq,Prod.mk.injEq] at h
    obtain ⟨rfl,rfl⟩:=h
    obtain ⟨h2,h3,h4,h5⟩:=uintP_bound f t v' m' hr
    refine ⟨?_,by omega,by omega,by simp; omega⟩
    have e:2 ^ (7 * (f + 1 - 1) + 1) = 128 * 2 ^ (7 * (f - 1) + 1):=by
     have:7 * (f + 1 - 1) + 1 = 7 * (f - 1) + 1 + 7:=by omega
     rw [this,Nat.pow_add]
     omega
    omega
theorem or_add {a b i:Nat} (h:a < 2 ^ i):a ||| b * 2 ^ i = a + b * 2 ^ i:=by
 have:=Nat.two_pow_add_eq_or_of_lt h b
 rw [Nat.or_comm,Nat.mul_comm,← this,Nat.add_comm]
theorem accZ_eq {acc j:Nat} {c:UInt8} (hj:j≤9) (ha:acc < 2 ^ (7 * j)) (hb:j = 9→c.toNat≤1):accZ acc j c = ((acc + c.toNat % 128 * 2 ^ (7 * j):Nat):Int):=by
 have hc:=c.toNat_lt
 have h1:bits BinOp.and .u8 (c.toNat:Int) 127 = ((c.toNat % 128:Nat):Int):=by
  have:=u8_and_nat c.toNat 127 (by omega) (by omega)
  rw [show ((127:Nat):Int) = 127 by rfl] at this
  rw [this]
  congr 1
  exact Nat.and_two_pow_sub_one_eq_mod c.toNat 7
 have hp:c.toNat % 128 * 2 ^ (7 * j) < 2 ^ 64:=by
  rcases Nat.lt_or_ge j 9 with h | h
  ·have:2 ^ (7 * j)≤2 ^ 56:=Nat.pow_le_pow_right (by omega) (by omega)
   have h2:c.toNat % 128 * 2 ^ (7 * j)≤127 * 2 ^ 56:=Nat.mul_le_mul (by omega) this
   omega
  ·obtain rfl:j = 9:=by omega
   have:=hb rfl
   have h2:c.toNat % 128 * 2 ^ (7 * 9)≤1 * 2 ^ 63:=Nat.mul_le_mul (by omega) (by omega)
   omega
 have ha64:acc < 2 ^ 64:=Nat.lt_of_lt_of_le ha (Nat.pow_le_pow_right (by omega) (by omega))
 unfold accZ
 rw [h1]
 have w1:IntKind.u64.wrap ((c.toNat % 128:Nat):Int) = ((c.toNat % 128:Nat):Int):=by
  simp only [IntKind.wrap,IntKind.bits,IntKind.signed]; simp; omega
 rw [w1]
 have w2:IntKind.u64.wrap (((c.toNat % 128:Nat):Int) * 2 ^ (7 * j)) = ((c.toNat % 128 * 2 ^ (7 * j):Nat):Int):=by
  have e:((c.toNat % 128:Nat):Int) * 2 ^ (7 * j) = ((c.toNat % 128 * 2 ^ (7 * j):Nat):Int):=by push_cast; rfl
  rw [e]
  generalize c.toNat % 128 * 2 ^ (7 * j) = X at *
  simp only [IntKind.wrap,IntKind.bits,IntKind.signed]; simp; omega
 rw [w2,u64_or_nat _ _ (by omega) (by omega),or_add ha]
theorem numR_eq:∀ (f i:Nat) (l:List UInt8) (acc:Nat),f + i = 10→acc < 2 ^ (7 * i)→numR f i l acc = match uintP f l with
  | .error x=>.error x
  | .ok (v,m)=>.ok (((acc + v * 2 ^ (7 * i):Nat):Int),i + m)
 | 0,i,l,acc,hf,ha=>rfl
 | f + 1,i,[],acc,hf,ha=>rfl
 | f + 1,i,c :: t,acc,hf,ha=>by
  have hc:=c.toNat_lt
  rw [numR,uintP]
  by_cases h1:c.toNat < 128
  ·rw [if_pos h1,if_pos h1]
   by_cases h2:(i = 9∧1 < c.toNat)∨(0 < i∧c.toNat = 0)
   ·rw [if_pos h2,if_pos (by omega)]
   ·rw [if_neg h2,if_neg (by omega),accZ_eq (by omega) ha (by omega),Nat.mod_eq_of_lt h1]
  ·rw [if_neg h1,if_neg h1]
   rcases Nat.eq_zero_or_pos f with h0 | h0
   ·subst h0; rfl
   ·have hlt:acc + c.toNat % 128 * 2 ^ (7 * i) < 2 ^ (7 * (i + 1)):=by
     have e:2 ^ (7 * (i + 1)) = 128 * 2 ^ (7 * i):=by rw [Nat.mul_add,Nat.pow_add]; omega
     have h2:c.toNat % 128 * 2 ^ (7 * i)≤127 * 2 ^ (7 * i):=Nat.mul_le_mul (by omega) (by omega)
     omega
    rw [accZ_eq (by omega) ha (by omega),numR_eq f (i + 1) t _ (by omega) hlt]
    cases hr:uintP f t with
    | error x=>rfl
    | ok vm =>
     obtain ⟨v,m⟩:=vm
     simp only [Except.ok.injEq,Prod.mk.injEq]
     refine ⟨?_,by omega⟩
     have e:2 ^ (7 * (i + 1)) = 128 * 2 ^ (7 * i):=by rw [Nat.mul_add,Nat.pow_add]; omega
     have e2:c.toNat % 128 = c.toNat - 128:=by omega
     rw [e,e2,Nat.add_mul,← Nat.mul_assoc]
     generalize 2 ^ (7 * i) = X
     congr 1
     omega
def uintL (n:Nat):List UInt8:=if n < 128 then [UInt8.ofNat n] else UInt8.ofNat (n % 128 + 128) :: uintL (n / 128)
theorem uintL_small {n:Nat} (h:n < 128):uintL n = [UInt8.ofNat n]:=by rw [uintL,if_pos h]
theorem uintL_big {n:Nat} (h:¬ n < 128):uintL n = UInt8.ofNat (n % 128 + 128) :: uintL (n / 128):=by rw [uintL,if_neg h]
theorem uintP_uintL:∀ (f n:Nat) (rest:List UInt8),n < 2 ^ (7 * f + 1)→(f < 9→n ≠ 0)→uintP (f + 1) (uintL n ++ rest) = .ok (n,(uintL n).length)
 | f,n,rest,hn,h0=>by
  by_cases h:n < 128
  ·have e:(UInt8.ofNat n).toNat = n:=by rw [UInt8.toNat_ofNat']; exact Nat.mod_eq_of_lt (by omega)
   rw [uintL_small h,List.singleton_append,uintP,e,if_pos h,if_neg]
   ·rfl
   ·rintro (⟨rfl,h2⟩ | ⟨h1,h2⟩)
    ·simp at hn; omega
    ·exact h0 h1 h2
  ·have e:(UInt8.ofNat (n % 128 + 128)).toNat = n % 128 + 128:=by rw [UInt8.toNat_ofNat']; exact Nat.mod_eq_of_lt (by omega)
   match f,hn with
   | 0,hn=>simp at hn; omega
   | f + 1,hn =>
    rw [uintL_big h,List.cons_append,uintP,e,if_neg (by omega)]
    have e2:2 ^ (7 * (f + 1) + 1) = 128 * 2 ^ (7 * f + 1):=by
     rw [show 7 * (f + 1) + 1 = 7 * f + 1 + 7 by omega,Nat.pow_add]; omega
    rw [uintP_uintL f (n / 128) rest (by omega) (by omega)]
    simp
    omega
theorem uintL_length_pos (n:Nat):0 < (uintL n).length:=by
 rw [uintL]; split <;> simp
end Go.Wire
namespace Go.Proofs.Z05
open Go.RowKit
structure Rdr (b bb off n c:Nat) (a:Int) (w:World):Prop where
 sl:w.cell? ⟨b,0,none⟩ = some (.slice (some ⟨bb,off,none⟩) n c)
 at_:w.cell? ⟨b,1,none⟩ = some (.int .i64 a)
 fz:w.frozen? ⟨b,1,none⟩ = false
theorem Rdr.drewN {b bb off n c:Nat} {a:Int} {w:World} (h:Rdr b bb off n c a w) (q:Nat):Rdr b bb off n c a (w.drewN q):=by
 obtain ⟨h1,h2,h3⟩:=h
 exact ⟨by simpa [go_sem] using h1,by simpa [go_sem] using h2,by simpa [go_sem] using h3⟩
theorem Rdr.set {b bb off n c:Nat} {a:Int} {w:World} (h:Rdr b bb off n c a w) (x:Int):Rdr b bb off n c x (w.setCell ⟨b,1,none⟩ (.int .i64 x)):=by
 obtain ⟨h1,h2,h3⟩:=h
 refine ⟨?_,?_,?_⟩
 ·simp [go_sem,h1]
 ·simp [go_sem,h2]
 ·simp [go_sem,h3]
theorem take_rd (b bb off n c:Nat) (a k:Int) (w:World) (ha:0≤a) (han:a≤n) (hn:(n:Int)≤1000000000000) (hnc:n≤c) (hk0:0≤k) (h:k≤(n:Int) - a) (hr:Rdr b bb off n c a w) :
  Calls Tryz.prog 82 #[.pointer (some ⟨b,0,none⟩),.int .u64 k] w fun e w'=>∃ o,Stands k a off o∧e = .returned (.slice (some ⟨bb,o,none⟩) k.toNat k.toNat)∧Rdr b bb off n c (a + k) w'∧Below b w w':=by
 refine (take_some b bb off n c a k w ha han hn hnc hk0 h hr.fz hr.sl hr.at_).mono ?_
 rintro e w' ⟨q,o,hs,he,rfl⟩
 exact ⟨o,hs,he,(hr.drewN q).set _,(below_drewN (Below.refl b w) q).setCell (p:=⟨b,1,none⟩) (Nat.le_refl b) _⟩
end Go.Proofs.Z05
namespace Go.Proofs.Z05
open Go.RowKit Go.Wire
def NumEnd (b bb off n c a:Nat) (r:Except Int (Int × Nat)) (e:Ending) (w':World):Prop:=match r with
 | .error x=>e = .panicked [{ v:=.iface 28 (.int .i64 x),recovered:=false }]
 | .ok (v,m)=>e = .returned (.int .u64 v)∧Rdr b bb off n c (a + m:Nat) w'
set_option maxRecDepth 100000 in
theorem number_rd (b bb off n c a:Nat) (bs:List UInt8) (w:World) (han:a≤n) (hn:(n:Int)≤1000000000000) (hnc:n≤c) (hl:bs.length = n) (hbb:bb < b)
    (hc:∀ j,j < n→w.cell? ⟨bb,off + j,none⟩ = some (.int .u8 (bs.getD j 0).toNat)) (hr:Rdr b bb off n c a w) :
    Calls Tryz.prog 83 #[.pointer (some ⟨b,0,none⟩)] w fun e w'=>Below b w w'∧NumEnd b bb off n c a (numR 10 0 (bs.drop a) 0) e w':=by
  go_enter Tryz.func83,Tryz.ntmps83
  go_wp2_with fail
  go_loopw [2,3] (fun u i wr=>∃ (j:Nat) (acc:Int),j≤10∧i = .int .i64 j∧u = .int .u64 acc∧a + j≤n∧numR (10 - j) j (bs.drop (a + j)) acc = numR 10 0 (bs.drop a) 0∧Rdr b bb off n c (a + j:Nat) wr∧Below b w wr)
    (fun _ i _=>10 - (intOf i).toNat)
  case atStart=>exact ⟨0,0,by omega,rfl,rfl,by omega,rfl,by simpa using hr,Below.refl _ _⟩
  case round =>
    obtain ⟨j,acc,hj,rfl,rfl,hjn,heq,hrd,hbl⟩:=hrel
    go_wp2_with fail
    · by_cases hlt : a + j < n
      · refine (take_rd b bb off n c ((a + j : Nat) : Int) 1 wr (by omega) (by omega) hn hnc (by omega) (by omega) hrd).mono ?_
        rintro e w1 ⟨o,hs,rfl,hr1,hb1⟩
        have ho:o = off + (a + j):=by
          rcases hs with h | h
          · cases h
          · rw [h]; omega
        subst ho
        have hcell:w1.cell? ⟨bb,off + (a + j),none⟩ = some (.int .u8 (bs.getD (a + j) 0).toNat):=by
          rw [(hbl.trans hb1).cell (by exact hbb)]
          exact hc _ hlt
        have hd:bs.drop (a + j) = bs.getD (a + j) 0 :: bs.drop (a + (j + 1)):=by
          rw [List.drop_eq_getElem_cons (by omega),List.getD_eq_getElem?_getD,List.getElem?_eq_getElem (by omega)]
          rfl
        have hj9:j < 10:=by omega
        generalize bs.getD (a + j) 0 = ch at *
        have hst:numR 10 0 (bs.drop a) 0 = (if ch.toNat < 128 then (if (j = 9∧1 < ch.toNat)∨(0 < j∧ch.toNat = 0) then .error 3 else .ok (accZ acc j ch,j + 1)) else numR (9 - j) (j + 1) (bs.drop (a + (j + 1))) (accZ acc j ch)):=by
          rw [← heq,hd,show 10 - j = (9 - j) + 1 by omega,numR]
        have hb2:=hbl.trans hb1
        clear heq hd hbl hb1 hrd hr
        have hr2:Rdr b bb off n c ((a + (j + 1):Nat):Int) w1:=by
          rw [show ((a + (j + 1):Nat):Int) = ((a + j:Nat):Int) + 1 by omega]; exact hr1
        clear hr1
        have hst':Hid (numR 10 0 (bs.drop a) 0 = (if ch.toNat < 128 then (if (j = 9∧1 < ch.toNat)∨(0 < j∧ch.toNat = 0) then .error 3 else .ok (accZ acc j ch,j + 1)) else numR (9 - j) (j + 1) (bs.drop (a + (j + 1))) (accZ acc j ch))):=hst
        clear hst
        go_wp2_with fail
        all_goals first
          | (refine ⟨rfl,hb2,?_⟩; have h':numR 10 0 (bs.drop a) 0 = _:=hst'; rw [h',if_pos (by omega),if_pos (by first | omega | (simp only [beq_iff_eq] at *; omega))]; rfl)
          | (go_ret; refine ⟨hb2,?_⟩; have h':numR 10 0 (bs.drop a) 0 = _:=hst'; rw [h',if_pos (by omega),if_neg (by first | omega | (simp only [beq_eq_false_iff_ne,ne_eq] at *; omega))]; exact ⟨rfl,hr2⟩)
          | (exfalso; omega)
          | (refine ⟨⟨j + 1, accZ acc j ch, by omega, by go_num, rfl, by omega, ?_, hr2, hb2⟩, ?_⟩
             · have h' : numR 10 0 (bs.drop a) 0 = _ := hst'
               rw [h',if_neg (by omega),show 10 - (j + 1) = 9 - j by omega]
             · simp [intOf]; omega)
          | trace_state
      · have : a + j = n := by omega
        refine (take_short b (some ⟨bb,off,none⟩) n c n 1 wr (by omega) (by omega) hn (by omega) (by omega) (by omega) hrd.sl (by rw [hrd.at_,this])).mono ?_
        rintro e w1 ⟨rfl,q,rfl⟩
        have hR:numR 10 0 (bs.drop a) 0 = .error 41:=by
          rw [← heq,List.drop_of_length_le (by omega),show 10 - j = (9 - j) + 1 by omega,numR]
        refine ⟨rfl,below_drewN hbl q,?_⟩
        rw [hR]
        rfl
    · have hR:numR 10 0 (bs.drop a) 0 = .error 3:=by
        rw [← heq,show 10 - j = 0 by omega,numR]
      refine ⟨rfl,hbl,?_⟩
      rw [hR]
      rfl
end Go.Proofs.Z05
namespace Go.Proofs.Z05
open Go.RowKit Go.Wire
theorem uint_bad (oa:Option Addr) (n c:Nat) (at_:Int) (h:at_ < 0∨(n:Int) < at_) (w:World) :
  Calls Tryz.prog 35 #[.slice oa n c,.int .i64 at_] w fun e w'=>e = .returned (.tuple #[.int .u64 0,.int .i64 0,.int .i64 1])∧Below w.heap.size w w':=by
 have hmf:∀ (fn:Fn) (first cap:Array Value) (w:World),(Instr.makeFunc fn first cap).run Tryz.prog w = .ok (.func fn first cap) w:=fun _ _ _ _=>rfl
 go_enter_defers Tryz.func35,Tryz.ntmps35
 go_wp2_with fail
 refine (open_bad oa n c at_ h _).mono ?_
 rintro e w1 ⟨rfl,rfl⟩
 refine leaves_cons (f:=80) (args:=#[.pointer (some ⟨w.heap.size,0,none⟩),.pointer (some ⟨w.heap.size + 1,0,none⟩)]) (by simp) (by simp [go_sem]) ?_
 refine (caught_code ⟨w.heap.size,0,none⟩ ⟨w.heap.size + 1,0,none⟩ 0 0 1 [] _ (by simp [go_sem]) (by simp [go_sem]) (by simp [go_sem]) (by simp [go_sem])).mono ?_
 rintro e u' w'' ⟨rfl,rfl,rfl⟩
 simp [Leaves,settle,results,Tryz.results35,go_sem]
 exact ((Below.refl w.heap.size w).alloc (Nat.le_refl _) _).alloc (by simp [go_sem]) _
def UintEnd (_n a:Nat) (r:Except Int (Int × Nat)) (e:Ending):Prop:=match r with
 | .error x=>e = .returned (.tuple #[.int .u64 0,.int .i64 0,.int .i64 x])
 | .ok (v,m)=>e = .returned (.tuple #[.int .u64 v,.int .i64 (a + m:Nat),.int .i64 0])
theorem uint_in (bb off n c a:Nat) (bs:List UInt8) (w:World) (han:a≤n) (hn:(n:Int)≤1000000000000) (hnc:n≤c) (hl:bs.length = n) (hbb:bb < w.heap.size)
  (hc:∀ j,j < n→w.cell? ⟨bb,off + j,none⟩ = some (.int .u8 (bs.getD j 0).toNat)) :
  Calls Tryz.prog 35 #[.slice (some ⟨bb,off,none⟩) n c,.int .i64 (a:Int)] w fun e w'=>UintEnd n a (numR 10 0 (bs.drop a) 0) e∧Below w.heap.size w w':=by
 have hmf:∀ (fn:Fn) (first cap:Array Value) (w:World),(Instr.makeFunc fn first cap).run Tryz.prog w = .ok (.func fn first cap) w:=fun _ _ _ _=>rfl
 go_enter_defers Tryz.func35,Tryz.ntmps35
 go_wp2_with fail
 refine (open_ok (some ⟨bb,off,none⟩) n c a (by omega) (by omega) _).mono ?_
 rintro e w1 ⟨rfl,rfl⟩
 go_wp2_with fail
 have hbl:Below w.heap.size w (((w.alloc (Obj.cells #[Value.int IntKind.i64 0] 3)).alloc (Obj.cells #[Value.int IntKind.i64 0] 28)).alloc (Obj.cells #[Value.slice (some { block:=bb,off:=off }) n c,Value.int IntKind.i64 (a:Int)] 146)):=
  (((Below.refl w.heap.size w).alloc (Nat.le_refl _) _).alloc (by simp [go_sem]) _).alloc (by simp [go_sem]; omega) _
 have hp:(((w.alloc (Obj.cells #[Value.int IntKind.i64 0] 3)).alloc (Obj.cells #[Value.int IntKind.i64 0] 28)).alloc (Obj.cells #[Value.slice (some { block:=bb,off:=off }) n c,Value.int IntKind.i64 (a:Int)] 146)).cell? ⟨w.heap.size,0,none⟩ = some (.int .i64 0):=by simp [go_sem]
 have hq:(((w.alloc (Obj.cells #[Value.int IntKind.i64 0] 3)).alloc (Obj.cells #[Value.int IntKind.i64 0] 28)).alloc (Obj.cells #[Value.slice (some { block:=bb,off:=off }) n c,Value.int IntKind.i64 (a:Int)] 146)).cell? ⟨w.heap.size + 1,0,none⟩ = some (.int .i64 0):=by simp [go_sem]
 have fp:(((w.alloc (Obj.cells #[Value.int IntKind.i64 0] 3)).alloc (Obj.cells #[Value.int IntKind.i64 0] 28)).alloc (Obj.cells #[Value.slice (some { block:=bb,off:=off }) n c,Value.int IntKind.i64 (a:Int)] 146)).frozen? ⟨w.heap.size,0,none⟩ = false:=by simp [go_sem]
 have fq:(((w.alloc (Obj.cells #[Value.int IntKind.i64 0] 3)).alloc (Obj.cells #[Value.int IntKind.i64 0] 28)).alloc (Obj.cells #[Value.slice (some { block:=bb,off:=off }) n c,Value.int IntKind.i64 (a:Int)] 146)).frozen? ⟨w.heap.size + 1,0,none⟩ = false:=by simp [go_sem]
 have hrd:Rdr (w.heap.size + 1 + 1) bb off n c a (((w.alloc (Obj.cells #[Value.int IntKind.i64 0] 3)).alloc (Obj.cells #[Value.int IntKind.i64 0] 28)).alloc (Obj.cells #[Value.slice (some { block:=bb,off:=off }) n c,Value.int IntKind.i64 (a:Int)] 146)):=⟨by simp [go_sem],by simp [go_sem],by simp [go_sem]⟩
 have hcc:∀ j,j < n→(((w.alloc (Obj.cells #[Value.int IntKind.i64 0] 3)).alloc (Obj.cells #[Value.int IntKind.i64 0] 28)).alloc (Obj.cells #[Value.slice (some { block:=bb,off:=off }) n c,Value.int IntKind.i64 (a:Int)] 146)).cell? ⟨bb,off + j,none⟩ = some (.int .u8 (bs.getD j 0).toNat):=fun j hj=>(hbl.cell (by exact hbb)).trans (hc j hj)
 generalize (((w.alloc (Obj.cells #[Value.int IntKind.i64 0] 3)).alloc (Obj.cells #[Value.int IntKind.i64 0] 28)).alloc (Obj.cells #[Value.slice (some { block:=bb,off:=off }) n c,Value.int IntKind.i64 (a:Int)] 146)) = w3 at *
 refine (number_rd (w.heap.size + 1 + 1) bb off n c a bs w3 han hn hnc hl (by omega) hcc hrd).mono ?_
 rintro e w4 ⟨hb4,he⟩
 have hp4:=(hb4.cell (p:=⟨w.heap.size,0,none⟩) (by show w.heap.size < _; omega)).trans hp
 have hq4:=(hb4.cell (p:=⟨w.heap.size + 1,0,none⟩) (by show w.heap.size + 1 < _; omega)).trans hq
 have fp4:=(hb4.frozen (p:=⟨w.heap.size,0,none⟩) (by show w.heap.size < _; omega)).trans fp
 have fq4:=(hb4.frozen (p:=⟨w.heap.size + 1,0,none⟩) (by show w.heap.size + 1 < _; omega)).trans fq
 have hb5:=hbl.trans (hb4.mono (by omega))
 clear hbl hp hq fp fq hrd hcc hb4
 generalize hR:numR 10 0 (bs.drop a) 0 = R at he
 cases R with
 | error x =>
  obtain rfl:=he
  refine leaves_cons (f:=80) (args:=#[.pointer (some ⟨w.heap.size,0,none⟩),.pointer (some ⟨w.heap.size + 1,0,none⟩)]) (by simp) (by simp [go_sem]) ?_
  refine (caught_code ⟨w.heap.size,0,none⟩ ⟨w.heap.size + 1,0,none⟩ 0 0 x [] _ hp4 (by simp [go_sem,hq4]) fp4 fq4).mono ?_
  rintro e u' w'' ⟨rfl,rfl,rfl⟩
  simp [Leaves,settle,results,Tryz.results35,go_sem,hp4,hq4,UintEnd,hR]
  exact (hb5.setCell (Nat.le_refl _) _).setCell (by simp) _
 | ok vm =>
  obtain ⟨v,m⟩:=vm
  obtain ⟨rfl,hr4⟩:=he
  obtain ⟨hs4,ha4,hz4⟩:=hr4
  have hv:=hR
  clear hR
  go_wp2_with fail
  go_region
  go_wp2_with fail
  refine leaves_cons (f:=80) (args:=#[.pointer (some ⟨w.heap.size,0,none⟩),.pointer (some ⟨w.heap.size + 1,0,none⟩)]) (by simp) (by simp [go_sem]) ?_
  refine (caught_idle ⟨w.heap.size,0,none⟩ ⟨w.heap.size + 1,0,none⟩ _).mono ?_
  rintro e u' w'' ⟨rfl,rfl,rfl⟩
  simp [Leaves,settle,results,Tryz.results35,go_sem,UintEnd,hv,hp4,hq4]
  exact (((hb5.setCell (Nat.le_refl _) _).setCell (by simp) _).drew)
end Go.Proofs.Z05
namespace Go.Proofs.Z05
open Go.RowKit Go.Wire
theorem fold_push:∀ (l:List UInt8) (r:ByteArray),(l.map fun c=>(c.toNat:Int)).foldl (fun r n=>r.push (UInt8.ofNat n.toNat)) r = ⟨r.data ++ l.toArray⟩
 | [],r=>by simp
 | c :: l,r=>by
  simp only [List.map_cons,List.foldl_cons]
  rw [fold_push l]
  simp [ByteArray.push]
theorem conv_bytes (b off k c:Nat) (l:List UInt8) (w:World) (hl:l.length = k) (hc:∀ j,j < k→w.cell? ⟨b,off + j,none⟩ = some (.int .u8 (l.getD j 0).toNat)) :
  (convert 22 9 (.slice (some ⟨b,off,none⟩) k c)).run Tryz.prog w = .ok (.string ⟨l.toArray⟩) w:=by
 rw [run_convert_bytes_string w 22 9 5 _ _ _ (by kernel_rfl) (by kernel_rfl) (by kernel_rfl)]
 have hns:(loadCells ⟨b,off,none⟩ k).run Tryz.prog w = .ok ((l.map fun c=>(c.toNat:Int)).map (Value.int .u8)).toArray w:=by
  have:=run_loadCells_list (P:=Tryz.prog) w ⟨b,off,none⟩ ((l.map fun c=>(c.toNat:Int)).map (Value.int .u8)) (fun j v hj=>by
   have hjl:j < l.length:=by have:=(List.getElem?_eq_some_iff.1 hj).1; simpa using this
   have:(⟨b,off,none⟩:Addr).add j = ⟨b,off + j,none⟩:=by unfold Addr.add; split <;> simp_all
   rw [this,hc j (by omega)]
   rw [List.getElem?_map,List.getElem?_map,List.getElem?_eq_getElem hjl] at hj
   simp only [Option.map_some] at hj
   rw [← hj,List.getD_eq_getElem?_getD,List.getElem?_eq_getElem hjl]
   rfl)
  simpa [hl] using this
 rw [run_bytesToString w _ _ _ _ hns,fold_push]
 have he0:ByteArray.empty.data = #[]:=rfl
 rw [he0]
 simp
def textR (bs:List UInt8) (a:Nat):Except Int (List UInt8 × Nat):=match uintP 10 (bs.drop a) with
 | .error x=>.error x
 | .ok (v,m)=>if bs.length < a + m + v then .error 41 else .ok ((bs.drop (a + m)).take v,a + m + v)
def TextEnd (r:Except Int (List UInt8 × Nat)) (e:Ending):Prop:=match r with
 | .error x=>e = .returned (.tuple #[.string ⟨#[]⟩,.int .i64 0,.int .i64 x])
 | .ok (l,m)=>e = .returned (.tuple #[.string ⟨l.toArray⟩,.int .i64 m,.int .i64 0])
theorem num_in (l:List UInt8):numR 10 0 l 0 = match uintP 10 l with
  | .error x=>.error x
  | .ok (v,m)=>.ok ((v:Int),m):=by
 have:=numR_eq 10 0 l 0 (by omega) (by simp)
 simp only [Nat.mul_zero,Nat.pow_zero,Nat.mul_one,Nat.zero_add] at this
 rw [show ((0:Nat):Int) = 0 by rfl] at this
 refine this.trans ?_
 cases uintP 10 l <;> rfl
theorem text_bad (oa:Option Addr) (n c:Nat) (at_:Int) (h:at_ < 0∨(n:Int) < at_) (w:World) :
  Calls Tryz.prog 34 #[.slice oa n c,.int .i64 at_] w fun e w'=>e = .returned (.tuple #[.string ⟨#[]⟩,.int .i64 0,.int .i64 1])∧Below w.heap.size w w':=by
 have hmf:∀ (fn:Fn) (first cap:Array Value) (w:World),(Instr.makeFunc fn first cap).run Tryz.prog w = .ok (.func fn first cap) w:=fun _ _ _ _=>rfl
 go_enter_defers Tryz.func34,Tryz.ntmps34
 go_wp2_with fail
 refine (open_bad oa n c at_ h _).mono ?_
 rintro e w1 ⟨rfl,rfl⟩
 refine leaves_cons (f:=80) (args:=#[.pointer (some ⟨w.heap.size,0,none⟩),.pointer (some ⟨w.heap.size + 1,0,none⟩)]) (by simp) (by simp [go_sem]) ?_
 refine (caught_code ⟨w.heap.size,0,none⟩ ⟨w.heap.size + 1,0,none⟩ 0 0 1 [] _ (by simp [go_sem]) (by simp [go_sem]) (by simp [go_sem]) (by simp [go_sem])).mono ?_
 rintro e u' w'' ⟨rfl,rfl,rfl⟩
 simp [Leaves,settle,results,Tryz.results34,go_sem]
 exact ((Below.refl w.heap.size w).alloc (Nat.le_refl _) _).alloc (by simp [go_sem]) _
set_option maxHeartbeats 2000000 in
theorem text_in (bb off n c a:Nat) (bs:List UInt8) (w:World) (han:a≤n) (hn:(n:Int)≤1000000000000) (hnc:n≤c) (hl:bs.length = n) (hbb:bb < w.heap.size)
  (hc:∀ j,j < n→w.cell? ⟨bb,off + j,none⟩ = some (.int .u8 (bs.getD j 0).toNat)) :
  Calls Tryz.prog 34 #[.slice (some ⟨bb,off,none⟩) n c,.int .i64 (a:Int)] w fun e w'=>TextEnd (textR bs a) e∧Below w.heap.size w w':=by
 have hmf:∀ (fn:Fn) (first cap:Array Value) (w:World),(Instr.makeFunc fn first cap).run Tryz.prog w = .ok (.func fn first cap) w:=fun _ _ _ _=>rfl
 go_enter_defers Tryz.func34,Tryz.ntmps34
 go_wp2_with fail
 refine (open_ok (some ⟨bb,off,none⟩) n c a (by omega) (by omega) _).mono ?_
 rintro e w1 ⟨rfl,rfl⟩
 go_wp2_with fail
 have hbl:Below w.heap.size w (((w.alloc (Obj.cells #[Value.int IntKind.i64 0] 3)).alloc (Obj.cells #[Value.int IntKind.i64 0] 28)).alloc (Obj.cells #[Value.slice (some { block:=bb,off:=off }) n c,Value.int IntKind.i64 (a:Int)] 146)):=
  (((Below.refl w.heap.size w).alloc (Nat.le_refl _) _).alloc (by simp [go_sem]) _).alloc (by simp [go_sem]; omega) _
 have hp:(((w.alloc (Obj.cells #[Value.int IntKind.i64 0] 3)).alloc (Obj.cells #[Value.int IntKind.i64 0] 28)).alloc (Obj.cells #[Value.slice (some { block:=bb,off:=off }) n c,Value.int IntKind.i64 (a:Int)] 146)).cell? ⟨w.heap.size,0,none⟩ = some (.int .i64 0):=by simp [go_sem]
 have hq:(((w.alloc (Obj.cells #[Value.int IntKind.i64 0] 3)).alloc (Obj.cells #[Value.int IntKind.i64 0] 28)).alloc (Obj.cells #[Value.slice (some { block:=bb,off:=off }) n c,Value.int IntKind.i64 (a:Int)] 146)).cell? ⟨w.heap.size + 1,0,none⟩ = some (.int .i64 0):=by simp [go_sem]
 have fp:(((w.alloc (Obj.cells #[Value.int IntKind.i64 0] 3)).alloc (Obj.cells #[Value.int IntKind.i64 0] 28)).alloc (Obj.cells #[Value.slice (some { block:=bb,off:=off }) n c,Value.int IntKind.i64 (a:Int)] 146)).frozen? ⟨w.heap.size,0,none⟩ = false:=by simp [go_sem]
 have fq:(((w.alloc (Obj.cells #[Value.int IntKind.i64 0] 3)).alloc (Obj.cells #[Value.int IntKind.i64 0] 28)).alloc (Obj.cells #[Value.slice (some { block:=bb,off:=off }) n c,Value.int IntKind.i64 (a:Int)] 146)).frozen? ⟨w.heap.size + 1,0,none⟩ = false:=by simp [go_sem]
 have hrd:Rdr (w.heap.size + 1 + 1) bb off n c a (((w.alloc (Obj.cells #[Value.int IntKind.i64 0] 3)).alloc (Obj.cells #[Value.int IntKind.i64 0] 28)).alloc (Obj.cells #[Value.slice (some { block:=bb,off:=off }) n c,Value.int IntKind.i64 (a:Int)] 146)):=⟨by simp [go_sem],by simp [go_sem],by simp [go_sem]⟩
 have hcc:∀ j,j < n→(((w.alloc (Obj.cells #[Value.int IntKind.i64 0] 3)).alloc (Obj.cells #[Value.int IntKind.i64 0] 28)).alloc (Obj.cells #[Value.slice (some { block:=bb,off:=off }) n c,Value.int IntKind.i64 (a:Int)] 146)).cell? ⟨bb,off + j,none⟩ = some (.int .u8 (bs.getD j 0).toNat):=fun j hj=>(hbl.cell (by exact hbb)).trans (hc j hj)
 generalize (((w.alloc (Obj.cells #[Value.int IntKind.i64 0] 3)).alloc (Obj.cells #[Value.int IntKind.i64 0] 28)).alloc (Obj.cells #[Value.slice (some { block:=bb,off:=off }) n c,Value.int IntKind.i64 (a:Int)] 146)) = w3 at *
 refine (number_rd (w.heap.size + 1 + 1) bb off n c a bs w3 han hn hnc hl (by omega) hcc hrd).mono ?_
 rintro e w4 ⟨hb4,he⟩
 have hp4:=(hb4.cell (p:=⟨w.heap.size,0,none⟩) (by show w.heap.size < _; omega)).trans hp
 have hq4:=(hb4.cell (p:=⟨w.heap.size + 1,0,none⟩) (by show w.heap.size + 1 < _; omega)).trans hq
 have fp4:=(hb4.frozen (p:=⟨w.heap.size,0,none⟩) (by show w.heap.size < _; omega)).trans fp
 have fq4:=(hb4.frozen (p:=⟨w.heap.size + 1,0,none⟩) (by show w.heap.size + 1 < _; omega)).trans fq
 have hc4:∀ j,j < n→w4.cell? ⟨bb,off + j,none⟩ = some (.int .u8 (bs.getD j 0).toNat):=fun j hj=>(hb4.cell (p:=⟨bb,off + j,none⟩) (by show bb < _; omega)).trans (hcc j hj)
 have hb5:=hbl.trans (hb4.mono (by omega))
 clear hbl hp hq fp fq hrd hcc hb4
 rw [num_in] at he
 cases hR:uintP 10 (bs.drop a) with
 | error x =>
  rw [hR] at he
  obtain rfl:=he
  have hT:textR bs a = .error x:=by unfold textR; rw [hR]
  refine leaves_cons (f:=80) (args:=#[.pointer (some ⟨w.heap.size,0,none⟩),.pointer (some ⟨w.heap.size + 1,0,none⟩)]) (by simp) (by simp [go_sem]) ?_
  refine (caught_code ⟨w.heap.size,0,none⟩ ⟨w.heap.size + 1,0,none⟩ 0 0 x [] _ hp4 (by simp [go_sem,hq4]) fp4 fq4).mono ?_
  rintro e u' w'' ⟨rfl,rfl,rfl⟩
  simp [Leaves,settle,results,Tryz.results34,go_sem,hp4,hq4,TextEnd,hT]
  exact (hb5.setCell (Nat.le_refl _) _).setCell (by simp) _
 | ok vm =>
  obtain ⟨v,m⟩:=vm
  rw [hR] at he
  obtain ⟨rfl,hr4⟩:=he
  obtain ⟨hv,hm1,hm2,hm3⟩:=uintP_bound _ _ _ _ hR
  have hv':(v:Int) < 18446744073709551616:=by
   have:2 ^ (7 * (10 - 1) + 1) = 18446744073709551616:=by decide
   omega
  have hm4:a + m≤n:=by rw [List.length_drop] at hm3; omega
  by_cases hlong:n < a + m + v
  ·have hT:textR bs a = .error 41:=by unfold textR; rw [hR]; simp only []; rw [if_pos (by omega)]
   go_wp2_with fail
   refine (take_short (w.heap.size + 1 + 1) (some ⟨bb,off,none⟩) n c ((a + m:Nat):Int) v w4 (by omega) (by omega) hn (by omega) hv' (by omega) hr4.sl hr4.at_).mono ?_
   rintro e w5 ⟨rfl,q,rfl⟩
   refine leaves_cons (f:=80) (args:=#[.pointer (some ⟨w.heap.size,0,none⟩),.pointer (some ⟨w.heap.size + 1,0,none⟩)]) (by simp) (by simp [go_sem]) ?_
   refine (caught_code ⟨w.heap.size,0,none⟩ ⟨w.heap.size + 1,0,none⟩ 0 0 41 [] _ (by simp [go_sem,hp4]) (by simp [go_sem,hq4]) (by simp [go_sem,fp4]) (by simp [go_sem,fq4])).mono ?_
   rintro e u' w'' ⟨rfl,rfl,rfl⟩
   simp [Leaves,settle,results,Tryz.results34,go_sem,hp4,hq4,TextEnd,hT]
   exact below_drewN ((hb5.setCell (Nat.le_refl _) _).setCell (by simp) _) q
  ·have hT:textR bs a = .ok ((bs.drop (a + m)).take v,a + m + v):=by unfold textR; rw [hR]; simp only []; rw [if_neg (by omega)]
   go_wp2_with fail
   refine (take_rd (w.heap.size + 1 + 1) bb off n c ((a + m:Nat):Int) v w4 (by omega) (by omega) hn hnc (by omega) (by omega) hr4).mono ?_
   rintro e w5 ⟨o,hs,rfl,hr5,hb45⟩
   have hp5:=(hb45.cell (p:=⟨w.heap.size,0,none⟩) (by show w.heap.size < _; omega)).trans hp4
   have hq5:=(hb45.cell (p:=⟨w.heap.size + 1,0,none⟩) (by show w.heap.size + 1 < _; omega)).trans hq4
   have fp5:=(hb45.frozen (p:=⟨w.heap.size,0,none⟩) (by show w.heap.size < _; omega)).trans fp4
   have fq5:=(hb45.frozen (p:=⟨w.heap.size + 1,0,none⟩) (by show w.heap.size + 1 < _; omega)).trans fq4
   have hb6:=hb5.trans (hb45.mono (by omega))
   have hcv:=conv_bytes bb o v v ((bs.drop (a + m)).take v) w5.drew (by simp; omega) fun j hj=>by
    rw [show w5.drew.cell? ⟨bb,o + j,none⟩ = w5.cell? ⟨bb,o + j,none⟩ by simp [go_sem]]
    rcases hs with hs | hs
    ·omega
    ·rw [hs,show off + ((a + m:Nat):Int).toNat + j = off + (a + m + j) by omega,(hb45.cell (p:=⟨bb,off + (a + m + j),none⟩) (by show bb < _; omega)),hc4 _ (by omega)]
     congr 3
     rw [List.getD_eq_getElem?_getD,List.getD_eq_getElem?_getD,List.getElem?_take_of_lt hj,List.getElem?_drop]
   obtain ⟨hs5,ha5,hz5⟩:=hr5
   clear hc4 hp4 hq4 fp4 fq4 hb5 hb45 hR hs hr4 hv hv' hm1 hm2 hm3 hlong
   go_wp2_with fail
   go_region
   go_wp2_with fail
   refine leaves_cons (f:=80) (args:=#[.pointer (some ⟨w.heap.size,0,none⟩),.pointer (some ⟨w.heap.size + 1,0,none⟩)]) (by simp) (by simp [go_sem]) ?_
   refine (caught_idle ⟨w.heap.size,0,none⟩ ⟨w.heap.size + 1,0,none⟩ _).mono ?_
   rintro e u' w'' ⟨rfl,rfl,rfl⟩
   simp [Leaves,settle,results,Tryz.results34,go_sem,TextEnd,hT,hp5,hq5]
   exact (((hb6.setCell (Nat.le_refl _) _).setCell (by simp) _).drew)
end Go.Proofs.Z05
namespace Go.Proofs.Z05
open Go.RowKit Go.Wire
theorem number_end (b n c:Nat) (oa:Option Addr) (w:World) (hn:(n:Int)≤1000000000000) (hs:w.cell? ⟨b,0,none⟩ = some (.slice oa n c)) (ha:w.cell? ⟨b,1,none⟩ = some (.int .i64 n)) :
  Calls Tryz.prog 83 #[.pointer (some ⟨b,0,none⟩)] w fun e w'=>e = .panicked [{ v:=.iface 28 (.int .i64 41),recovered:=false }]∧∃ q,w' = w.drewN q:=by
 go_enter Tryz.func83,Tryz.ntmps83
 go_wp2_with fail
 go_loopw [2,3] (fun u i wr=>i = .int .i64 0∧wr = w∧u = .int .u64 0)
  (fun _ i _=>0)
 case atStart=>exact ⟨rfl,rfl,rfl⟩
 case round =>
  obtain ⟨rfl,rfl,rfl⟩:=hrel
  go_wp2_with fail
  refine (take_short b oa n c n 1 _ (by omega) (by omega) hn (by omega) (by omega) (by omega) hs ha).mono ?_
  rintro e w1 ⟨rfl,q,rfl⟩
  exact ⟨rfl,rfl,q,rfl⟩
theorem uint_end (oa:Option Addr) (n c:Nat) (w:World) (hn:(n:Int)≤1000000000000) :
  Calls Tryz.prog 35 #[.slice oa n c,.int .i64 n] w fun e w'=>e = .returned (.tuple #[.int .u64 0,.int .i64 0,.int .i64 41])∧Below w.heap.size w w':=by
 have hmf:∀ (fn:Fn) (first cap:Array Value) (w:World),(Instr.makeFunc fn first cap).run Tryz.prog w = .ok (.func fn first cap) w:=fun _ _ _ _=>rfl
 go_enter_defers Tryz.func35,Tryz.ntmps35
 go_wp2_with fail
 refine (open_ok oa n c n (by omega) (by omega) _).mono ?_
 rintro e w1 ⟨rfl,rfl⟩
 go_wp2_with fail
 refine (number_end (w.heap.size + 1 + 1) n c oa _ hn (by simp [go_sem]) (by simp [go_sem])).mono ?_
 rintro e w1 ⟨rfl,q,rfl⟩
 have hb5:Below w.heap.size w ((((w.alloc (Obj.cells #[Value.int IntKind.i64 0] 3)).alloc (Obj.cells #[Value.int IntKind.i64 0] 28)).alloc (Obj.cells #[Value.slice oa n c,Value.int IntKind.i64 n] 146)).drewN q):=
  below_drewN (((Below.refl w.heap.size w).alloc (Nat.le_refl _) _).alloc (by simp [go_sem]) _ |>.alloc (by simp [go_sem]; omega) _) q
 have hp4:((((w.alloc (Obj.cells #[Value.int IntKind.i64 0] 3)).alloc (Obj.cells #[Value.int IntKind.i64 0] 28)).alloc (Obj.cells #[Value.slice oa n c,Value.int IntKind.i64 n] 146)).drewN q).cell? ⟨w.heap.size,0,none⟩ = some (.int .i64 0):=by simp [go_sem]
 have hq4:((((w.alloc (Obj.cells #[Value.int IntKind.i64 0] 3)).alloc (Obj.cells #[Value.int IntKind.i64 0] 28)).alloc (Obj.cells #[Value.slice oa n c,Value.int IntKind.i64 n] 146)).drewN q).cell? ⟨w.heap.size + 1,0,none⟩ = some (.int .i64 0):=by simp [go_sem]
 have fp4:((((w.alloc (Obj.cells #[Value.int IntKind.i64 0] 3)).alloc (Obj.cells #[Value.int IntKind.i64 0] 28)).alloc (Obj.cells #[Value.slice oa n c,Value.int IntKind.i64 n] 146)).drewN q).frozen? ⟨w.heap.size,0,none⟩ = false:=by simp [go_sem]
 have fq4:((((w.alloc (Obj.cells #[Value.int IntKind.i64 0] 3)).alloc (Obj.cells #[Value.int IntKind.i64 0] 28)).alloc (Obj.cells #[Value.slice oa n c,Value.int IntKind.i64 n] 146)).drewN q).frozen? ⟨w.heap.size + 1,0,none⟩ = false:=by simp [go_sem]
 generalize ((((w.alloc (Obj.cells #[Value.int IntKind.i64 0] 3)).alloc (Obj.cells #[Value.int IntKind.i64 0] 28)).alloc (Obj.cells #[Value.slice oa n c,Value.int IntKind.i64 n] 146)).drewN q) = w4 at *
 refine leaves_cons (f:=80) (args:=#[.pointer (some ⟨w.heap.size,0,none⟩),.pointer (some ⟨w.heap.size + 1,0,none⟩)]) (by simp) (by simp [go_sem]) ?_
 refine (caught_code ⟨w.heap.size,0,none⟩ ⟨w.heap.size + 1,0,none⟩ 0 0 41 [] _ hp4 (by simp [go_sem,hq4]) fp4 fq4).mono ?_
 rintro e u' w'' ⟨rfl,rfl,rfl⟩
 simp [Leaves,settle,results,Tryz.results35,go_sem,hp4,hq4]
 exact (hb5.setCell (Nat.le_refl _) _).setCell (by simp) _
theorem text_end (oa:Option Addr) (n c:Nat) (w:World) (hn:(n:Int)≤1000000000000) :
  Calls Tryz.prog 34 #[.slice oa n c,.int .i64 n] w fun e w'=>e = .returned (.tuple #[.string ⟨#[]⟩,.int .i64 0,.int .i64 41])∧Below w.heap.size w w':=by
 have hmf:∀ (fn:Fn) (first cap:Array Value) (w:World),(Instr.makeFunc fn first cap).run Tryz.prog w = .ok (.func fn first cap) w:=fun _ _ _ _=>rfl
 go_enter_defers Tryz.func34,Tryz.ntmps34
 go_wp2_with fail
 refine (open_ok oa n c n (by omega) (by omega) _).mono ?_
 rintro e w1 ⟨rfl,rfl⟩
 go_wp2_with fail
 refine (number_end (w.heap.size + 1 + 1) n c oa _ hn (by simp [go_sem]) (by simp [go_sem])).mono ?_
 rintro e w1 ⟨rfl,q,rfl⟩
 have hb5:Below w.heap.size w ((((w.alloc (Obj.cells #[Value.int IntKind.i64 0] 3)).alloc (Obj.cells #[Value.int IntKind.i64 0] 28)).alloc (Obj.cells #[Value.slice oa n c,Value.int IntKind.i64 n] 146)).drewN q):=
  below_drewN (((Below.refl w.heap.size w).alloc (Nat.le_refl _) _).alloc (by simp [go_sem]) _ |>.alloc (by simp [go_sem]; omega) _) q
 have hp4:((((w.alloc (Obj.cells #[Value.int IntKind.i64 0] 3)).alloc (Obj.cells #[Value.int IntKind.i64 0] 28)).alloc (Obj.cells #[Value.slice oa n c,Value.int IntKind.i64 n] 146)).drewN q).cell? ⟨w.heap.size,0,none⟩ = some (.int .i64 0):=by simp [go_sem]
 have hq4:((((w.alloc (Obj.cells #[Value.int IntKind.i64 0] 3)).alloc (Obj.cells #[Value.int IntKind.i64 0] 28)).alloc (Obj.cells #[Value.slice oa n c,Value.int IntKind.i64 n] 146)).drewN q).cell? ⟨w.heap.size + 1,0,none⟩ = some (.int .i64 0):=by simp [go_sem]
 have fp4:((((w.alloc (Obj.cells #[Value.int IntKind.i64 0] 3)).alloc (Obj.cells #[Value.int IntKind.i64 0] 28)).alloc (Obj.cells #[Value.slice oa n c,Value.int IntKind.i64 n] 146)).drewN q).frozen? ⟨w.heap.size,0,none⟩ = false:=by simp [go_sem]
 have fq4:((((w.alloc (Obj.cells #[Value.int IntKind.i64 0] 3)).alloc (Obj.cells #[Value.int IntKind.i64 0] 28)).alloc (Obj.cells #[Value.slice oa n c,Value.int IntKind.i64 n] 146)).drewN q).frozen? ⟨w.heap.size + 1,0,none⟩ = false:=by simp [go_sem]
 generalize ((((w.alloc (Obj.cells #[Value.int IntKind.i64 0] 3)).alloc (Obj.cells #[Value.int IntKind.i64 0] 28)).alloc (Obj.cells #[Value.slice oa n c,Value.int IntKind.i64 n] 146)).drewN q) = w4 at *
 refine leaves_cons (f:=80) (args:=#[.pointer (some ⟨w.heap.size,0,none⟩),.pointer (some ⟨w.heap.size + 1,0,none⟩)]) (by simp) (by simp [go_sem]) ?_
 refine (caught_code ⟨w.heap.size,0,none⟩ ⟨w.heap.size + 1,0,none⟩ 0 0 41 [] _ hp4 (by simp [go_sem,hq4]) fp4 fq4).mono ?_
 rintro e u' w'' ⟨rfl,rfl,rfl⟩
 simp [Leaves,settle,results,Tryz.results34,go_sem,hp4,hq4]
 exact (hb5.setCell (Nat.le_refl _) _).setCell (by simp) _
end Go.Proofs.Z05
namespace Go.Abs
open Go.Proofs
abbrev I6:=AV.int IntKind.i64
noncomputable abbrev PQ:=Tryz.prog
def tensA:AV:=.agg [.int .i64 1,.int .i64 10,.int .i64 100,.int .i64 1000,.int .i64 10000,.int .i64 100000,.int .i64 1000000]
def keptFirst:List AV:=(List.range 256).map fun c=>.int .u8 (Lib.firstT c)
def keptFirstA:AV:=.agg keptFirst
def keptAcc:List AV:=[.int .u8 128,.int .u8 191,.int .u8 160,.int .u8 191,.int .u8 128,.int .u8 159,.int .u8 144,.int .u8 191,.int .u8 128,.int .u8 143,.int .u8 0,.int .u8 0,.int .u8 0,.int .u8 0,.int .u8 0,.int .u8 0,.int .u8 0,.int .u8 0,.int .u8 0,.int .u8 0,.int .u8 0,.int .u8 0,.int .u8 0,.int .u8 0,.int .u8 0,.int .u8 0,.int .u8 0,.int .u8 0,.int .u8 0,.int .u8 0,.int .u8 0,.int .u8 0]
def keptAccA:AV:=.agg keptAcc
def keptPows:List AV:=(List.range 20).map fun i=>.int .u64 ((10 ^ i:Nat):Int)
def keptPowsA:AV:=.agg keptPows
def GQ (m:Int):Glob:=fun g=>match g with
 | 0=>some (.int .i64 m)
 | 1=>some tensA
 | 2=>some .ifc
 | 3=>some .ifc
 | 4=>some keptPowsA
 | 5=>some keptFirstA
 | 6=>some keptAccA
 | _=>none
def libQ:List (FuncId × Spec):=[(133,sContains)]
theorem mixedQ:PQ.follows .mixedOrders = true:=Tryz.checked.mixed
theorem goodQ {f:FuncId} (h:(match PQ.funcs[f]? with | some fn=>fn.body.isSome && !(fn.name == "runtime.NumGoroutine") | none=>false) = true):goodFn PQ f:=by
 split at h
 ·rename_i fn hf
  simp only [Bool.and_eq_true,Bool.not_eq_true'] at h
  exact ⟨fn,hf,h.1,h.2⟩
 ·cases h
theorem libQ_ok (m:Int):CalleeOk PQ (GQ m) (tbl libQ):=by
 refine tbl_cons ?_ tbl_nil
 exact o_contains (goodQ (by kernel_rfl)) (g0:=0) (m:=m) rfl fun s sub m w hs hm=>Tryz.strings_Contains s sub m w hs hm
theorem spec_run {P:Program} {G:Glob} {R0:Callee} (hm:P.follows .mixedOrders = true) (h0:CalleeOk P G R0) {f:FuncId} {s:Spec} (h:∀ args r,s args = some r→∃ n,(evs P G R0 (fun _=>[]) n).1 f args = some r):SpecOk P G f s:=by
 intro g args r lv hr
 simp only at hr
 split at hr
 ·rename_i e
  subst e
  obtain ⟨n,hn⟩:=h args _ hr
  exact (evs_ok hm h0 (fun _=>[]) n).1 g args r lv hn
 ·cases hr
def shB:Sh × Option TypeId:=(.val (.one .bool),none)
def shI:Sh × Option TypeId:=(.val (.one (.int .i64)),none)
def X1:Shapes:=fun f=>if f = 160∨f = 140 then some shB else none
def letterB (c:UInt8):Bool:=decide (97≤c.toNat∧c.toNat≤122)
def digitB (c:UInt8):Bool:=decide (48≤c.toNat∧c.toNat≤57)
def s160:Spec:=fun args=>match args with | [.int .u8 n]=>some (.bool (decide (97≤n∧n≤122)),[]) | _=>none
def s140:Spec:=fun args=>match args with | [.int .u8 n]=>some (.bool (decide (48≤n∧n≤57)),[]) | _=>none
def innerB (c:UInt8):Bool:=letterB c || digitB c || c == 95
def wl:List UInt8→Nat
 | []=>0
 | c :: t=>if letterB c then 1 + (t.takeWhile innerB).length else 0
def nA:Nat→Option Ann:=fun _=>none
def a123 (bs:List UInt8) (i:Nat):Anns:=⟨fun k=>if k = 4 then some { α:=Int,slots:=[0,1,5],nb:=0,vals:=fun n=>[bytesA bs,.int .i64 i,.int .i64 n],sS:=fun _=>⟨[],[]⟩,I:=fun n=>∃ k:Nat,n = k∧1≤k∧k≤wl (bs.drop i),μ:=fun n=>(bs.length - n).toNat } else none,nA⟩
def t33:List (FuncId × Spec):=[(160,s160),(140,s140)]
def kwList:List (List UInt8):=[[116,97,98,108,101],[102,101,97,116,117,114,101],[111,102],[107,101,101,112],[98,111,111,108],[116,101,120,116],[107,101,121],[105,110,116],[100,101,99],[105,102],[116,104,101,110],[101,108,115,101],[100,101,102,97,117,108,116],[111,114],[97,110,100],[110,111,116],[116,114,117,101],[102,97,108,115,101],[110,117,108,108],[99,111,117,110,116],[115,117,109],[109,101,97,110],[109,105,110],[109,97,120],[102,105,114,115,116],[108,97,115,116],[100,105,115,116,105,110,99,116],[113,117,97,110,116,105,108,101],[100,101,99,97,121],[97,108,108],[115,108,105,100,105,110,103],[116,117,109,98,108,105,110,103],[115,101,115,115,105,111,110],[119,104,101,114,101]]
def kwR (s:List UInt8):Bool:=kwList.contains s
def nameR (s:List UInt8):Bool:=decide (s ≠ []) && decide (s.length≤24) && decide (wl s = s.length) && !kwR s
def s124:Spec:=fun args=>match args with
 | [.str s]=>some (.bool (kwR s),[])
 | _=>none
def s88:Spec:=fun args=>match args with
 | [.str s]=>if s.length≤2000000 then some (.bool (kwR s),[]) else none
 | _=>none
def s123':Spec:=fun args=>match args with
 | [.sl sz es .no,.int .i64 n]=>if sz = 1 then match unBytes es with
  | some bs=>if 0≤n∧n.toNat < bs.length∧bs.length < 2 ^ 60 then some (.int .i64 (wl (bs.drop n.toNat)),[]) else none
  | none=>none else none
 | _=>none
def XW:Shapes:=fun f=>match f with
 | 88 | 124 | 40 | 77 | 133=>some shB
 | 123=>some shI
 | _=>none
def nAn:Anns:=⟨nA,nA⟩
def a40 (s:List UInt8):Anns:=⟨fun k=>if k = 4 then some { α:=Int,slots:=[0,17,18],nb:=0,vals:=fun n=>[.str s,.int .i64 s.length,.int .i64 n],sS:=fun _=>⟨[],[]⟩,I:=fun n=>∃ k:Nat,n = k∧k≤s.length∧(1≤k→k≤wl s),μ:=fun n=>(s.length - n).toNat } else none,nA⟩
theorem w160 (m:Int) (n:Int):(pureW PQ (GQ m) X1 (tbl []) (itbl []) ⟨nA,nA⟩ [] 160 [.int .u8 n] (.bool (decide (97≤n∧n≤122)),[])) =
((decide (n ≥ (97:Int)) = true→(decide (n≤(122:Int)) = true→RetIs (AV.bool true) [] (AV.bool (decide ((97:Int)≤n∧n≤(122:Int))),[]))∧(decide (n≤(122:Int)) = false→RetIs (AV.bool false) [] (AV.bool (decide ((97:Int)≤n∧n≤(122:Int))),[])))∧(decide (n ≥ (97:Int)) = false→RetIs (AV.bool false) [] (AV.bool (decide ((97:Int)≤n∧n≤(122:Int))),[]))):=by kernel_rfl
abbrev w123c3 (bs:List UInt8) (i:Nat) (y:Int):List AV:=[AV.sl 1 (bytesL bs) Own.no,AV.int IntKind.i64 (↑i:Int),AV.int IntKind.i64 y]
abbrev w123c1 (b:Bool) (bs:List UInt8) (i:Nat) (x:Int):Prop:=b = true→∃ (y:Int),ValsAre [AV.sl 1 (bytesL bs) Own.no,AV.int IntKind.i64 (↑i:Int),AV.int IntKind.i64 (IntKind.i64.wrap (x + (1:Int)))] (w123c3 bs i y)∧StIs { boxes:=[],live:=[] } { boxes:=[],live:=[] }∧(∃ (k:Nat),y = (↑k:Int)∧(1:Nat)≤k∧k≤wl (List.drop i bs))∧((↑bs.length:Int) - y).toNat < ((↑bs.length:Int) - x).toNat
abbrev w123c2 (i:Nat) (x:Int) (bs:List UInt8):Prop:=(0:Int)≤IntKind.i64.wrap ((↑i:Int) + x)∧IntKind.i64.wrap ((↑i:Int) + x) < (↑(bytesL bs).length:Int)
theorem w123 (m:Int) (bs:List UInt8) (i:Nat):(pureW PQ (GQ m) X1 (tbl t33) (itbl []) (a123 bs i) [] 123 [bytesA bs,.int .i64 i] (.int .i64 (wl (bs.drop i)),[])) =
(((0:Int)≤(↑i:Int)∧(↑i:Int) < (↑(bytesL bs).length:Int))∧∃ (n:Int),takeAt PQ 5 (bytesL bs) (↑i:Int).toNat 0 = some (AV.int IntKind.u8 n)∧∃ (b:Bool),CallIs (some (AV.bool (decide ((97:Int)≤n∧n≤(122:Int))),[])) (AV.bool b) []∧(b = true→(∃ (y:Int),ValsAre [AV.sl 1 (bytesL bs) Own.no,I6 (↑i:Int),I6 1] (w123c3 bs i y)∧StIs { boxes:=[],live:=[] } { boxes:=[],live:=[] }∧(∃ (k:Nat),y = (↑k:Int)∧(1:Nat)≤k∧k≤wl (List.drop i bs))∧True)∧∀ (x:Int),(∃ (k:Nat),x = (↑k:Int)∧(1:Nat)≤k∧k≤wl (List.drop i bs))→(decide (IntKind.i64.wrap ((↑i:Int) + x) < (↑(bytesL bs).length:Int)) = true→(w123c2 i x bs)∧∃ (n:Int),takeAt PQ 5 (bytesL bs) (IntKind.i64.wrap ((↑i:Int) + x)).toNat 0 = some (AV.int IntKind.u8 n)∧∃ (b:Bool),CallIs (some (AV.bool (decide ((97:Int)≤n∧n≤(122:Int))),[])) (AV.bool b) []∧(w123c1 b bs i x)∧(b = false→(w123c2 i x bs)∧∃ (n:Int),takeAt PQ 5 (bytesL bs) (IntKind.i64.wrap ((↑i:Int) + x)).toNat 0 = some (AV.int IntKind.u8 n)∧∃ (b:Bool),CallIs (some (AV.bool (decide ((48:Int)≤n∧n≤(57:Int))),[])) (AV.bool b) []∧(w123c1 b bs i x)∧(b = false→(w123c2 i x bs)∧∃ (n:Int),takeAt PQ 5 (bytesL bs) (IntKind.i64.wrap ((↑i:Int) + x)).toNat 0 = some (AV.int IntKind.u8 n)∧((n == (95:Int)) = true→∃ (y:Int),ValsAre [AV.sl 1 (bytesL bs) Own.no,I6 (↑i:Int),I6 (IntKind.i64.wrap (x + (1:Int)))] (w123c3 bs i y)∧StIs { boxes:=[],live:=[] } { boxes:=[],live:=[] }∧(∃ (k:Nat),y = (↑k:Int)∧(1:Nat)≤k∧k≤wl (List.drop i bs))∧((↑bs.length:Int) - y).toNat < ((↑bs.length:Int) - x).toNat)∧((n == (95:Int)) = false→RetIs (I6 x) [] (I6 (↑(wl (List.drop i bs)):Int),[])))))∧(decide (IntKind.i64.wrap ((↑i:Int) + x) < (↑(bytesL bs).length:Int)) = false→RetIs (I6 x) [] (I6 (↑(wl (List.drop i bs)):Int),[])))∧(b = false→RetIs (I6 0) [] (I6 (↑(wl (List.drop i bs)):Int),[]))):=by kernel_rfl
theorem w140 (m:Int) (n:Int):(pureW PQ (GQ m) X1 (tbl []) (itbl []) ⟨nA,nA⟩ [] 140 [.int .u8 n] (.bool (decide (48≤n∧n≤57)),[])) =
((decide (n ≥ (48:Int)) = true→(decide (n≤(57:Int)) = true→RetIs (AV.bool true) [] (AV.bool (decide ((48:Int)≤n∧n≤(57:Int))),[]))∧(decide (n≤(57:Int)) = false→RetIs (AV.bool false) [] (AV.bool (decide ((48:Int)≤n∧n≤(57:Int))),[])))∧(decide (n ≥ (48:Int)) = false→RetIs (AV.bool false) [] (AV.bool (decide ((48:Int)≤n∧n≤(57:Int))),[]))):=by kernel_rfl
theorem w88 (m:Int) (s:List UInt8):(pureW PQ (GQ m) XW (tbl libQ) (itbl []) nAn [] 88 [.str s] (.bool (kwR s),[])) =
(((!s == []) = true→∃ (b:Bool),CallIs (tbl [(133,sContains)] 133 [AV.str s,AV.str [32]]) (AV.bool b) []∧(b = true→RetIs (AV.bool false) [] (AV.bool (kwR s),[]))∧(b = false→(1:Nat) + s.length≤(9223372036854775807:Nat)∧([(32:UInt8)] ++ s).length + (1:Nat)≤(9223372036854775807:Nat)∧∃ (b:Bool),CallIs (some (AV.bool (Lib.contains [(32:UInt8),(116:UInt8),(97:UInt8),(98:UInt8),(108:UInt8),(101:UInt8),(32:UInt8),(102:UInt8),(101:UInt8),(97:UInt8),(116:UInt8),(117:UInt8),(114:UInt8),(101:UInt8),(32:UInt8),(111:UInt8),(102:UInt8),(32:UInt8),(107:UInt8),(101:UInt8),(101:UInt8),(112:UInt8),(32:UInt8),(98:UInt8),(111:UInt8),(111:UInt8),(108:UInt8),(32:UInt8),(116:UInt8),(101:UInt8),(120:UInt8),(116:UInt8),(32:UInt8),(107:UInt8),(101:UInt8),(121:UInt8),(32:UInt8),(105:UInt8),(110:UInt8),(116:UInt8),(32:UInt8),(100:UInt8),(101:UInt8),(99:UInt8),(32:UInt8),(105:UInt8),(102:UInt8),(32:UInt8),(116:UInt8),(104:UInt8),(101:UInt8),(110:UInt8),(32:UInt8),(101:UInt8),(108:UInt8),(115:UInt8),(101:UInt8),(32:UInt8),(100:UInt8),(101:UInt8),(102:UInt8),(97:UInt8),(117:UInt8),(108:UInt8),(116:UInt8),(32:UInt8),(111:UInt8),(114:UInt8),(32:UInt8),(97:UInt8),(110:UInt8),(100:UInt8),(32:UInt8),(110:UInt8),(111:UInt8),(116:UInt8),(32:UInt8),(116:UInt8),(114:UInt8),(117:UInt8),(101:UInt8),(32:UInt8),(102:UInt8),(97:UInt8),(108:UInt8),(115:UInt8),(101:UInt8),(32:UInt8),(110:UInt8),(117:UInt8),(108:UInt8),(108:UInt8),(32:UInt8),(99:UInt8),(111:UInt8),(117:UInt8),(110:UInt8),(116:UInt8),(32:UInt8),(115:UInt8),(117:UInt8),(109:UInt8),(32:UInt8),(109:UInt8),(101:UInt8),(97:UInt8),(110:UInt8),(32:UInt8),(109:UInt8),(105:UInt8),(110:UInt8),(32:UInt8),(109:UInt8),(97:UInt8),(120:UInt8),(32:UInt8),(102:UInt8),(105:UInt8),(114:UInt8),(115:UInt8),(116:UInt8),(32:UInt8),(108:UInt8),(97:UInt8),(115:UInt8),(116:UInt8),(32:UInt8),(100:UInt8),(105:UInt8),(115:UInt8),(116:UInt8),(105:UInt8),(110:UInt8),(99:UInt8),(116:UInt8),(32:UInt8),(113:UInt8),(117:UInt8),(97:UInt8),(110:UInt8),(116:UInt8),(105:UInt8),(108:UInt8),(101:UInt8),(32:UInt8),(100:UInt8),(101:UInt8),(99:UInt8),(97:UInt8),(121:UInt8),(32:UInt8),(97:UInt8),(108:UInt8),(108:UInt8),(32:UInt8),(115:UInt8),(108:UInt8),(105:UInt8),(100:UInt8),(105:UInt8),(110:UInt8),(103:UInt8),(32:UInt8),(116:UInt8),(117:UInt8),(109:UInt8),(98:UInt8),(108:UInt8),(105:UInt8),(110:UInt8),(103:UInt8),(32:UInt8),(115:UInt8),(101:UInt8),(115:UInt8),(115:UInt8),(105:UInt8),(111:UInt8),(110:UInt8),(32:UInt8),(119:UInt8),(104:UInt8),(101:UInt8),(114:UInt8),(101:UInt8),(32:UInt8)] ([(32:UInt8)] ++ s ++ [32])),[])) (AV.bool b) []∧(b = true→RetIs (AV.bool true) [] (AV.bool (kwR s),[]))∧(b = false→RetIs (AV.bool false) [] (AV.bool (kwR s),[]))))∧((!s == []) = false→RetIs (AV.bool false) [] (AV.bool (kwR s),[]))):=by kernel_rfl
abbrev w124c1 (s:List UInt8):=s == [100,105,115,116,105,110,99,116]
abbrev w124c2 (s:List UInt8):=s == [113,117,97,110,116,105,108,101]
abbrev w124c3 (s:List UInt8):=s == [116,117,109,98,108,105,110,103]
theorem w124 (m:Int) (s:List UInt8):(pureW PQ (GQ m) XW (tbl []) (itbl []) nAn [] 124 [.str s] (.bool (kwR s),[])) =
(((s == [116,97,98,108,101]) = true→RetIs (AV.bool true) [] (AV.bool (kwR s),[]))∧((s == [116,97,98,108,101]) = false→((s == [102,101,97,116,117,114,101]) = true→RetIs (AV.bool true) [] (AV.bool (kwR s),[]))∧((s == [102,101,97,116,117,114,101]) = false→((s == [111,102]) = true→RetIs (AV.bool true) [] (AV.bool (kwR s),[]))∧((s == [111,102]) = false→((s == [107,101,101,112]) = true→RetIs (AV.bool true) [] (AV.bool (kwR s),[]))∧((s == [107,101,101,112]) = false→((s == [98,111,111,108]) = true→RetIs (AV.bool true) [] (AV.bool (kwR s),[]))∧((s == [98,111,111,108]) = false→((s == [116,101,120,116]) = true→RetIs (AV.bool true) [] (AV.bool (kwR s),[]))∧((s == [116,101,120,116]) = false→((s == [107,101,121]) = true→RetIs (AV.bool true) [] (AV.bool (kwR s),[]))∧((s == [107,101,121]) = false→((s == [105,110,116]) = true→RetIs (AV.bool true) [] (AV.bool (kwR s),[]))∧((s == [105,110,116]) = false→((s == [100,101,99]) = true→RetIs (AV.bool true) [] (AV.bool (kwR s),[]))∧((s == [100,101,99]) = false→((s == [105,102]) = true→RetIs (AV.bool true) [] (AV.bool (kwR s),[]))∧((s == [105,102]) = false→((s == [116,104,101,110]) = true→RetIs (AV.bool true) [] (AV.bool (kwR s),[]))∧((s == [116,104,101,110]) = false→((s == [101,108,115,101]) = true→RetIs (AV.bool true) [] (AV.bool (kwR s),[]))∧((s == [101,108,115,101]) = false→((s == [100,101,102,97,117,108,116]) = true→RetIs (AV.bool true) [] (AV.bool (kwR s),[]))∧((s == [100,101,102,97,117,108,116]) = false→((s == [111,114]) = true→RetIs (AV.bool true) [] (AV.bool (kwR s),[]))∧((s == [111,114]) = false→((s == [97,110,100]) = true→RetIs (AV.bool true) [] (AV.bool (kwR s),[]))∧((s == [97,110,100]) = false→((s == [110,111,116]) = true→RetIs (AV.bool true) [] (AV.bool (kwR s),[]))∧((s == [110,111,116]) = false→((s == [116,114,117,101]) = true→RetIs (AV.bool true) [] (AV.bool (kwR s),[]))∧((s == [116,114,117,101]) = false→((s == [102,97,108,115,101]) = true→RetIs (AV.bool true) [] (AV.bool (kwR s),[]))∧((s == [102,97,108,115,101]) = false→((s == [110,117,108,108]) = true→RetIs (AV.bool true) [] (AV.bool (kwR s),[]))∧((s == [110,117,108,108]) = false→((s == [99,111,117,110,116]) = true→RetIs (AV.bool true) [] (AV.bool (kwR s),[]))∧((s == [99,111,117,110,116]) = false→((s == [115,117,109]) = true→RetIs (AV.bool true) [] (AV.bool (kwR s),[]))∧((s == [115,117,109]) = false→((s == [109,101,97,110]) = true→RetIs (AV.bool true) [] (AV.bool (kwR s),[]))∧((s == [109,101,97,110]) = false→((s == [109,105,110]) = true→RetIs (AV.bool true) [] (AV.bool (kwR s),[]))∧((s == [109,105,110]) = false→((s == [109,97,120]) = true→RetIs (AV.bool true) [] (AV.bool (kwR s),[]))∧((s == [109,97,120]) = false→((s == [102,105,114,115,116]) = true→RetIs (AV.bool true) [] (AV.bool (kwR s),[]))∧((s == [102,105,114,115,116]) = false→((s == [108,97,115,116]) = true→RetIs (AV.bool true) [] (AV.bool (kwR s),[]))∧((s == [108,97,115,116]) = false→((w124c1 s) = true→RetIs (AV.bool true) [] (AV.bool (kwR s),[]))∧((w124c1 s) = false→((w124c2 s) = true→RetIs (AV.bool true) [] (AV.bool (kwR s),[]))∧((w124c2 s) = false→((s == [100,101,99,97,121]) = true→RetIs (AV.bool true) [] (AV.bool (kwR s),[]))∧((s == [100,101,99,97,121]) = false→((s == [97,108,108]) = true→RetIs (AV.bool true) [] (AV.bool (kwR s),[]))∧((s == [97,108,108]) = false→((s == [115,108,105,100,105,110,103]) = true→RetIs (AV.bool true) [] (AV.bool (kwR s),[]))∧((s == [115,108,105,100,105,110,103]) = false→((w124c3 s) = true→RetIs (AV.bool true) [] (AV.bool (kwR s),[]))∧((w124c3 s) = false→((s == [115,101,115,115,105,111,110]) = true→RetIs (AV.bool true) [] (AV.bool (kwR s),[]))∧((s == [115,101,115,115,105,111,110]) = false→((s == [119,104,101,114,101]) = true→RetIs (AV.bool true) [] (AV.bool (kwR s),[]))∧((s == [119,104,101,114,101]) = false→RetIs (AV.bool false) [] (AV.bool (kwR s),[])))))))))))))))))))))))))))))))))))):=by kernel_rfl
abbrev w40c4 (s:List UInt8) (x:Int):List AV:=[AV.str s,AV.int IntKind.i64 (↑s.length:Int),AV.int IntKind.i64 (IntKind.i64.wrap (x + (1:Int)))]
abbrev w40c5 (s:List UInt8) (y:Int):List AV:=[AV.str s,AV.int IntKind.i64 (↑s.length:Int),AV.int IntKind.i64 y]
abbrev w40c3 (y:Int) (s:List UInt8):Prop:=∃ (k:Nat),y = (↑k:Int)∧k≤s.length∧((1:Nat)≤k→k≤wl s)
abbrev w40c2 (c:UInt8) (s:List UInt8) (x:Int):Prop:=((↑c.toNat:Int) == (95:Int)) = true→∃ (y:Int),ValsAre (w40c4 s x) (w40c5 s y)∧StIs { boxes:=[],live:=[] } { boxes:=[],live:=[] }∧(w40c3 y s)∧((↑s.length:Int) - y).toNat < ((↑s.length:Int) - x).toNat
abbrev w40c1 (x:Int) (c:UInt8) (s:List UInt8):Prop:=decide (x > (0:Int)) = true→(decide ((↑c.toNat:Int) ≥ (48:Int)) = true→(decide ((↑c.toNat:Int)≤(57:Int)) = true→∃ (y:Int),ValsAre (w40c4 s x) (w40c5 s y)∧StIs { boxes:=[],live:=[] } { boxes:=[],live:=[] }∧(w40c3 y s)∧((↑s.length:Int) - y).toNat < ((↑s.length:Int) - x).toNat)∧(decide ((↑c.toNat:Int)≤(57:Int)) = false→(w40c2 c s x)∧(((↑c.toNat:Int) == (95:Int)) = false→RetIs (AV.bool false) [] (AV.bool (nameR s),[]))))∧(decide ((↑c.toNat:Int) ≥ (48:Int)) = false→(w40c2 c s x)∧(((↑c.toNat:Int) == (95:Int)) = false→RetIs (AV.bool false) [] (AV.bool (nameR s),[])))
theorem w40 (m:Int) (s:List UInt8):(pureW PQ (GQ m) XW (tbl [(88,s88)]) (itbl []) (a40 s) [] 40 [.str s] (.bool (nameR s),[])) =
(((s == []) = true→RetIs (AV.bool false) [] (AV.bool (nameR s),[]))∧((s == []) = false→(decide ((↑s.length:Int) > (24:Int)) = true→RetIs (AV.bool false) [] (AV.bool (nameR s),[]))∧(decide ((↑s.length:Int) > (24:Int)) = false→∃ (b:Bool),CallIs (tbl [(88,s88)] 88 [AV.str s]) (AV.bool b) []∧(b = true→RetIs (AV.bool false) [] (AV.bool (nameR s),[]))∧(b = false→(∃ (y:Int),ValsAre [AV.str s,AV.int IntKind.i64 (↑s.length:Int),AV.int IntKind.i64 0] (w40c5 s y)∧StIs { boxes:=[],live:=[] } { boxes:=[],live:=[] }∧(w40c3 y s)∧True)∧∀ (x:Int),(∃ (k:Nat),x = (↑k:Int)∧k≤s.length∧((1:Nat)≤k→k≤wl s))→(decide (x < (↑s.length:Int)) = true→(0:Int)≤x∧∃ (c:UInt8),s[x.toNat]? = some c∧(decide ((↑c.toNat:Int) ≥ (97:Int)) = true→(decide ((↑c.toNat:Int)≤(122:Int)) = true→∃ (y:Int),ValsAre (w40c4 s x) (w40c5 s y)∧StIs { boxes:=[],live:=[] } { boxes:=[],live:=[] }∧(w40c3 y s)∧((↑s.length:Int) - y).toNat < ((↑s.length:Int) - x).toNat)∧(decide ((↑c.toNat:Int)≤(122:Int)) = false→(w40c1 x c s)∧(decide (x > (0:Int)) = false→RetIs (AV.bool false) [] (AV.bool (nameR s),[]))))∧(decide ((↑c.toNat:Int) ≥ (97:Int)) = false→(w40c1 x c s)∧(decide (x > (0:Int)) = false→RetIs (AV.bool false) [] (AV.bool (nameR s),[]))))∧(decide (x < (↑s.length:Int)) = false→RetIs (AV.bool true) [] (AV.bool (nameR s),[])))))):=by kernel_rfl
theorem w77 (m:Int) (s:List UInt8):(pureW PQ (GQ m) XW (tbl [(124,s124),(123,s123')]) (itbl []) nAn [] 77 [.str s] (.bool (nameR s),[])) =
(((!s == []) = true→(decide ((↑s.length:Int)≤(24:Int)) = true→s.length≤(70368744177664:Nat)∧∃ (n:Int),CallIs (tbl [(124,s124),(123,s123')] 123 [AV.sl 1 (List.map (fun (c:UInt8)=>AV.int IntKind.u8 (↑c.toNat:Int)) s) Own.no,AV.int IntKind.i64 0]) (AV.int IntKind.i64 n) []∧((n == (↑s.length:Int)) = true→∃ (b:Bool),CallIs (some (AV.bool (kwR s),[])) (AV.bool b) []∧(b = true→RetIs (AV.bool false) [] (AV.bool (nameR s),[]))∧(b = false→RetIs (AV.bool true) [] (AV.bool (nameR s),[])))∧((n == (↑s.length:Int)) = false→RetIs (AV.bool false) [] (AV.bool (nameR s),[])))∧(decide ((↑s.length:Int)≤(24:Int)) = false→RetIs (AV.bool false) [] (AV.bool (nameR s),[])))∧((!s == []) = false→RetIs (AV.bool false) [] (AV.bool (nameR s),[]))):=by kernel_rfl
theorem agg5:aggA PQ 5 = some false:=by kernel_rfl
theorem size5:(sizeA PQ 5).isSome = true:=by kernel_rfl
theorem wl_le (bs:List UInt8):wl bs≤bs.length:=by
 cases bs with
 | nil=>simp [wl]
 | cons c t =>
  simp only [wl]
  split
  ·have:=(List.takeWhile_prefix innerB (l:=t)).length_le
   simp; omega
  ·simp
theorem wl_drop {bs:List UInt8} {i:Nat} (h:i < bs.length):wl (bs.drop i) = if letterB (bs.getD i 0) then 1 + ((bs.drop (i + 1)).takeWhile innerB).length else 0:=by
 rw [List.drop_eq_getElem_cons h]
 simp [wl,h]
theorem getD_drop' {bs:List UInt8} {i k:Nat}:(bs.drop i).getD k 0 = bs.getD (i + k) 0:=by
 simp [List.getElem?_drop]
theorem wl_next {bs:List UInt8} {i k:Nat} (hk:k≤wl (bs.drop i)) (h1:1≤k) (h:i + k < bs.length) (hp:innerB (bs.getD (i + k) 0) = true):k + 1≤wl (bs.drop i):=by
 rw [wl_drop (by omega)] at hk ⊢
 split at hk
 ·rename_i hc
  rw [if_pos hc]
  have:=tw_next (p:=innerB) (l:=bs.drop (i + 1)) (k:=k - 1) (by omega) (by rw [List.length_drop]; omega) (by rw [getD_drop',show i + 1 + (k - 1) = i + k by omega]; exact hp)
  omega
 ·omega
theorem wl_stop {bs:List UInt8} {i k:Nat} (hk:k≤wl (bs.drop i)) (h1:1≤k) (hp:i + k < bs.length→innerB (bs.getD (i + k) 0) = false):k = wl (bs.drop i):=by
 have hl:=wl_le (bs.drop i)
 rw [List.length_drop] at hl
 have hi:i < bs.length:=by omega
 rw [wl_drop hi] at hk ⊢
 split at hk
 ·rename_i hc
  rw [if_pos hc]
  have:=tw_stop (p:=innerB) (l:=bs.drop (i + 1)) (k:=k - 1) (by omega) (fun h=>by rw [getD_drop',show i + 1 + (k - 1) = i + k by omega]; exact hp (by rw [List.length_drop] at h; omega))
  omega
 ·omega
theorem p123 (m:Int) (bs:List UInt8) (i:Nat) (hi:i < bs.length) (hb:bs.length < 2 ^ 60):PureOk PQ (GQ m) X1 (tbl t33) (itbl []) (a123 bs i) [] 123 [bytesA bs,.int .i64 i] (.int .i64 (wl (bs.drop i)),[]):=by
 constructor
 rw [w123]; unfold w123c2 w123c1 w123c3 I6
 simp only [callIs_iff,valsAre_iff,stIs_iff,retIs_iff,take_u8_iff agg5 size5,Option.some.injEq,Prod.mk.injEq,AV.bool.injEq,AV.int.injEq,List.cons.injEq,and_true,true_and,exists_eq_left',and_assoc,exists_and_left,decide_eq_true_eq,decide_eq_false_iff_not,bytesL_length,Int.toNat_natCast]
 have hw:=wl_drop hi
 have hl:=wl_le (bs.drop i)
 rw [List.length_drop] at hl
 have hlet:letterB (bs.getD i 0) = decide (97≤(bs.getD i 0).toNat∧(bs.getD i 0).toNat≤122):=rfl
 refine ⟨by omega,by omega,hi,fun hA=>⟨⟨1,rfl,Nat.le_refl _,?_⟩,?_⟩,fun hA=>?_⟩
 ·rw [hw,if_pos (by rw [hlet]; exact decide_eq_true (by omega))]; omega
 ·rintro x ⟨k,rfl,h1,h2⟩
  rw [wrap64_in (n:=(i:Int) + k) (by omega) (by omega),wrap64_in (n:=(k:Int) + 1) (by omega) (by omega),show ((i:Int) + k).toNat = i + k by omega]
  have hin:innerB (bs.getD (i + k) 0) = (decide (97≤(bs.getD (i + k) 0).toNat∧(bs.getD (i + k) 0).toNat≤122) || decide (48≤(bs.getD (i + k) 0).toNat∧(bs.getD (i + k) 0).toNat≤57) || (bs.getD (i + k) 0) == 95):=rfl
  generalize hc:bs.getD (i + k) 0 = c at *
  have step:i + k < bs.length→innerB c = true→(∃ j:Nat,(k:Int) + 1 = j∧1≤j∧j≤wl (bs.drop i))∧((bs.length:Int) - (k + 1)).toNat < ((bs.length:Int) - k).toNat:=fun hlt hp =>
   ⟨⟨k + 1,by omega,by omega,wl_next h2 h1 hlt (hc ▸ hp)⟩,by omega⟩
  refine ⟨fun hlt=>⟨by omega,by omega,by omega,fun hB=>step (by omega) (by rw [hin]; simp; omega),fun hB=>⟨by omega,by omega,by omega,fun hC=>step (by omega) (by rw [hin]; simp; omega),fun hC=>⟨by omega,by omega,by omega,fun hD=>step (by omega) ?_,fun hD=>?_⟩⟩⟩,fun hge=>?_⟩
  ·rw [hin]
   have:c = 95:=by
    rw [← UInt8.toNat_inj]
    have:(c.toNat:Int) = 95:=by simpa using hD
    have h95:(95:UInt8).toNat = 95:=rfl
    omega
   simp [this]
  ·have:=wl_stop (bs:=bs) (i:=i) (k:=k) h2 h1 fun _=>by
    rw [hc,hin]
    have:c ≠ 95:=by
     intro e; subst e; simp at hD
    simp [this]
    omega
   omega
  ·have:=wl_stop (bs:=bs) (i:=i) (k:=k) h2 h1 fun h=>by omega
   omega
 ·rw [hw,if_neg (by rw [hlet]; simp only [decide_eq_true_eq]; omega)]; rfl
theorem p124 (m:Int) (s:List UInt8):PureOk PQ (GQ m) XW (tbl []) (itbl []) nAn [] 124 [.str s] (.bool (kwR s),[]):=by
 constructor
 rw [w124]; unfold w124c3 w124c2 w124c1
 simp only [retIs_iff,Prod.mk.injEq,AV.bool.injEq,and_true,kwR,kwList,List.contains_cons,List.contains_nil,beq_iff_eq,beq_eq_false_iff_ne,ne_eq]
 repeat' (refine And.intro (fun h=>?_) (fun h=>?_))
 all_goals simp [*]
theorem p77 (m:Int) (s:List UInt8):PureOk PQ (GQ m) XW (tbl [(124,s124),(123,s123')]) (itbl []) nAn [] 77 [.str s] (.bool (nameR s),[]):=by
 constructor
 rw [w77]
 have hb:=unBytes_mk s
 unfold bytesL at hb
 simp only [callIs_iff,retIs_iff,Prod.mk.injEq,AV.bool.injEq,Option.some.injEq,and_true,exists_eq_left',tbl,s123',hb,decide_eq_true_eq,decide_eq_false_iff_not]
 refine ⟨fun h1=>⟨fun h2=>⟨by omega,?_⟩,fun h2=>?_⟩,fun h1=>?_⟩
 ·have hne:s ≠ []:=by simpa using h1
  have hp:0 < s.length:=List.length_pos_iff.2 hne
  refine ⟨wl s,?_,fun h3=>⟨fun h4=>?_,fun h4=>?_⟩,fun h3=>?_⟩
  ·have hc:0≤(0:Int)∧Int.toNat 0 < s.length∧s.length < 2 ^ 60:=⟨by omega,by simpa using hp,by omega⟩
   simp [hc,hne]
  ·simp [nameR,h4]
  ·have h3':wl s = s.length:=by have:=eq_of_beq h3; omega
   simp [nameR,h4,hne,h3']
   omega
  ·have h3':wl s ≠ s.length:=fun e=>by rw [e] at h3; simp at h3
   simp [nameR,h3']
 ·simp [nameR]; intro _ h; omega
 ·have:s = []:=by simpa using h1
  simp [nameR,this]
theorem p40 (m:Int) (s:List UInt8) (hs:s.length≤2000000):PureOk PQ (GQ m) XW (tbl [(88,s88)]) (itbl []) (a40 s) [] 40 [.str s] (.bool (nameR s),[]):=by
 constructor
 rw [w40]; unfold w40c1 w40c2 w40c3 w40c5 w40c4
 have t16:tbl [(88,s88)] 88 [.str s] = some (.bool (kwR s),[]):=by
  show s88 [.str s] = _
  simp [s88,hs]
 rw [t16]
 simp only [callIs_iff,valsAre_iff,stIs_iff,retIs_iff,Prod.mk.injEq,AV.bool.injEq,AV.int.injEq,Option.some.injEq,List.cons.injEq,and_true,true_and,exists_eq_left',decide_eq_true_eq,decide_eq_false_iff_not,beq_iff_eq,beq_eq_false_iff_ne,ne_eq]
 refine ⟨fun h=>by simp [nameR,h],fun hne=>⟨fun h=>?_,fun hl=>⟨fun h=>by simp [nameR,h],fun hk=>⟨⟨0,rfl,by omega,by omega⟩,?_⟩⟩⟩⟩
 ·simp [nameR]; intro _ h2; omega
 ·rintro x ⟨k,rfl,hk1,hk2⟩
  rw [wrap64_in (n:=(k:Int) + 1) (by omega) (by omega)]
  have hw:=wl_le s
  refine ⟨fun hlt=>?_,fun hge=>?_⟩
  ·have hlt':k < s.length:=by omega
   refine ⟨by omega,s.getD k 0,by simp [hlt'],?_⟩
   have hlet:letterB (s.getD k 0) = decide (97≤(s.getD k 0).toNat∧(s.getD k 0).toNat≤122):=rfl
   have h95:(s.getD k 0).toNat = 95 ↔ s.getD k 0 = 95:=by
    rw [← UInt8.toNat_inj]; rfl
   have hin:innerB (s.getD k 0) = true ↔ (97≤(s.getD k 0).toNat∧(s.getD k 0).toNat≤122)∨(48≤(s.getD k 0).toNat∧(s.getD k 0).toNat≤57)∨(s.getD k 0).toNat = 95:=by
    rw [h95]
    simp only [innerB,letterB,digitB,Bool.or_eq_true,decide_eq_true_eq,beq_iff_eq,or_assoc]
   have hw0:=wl_drop (bs:=s) (i:=0) (by omega)
   rw [List.drop_zero] at hw0
   have step:((97≤(s.getD k 0).toNat∧(s.getD k 0).toNat≤122)∨(1≤k∧((48≤(s.getD k 0).toNat∧(s.getD k 0).toNat≤57)∨(s.getD k 0).toNat = 95))) →
     (∃ j:Nat,(k:Int) + 1 = j∧j≤s.length∧(1≤j→j≤wl s))∧((s.length:Int) - (k + 1)).toNat < ((s.length:Int) - k).toNat:=fun hp=>by
    refine ⟨⟨k + 1,by omega,by omega,fun _=>?_⟩,by omega⟩
    by_cases h0:k = 0
    ·subst h0
     rw [hw0,if_pos (by rw [hlet]; exact decide_eq_true (by omega))]
     omega
    ·have:=wl_next (bs:=s) (i:=0) (k:=k) (by rw [List.drop_zero]; exact hk2 (by omega)) (by omega) (by omega) (by rw [Nat.zero_add,hin]; omega)
     rw [List.drop_zero] at this
     omega
   have stop:¬((97≤(s.getD k 0).toNat∧(s.getD k 0).toNat≤122)∨(1≤k∧((48≤(s.getD k 0).toNat∧(s.getD k 0).toNat≤57)∨(s.getD k 0).toNat = 95)))→false = nameR s:=fun hp=>by
    have hne:wl s ≠ s.length:=by
     by_cases h0:k = 0
     ·subst h0
      rw [hw0,if_neg (by rw [hlet]; simp only [decide_eq_true_eq]; omega)]
      omega
     ·have:=wl_stop (bs:=s) (i:=0) (k:=k) (by rw [List.drop_zero]; exact hk2 (by omega)) (by omega) (fun _=>by
       rw [Nat.zero_add]
       cases hb:innerB (s.getD k 0) with
       | false=>rfl
       | true=>rw [hin] at hb; omega)
      rw [List.drop_zero] at this
      omega
    simp [nameR,hne]
   generalize (s.getD k 0).toNat = c at *
   repeat' (first | exact step (by omega) | exact stop (by omega) | refine And.intro (fun _=>?_) (fun _=>?_))
  ·have hk3:k = s.length:=by omega
   have hp:0 < s.length:=List.length_pos_iff.2 hne
   have:wl s = s.length:=by have:=hk2 (by omega); omega
   simp [nameR,hne,hk,this]
   omega
theorem contains_iff (t sub:List UInt8):Lib.contains t sub = true ↔ ∃ i,i≤t.length∧Lib.occAt t sub i = true:=by
 unfold Lib.contains
 rw [decide_eq_true_eq]
 constructor
 ·intro h
  by_cases hex:∃ i,i≤t.length∧Lib.occAt t sub i = true
  ·exact hex
  ·have:=Lib.index_none (s:=t) (sub:=sub) fun j hj=>by
    cases hb:Lib.occAt t sub j with
    | false=>rfl
    | true=>exact absurd ⟨j,hj,hb⟩ hex
   omega
 ·intro h
  obtain ⟨n,⟨hn,ho⟩,hmin⟩:=exists_least h
  have:=Lib.index_first (s:=t) (sub:=sub) hn ho fun j hj=>by
   cases hb:Lib.occAt t sub j with
   | false=>rfl
   | true=>have:=hmin j ⟨by omega,hb⟩; omega
  omega
def txt (ws:List (List UInt8)):List UInt8:=32 :: ws.flatMap fun w=>w ++ [32]
theorem txt_cons (w:List UInt8) (ws:List (List UInt8)):txt (w :: ws) = 32 :: (w ++ txt ws):=by
 simp [txt]
theorem pre_word:∀ {s w r q:List UInt8},32 ∉ s→32 ∉ w→(s ++ 32 :: r = w ++ 32 :: q)→s = w
 | [],[],_,_,_,_,_=>rfl
 | [],c :: w,_,_,_,hw,h=>by
  injection h with h1 _
  exact absurd (by rw [← h1]; exact List.mem_cons_self) hw
 | c :: s,[],_,_,hs,_,h=>by
  injection h with h1 _
  exact absurd (by rw [h1]; exact List.mem_cons_self) hs
 | c :: s,d :: w,r,q,hs,hw,h=>by
  simp only [List.cons_append,List.cons.injEq] at h
  rw [h.1,pre_word (fun hm=>hs (List.mem_cons_of_mem _ hm)) (fun hm=>hw (List.mem_cons_of_mem _ hm)) h.2]
theorem occ_txt {s:List UInt8} (hs:32 ∉ s) (hne:s ≠ []):∀ (ws:List (List UInt8)),(∀ w ∈ ws,32 ∉ w)→((∃ i,([32] ++ s ++ [32]) <+: (txt ws).drop i) ↔ s ∈ ws)
 | [],_=>by
  simp only [List.not_mem_nil,iff_false]
  rintro ⟨i,h⟩
  have:=h.length_le
  have hp:0 < s.length:=List.length_pos_iff.2 hne
  simp [txt] at this
  omega
 | w :: ws,hw=>by
  have ih:=occ_txt hs hne ws fun x hx=>hw x (List.mem_cons_of_mem _ hx)
  rw [txt_cons]
  constructor
  ·rintro ⟨i,h⟩
   match i with
   | 0 =>
    obtain ⟨r,hr⟩:=h
    simp only [List.drop_zero,List.cons_append,List.nil_append,List.append_assoc,List.cons.injEq,true_and,txt] at hr
    rw [pre_word hs (hw w List.mem_cons_self) hr]
    exact List.mem_cons_self
   | i + 1 =>
    simp only [List.drop_succ_cons] at h
    by_cases hi:i < w.length
    ·obtain ⟨r,hr⟩:=h
     rw [List.drop_append_of_le_length (by omega),List.drop_eq_getElem_cons hi] at hr
     simp only [List.cons_append,List.nil_append,List.cons.injEq] at hr
     exact absurd (hr.1 ▸ List.getElem_mem hi) (hw w List.mem_cons_self)
    ·have e:(w ++ txt ws).drop i = (txt ws).drop (i - w.length):=by
      rw [List.drop_append,List.drop_eq_nil_of_le (by omega),List.nil_append]
     rw [e] at h
     exact List.mem_cons_of_mem _ (ih.1 ⟨_,h⟩)
  ·intro h
   rcases List.mem_cons.1 h with rfl | h
   ·exact ⟨0,⟨txt ws |>.tail,by simp [txt]⟩⟩
   ·obtain ⟨i,hi⟩:=ih.2 h
    refine ⟨i + w.length + 1,?_⟩
    simp only [List.drop_succ_cons]
    rw [List.drop_append,List.drop_eq_nil_of_le (by omega),List.nil_append,show i + w.length - w.length = i by omega]
    exact hi
theorem contains_txt {s:List UInt8} (hs:32 ∉ s) (hne:s ≠ []) (ws:List (List UInt8)) (hw:∀ w ∈ ws,32 ∉ w):Lib.contains (txt ws) ([32] ++ s ++ [32]) = ws.contains s:=by
 rw [Bool.eq_iff_iff,contains_iff,List.contains_iff_mem,← occ_txt hs hne ws hw]
 constructor
 ·rintro ⟨i,_,h⟩
  exact ⟨i,List.isPrefixOf_iff_prefix.1 h⟩
 ·rintro ⟨i,h⟩
  refine ⟨i,?_,List.isPrefixOf_iff_prefix.2 h⟩
  have:=h.length_le
  simp only [List.length_append,List.length_drop,List.length_cons,List.length_nil] at this
  omega
theorem contains_one {s:List UInt8}:Lib.contains s [32] = true ↔ 32 ∈ s:=by
 rw [contains_iff]
 constructor
 ·rintro ⟨i,hi,h⟩
  have:=List.isPrefixOf_iff_prefix.1 h
  obtain ⟨r,hr⟩:=this
  exact List.mem_of_mem_drop (i:=i) (by rw [← hr]; simp)
 ·intro h
  obtain ⟨i,hi,he⟩:=List.mem_iff_getElem.1 h
  refine ⟨i,by omega,List.isPrefixOf_iff_prefix.2 ⟨s.drop (i + 1),?_⟩⟩
  rw [List.drop_eq_getElem_cons hi,he]
  rfl
theorem kw_no:∀ w ∈ kwList,(32:UInt8) ∉ w:=by decide
theorem p88 (m:Int) (s:List UInt8) (hs:s.length≤2000000):PureOk PQ (GQ m) XW (tbl libQ) (itbl []) nAn [] 88 [.str s] (.bool (kwR s),[]):=by
 constructor
 rw [w88]
 have hc:∀ t:List UInt8,tbl [(133,sContains)] 133 [.str s,.str t] = some (.bool (Lib.contains s t),[]):=fun t=>by
  show sContains [.str s,.str t] = _
  simp only [sContains]
  rw [if_pos (by omega)]
 rw [hc]
 have ht:∀ u,Lib.contains [32,116,97,98,108,101,32,102,101,97,116,117,114,101,32,111,102,32,107,101,101,112,32,98,111,111,108,32,116,101,120,116,32,107,101,121,32,105,110,116,32,100,101,99,32,105,102,32,116,104,101,110,32,101,108,115,101,32,100,101,102,97,117,108,116,32,111,114,32,97,110,100,32,110,111,116,32,116,114,117,101,32,102,97,108,115,101,32,110,117,108,108,32,99,111,117,110,116,32,115,117,109,32,109,101,97,110,32,109,105,110,32,109,97,120,32,102,105,114,115,116,32,108,97,115,116,32,100,105,115,116,105,110,99,116,32,113,117,97,110,116,105,108,101,32,100,101,99,97,121,32,97,108,108,32,115,108,105,100,105,110,103,32,116,117,109,98,108,105,110,103,32,115,101,115,115,105,111,110,32,119,104,101,114,101,32] u = Lib.contains (txt kwList) u:=fun u=>rfl
 simp only [ht]
 simp only [callIs_iff,retIs_iff,Prod.mk.injEq,AV.bool.injEq,Option.some.injEq,and_true,exists_eq_left']
 refine ⟨fun h1=>⟨fun h2=>?_,fun h2=>⟨by omega,by simp; omega,?_⟩⟩,fun h1=>?_⟩
 ·have hm:=contains_one.1 h2
  cases hk:kwR s with
  | false=>rfl
  | true=>exact absurd hm (kw_no s (List.contains_iff_mem.1 hk))
 ·have hne:s ≠ []:=by simpa using h1
  have hm:32 ∉ s:=fun h=>by rw [contains_one.2 h] at h2; cases h2
  rw [contains_txt hm hne kwList kw_no]
  exact ⟨fun h=>h.symm,fun h=>h.symm⟩
 ·have:s = []:=by simpa using h1
  subst this
  rfl
theorem p160 (m n:Int):PureOk PQ (GQ m) X1 (tbl []) (itbl []) ⟨nA,nA⟩ [] 160 [.int .u8 n] (.bool (decide (97≤n∧n≤122)),[]):=by
 constructor
 rw [w160]
 simp only [retIs_iff,Prod.mk.injEq,AV.bool.injEq,and_true,decide_eq_true_eq,decide_eq_false_iff_not]
 refine ⟨fun h1=>⟨fun h2=>(decide_eq_true (by omega)).symm,fun h2=>(decide_eq_false (by omega)).symm⟩,fun h1=>(decide_eq_false (by omega)).symm⟩
theorem p140 (m n:Int):PureOk PQ (GQ m) X1 (tbl []) (itbl []) ⟨nA,nA⟩ [] 140 [.int .u8 n] (.bool (decide (48≤n∧n≤57)),[]):=by
 constructor
 rw [w140]
 simp only [retIs_iff,Prod.mk.injEq,AV.bool.injEq,and_true,decide_eq_true_eq,decide_eq_false_iff_not]
 refine ⟨fun h1=>⟨fun h2=>(decide_eq_true (by omega)).symm,fun h2=>(decide_eq_false (by omega)).symm⟩,fun h1=>(decide_eq_false (by omega)).symm⟩
theorem o160 (m:Int):SpecOk PQ (GQ m) 160 s160:=spec_of (X:=X1) (m:=[]) mixedQ tbl_nil itbl_nil fun args r h=>by
 unfold s160 at h
 split at h
 ·injection h with h; subst h; exact ⟨⟨nA,nA⟩,p160 m _⟩
 ·cases h
theorem o140 (m:Int):SpecOk PQ (GQ m) 140 s140:=spec_of (X:=X1) (m:=[]) mixedQ tbl_nil itbl_nil fun args r h=>by
 unfold s140 at h
 split at h
 ·injection h with h; subst h; exact ⟨⟨nA,nA⟩,p140 m _⟩
 ·cases h
theorem o123 (m:Int):SpecOk PQ (GQ m) 123 s123':=spec_of (X:=X1) (m:=[]) mixedQ (tbl_cons (o160 m) (tbl_cons (o140 m) tbl_nil)) itbl_nil fun args r h=>by
 unfold s123' at h
 split at h
 ·rename_i sz es n
  split at h
  ·rename_i hsz
   subst hsz
   split at h
   ·rename_i bs hb
    obtain rfl:=unBytes_some hb
    split at h
    ·rename_i hc
     injection h with h
     subst h
     have:=p123 m bs n.toNat hc.2.1 hc.2.2
     rw [Int.toNat_of_nonneg hc.1] at this
     exact ⟨a123 bs n.toNat,this⟩
    ·cases h
   ·cases h
  ·cases h
 ·cases h
theorem o124 (m:Int):SpecOk PQ (GQ m) 124 s124:=spec_of (X:=XW) (m:=[]) mixedQ tbl_nil itbl_nil fun args r h=>by
 unfold s124 at h
 split at h
 ·injection h with h; subst h; exact ⟨nAn,p124 m _⟩
 ·cases h
theorem o88 (m:Int):SpecOk PQ (GQ m) 88 s88:=spec_of (X:=XW) (m:=[]) mixedQ (libQ_ok m) itbl_nil fun args r h=>by
 unfold s88 at h
 split at h
 ·split at h
  ·rename_i hl
   injection h with h; subst h; exact ⟨nAn,p88 m _ hl⟩
  ·cases h
 ·cases h
def unL {α:Type} (f:AV→Option α):List AV→Option (List α)
 | []=>some []
 | a :: l=>match f a,unL f l with
  | some x,some xs=>some (x :: xs)
  | _,_=>none
theorem unL_map {α:Type} {f:AV→Option α} {g:α→AV} (h:∀ x,f (g x) = some x):∀ l:List α,unL f (l.map g) = some l
 | []=>rfl
 | x :: l=>by simp only [List.map_cons,unL,h x,unL_map h l]
theorem unL_inv {α:Type} {f:AV→Option α} {g:α→AV} (h:∀ a x,f a = some x→a = g x):∀ {es:List AV} {l:List α},unL f es = some l→es = l.map g
 | [],l,e=>by simp only [unL,Option.some.injEq] at e; subst e; rfl
 | a :: es,l,e=>by
  simp only [unL] at e
  split at e
  ·rename_i x xs h1 h2
   simp only [Option.some.injEq] at e
   subst e
   rw [List.map_cons,← h a x h1,← unL_inv h h2]
  ·cases e
def unS:AV→Option (List UInt8)
 | .str s=>some s
 | _=>none
theorem unS_ok (s:List UInt8):unS (.str s) = some s:=rfl
theorem unS_inv (a:AV) (x:List UInt8) (h:unS a = some x):a = .str x:=by
 unfold unS at h
 split at h
 ·injection h with h; subst h; rfl
 ·cases h
structure Lb where
 key:List UInt8
 event:Int
 know:Int
deriving DecidableEq
instance : Inhabited Lb := ⟨⟨[], 0, 0⟩⟩
def lbA (x:Lb):AV:=.agg [.str x.key,.int .i64 x.event,.int .i64 x.know]
def unLb:AV→Option Lb
 | .agg [.str k,.int .i64 a,.int .i64 b]=>some ⟨k,a,b⟩
 | _=>none
theorem unLb_ok (x:Lb):unLb (lbA x) = some x:=rfl
theorem unLb_inv (a:AV) (x:Lb) (h:unLb a = some x):a = lbA x:=by
 unfold unLb at h
 split at h
 ·injection h with h; subst h; rfl
 ·cases h
abbrev strsL (l:List (List UInt8)):List AV:=l.map .str
abbrev lbsL (l:List Lb):List AV:=l.map lbA
structure Rq where
 entity:List UInt8
 feats:List (List UInt8)
 labels:List Lb
 seed:Int
 permille:Int
deriving DecidableEq
def rqA (r:Rq):AV:=.agg [.str r.entity,.sl 1 (strsL r.feats) .no,.sl 3 (lbsL r.labels) .no,.int .i64 r.seed,.int .i64 r.permille]
def unRqN:AV→Option Rq
 | .agg [.str e,.sl a fs .no,.sl b ls .no,.int .i64 s,.int .i64 p]=>match unL unS fs,unL unLb ls with
  | some f,some l=>if a = 1∧b = 3 then some ⟨e,f,l,s,p⟩ else none
  | _,_=>none
 | _=>none
theorem unRqN_ok (r:Rq):unRqN (rqA r) = some r:=by
 simp only [unRqN,rqA,unL_map unS_ok,unL_map unLb_ok]; rfl
theorem unRqN_inv (a:AV) (x:Rq) (h:unRqN a = some x):a = rqA x:=by
 unfold unRqN at h
 split at h
 case h_2=>cases h
 split at h
 case h_2=>cases h
 rename_i h1 h2
 split at h
 case isFalse=>cases h
 rename_i hh
 injection h with h; subst h
 rw [unL_inv unS_inv h1,unL_inv unLb_inv h2,hh.1,hh.2]; rfl
def tickB (n:Int):Bool:=decide (0≤n) && decide (n≤1099511627776)
def keyC (c:UInt8):Bool:=decide (33≤c.toNat) && decide (c.toNat≤126) && !(c.toNat == 34) && !(c.toNat == 92)
def keyB (s:List UInt8):Bool:=decide (s ≠ []) && decide (s.length≤32) && s.all keyC
def keyErr (s:List UInt8):Int:=if 32 < s.length then 2 else if s = [] then 3 else if s.all keyC then 0 else 3
def lbOk (x:Lb):Bool:=keyB x.key && tickB x.event && tickB x.know
def featsOk:List (List UInt8)→List (List UInt8)→Bool
 | _,[]=>true
 | seen,f :: l=>nameR f && !seen.contains f && featsOk (seen ++ [f]) l
def headOk (r:Rq):Bool:=nameR r.entity && decide (1≤r.feats.length) && decide (r.feats.length≤8) && decide (r.labels.length≤256) && tickB r.seed && decide (0≤r.permille) && decide (r.permille≤1000)
def formB (r:Rq):Bool:=headOk r && featsOk [] r.feats && r.labels.all lbOk
def maxI:Nat:=9223372036854775807
def s40u:Spec:=fun args=>match args with
 | [.str s]=>some (.bool (nameR s),[])
 | _=>none
def sTick:Spec:=fun args=>match args with
 | [.int .i64 n]=>some (.bool (tickB n),[])
 | _=>none
def s138:Spec:=fun args=>match args with
 | [.agg [.int .i64 5,.int .i64 0,.str s]]=>some (.int .i64 (keyErr s),[])
 | _=>none
def s94:Spec:=fun args=>match args with
 | [.str s]=>some (.bool (keyB s),[])
 | _=>none
def s125:Spec:=fun args=>match args with
 | [.str s]=>if s.length≤maxI then some (.bool (keyB s),[]) else none
 | _=>none
def s93:Spec:=fun args=>match args with
 | [.agg [.str k,.int .i64 a,.int .i64 b]]=>some (.bool (!lbOk ⟨k,a,b⟩),[])
 | _=>none
def s79:Spec:=fun args=>match args with
 | [.agg [.str k,.int .i64 a,.int .i64 b]]=>if k.length≤maxI then some (.bool (lbOk ⟨k,a,b⟩),[]) else none
 | _=>none
def sIn:Spec:=fun args=>match args with
 | [.sl sz fs .no,.str x]=>match unL unS fs with
  | some l=>if sz = 1∧l.length≤maxI then some (.bool (l.contains x),[]) else none
  | none=>none
 | _=>none
def idxS (l:List (List UInt8)) (x:List UInt8):Int:=if x ∈ l then (l.takeWhile fun y=>!(x == y)).length else -1
def s136:Spec:=fun args=>match args with
 | [.sl sz fs .no,.str x]=>match unL unS fs with
  | some l=>if sz = 1∧l.length≤maxI then some (.int .i64 (idxS l x),[]) else none
  | none=>none
 | _=>none
def idxP (l:List Lb):Int:=if l.all lbOk then -1 else (l.takeWhile lbOk).length
def s137:Spec:=fun args=>match args with
 | [.sl sz ls .no,.fn 93 []]=>match unL unLb ls with
  | some l=>if sz = 3∧l.length≤maxI then some (.int .i64 (idxP l),[]) else none
  | none=>none
 | _=>none
def s92:Spec:=fun args=>match args with
 | [.sl sz ls .no,.fn 93 []]=>match unL unLb ls with
  | some l=>if sz = 3∧l.length≤maxI then some (.bool (!l.all lbOk),[]) else none
  | none=>none
 | _=>none
def keysOk (l:List Lb):Bool:=l.all fun x=>decide (x.key.length≤maxI)
def s46:Spec:=fun args=>match args with
 | [a]=>match unRqN a with
  | some r=>some (.bool (formB r),[])
  | none=>none
 | _=>none
def s33:Spec:=fun args=>match args with
 | [a]=>match unRqN a with
  | some r=>if keysOk r.labels then some (.bool (formB r),[]) else none
  | none=>none
 | _=>none
def X24:Shapes:=fun f=>match f with
 | 10 | 20 | 22 | 13 | 33 | 40 | 46 | 77 | 78 | 79 | 90 | 91 | 92 | 93 | 94 | 125 | 24=>some shB
 | 17 | 18 | 136 | 137 | 138=>some shI
 | _=>none
def a125 (s:List UInt8):Anns:=⟨fun k=>if k = 2 then some { α:=Nat,slots:=[0,3],nb:=0,vals:=fun i=>[.str s,.int .i64 i],sS:=fun _=>⟨[],[]⟩,I:=fun i=>i≤s.length∧(s.take i).all keyC = true,μ:=fun i=>s.length - i } else none,nA⟩
def cut1 (S:St) (sl:List Nat) (vs:List AV) (q:Prop):Option Ann:=some { α:=Unit,slots:=sl,nb:=S.boxes.length,vals:=fun _=>vs,sS:=fun _=>S,I:=fun _=>q,μ:=fun _=>0,keep:=some 0 }
def st138 (s:List UInt8):St:=⟨[some [.int .i64 5,.int .i64 0,.str s]],[]⟩
def a138 (s:List UInt8):Anns:=⟨fun k=>match k with
 | 20=>some { α:=Nat,slots:=[1,6,88,89],nb:=1,vals:=fun i=>[.ptr 0 0,.int .u8 33,.int .i64 s.length,.int .i64 i],sS:=fun _=>st138 s,I:=fun i=>i≤s.length∧(s.take i).all keyC = true,μ:=fun i=>s.length - i }
 | 1000003=>cut1 (st138 s) [1,3,4] [.ptr 0 0,.bool false,.bool true] True
 | 1000010=>cut1 (st138 s) [1,4] [.ptr 0 0,.bool true] True
 | 1000012=>cut1 (st138 s) [1,4] [.ptr 0 0,.bool true] True
 | 1000015=>cut1 (st138 s) [1,5,6] [.ptr 0 0,.int .i64 32,.int .u8 33] True
 | 1000017=>cut1 (st138 s) [1,6] [.ptr 0 0,.int .u8 33] (s.length≤32)
 | 1000019=>cut1 (st138 s) [1,6] [.ptr 0 0,.int .u8 33] (s.length≤32∧s ≠ [])
 | _=>none,nA⟩
def aIn (l:List (List UInt8)) (x:List UInt8):Anns:=⟨fun k=>if k = 2 then some { α:=Nat,slots:=[0,1,5],nb:=0,vals:=fun i=>[.sl 1 (strsL l) .no,.str x,.int .i64 i],sS:=fun _=>⟨[],[]⟩,I:=fun i=>i≤l.length∧(l.take i).contains x = false,μ:=fun i=>l.length - i } else none,nA⟩
def a136 (l:List (List UInt8)) (x:List UInt8):Anns:=⟨fun k=>if k = 2 then some { α:=Nat,slots:=[0,1,7,8],nb:=0,vals:=fun i=>[.sl 1 (strsL l) .no,.str x,.int .i64 l.length,.int .i64 i],sS:=fun _=>⟨[],[]⟩,I:=fun i=>i≤l.length∧∀ y ∈ l.take i,(x == y) = false,μ:=fun i=>l.length - i } else none,nA⟩
def a137 (l:List Lb):Anns:=⟨fun k=>if k = 2 then some { α:=Nat,slots:=[0,1,7,8],nb:=0,vals:=fun i=>[.sl 3 (lbsL l) .no,.fn 93 [],.int .i64 l.length,.int .i64 i],sS:=fun _=>⟨[],[]⟩,I:=fun i=>i≤l.length∧(l.take i).all lbOk = true,μ:=fun i=>l.length - i } else none,nA⟩
def stR (r:Rq):St:=⟨[some [.str r.entity,.sl 1 (strsL r.feats) .no,.sl 3 (lbsL r.labels) .no,.int .i64 r.seed,.int .i64 r.permille]],[]⟩
def a46 (r:Rq):Anns:=⟨fun k=>if k = 4 then some { α:=Nat,slots:=[1,44,45,46],nb:=1,vals:=fun i=>[.ptr 0 0,.sl 1 (strsL r.feats) .no,.int .i64 r.feats.length,.int .i64 i],sS:=fun _=>stR r,I:=fun i=>i≤r.feats.length∧featsOk [] r.feats = featsOk (r.feats.take i) (r.feats.drop i),μ:=fun i=>r.feats.length - i } else none,nA⟩
def a33 (r:Rq):Anns:=⟨fun k=>if k = 4 then some { α:=Nat,slots:=[1,3],nb:=1,vals:=fun i=>[.ptr 0 0,.int .i64 i],sS:=fun _=>stR r,I:=fun i=>i≤r.feats.length∧featsOk [] r.feats = featsOk (r.feats.take i) (r.feats.drop i),μ:=fun i=>r.feats.length - i }
 else if k = 9 then some { α:=Nat,slots:=[1,4],nb:=1,vals:=fun i=>[.ptr 0 0,.int .i64 i],sS:=fun _=>stR r,I:=fun i=>i≤r.labels.length∧featsOk [] r.feats = true∧(r.labels.take i).all lbOk = true,μ:=fun i=>r.labels.length - i } else none,nA⟩
def t46:List (FuncId × Spec):=[(40,s40u),(90,sTick),(91,sIn),(92,s92)]
def t33q:List (FuncId × Spec):=[(77,s40u),(78,sTick),(20,sIn),(79,s79)]
theorem w90 (m:Int) (n:Int) (r:AV):(pureW PQ (GQ m) X24 (tbl []) (itbl []) nAn [] 90 [.int .i64 n] (r,[])) =
((decide (n ≥ (0:Int)) = true→(decide (n≤(1099511627776:Int)) = true→RetIs (AV.bool true) [] (r,[]))∧(decide (n≤(1099511627776:Int)) = false→RetIs (AV.bool false) [] (r,[])))∧(decide (n ≥ (0:Int)) = false→RetIs (AV.bool false) [] (r,[]))):=by kernel_rfl
theorem w78 (m:Int) (n:Int) (r:AV):(pureW PQ (GQ m) X24 (tbl []) (itbl []) nAn [] 78 [.int .i64 n] (r,[])) =
((decide (n ≥ (0:Int)) = true→(decide (n≤(1099511627776:Int)) = true→RetIs (AV.bool true) [] (r,[]))∧(decide (n≤(1099511627776:Int)) = false→RetIs (AV.bool false) [] (r,[])))∧(decide (n ≥ (0:Int)) = false→RetIs (AV.bool false) [] (r,[]))):=by kernel_rfl
theorem w94 (m:Int) (s:List UInt8) (r:AV):(pureW PQ (GQ m) X24 (tbl [(138,s138)]) (itbl []) nAn [] 94 [.str s] (r,[])) =
(((!s == []) = true→∃ (n:Int),CallIs (some (AV.int IntKind.i64 (keyErr s),[])) (AV.int IntKind.i64 n) []∧((n == (0:Int)) = true→RetIs (AV.bool true) [] (r,[]))∧((n == (0:Int)) = false→RetIs (AV.bool false) [] (r,[])))∧((!s == []) = false→RetIs (AV.bool false) [] (r,[]))):=by kernel_rfl
theorem w125 (m:Int) (s:List UInt8) (r:AV):(pureW PQ (GQ m) X24 (tbl []) (itbl []) (a125 s) [] 125 [.str s] (r,[])) =
((∃ (y:Nat),ValsAre [AV.str s,I6 0] [AV.str s,I6 (↑y:Int)]∧StIs { boxes:=[],live:=[] } { boxes:=[],live:=[] }∧(y≤s.length∧(List.take y s).all keyC = true)∧True)∧∀ (x:Nat),x≤s.length∧(List.take x s).all keyC = true→(decide ((↑x:Int) < (↑s.length:Int)) = true→(0:Int)≤(↑x:Int)∧∃ (c:UInt8),s[(↑x:Int).toNat]? = some c∧(decide ((↑c.toNat:Int) < (33:Int)) = true→RetIs (AV.bool false) [] (r,[]))∧(decide ((↑c.toNat:Int) < (33:Int)) = false→(0:Int)≤(↑x:Int)∧∃ (c:UInt8),s[(↑x:Int).toNat]? = some c∧(decide ((↑c.toNat:Int) > (126:Int)) = true→RetIs (AV.bool false) [] (r,[]))∧(decide ((↑c.toNat:Int) > (126:Int)) = false→(0:Int)≤(↑x:Int)∧∃ (c:UInt8),s[(↑x:Int).toNat]? = some c∧(((↑c.toNat:Int) == (34:Int)) = true→RetIs (AV.bool false) [] (r,[]))∧(((↑c.toNat:Int) == (34:Int)) = false→(0:Int)≤(↑x:Int)∧∃ (c:UInt8),s[(↑x:Int).toNat]? = some c∧(((↑c.toNat:Int) == (92:Int)) = true→RetIs (AV.bool false) [] (r,[]))∧(((↑c.toNat:Int) == (92:Int)) = false→∃ (y:Nat),ValsAre [AV.str s,I6 (IntKind.i64.wrap ((↑x:Int) + (1:Int)))] [AV.str s,I6 (↑y:Int)]∧StIs { boxes:=[],live:=[] } { boxes:=[],live:=[] }∧(y≤s.length∧(List.take y s).all keyC = true)∧s.length - y < s.length - x)))))∧(decide ((↑x:Int) < (↑s.length:Int)) = false→(decide ((↑s.length:Int) ≥ (1:Int)) = true→(decide ((↑s.length:Int)≤(32:Int)) = true→RetIs (AV.bool true) [] (r,[]))∧(decide ((↑s.length:Int)≤(32:Int)) = false→RetIs (AV.bool false) [] (r,[])))∧(decide ((↑s.length:Int) ≥ (1:Int)) = false→RetIs (AV.bool false) [] (r,[])))):=by kernel_rfl
theorem w93 (m:Int) (x:Lb) (r:AV):(pureW PQ (GQ m) X24 (tbl [(94,s94),(90,sTick)]) (itbl []) nAn [] 93 [.agg [.str x.key,.int .i64 x.event,.int .i64 x.know]] (r,[])) =
(∃ (b:Bool),CallIs (some (AV.bool (keyB x.key),[])) (AV.bool b) []∧(b = true→∃ (b:Bool),CallIs (some (AV.bool (tickB x.event),[])) (AV.bool b) []∧(b = true→∃ (b:Bool),CallIs (some (AV.bool (tickB x.know),[])) (AV.bool b) []∧(b = true→RetIs (AV.bool false) [] (r,[]))∧(b = false→RetIs (AV.bool true) [] (r,[])))∧(b = false→RetIs (AV.bool true) [] (r,[])))∧(b = false→RetIs (AV.bool true) [] (r,[]))):=by kernel_rfl
theorem w79 (m:Int) (x:Lb) (r:AV):(pureW PQ (GQ m) X24 (tbl [(125,s125),(78,sTick)]) (itbl []) nAn [] 79 [.agg [.str x.key,.int .i64 x.event,.int .i64 x.know]] (r,[])) =
(∃ (b:Bool),CallIs (tbl [(125,s125),(78,sTick)] 125 [AV.str x.key]) (AV.bool b) []∧(b = true→∃ (b:Bool),CallIs (some (AV.bool (tickB x.event),[])) (AV.bool b) []∧(b = true→∃ (b:Bool),CallIs (some (AV.bool (tickB x.know),[])) (AV.bool b) []∧(b = true→RetIs (AV.bool true) [] (r,[]))∧(b = false→RetIs (AV.bool false) [] (r,[])))∧(b = false→RetIs (AV.bool false) [] (r,[])))∧(b = false→RetIs (AV.bool false) [] (r,[]))):=by kernel_rfl
theorem w20 (m:Int) (l:List (List UInt8)) (x:List UInt8) (r:AV):(pureW PQ (GQ m) X24 (tbl []) (itbl []) (aIn l x) [] 20 [.sl 1 (strsL l) .no,.str x] (r,[])) =
((∃ (y:Nat),ValsAre [AV.sl 1 (strsL l) Own.no,AV.str x,I6 0] [AV.sl 1 (strsL l) Own.no,AV.str x,I6 (↑y:Int)]∧StIs { boxes:=[],live:=[] } { boxes:=[],live:=[] }∧(y≤l.length∧(List.take y l).contains x = false)∧True)∧∀ (x_1:Nat),x_1≤l.length∧(List.take x_1 l).contains x = false→(decide ((↑x_1:Int) < (↑(strsL l).length:Int)) = true→((0:Int)≤(↑x_1:Int)∧(↑x_1:Int) < (↑(strsL l).length:Int))∧∃ (s:List UInt8),takeAt PQ 9 (strsL l) (↑x_1:Int).toNat 0 = some (AV.str s)∧((s == x) = true→RetIs (AV.bool true) [] (r,[]))∧((s == x) = false→∃ (y:Nat),ValsAre [AV.sl 1 (strsL l) Own.no,AV.str x,I6 (IntKind.i64.wrap ((↑x_1:Int) + (1:Int)))] [AV.sl 1 (strsL l) Own.no,AV.str x,I6 (↑y:Int)]∧StIs { boxes:=[],live:=[] } { boxes:=[],live:=[] }∧(y≤l.length∧(List.take y l).contains x = false)∧l.length - y < l.length - x_1))∧(decide ((↑x_1:Int) < (↑(strsL l).length:Int)) = false→RetIs (AV.bool false) [] (r,[]))):=by kernel_rfl
theorem w136 (m:Int) (l:List (List UInt8)) (x:List UInt8) (r:AV):(pureW PQ (GQ m) X24 (tbl []) (itbl []) (a136 l x) [] 136 [.sl 1 (strsL l) .no,.str x] (r,[])) =
((∃ (y:Nat),ValsAre [AV.sl 1 (strsL l) Own.no,AV.str x,I6 (↑(strsL l).length:Int),I6 0] [AV.sl 1 (strsL l) Own.no,AV.str x,I6 (↑l.length:Int),I6 (↑y:Int)]∧StIs { boxes:=[],live:=[] } { boxes:=[],live:=[] }∧(y≤l.length∧∀ (y_1:List UInt8),y_1 ∈ List.take y l→(x == y_1) = false)∧True)∧∀ (x_1:Nat),(x_1≤l.length∧∀ (y:List UInt8),y ∈ List.take x_1 l→(x == y) = false)→(decide ((↑x_1:Int) < (↑l.length:Int)) = true→((0:Int)≤(↑x_1:Int)∧(↑x_1:Int) < (↑(strsL l).length:Int))∧∃ (s:List UInt8),takeAt PQ 9 (strsL l) (↑x_1:Int).toNat 0 = some (AV.str s)∧((x == s) = true→RetIs (I6 (↑x_1:Int)) [] (r,[]))∧((x == s) = false→∃ (y:Nat),ValsAre [AV.sl 1 (strsL l) Own.no,AV.str x,I6 (↑l.length:Int),I6 (IntKind.i64.wrap ((↑x_1:Int) + (1:Int)))] [AV.sl 1 (strsL l) Own.no,AV.str x,I6 (↑l.length:Int),I6 (↑y:Int)]∧StIs { boxes:=[],live:=[] } { boxes:=[],live:=[] }∧(y≤l.length∧∀ (y_1:List UInt8),y_1 ∈ List.take y l→(x == y_1) = false)∧l.length - y < l.length - x_1))∧(decide ((↑x_1:Int) < (↑l.length:Int)) = false→RetIs (I6 (-1)) [] (r,[]))):=by kernel_rfl
theorem w91 (m:Int) (l:List (List UInt8)) (x:List UInt8) (r:AV):(pureW PQ (GQ m) X24 (tbl [(136,s136)]) (itbl []) nAn [] 91 [.sl 1 (strsL l) .no,.str x] (r,[])) =
(∃ (n:Int),CallIs (tbl [(136,s136)] 136 [AV.sl 1 (strsL l) Own.no,AV.str x]) (AV.int IntKind.i64 n) []∧(decide (n ≥ (0:Int)) = true→RetIs (AV.bool true) [] (r,[]))∧(decide (n ≥ (0:Int)) = false→RetIs (AV.bool false) [] (r,[]))):=by kernel_rfl
theorem w137 (m:Int) (l:List Lb) (r:AV):(pureW PQ (GQ m) X24 (tbl [(93,s93)]) (itbl []) (a137 l) [] 137 [.sl 3 (lbsL l) .no,.fn 93 []] (r,[])) =
((∃ (y:Nat),ValsAre [AV.sl 3 (lbsL l) Own.no,AV.fn 93 [],I6 (↑(lbsL l).length:Int),I6 0] [AV.sl 3 (lbsL l) Own.no,AV.fn 93 [],I6 (↑l.length:Int),I6 (↑y:Int)]∧StIs { boxes:=[],live:=[] } { boxes:=[],live:=[] }∧(y≤l.length∧(List.take y l).all lbOk = true)∧True)∧∀ (x:Nat),x≤l.length∧(List.take x l).all lbOk = true→(decide ((↑x:Int) < (↑l.length:Int)) = true→((0:Int)≤(↑x:Int)∧(↑x:Int) < (↑(lbsL l).length:Int))∧∃ (s:List UInt8),∃ (n:Int),∃ (n_1:Int),takeAt PQ 65 (lbsL l) (↑x:Int).toNat 0 = some (AV.agg [AV.str s,I6 n,I6 n_1])∧∃ (b:Bool),CallIs (some (AV.bool !lbOk { key:=s,event:=n,know:=n_1 },[])) (AV.bool b) []∧(b = true→RetIs (I6 (↑x:Int)) [] (r,[]))∧(b = false→∃ (y:Nat),ValsAre [AV.sl 3 (lbsL l) Own.no,AV.fn 93 [],I6 (↑l.length:Int),I6 (IntKind.i64.wrap ((↑x:Int) + (1:Int)))] [AV.sl 3 (lbsL l) Own.no,AV.fn 93 [],I6 (↑l.length:Int),I6 (↑y:Int)]∧StIs { boxes:=[],live:=[] } { boxes:=[],live:=[] }∧(y≤l.length∧(List.take y l).all lbOk = true)∧l.length - y < l.length - x))∧(decide ((↑x:Int) < (↑l.length:Int)) = false→RetIs (I6 (-1)) [] (r,[]))):=by kernel_rfl
theorem w92 (m:Int) (l:List Lb) (r:AV):(pureW PQ (GQ m) X24 (tbl [(137,s137)]) (itbl []) nAn [] 92 [.sl 3 (lbsL l) .no,.fn 93 []] (r,[])) =
(∃ (n:Int),CallIs (tbl [(137,s137)] 137 [AV.sl 3 (lbsL l) Own.no,AV.fn 93 []]) (AV.int IntKind.i64 n) []∧(decide (n ≥ (0:Int)) = true→RetIs (AV.bool true) [] (r,[]))∧(decide (n ≥ (0:Int)) = false→RetIs (AV.bool false) [] (r,[]))):=by kernel_rfl
abbrev w46c1 (x:Rq):St:={ boxes:=[some [AV.str x.entity,AV.sl 1 (strsL x.feats) Own.no,AV.sl 3 (lbsL x.labels) Own.no,AV.int IntKind.i64 x.seed,AV.int IntKind.i64 x.permille]],live:=[] }
abbrev w46c2 (x:Rq) (y:Nat):List AV:=[AV.ptr 0 0,AV.sl 1 (strsL x.feats) Own.no,AV.int IntKind.i64 (↑x.feats.length:Int),AV.int IntKind.i64 (↑y:Int)]
theorem w46 (m:Int) (x:Rq) (r:AV):(pureW PQ (GQ m) X24 (tbl t46) (itbl []) (a46 x) [] 46 [rqA x] (r,[])) =
(∃ (b:Bool),CallIs (some (AV.bool (nameR x.entity),[])) (AV.bool b) []∧(b = true→(decide ((↑(strsL x.feats).length:Int) < (1:Int)) = true→RetIs (AV.bool false) [] (r,[]))∧(decide ((↑(strsL x.feats).length:Int) < (1:Int)) = false→(decide ((↑(strsL x.feats).length:Int) > (8:Int)) = true→RetIs (AV.bool false) [] (r,[]))∧(decide ((↑(strsL x.feats).length:Int) > (8:Int)) = false→(decide ((↑(lbsL x.labels).length:Int) > (256:Int)) = true→RetIs (AV.bool false) [] (r,[]))∧(decide ((↑(lbsL x.labels).length:Int) > (256:Int)) = false→∃ (b:Bool),CallIs (some (AV.bool (tickB x.seed),[])) (AV.bool b) []∧(b = true→(decide (x.permille < (0:Int)) = true→RetIs (AV.bool false) [] (r,[]))∧(decide (x.permille < (0:Int)) = false→(decide (x.permille > (1000:Int)) = true→RetIs (AV.bool false) [] (r,[]))∧(decide (x.permille > (1000:Int)) = false→(∃ (y:Nat),ValsAre [AV.ptr 0 0,AV.sl 1 (strsL x.feats) Own.no,I6 (↑(strsL x.feats).length:Int),I6 0] (w46c2 x y)∧StIs (w46c1 x) (w46c1 x)∧(y≤x.feats.length∧featsOk [] x.feats = featsOk (List.take y x.feats) (List.drop y x.feats))∧True)∧∀ (x_1:Nat),x_1≤x.feats.length∧featsOk [] x.feats = featsOk (List.take x_1 x.feats) (List.drop x_1 x.feats)→(decide ((↑x_1:Int) < (↑x.feats.length:Int)) = true→((0:Int)≤(↑x_1:Int)∧(↑x_1:Int) < (↑(strsL x.feats).length:Int))∧∃ (s:List UInt8),takeAt PQ 9 (strsL x.feats) (↑x_1:Int).toNat 0 = some (AV.str s)∧∃ (b:Bool),CallIs (some (AV.bool (nameR s),[])) (AV.bool b) []∧(b = true→(0:Int)≤(↑x_1:Int)∧((0:Nat)≤(↑x_1:Int).toNat∧(↑x_1:Int).toNat≤(strsL x.feats).length)∧((1:Nat) = (1:Nat)∨strsL x.feats = [])∧∃ (b:Bool),CallIs (tbl [(40,s40u),(90,sTick),(91,sIn),(92,s92)] 91 [AV.sl 1 (List.drop 0 (List.take (↑x_1:Int).toNat (strsL x.feats))) Own.no,AV.str s]) (AV.bool b) []∧(b = true→RetIs (AV.bool false) [] (r,[]))∧(b = false→∃ (y:Nat),ValsAre [AV.ptr 0 0,AV.sl 1 (strsL x.feats) Own.no,I6 (↑x.feats.length:Int),I6 (IntKind.i64.wrap ((↑x_1:Int) + (1:Int)))] (w46c2 x y)∧StIs (w46c1 x) (w46c1 x)∧(y≤x.feats.length∧featsOk [] x.feats = featsOk (List.take y x.feats) (List.drop y x.feats))∧x.feats.length - y < x.feats.length - x_1))∧(b = false→RetIs (AV.bool false) [] (r,[])))∧(decide ((↑x_1:Int) < (↑x.feats.length:Int)) = false→∃ (b:Bool),CallIs (tbl [(40,s40u),(90,sTick),(91,sIn),(92,s92)] 92 [AV.sl 3 (lbsL x.labels) Own.no,AV.fn 93 []]) (AV.bool b) []∧(b = true→RetIs (AV.bool false) [] (r,[]))∧(b = false→RetIs (AV.bool true) [] (r,[]))))))∧(b = false→RetIs (AV.bool false) [] (r,[]))))))∧(b = false→RetIs (AV.bool false) [] (r,[]))):=by kernel_rfl
abbrev w33c1 (x:Rq):St:={ boxes:=[some [AV.str x.entity,AV.sl 1 (strsL x.feats) Own.no,AV.sl 3 (lbsL x.labels) Own.no,AV.int IntKind.i64 x.seed,AV.int IntKind.i64 x.permille]],live:=[] }
abbrev w33c2 (y:Nat):List AV:=[AV.ptr 0 0,AV.int IntKind.i64 (↑y:Int)]
theorem w33 (m:Int) (x:Rq) (r:AV):(pureW PQ (GQ m) X24 (tbl t33q) (itbl []) (a33 x) [] 33 [rqA x] (r,[])) =
(∃ (b:Bool),CallIs (some (AV.bool (nameR x.entity),[])) (AV.bool b) []∧(b = true→(decide ((↑(strsL x.feats).length:Int) < (1:Int)) = true→RetIs (AV.bool false) [] (r,[]))∧(decide ((↑(strsL x.feats).length:Int) < (1:Int)) = false→(decide ((↑(strsL x.feats).length:Int) > (8:Int)) = true→RetIs (AV.bool false) [] (r,[]))∧(decide ((↑(strsL x.feats).length:Int) > (8:Int)) = false→(decide ((↑(lbsL x.labels).length:Int) > (256:Int)) = true→RetIs (AV.bool false) [] (r,[]))∧(decide ((↑(lbsL x.labels).length:Int) > (256:Int)) = false→∃ (b:Bool),CallIs (some (AV.bool (tickB x.seed),[])) (AV.bool b) []∧(b = true→(decide (x.permille < (0:Int)) = true→RetIs (AV.bool false) [] (r,[]))∧(decide (x.permille < (0:Int)) = false→(decide (x.permille > (1000:Int)) = true→RetIs (AV.bool false) [] (r,[]))∧(decide (x.permille > (1000:Int)) = false→(∃ (y:Nat),ValsAre [AV.ptr 0 0,I6 0] (w33c2 y)∧StIs (w33c1 x) (w33c1 x)∧(y≤x.feats.length∧featsOk [] x.feats = featsOk (List.take y x.feats) (List.drop y x.feats))∧True)∧∀ (x_1:Nat),x_1≤x.feats.length∧featsOk [] x.feats = featsOk (List.take x_1 x.feats) (List.drop x_1 x.feats)→(decide ((↑x_1:Int) < (↑(strsL x.feats).length:Int)) = true→((0:Int)≤(↑x_1:Int)∧(↑x_1:Int) < (↑(strsL x.feats).length:Int))∧∃ (s:List UInt8),takeAt PQ 9 (strsL x.feats) (↑x_1:Int).toNat 0 = some (AV.str s)∧∃ (b:Bool),CallIs (some (AV.bool (nameR s),[])) (AV.bool b) []∧(b = true→(0:Int)≤(↑x_1:Int)∧((0:Nat)≤(↑x_1:Int).toNat∧(↑x_1:Int).toNat≤(strsL x.feats).length)∧((1:Nat) = (1:Nat)∨strsL x.feats = [])∧((0:Int)≤(↑x_1:Int)∧(↑x_1:Int) < (↑(strsL x.feats).length:Int))∧∃ (s:List UInt8),takeAt PQ 9 (strsL x.feats) (↑x_1:Int).toNat 0 = some (AV.str s)∧∃ (b:Bool),CallIs (tbl [(77,s40u),(78,sTick),(20,sIn),(79,s79)] 20 [AV.sl 1 (List.drop 0 (List.take (↑x_1:Int).toNat (strsL x.feats))) Own.no,AV.str s]) (AV.bool b) []∧(b = true→RetIs (AV.bool false) [] (r,[]))∧(b = false→∃ (y:Nat),ValsAre [AV.ptr 0 0,I6 (IntKind.i64.wrap ((↑x_1:Int) + (1:Int)))] (w33c2 y)∧StIs (w33c1 x) (w33c1 x)∧(y≤x.feats.length∧featsOk [] x.feats = featsOk (List.take y x.feats) (List.drop y x.feats))∧x.feats.length - y < x.feats.length - x_1))∧(b = false→RetIs (AV.bool false) [] (r,[])))∧(decide ((↑x_1:Int) < (↑(strsL x.feats).length:Int)) = false→(∃ (y:Nat),ValsAre [AV.ptr 0 0,I6 0] (w33c2 y)∧StIs (w33c1 x) (w33c1 x)∧(y≤x.labels.length∧featsOk [] x.feats = true∧(List.take y x.labels).all lbOk = true)∧True)∧∀ (x_2:Nat),x_2≤x.labels.length∧featsOk [] x.feats = true∧(List.take x_2 x.labels).all lbOk = true→(decide ((↑x_2:Int) < (↑(lbsL x.labels).length:Int)) = true→((0:Int)≤(↑x_2:Int)∧(↑x_2:Int) < (↑(lbsL x.labels).length:Int))∧∃ (s:List UInt8),∃ (n:Int),∃ (n_1:Int),takeAt PQ 65 (lbsL x.labels) (↑x_2:Int).toNat 0 = some (AV.agg [AV.str s,I6 n,I6 n_1])∧∃ (b:Bool),CallIs (tbl [(77,s40u),(78,sTick),(20,sIn),(79,s79)] 79 [AV.agg [AV.str s,I6 n,I6 n_1]]) (AV.bool b) []∧(b = true→∃ (y:Nat),ValsAre [AV.ptr 0 0,I6 (IntKind.i64.wrap ((↑x_2:Int) + (1:Int)))] (w33c2 y)∧StIs (w33c1 x) (w33c1 x)∧(y≤x.labels.length∧featsOk [] x.feats = true∧(List.take y x.labels).all lbOk = true)∧x.labels.length - y < x.labels.length - x_2)∧(b = false→RetIs (AV.bool false) [] (r,[])))∧(decide ((↑x_2:Int) < (↑(lbsL x.labels).length:Int)) = false→RetIs (AV.bool true) [] (r,[]))))))∧(b = false→RetIs (AV.bool false) [] (r,[]))))))∧(b = false→RetIs (AV.bool false) [] (r,[]))):=by kernel_rfl
abbrev w138c7:List AV:=[AV.ptr 0 0,AV.bool false,AV.bool true]
abbrev w138c2 (s:List UInt8):St:={ boxes:=[some [AV.int IntKind.i64 5,AV.int IntKind.i64 0,AV.str s]],live:=[] }
abbrev w138c13 (r:AV):Prop:=false = true→RetIs (AV.int IntKind.i64 2) [] (r,[])
abbrev w138c10:List AV:=[AV.ptr 0 0,AV.bool true]
abbrev w138c4 (r:AV) (s:List UInt8):Prop:=(false = true→RetIs (I6 1) [] (r,[]))∧(false = false→(false = true→RetIs (I6 1) [] (r,[]))∧(false = false→(false = true→(true = true→RetIs (I6 1) [] (r,[]))∧(true = false→(true = true→RetIs (I6 1) [] (r,[]))∧(true = false→(w138c13 r)∧(false = false→(w138c13 r)∧(false = false→∃ (_y:Unit),ValsAre w138c10 w138c10∧StIs (w138c2 s) (w138c2 s)∧True∧True)))))∧(false = false→(w138c13 r)∧(false = false→(w138c13 r)∧(false = false→∃ (_y:Unit),ValsAre w138c10 w138c10∧StIs (w138c2 s) (w138c2 s)∧True∧True)))))
abbrev w138c12:List AV:=[AV.ptr 0 0,AV.int IntKind.i64 32,AV.int IntKind.u8 33]
abbrev w138c6 (s:List UInt8):Prop:=(true = true→∃ (_y:Unit),ValsAre w138c12 w138c12∧StIs (w138c2 s) (w138c2 s)∧True∧True)∧(true = false→∃ (_y:Unit),ValsAre [AV.ptr 0 0,AV.int IntKind.i64 64,AV.int IntKind.u8 32] w138c12∧StIs (w138c2 s) (w138c2 s)∧True∧True)
abbrev w138c5:List AV:=[AV.ptr 0 0,AV.int IntKind.u8 33]
abbrev w138c11 (s:List UInt8) (r:AV):Prop:=(decide ((↑s.length:Int) > (32:Int)) = true→RetIs (AV.int IntKind.i64 2) [] (r,[]))∧(decide ((↑s.length:Int) > (32:Int)) = false→∃ (_y:Unit),ValsAre w138c5 w138c5∧StIs (w138c2 s) (w138c2 s)∧s.length≤(32:Nat)∧True)
abbrev w138c9 (s:List UInt8) (r:AV):Prop:=(true = true→((s == []) = true→RetIs (AV.int IntKind.i64 3) [] (r,[]))∧((s == []) = false→∃ (_y:Unit),ValsAre w138c5 w138c5∧StIs (w138c2 s) (w138c2 s)∧(s.length≤(32:Nat)∧s ≠ [])∧True))∧(true = false→∃ (_y:Unit),ValsAre w138c5 w138c5∧StIs (w138c2 s) (w138c2 s)∧(s.length≤(32:Nat)∧s ≠ [])∧True)
abbrev w138c8 (s:List UInt8):Prop:=∃ (y:Nat),ValsAre [AV.ptr 0 0,AV.int IntKind.u8 33,I6 (↑s.length:Int),I6 0] [AV.ptr 0 0,AV.int IntKind.u8 33,I6 (↑s.length:Int),I6 (↑y:Int)]∧StIs (w138c2 s) (w138c2 s)∧(y≤s.length∧(List.take y s).all keyC = true)∧True
abbrev w138c3 (x:Nat) (s:List UInt8) (r:AV):Prop:=decide ((↑x:Int) < (↑s.length:Int)) = true→(0:Int)≤(↑x:Int)∧∃ (c:UInt8),s[(↑x:Int).toNat]? = some c∧(decide ((↑c.toNat:Int) < (33:Int)) = true→RetIs (I6 3) [] (r,[]))∧(decide ((↑c.toNat:Int) < (33:Int)) = false→(decide ((↑c.toNat:Int) > (126:Int)) = true→RetIs (I6 3) [] (r,[]))∧(decide ((↑c.toNat:Int) > (126:Int)) = false→(((↑c.toNat:Int) == (34:Int)) = true→RetIs (I6 3) [] (r,[]))∧(((↑c.toNat:Int) == (34:Int)) = false→(((↑c.toNat:Int) == (92:Int)) = true→RetIs (I6 3) [] (r,[]))∧(((↑c.toNat:Int) == (92:Int)) = false→∃ (y:Nat),ValsAre [AV.ptr 0 0,AV.int IntKind.u8 33,I6 (↑s.length:Int),I6 (IntKind.i64.wrap ((↑x:Int) + (1:Int)))] [AV.ptr 0 0,AV.int IntKind.u8 33,I6 (↑s.length:Int),I6 (↑y:Int)]∧StIs (w138c2 s) (w138c2 s)∧(y≤s.length∧(List.take y s).all keyC = true)∧s.length - y < s.length - x))))
abbrev w138c1 (s:List UInt8) (r:AV):Prop:=false = true→((false = true→∃ (_y:Unit),ValsAre [AV.ptr 0 0,AV.bool true,AV.bool true] w138c7∧StIs (w138c2 s) (w138c2 s)∧True∧True)∧(false = false→(true = true→∃ (_y:Unit),ValsAre [AV.ptr 0 0,AV.bool true,AV.bool true] w138c7∧StIs (w138c2 s) (w138c2 s)∧True∧True)∧(true = false→∃ (_y:Unit),ValsAre [AV.ptr 0 0,AV.bool true,AV.bool false] w138c7∧StIs (w138c2 s) (w138c2 s)∧True∧True)))∧∀ (_x:Unit),True→True→(w138c4 r s)∧∀ (_x:Unit),True→True→(∃ (_y:Unit),ValsAre w138c10 w138c10∧StIs (w138c2 s) (w138c2 s)∧True∧True)∧∀ (_x:Unit),True→True→(w138c6 s)∧∀ (_x:Unit),True→True→(w138c11 s r)∧∀ (_x:Unit),s.length≤(32:Nat)→True→(w138c9 s r)∧∀ (_x:Unit),s.length≤(32:Nat)∧s ≠ []→True→(w138c8 s)∧∀ (x:Nat),x≤s.length∧(List.take x s).all keyC = true→(w138c3 x s r)∧(decide ((↑x:Int) < (↑s.length:Int)) = false→RetIs (AV.int IntKind.i64 0) [] (r,[]))
theorem w138 (m:Int) (s:List UInt8) (r:AV):(pureW PQ (GQ m) X24 (tbl []) (itbl []) (a138 s) [] 138 [.agg [.int .i64 5,.int .i64 0,.str s]] (r,[])) =
((w138c1 s r)∧(false = false→(w138c1 s r)∧(false = false→((false = true→∃ (_y:Unit),ValsAre w138c7 w138c7∧StIs (w138c2 s) (w138c2 s)∧True∧True)∧(false = false→(true = true→∃ (_y:Unit),ValsAre w138c7 w138c7∧StIs (w138c2 s) (w138c2 s)∧True∧True)∧(true = false→∃ (_y:Unit),ValsAre [AV.ptr 0 0,AV.bool false,AV.bool false] w138c7∧StIs (w138c2 s) (w138c2 s)∧True∧True)))∧∀ (_x:Unit),True→True→(w138c4 r s)∧∀ (_x:Unit),True→True→(∃ (_y:Unit),ValsAre w138c10 w138c10∧StIs (w138c2 s) (w138c2 s)∧True∧True)∧∀ (_x:Unit),True→True→(w138c6 s)∧∀ (_x:Unit),True→True→(w138c11 s r)∧∀ (_x:Unit),s.length≤(32:Nat)→True→(w138c9 s r)∧∀ (_x:Unit),s.length≤(32:Nat)∧s ≠ []→True→(w138c8 s)∧∀ (x:Nat),x≤s.length∧(List.take x s).all keyC = true→(w138c3 x s r)∧(decide ((↑x:Int) < (↑s.length:Int)) = false→RetIs (AV.int IntKind.i64 0) [] (r,[]))))):=by kernel_rfl
theorem agg9q:aggA PQ 9 = some false:=by kernel_rfl
theorem size9q:sizeA PQ 9 = some 1:=by kernel_rfl
theorem agg65q:aggA PQ 65 = some true:=by kernel_rfl
theorem size65q:sizeA PQ 65 = some 3:=by kernel_rfl
theorem wrapI {i:Nat} (h:i + 1≤9223372036854775807):IntKind.i64.wrap ((i:Int) + 1) = ((i + 1:Nat):Int):=by
 rw [wrap64_in (by omega) (by omega)]; omega
theorem take_str {l:List (List UInt8)} {i:Nat} (h:i < l.length):takeAt PQ 9 (strsL l) i 0 = some (.str l[i]):=by
 unfold takeAt
 rw [List.getElem?_map,List.getElem?_eq_getElem h]
 simp only [Option.map_some,agg9q,size9q,takeA]
 rfl
theorem take_lb {l:List Lb} {i:Nat} (h:i < l.length):takeAt PQ 65 (lbsL l) i 0 = some (.agg [.str l[i].key,.int .i64 l[i].event,.int .i64 l[i].know]):=by
 unfold takeAt
 rw [List.getElem?_map,List.getElem?_eq_getElem h]
 simp only [Option.map_some,agg65q,size65q,takeA]
 rfl
theorem all_notQ {α:Type} {p:α→Bool} {l:List α} {i:Nat} (h:i < l.length) (hp:p l[i] = false):l.all p = false:=by
 rw [← Bool.not_eq_true,List.all_eq_true]
 intro hh
 have:=hh _ (List.getElem_mem h)
 rw [hp] at this; cases this
theorem all_succQ {α:Type} {p:α→Bool} {l:List α} {i:Nat} (h:i < l.length) (h1:(l.take i).all p = true) (hp:p l[i] = true):(l.take (i + 1)).all p = true:=by
 rw [List.take_succ_eq_append_getElem h,List.all_append,h1]; simp [hp]
theorem all_take {α:Type} {p:α→Bool} {l:List α} {i:Nat} (h:¬ i < l.length) (h1:(l.take i).all p = true):l.all p = true:=by
 rwa [List.take_of_length_le (by omega)] at h1
theorem tick_lo {n:Int} (h:decide (n ≥ 0) = false):tickB n = false:=by
 have:=of_decide_eq_false h
 unfold tickB
 rw [decide_eq_false (by omega)]; rfl
theorem tick_hi {n:Int} (h:decide (n≤1099511627776) = false):tickB n = false:=by
 have:=of_decide_eq_false h
 unfold tickB
 rw [decide_eq_false this,Bool.and_false]
theorem tick_ok {n:Int} (h:decide (n ≥ 0) = true) (h2:decide (n≤1099511627776) = true):tickB n = true:=by
 have:=of_decide_eq_true h
 unfold tickB
 rw [decide_eq_true this,h2]; rfl
theorem p90 (m:Int) (n:Int):PureOk PQ (GQ m) X24 (tbl []) (itbl []) nAn [] 90 [.int .i64 n] (.bool (tickB n),[]):=by
 constructor
 rw [w90]
 exact ⟨fun h=>⟨fun h2=>⟨by rw [tick_ok h h2]⟩,fun h2=>⟨by rw [tick_hi h2]⟩⟩,fun h=>⟨by rw [tick_lo h]⟩⟩
theorem p78 (m:Int) (n:Int):PureOk PQ (GQ m) X24 (tbl []) (itbl []) nAn [] 78 [.int .i64 n] (.bool (tickB n),[]):=by
 constructor
 rw [w78]
 exact ⟨fun h=>⟨fun h2=>⟨by rw [tick_ok h h2]⟩,fun h2=>⟨by rw [tick_hi h2]⟩⟩,fun h=>⟨by rw [tick_lo h]⟩⟩
theorem o90 (m:Int):SpecOk PQ (GQ m) 90 sTick:=spec_of (X:=X24) (m:=[]) mixedQ tbl_nil itbl_nil fun args r h=>by
 unfold sTick at h
 split at h
 case h_2=>cases h
 injection h with h; subst h
 exact ⟨_,p90 m _⟩
theorem o78 (m:Int):SpecOk PQ (GQ m) 78 sTick:=spec_of (X:=X24) (m:=[]) mixedQ tbl_nil itbl_nil fun args r h=>by
 unfold sTick at h
 split at h
 case h_2=>cases h
 injection h with h; subst h
 exact ⟨_,p78 m _⟩
theorem keyC_bad {c:UInt8} (h:decide ((c.toNat:Int) < 33) = true∨decide ((c.toNat:Int) > 126) = true∨((c.toNat:Int) == 34) = true∨((c.toNat:Int) == 92) = true):keyC c = false:=by
 unfold keyC
 rcases h with h | h | h | h
 ·rw [decide_eq_false (by have:=of_decide_eq_true h; omega)]; rfl
 ·rw [decide_eq_false (p:=c.toNat≤126) (by have:=of_decide_eq_true h; omega),Bool.and_false]; rfl
 ·have:c.toNat = 34:=by have:=eq_of_beq h; omega
  rw [this]; rfl
 ·have:c.toNat = 92:=by have:=eq_of_beq h; omega
  rw [this]; rfl
theorem keyC_good {c:UInt8} (h1:decide ((c.toNat:Int) < 33) = false) (h2:decide ((c.toNat:Int) > 126) = false) (h3:((c.toNat:Int) == 34) = false) (h4:((c.toNat:Int) == 92) = false):keyC c = true:=by
 have a1:=of_decide_eq_false h1
 have a2:=of_decide_eq_false h2
 have a3:c.toNat ≠ 34:=fun e=>by rw [e] at h3; cases h3
 have a4:c.toNat ≠ 92:=fun e=>by rw [e] at h4; cases h4
 unfold keyC
 simp [a3,a4]; omega
theorem key_len {s:List UInt8} (h:32 < s.length):keyB s = false:=by
 unfold keyB; rw [decide_eq_false (p:=s.length≤32) (by omega)]; simp
theorem key_bad {s:List UInt8} (h:s.all keyC = false):keyB s = false:=by
 unfold keyB; rw [h,Bool.and_false]
theorem p125 (m:Int) (s:List UInt8) (hs:s.length≤maxI):PureOk PQ (GQ m) X24 (tbl []) (itbl []) (a125 s) [] 125 [.str s] (.bool (keyB s),[]):=by
 constructor
 rw [w125]; unfold I6
 unfold maxI at hs
 refine ⟨⟨0,⟨rfl⟩,⟨rfl⟩,⟨Nat.zero_le _,by rw [List.take_zero]; rfl⟩,trivial⟩,fun i hi=>⟨fun lt=>?_,fun ge=>⟨fun c=>⟨fun d=>?_,fun d=>?_⟩,fun c=>?_⟩⟩⟩
 ·have lt:=of_decide_eq_true lt
  have hil:i < s.length:=by omega
  have hg:s[(i:Int).toNat]? = some s[i]:=by rw [Int.toNat_natCast]; exact List.getElem?_eq_getElem hil
  have no:keyC s[i] = false→RetIs (AV.bool false) [] (AV.bool (keyB s),[]):=fun h=>⟨by rw [key_bad (all_notQ hil h)]⟩
  refine ⟨by omega,_,hg,fun c1=>no (keyC_bad (.inl c1)),fun c1=>⟨by omega,_,hg,fun c2=>no (keyC_bad (.inr (.inl c2))),fun c2=>⟨by omega,_,hg,fun c3=>no (keyC_bad (.inr (.inr (.inl c3)))),fun c3=>⟨by omega,_,hg,fun c4=>no (keyC_bad (.inr (.inr (.inr c4)))),fun c4=>?_⟩⟩⟩⟩
  exact ⟨i + 1,⟨by rw [wrapI (by omega)]⟩,⟨rfl⟩,⟨hil,all_succQ hil hi.2 (keyC_good c1 c2 c3 c4)⟩,by omega⟩
 ·have ge:=of_decide_eq_false ge
  have c:=of_decide_eq_true c
  refine ⟨?_⟩
  unfold keyB
  rw [all_take (by omega) hi.2,decide_eq_true (p:=s ≠ []) (by intro e; subst e; simp at c),decide_eq_true (p:=s.length≤32) (by have:=of_decide_eq_true d; omega)]; rfl
 ·refine ⟨?_⟩
  rw [key_len (by have:=of_decide_eq_false d; omega)]
 ·refine ⟨?_⟩
  have:s = []:=by
   have:=of_decide_eq_false c
   exact List.length_eq_zero_iff.1 (by omega)
  subst this; rfl
theorem o125 (m:Int):SpecOk PQ (GQ m) 125 s125:=spec_of (X:=X24) (m:=[]) mixedQ tbl_nil itbl_nil fun args r h=>by
 unfold s125 at h
 split at h
 case h_2=>cases h
 split at h
 case isFalse=>cases h
 rename_i hs
 injection h with h; subst h
 exact ⟨_,p125 m _ hs⟩
theorem p138 (m:Int) (s:List UInt8):PureOk PQ (GQ m) X24 (tbl []) (itbl []) (a138 s) [] 138 [.agg [.int .i64 5,.int .i64 0,.str s]] (.int .i64 (keyErr s),[]):=by
 constructor
 rw [w138]; unfold w138c1 w138c3 w138c8 w138c9 w138c11 w138c5 w138c6 w138c12 w138c4 w138c10 w138c13 w138c2 w138c7 I6
 simp only [valsAre_iff,stIs_iff,Bool.false_eq_true,Bool.true_eq_false,false_implies,forall_const,true_and,and_true,exists_const]
 refine ⟨⟨fun h=>⟨by rw [keyErr,if_pos (by have:=of_decide_eq_true h; omega)]⟩,fun h=>by have:=of_decide_eq_false h; omega⟩,fun hl=>⟨⟨fun h=>⟨?_⟩,fun h=>⟨hl,fun e=>by subst e; cases h⟩⟩,fun hh=>⟨⟨0,⟨by rw [Int.natCast_zero],by omega,by rw [List.take_zero]; rfl⟩⟩,fun i hi=>⟨fun lt=>?_,fun ge=>⟨?_⟩⟩⟩⟩⟩
 ·have:s = []:=eq_of_beq h
  subst this; rfl
 ·have lt:=of_decide_eq_true lt
  have hil:i < s.length:=by omega
  have hg:s[(i:Int).toNat]? = some s[i]:=by rw [Int.toNat_natCast]; exact List.getElem?_eq_getElem hil
  have no:keyC s[i] = false→RetIs (AV.int .i64 3) [] (AV.int .i64 (keyErr s),[]):=fun h=>⟨by
   unfold keyErr
   rw [if_neg (by omega),if_neg hh.2,all_notQ hil h]; rfl⟩
  refine ⟨by omega,_,hg,fun c1=>no (keyC_bad (.inl c1)),fun c1=>⟨fun c2=>no (keyC_bad (.inr (.inl c2))),fun c2=>⟨fun c3=>no (keyC_bad (.inr (.inr (.inl c3)))),fun c3=>⟨fun c4=>no (keyC_bad (.inr (.inr (.inr c4)))),fun c4=>?_⟩⟩⟩⟩
  exact ⟨i + 1,by rw [wrapI (by omega)],⟨hil,all_succQ hil hi.2 (keyC_good c1 c2 c3 c4)⟩,by omega⟩
 ·have ge:=of_decide_eq_false ge
  unfold keyErr
  rw [if_neg (by omega),if_neg hh.2,all_take (by omega) hi.2]; rfl
theorem o138 (m:Int):SpecOk PQ (GQ m) 138 s138:=spec_of (X:=X24) (m:=[]) mixedQ tbl_nil itbl_nil fun args r h=>by
 unfold s138 at h
 split at h
 case h_2=>cases h
 injection h with h; subst h
 exact ⟨_,p138 m _⟩
theorem keyErr_ok {s:List UInt8} (h:s ≠ []):(keyErr s == 0) = keyB s:=by
 unfold keyErr keyB
 by_cases h1:32 < s.length
 ·rw [if_pos h1,decide_eq_false (p:=s.length≤32) (by omega)]; simp
 ·rw [if_neg h1,if_neg h,decide_eq_true (p:=s.length≤32) (by omega),decide_eq_true h]
  cases s.all keyC <;> rfl
theorem p94 (m:Int) (s:List UInt8):PureOk PQ (GQ m) X24 (tbl [(138,s138)]) (itbl []) nAn [] 94 [.str s] (.bool (keyB s),[]):=by
 constructor
 rw [w94]
 refine ⟨fun h=>⟨_,⟨rfl⟩,fun c=>⟨?_⟩,fun c=>⟨?_⟩⟩,fun h=>⟨?_⟩⟩
 ·have:s ≠ []:=fun e=>by subst e; cases h
  rw [← keyErr_ok this,c]
 ·have:s ≠ []:=fun e=>by subst e; cases h
  rw [← keyErr_ok this,c]
 ·have:s = []:=by
   cases s with
   | nil=>rfl
   | cons a t=>cases h
  subst this; rfl
theorem o94 (m:Int):SpecOk PQ (GQ m) 94 s94:=spec_of (X:=X24) (m:=[]) mixedQ (tbl_cons (o138 m) tbl_nil) itbl_nil fun args r h=>by
 unfold s94 at h
 split at h
 case h_2=>cases h
 injection h with h; subst h
 exact ⟨_,p94 m _⟩
theorem p93 (m:Int) (x:Lb):PureOk PQ (GQ m) X24 (tbl [(94,s94),(90,sTick)]) (itbl []) nAn [] 93 [lbA x] (.bool (!lbOk x),[]):=by
 constructor
 show pureW _ _ _ _ _ _ _ _ [.agg [.str x.key,.int .i64 x.event,.int .i64 x.know]] _
 rw [w93]
 unfold lbOk
 refine ⟨_,⟨rfl⟩,fun c1=>⟨_,⟨rfl⟩,fun c2=>⟨_,⟨rfl⟩,fun c3=>⟨by rw [c1,c2,c3]; rfl⟩,fun c3=>⟨by rw [c1,c2,c3]; rfl⟩⟩,fun c2=>⟨by rw [c1,c2]; rfl⟩⟩,fun c1=>⟨by rw [c1]; rfl⟩⟩
theorem o93 (m:Int):SpecOk PQ (GQ m) 93 s93:=spec_of (X:=X24) (m:=[]) mixedQ (tbl_cons (o94 m) (tbl_cons (o90 m) tbl_nil)) itbl_nil fun args r h=>by
 unfold s93 at h
 split at h
 case h_2=>cases h
 injection h with h; subst h
 exact ⟨_,p93 m ⟨_,_,_⟩⟩
theorem p79 (m:Int) (x:Lb) (hs:x.key.length≤maxI):PureOk PQ (GQ m) X24 (tbl [(125,s125),(78,sTick)]) (itbl []) nAn [] 79 [lbA x] (.bool (lbOk x),[]):=by
 constructor
 show pureW _ _ _ _ _ _ _ _ [.agg [.str x.key,.int .i64 x.event,.int .i64 x.know]] _
 rw [w79]
 unfold lbOk
 have e:tbl [(125,s125),(78,sTick)] 125 [.str x.key] = some (.bool (keyB x.key),[]):=by
  show (if x.key.length≤maxI then _ else _) = _
  rw [if_pos hs]
 refine ⟨_,⟨e⟩,fun c1=>⟨_,⟨rfl⟩,fun c2=>⟨_,⟨rfl⟩,fun c3=>⟨by rw [c1,c2,c3]; rfl⟩,fun c3=>⟨by rw [c1,c2,c3]; rfl⟩⟩,fun c2=>⟨by rw [c1,c2]; rfl⟩⟩,fun c1=>⟨by rw [c1]; rfl⟩⟩
theorem o79 (m:Int):SpecOk PQ (GQ m) 79 s79:=spec_of (X:=X24) (m:=[]) mixedQ (tbl_cons (o125 m) (tbl_cons (o78 m) tbl_nil)) itbl_nil fun args r h=>by
 unfold s79 at h
 split at h
 case h_2=>cases h
 split at h
 case isFalse=>cases h
 rename_i hs
 injection h with h; subst h
 exact ⟨_,p79 m ⟨_,_,_⟩ hs⟩
theorem contains_succ {l:List (List UInt8)} {x:List UInt8} {i:Nat} (h:i < l.length):(l.take (i + 1)).contains x = ((l.take i).contains x || x == l[i]):=by
 rw [List.take_succ_eq_append_getElem h,List.contains_eq_any_beq,List.any_append,List.contains_eq_any_beq]
 simp
theorem contains_of {l:List (List UInt8)} {x:List UInt8} {i:Nat} (h:i < l.length) (he:(l[i] == x) = true):l.contains x = true:=by
 have:=eq_of_beq he
 subst this
 simp
theorem beq_flip {a b:List UInt8} (h:(a == b) = false):(b == a) = false:=by
 rw [beq_eq_false_iff_ne] at h ⊢
 exact fun e=>h e.symm
theorem p20 (m:Int) (l:List (List UInt8)) (x:List UInt8) (hl:l.length≤maxI):PureOk PQ (GQ m) X24 (tbl []) (itbl []) (aIn l x) [] 20 [.sl 1 (strsL l) .no,.str x] (.bool (l.contains x),[]):=by
 constructor
 rw [w20]; unfold I6
 unfold maxI at hl
 have hn:(strsL l).length = l.length:=List.length_map _
 refine ⟨⟨0,⟨rfl⟩,⟨rfl⟩,⟨Nat.zero_le _,rfl⟩,trivial⟩,fun i hi=>⟨fun lt=>?_,fun ge=>⟨?_⟩⟩⟩
 ·have lt:=of_decide_eq_true lt
  rw [hn] at lt
  have hil:i < l.length:=by omega
  refine ⟨⟨by omega,by omega⟩,_,by rw [Int.toNat_natCast]; exact take_str hil,fun c=>⟨by rw [contains_of hil c]⟩,fun c=>⟨i + 1,⟨by rw [wrapI (by omega)]⟩,⟨rfl⟩,⟨hil,by rw [contains_succ hil,hi.2,beq_flip c]; rfl⟩,by omega⟩⟩
 ·have ge:=of_decide_eq_false ge
  rw [hn] at ge
  have:=hi.2
  rw [List.take_of_length_le (by omega)] at this
  rw [this]
theorem idx_at {l:List (List UInt8)} {x:List UInt8} {i:Nat} (h:i < l.length) (h1:∀ y ∈ l.take i,(x == y) = false) (he:(x == l[i]) = true):idxS l x = i:=by
 have hx:=eq_of_beq he
 have hm:x ∈ l:=by rw [hx]; exact List.getElem_mem h
 unfold idxS
 rw [if_pos hm]
 have:l = l.take i ++ l[i] :: l.drop (i + 1):=by rw [← List.drop_eq_getElem_cons h,List.take_append_drop]
 have e:(l.takeWhile fun y=>!(x == y)) = l.take i:=by
  conv=>lhs; rw [this]
  rw [List.takeWhile_append_of_pos (fun a ha=>by rw [h1 a ha]; rfl),List.takeWhile_cons]
  simp [he]
 rw [e,List.length_take,Nat.min_eq_left (by omega)]
theorem idx_none {l:List (List UInt8)} {x:List UInt8} (h1:∀ y ∈ l,(x == y) = false):idxS l x = -1:=by
 unfold idxS
 rw [if_neg]
 intro hm
 have:=h1 x hm
 simp at this
theorem p136 (m:Int) (l:List (List UInt8)) (x:List UInt8) (hl:l.length≤maxI):PureOk PQ (GQ m) X24 (tbl []) (itbl []) (a136 l x) [] 136 [.sl 1 (strsL l) .no,.str x] (.int .i64 (idxS l x),[]):=by
 constructor
 rw [w136]; unfold I6
 unfold maxI at hl
 have hn:(strsL l).length = l.length:=List.length_map _
 refine ⟨⟨0,⟨by rw [hn]; rfl⟩,⟨rfl⟩,⟨Nat.zero_le _,fun y hy=>by simp at hy⟩,trivial⟩,fun i hi=>⟨fun lt=>?_,fun ge=>⟨?_⟩⟩⟩
 ·have lt:=of_decide_eq_true lt
  have hil:i < l.length:=by omega
  refine ⟨⟨by omega,by omega⟩,_,by rw [Int.toNat_natCast]; exact take_str hil,fun c=>⟨by rw [idx_at hil hi.2 c]⟩,fun c=>⟨i + 1,⟨by rw [wrapI (by omega)]⟩,⟨rfl⟩,⟨hil,fun y hy=>?_⟩,by omega⟩⟩
  rw [List.take_succ_eq_append_getElem hil] at hy
  rcases List.mem_append.1 hy with hy | hy
  ·exact hi.2 y hy
  ·simp at hy; subst hy; exact c
 ·have ge:=of_decide_eq_false ge
  have:=hi.2
  rw [List.take_of_length_le (by omega)] at this
  rw [idx_none this]
theorem idx_ge {l:List (List UInt8)} {x:List UInt8}:decide (idxS l x ≥ 0) = l.contains x:=by
 unfold idxS
 by_cases h:x ∈ l
 ·rw [if_pos h]; simp [h]
 ·rw [if_neg h]; simp [h]
theorem run136 {l:List (List UInt8)} {x:List UInt8} (hl:l.length≤maxI):s136 [.sl 1 (strsL l) .no,.str x] = some (.int .i64 (idxS l x),[]):=by
 simp only [s136,unL_map unS_ok]
 rw [if_pos ⟨trivial,hl⟩]
theorem p91 (m:Int) (l:List (List UInt8)) (x:List UInt8) (hl:l.length≤maxI):PureOk PQ (GQ m) X24 (tbl [(136,s136)]) (itbl []) nAn [] 91 [.sl 1 (strsL l) .no,.str x] (.bool (l.contains x),[]):=by
 constructor
 rw [w91]
 exact ⟨_,⟨run136 hl⟩,fun c=>⟨by rw [← idx_ge,c]⟩,fun c=>⟨by rw [← idx_ge,c]⟩⟩
theorem o20 (m:Int):SpecOk PQ (GQ m) 20 sIn:=spec_of (X:=X24) (m:=[]) mixedQ tbl_nil itbl_nil fun args r h=>by
 unfold sIn at h
 split at h
 case h_2=>cases h
 split at h
 case h_2=>cases h
 rename_i l hu
 split at h
 case isFalse=>cases h
 rename_i hs
 injection h with h; subst h
 rw [unL_inv unS_inv hu,hs.1]
 exact ⟨_,p20 m _ _ hs.2⟩
theorem o136 (m:Int):SpecOk PQ (GQ m) 136 s136:=spec_of (X:=X24) (m:=[]) mixedQ tbl_nil itbl_nil fun args r h=>by
 unfold s136 at h
 split at h
 case h_2=>cases h
 split at h
 case h_2=>cases h
 rename_i l hu
 split at h
 case isFalse=>cases h
 rename_i hs
 injection h with h; subst h
 rw [unL_inv unS_inv hu,hs.1]
 exact ⟨_,p136 m _ _ hs.2⟩
theorem o91 (m:Int):SpecOk PQ (GQ m) 91 sIn:=spec_of (X:=X24) (m:=[]) mixedQ (tbl_cons (o136 m) tbl_nil) itbl_nil fun args r h=>by
 unfold sIn at h
 split at h
 case h_2=>cases h
 split at h
 case h_2=>cases h
 rename_i l hu
 split at h
 case isFalse=>cases h
 rename_i hs
 injection h with h; subst h
 rw [unL_inv unS_inv hu,hs.1]
 exact ⟨_,p91 m _ _ hs.2⟩
theorem lb_eta (x:Lb):(⟨x.key,x.event,x.know⟩:Lb) = x:=rfl
theorem idxP_at {l:List Lb} {i:Nat} (h:i < l.length) (h1:(l.take i).all lbOk = true) (he:lbOk l[i] = false):idxP l = i:=by
 unfold idxP
 rw [all_notQ h he,if_neg (by simp)]
 have:l = l.take i ++ l[i] :: l.drop (i + 1):=by rw [← List.drop_eq_getElem_cons h,List.take_append_drop]
 have e:l.takeWhile lbOk = l.take i:=by
  conv=>lhs; rw [this]
  rw [List.takeWhile_append_of_pos (fun a ha=>List.all_eq_true.1 h1 a ha),List.takeWhile_cons]
  simp [he]
 rw [e,List.length_take,Nat.min_eq_left (by omega)]
theorem p137 (m:Int) (l:List Lb) (hl:l.length≤maxI):PureOk PQ (GQ m) X24 (tbl [(93,s93)]) (itbl []) (a137 l) [] 137 [.sl 3 (lbsL l) .no,.fn 93 []] (.int .i64 (idxP l),[]):=by
 constructor
 rw [w137]; unfold I6
 unfold maxI at hl
 have hn:(lbsL l).length = l.length:=List.length_map _
 refine ⟨⟨0,⟨by rw [hn]; rfl⟩,⟨rfl⟩,⟨Nat.zero_le _,rfl⟩,trivial⟩,fun i hi=>⟨fun lt=>?_,fun ge=>⟨?_⟩⟩⟩
 ·have lt:=of_decide_eq_true lt
  have hil:i < l.length:=by omega
  refine ⟨⟨by omega,by omega⟩,_,_,_,by rw [Int.toNat_natCast]; exact take_lb hil,_,⟨rfl⟩,fun c=>⟨?_⟩,fun c=>⟨i + 1,⟨by rw [wrapI (by omega)]⟩,⟨rfl⟩,⟨hil,all_succQ hil hi.2 ?_⟩,by omega⟩⟩
  ·rw [lb_eta] at c
   rw [idxP_at hil hi.2 (by simpa using c)]
  ·rw [lb_eta] at c
   simpa using c
 ·have ge:=of_decide_eq_false ge
  unfold idxP
  rw [all_take (by omega) hi.2,if_pos rfl]
theorem o137 (m:Int):SpecOk PQ (GQ m) 137 s137:=spec_of (X:=X24) (m:=[]) mixedQ (tbl_cons (o93 m) tbl_nil) itbl_nil fun args r h=>by
 unfold s137 at h
 split at h
 case h_2=>cases h
 split at h
 case h_2=>cases h
 rename_i l hu
 split at h
 case isFalse=>cases h
 rename_i hs
 injection h with h; subst h
 rw [unL_inv unLb_inv hu,hs.1]
 exact ⟨_,p137 m _ hs.2⟩
theorem idxP_ge {l:List Lb}:decide (idxP l ≥ 0) = !l.all lbOk:=by
 unfold idxP
 cases h:l.all lbOk
 ·rw [if_neg (by simp)]; simp
 ·rw [if_pos rfl]; rfl
theorem run137 {l:List Lb} (hl:l.length≤maxI):s137 [.sl 3 (lbsL l) .no,.fn 93 []] = some (.int .i64 (idxP l),[]):=by
 simp only [s137,unL_map unLb_ok]
 rw [if_pos ⟨trivial,hl⟩]
theorem p92 (m:Int) (l:List Lb) (hl:l.length≤maxI):PureOk PQ (GQ m) X24 (tbl [(137,s137)]) (itbl []) nAn [] 92 [.sl 3 (lbsL l) .no,.fn 93 []] (.bool (!l.all lbOk),[]):=by
 constructor
 rw [w92]
 exact ⟨_,⟨run137 hl⟩,fun c=>⟨by rw [← idxP_ge,c]⟩,fun c=>⟨by rw [← idxP_ge,c]⟩⟩
theorem o92 (m:Int):SpecOk PQ (GQ m) 92 s92:=spec_of (X:=X24) (m:=[]) mixedQ (tbl_cons (o137 m) tbl_nil) itbl_nil fun args r h=>by
 unfold s92 at h
 split at h
 case h_2=>cases h
 split at h
 case h_2=>cases h
 rename_i l hu
 split at h
 case isFalse=>cases h
 rename_i hs
 injection h with h; subst h
 rw [unL_inv unLb_inv hu,hs.1]
 exact ⟨_,p92 m _ hs.2⟩
/-! names, unbounded -/
theorem o77u (m:Int):SpecOk PQ (GQ m) 77 s40u:=spec_of (X:=XW) (m:=[]) mixedQ (tbl_cons (o124 m) (tbl_cons (o123 m) tbl_nil)) itbl_nil fun args r h=>by
 unfold s40u at h
 split at h
 case h_2=>cases h
 injection h with h; subst h
 exact ⟨nAn,p77 m _⟩
theorem p40u (m:Int) (s:List UInt8) (hs:¬ s.length≤2000000):PureOk PQ (GQ m) XW (tbl [(88,s88)]) (itbl []) (a40 s) [] 40 [.str s] (.bool (nameR s),[]):=by
 constructor
 rw [w40]; unfold w40c1 w40c2 w40c3 w40c5 w40c4
 simp only [retIs_iff,Prod.mk.injEq,AV.bool.injEq,and_true,decide_eq_true_eq,decide_eq_false_iff_not,beq_iff_eq,beq_eq_false_iff_ne,ne_eq]
 have hn:nameR s = false:=by
  unfold nameR
  rw [decide_eq_false (p:=s.length≤24) (by omega)]; simp
 exact ⟨fun h=>by rw [hn],fun hne=>⟨fun h=>by rw [hn],fun hl=>absurd hl (by omega)⟩⟩
theorem o40u (m:Int):SpecOk PQ (GQ m) 40 s40u:=spec_of (X:=XW) (m:=[]) mixedQ (tbl_cons (o88 m) tbl_nil) itbl_nil fun args r h=>by
 unfold s40u at h
 split at h
 case h_2=>cases h
 injection h with h; subst h
 by_cases hs:(by assumption:List UInt8).length≤2000000
 ·exact ⟨_,p40 m _ hs⟩
 ·exact ⟨_,p40u m _ hs⟩
theorem hd1 {r:Rq} (h:nameR r.entity = false):formB r = false:=by unfold formB headOk; rw [h]; rfl
theorem hd2 {r:Rq} (h:decide ((r.feats.length:Int) < 1) = true):formB r = false:=by
 unfold formB headOk; rw [decide_eq_false (p:=1≤r.feats.length) (by have:=of_decide_eq_true h; omega)]; simp
theorem hd3 {r:Rq} (h:decide ((r.feats.length:Int) > 8) = true):formB r = false:=by
 unfold formB headOk; rw [decide_eq_false (p:=r.feats.length≤8) (by have:=of_decide_eq_true h; omega)]; simp
theorem hd4 {r:Rq} (h:decide ((r.labels.length:Int) > 256) = true):formB r = false:=by
 unfold formB headOk; rw [decide_eq_false (p:=r.labels.length≤256) (by have:=of_decide_eq_true h; omega)]; simp
theorem hd5 {r:Rq} (h:tickB r.seed = false):formB r = false:=by unfold formB headOk; rw [h]; simp
theorem hd6 {r:Rq} (h:decide (r.permille < 0) = true):formB r = false:=by
 unfold formB headOk; rw [decide_eq_false (p:=0≤r.permille) (by have:=of_decide_eq_true h; omega)]; simp
theorem hd7 {r:Rq} (h:decide (r.permille > 1000) = true):formB r = false:=by
 unfold formB headOk; rw [decide_eq_false (p:=r.permille≤1000) (by have:=of_decide_eq_true h; omega)]; simp
theorem hdOk {r:Rq} (h1:nameR r.entity = true) (h2:decide ((r.feats.length:Int) < 1) = false) (h3:decide ((r.feats.length:Int) > 8) = false) (h4:decide ((r.labels.length:Int) > 256) = false) (h5:tickB r.seed = true) (h6:decide (r.permille < 0) = false) (h7:decide (r.permille > 1000) = false):headOk r = true:=by
 unfold headOk
 have:=of_decide_eq_false h2
 have:=of_decide_eq_false h3
 have:=of_decide_eq_false h4
 have:=of_decide_eq_false h6
 have:=of_decide_eq_false h7
 rw [h1,h5,decide_eq_true (p:=1≤r.feats.length) (by omega),decide_eq_true (p:=r.feats.length≤8) (by omega),decide_eq_true (p:=r.labels.length≤256) (by omega),decide_eq_true (p:=0≤r.permille) (by omega),decide_eq_true (p:=r.permille≤1000) (by omega)]
 rfl
theorem form_feats {r:Rq} (h:featsOk [] r.feats = false):formB r = false:=by unfold formB; rw [h]; simp
theorem form_labels {r:Rq} (h:r.labels.all lbOk = false):formB r = false:=by unfold formB; rw [h]; simp
theorem feats_step {l:List (List UInt8)} {i:Nat} (h:i < l.length):featsOk (l.take i) (l.drop i) = (nameR l[i] && !(l.take i).contains l[i] && featsOk (l.take (i + 1)) (l.drop (i + 1))):=by
 rw [List.drop_eq_getElem_cons h,featsOk,List.take_succ_eq_append_getElem h]
theorem feats_end {l:List (List UInt8)} {i:Nat} (h:¬ i < l.length):featsOk (l.take i) (l.drop i) = true:=by
 rw [List.drop_eq_nil_of_le (by omega)]; rfl
theorem runIn {l:List (List UInt8)} {x:List UInt8} {i:Nat} (hl:l.length≤maxI):sIn [.sl 1 (List.drop 0 (List.take (i:Int).toNat (strsL l))) .no,.str x] = some (.bool ((l.take i).contains x),[]):=by
 rw [Int.toNat_natCast,List.drop_zero,← List.map_take]
 simp only [sIn,unL_map unS_ok]
 rw [if_pos ⟨trivial,by rw [List.length_take]; omega⟩]
theorem run92 {l:List Lb} (hl:l.length≤maxI):s92 [.sl 3 (lbsL l) .no,.fn 93 []] = some (.bool (!l.all lbOk),[]):=by
 simp only [s92,unL_map unLb_ok]
 rw [if_pos ⟨trivial,hl⟩]
theorem p46 (m:Int) (x:Rq):PureOk PQ (GQ m) X24 (tbl t46) (itbl []) (a46 x) [] 46 [rqA x] (.bool (formB x),[]):=by
 constructor
 rw [w46]; unfold w46c2 w46c1 I6
 have hn:(strsL x.feats).length = x.feats.length:=List.length_map _
 have hm:(lbsL x.labels).length = x.labels.length:=List.length_map _
 simp only [hn,hm]
 refine ⟨_,⟨rfl⟩,fun c1=>⟨fun c2=>⟨by rw [hd2 c2]⟩,fun c2=>⟨fun c3=>⟨by rw [hd3 c3]⟩,fun c3=>⟨fun c4=>⟨by rw [hd4 c4]⟩,fun c4=>⟨_,⟨rfl⟩,fun c5=>⟨fun c6=>⟨by rw [hd6 c6]⟩,fun c6=>⟨fun c7=>⟨by rw [hd7 c7]⟩,fun c7=>?_⟩⟩,fun c5=>⟨by rw [hd5 c5]⟩⟩⟩⟩⟩,fun c1=>⟨by rw [hd1 c1]⟩⟩
 have hd:=hdOk c1 c2 c3 c4 c5 c6 c7
 have l8:=of_decide_eq_false c3
 have l256:=of_decide_eq_false c4
 have big:maxI = 9223372036854775807:=rfl
 refine ⟨⟨0,⟨rfl⟩,⟨rfl⟩,⟨Nat.zero_le _,rfl⟩,trivial⟩,fun i hi=>⟨fun lt=>?_,fun ge=>?_⟩⟩
 ·have lt:=of_decide_eq_true lt
  have hil:i < x.feats.length:=by omega
  have hs:=hi.2.trans (feats_step hil)
  refine ⟨⟨by omega,by omega⟩,_,by rw [Int.toNat_natCast]; exact take_str hil,_,⟨rfl⟩,fun b1=>⟨by omega,⟨by omega,by omega⟩,.inl trivial,_,⟨runIn (by omega)⟩,fun b2=>⟨?_⟩,fun b2=>⟨i + 1,⟨by rw [wrapI (by omega)]⟩,⟨rfl⟩,⟨hil,?_⟩,by omega⟩⟩,fun b1=>⟨?_⟩⟩
  ·rw [form_feats (by rw [hs,b2]; simp)]
  ·rw [hs,b1,b2]; rfl
  ·rw [form_feats (by rw [hs,b1]; rfl)]
 ·have ge:=of_decide_eq_false ge
  have hf:=hi.2.trans (feats_end (by omega))
  refine ⟨_,⟨run92 (by omega)⟩,fun b=>⟨?_⟩,fun b=>⟨?_⟩⟩
  ·rw [form_labels (by simpa using b)]
  ·have b:x.labels.all lbOk = true:=by simpa using b
   unfold formB; rw [hd,hf,b]; rfl
theorem o46 (m:Int):SpecOk PQ (GQ m) 46 s46:=spec_of (X:=X24) (m:=[]) mixedQ (tbl_cons (o40u m) (tbl_cons (o90 m) (tbl_cons (o91 m) (tbl_cons (o92 m) tbl_nil)))) itbl_nil fun args r h=>by
 unfold s46 at h
 split at h
 case h_2=>cases h
 split at h
 case h_2=>cases h
 rename_i hu
 injection h with h; subst h
 rw [unRqN_inv _ _ hu]
 exact ⟨_,p46 m _⟩
theorem p33 (m:Int) (x:Rq) (hk:keysOk x.labels = true):PureOk PQ (GQ m) X24 (tbl t33q) (itbl []) (a33 x) [] 33 [rqA x] (.bool (formB x),[]):=by
 constructor
 rw [w33]; unfold w33c2 w33c1 I6
 have hn:(strsL x.feats).length = x.feats.length:=List.length_map _
 have hm:(lbsL x.labels).length = x.labels.length:=List.length_map _
 simp only [hn,hm]
 refine ⟨_,⟨rfl⟩,fun c1=>⟨fun c2=>⟨by rw [hd2 c2]⟩,fun c2=>⟨fun c3=>⟨by rw [hd3 c3]⟩,fun c3=>⟨fun c4=>⟨by rw [hd4 c4]⟩,fun c4=>⟨_,⟨rfl⟩,fun c5=>⟨fun c6=>⟨by rw [hd6 c6]⟩,fun c6=>⟨fun c7=>⟨by rw [hd7 c7]⟩,fun c7=>?_⟩⟩,fun c5=>⟨by rw [hd5 c5]⟩⟩⟩⟩⟩,fun c1=>⟨by rw [hd1 c1]⟩⟩
 have hd:=hdOk c1 c2 c3 c4 c5 c6 c7
 have l8:=of_decide_eq_false c3
 have l256:=of_decide_eq_false c4
 have big:maxI = 9223372036854775807:=rfl
 refine ⟨⟨0,⟨rfl⟩,⟨rfl⟩,⟨Nat.zero_le _,rfl⟩,trivial⟩,fun i hi=>⟨fun lt=>?_,fun ge=>?_⟩⟩
 ·have lt:=of_decide_eq_true lt
  have hil:i < x.feats.length:=by omega
  have hs:=hi.2.trans (feats_step hil)
  refine ⟨⟨by omega,by omega⟩,_,by rw [Int.toNat_natCast]; exact take_str hil,_,⟨rfl⟩,fun b1=>⟨by omega,⟨by omega,by omega⟩,.inl trivial,⟨by omega,by omega⟩,_,by rw [Int.toNat_natCast]; exact take_str hil,_,⟨runIn (by omega)⟩,fun b2=>⟨?_⟩,fun b2=>⟨i + 1,⟨by rw [wrapI (by omega)]⟩,⟨rfl⟩,⟨hil,?_⟩,by omega⟩⟩,fun b1=>⟨?_⟩⟩
  ·rw [form_feats (by rw [hs,b2]; simp)]
  ·rw [hs,b1,b2]; rfl
  ·rw [form_feats (by rw [hs,b1]; rfl)]
 ·have ge:=of_decide_eq_false ge
  have hf:=hi.2.trans (feats_end (by omega))
  refine ⟨⟨0,⟨rfl⟩,⟨rfl⟩,⟨Nat.zero_le _,hf,rfl⟩,trivial⟩,fun j hj=>⟨fun lt=>?_,fun ge=>⟨?_⟩⟩⟩
  ·have lt:=of_decide_eq_true lt
   have hjl:j < x.labels.length:=by omega
   have hkk:x.labels[j].key.length≤maxI:=of_decide_eq_true (List.all_eq_true.1 hk _ (List.getElem_mem hjl))
   have e:s79 [.agg [.str x.labels[j].key,.int .i64 x.labels[j].event,.int .i64 x.labels[j].know]] = some (.bool (lbOk x.labels[j]),[]):=by
    unfold s79
    simp only
    rw [if_pos hkk]
   refine ⟨⟨by omega,by omega⟩,_,_,_,by rw [Int.toNat_natCast]; exact take_lb hjl,_,⟨e⟩,fun b=>⟨j + 1,⟨by rw [wrapI (by omega)]⟩,⟨rfl⟩,⟨hjl,hj.2.1,all_succQ hjl hj.2.2 b⟩,by omega⟩,fun b=>⟨?_⟩⟩
   rw [form_labels (all_notQ hjl b)]
  ·have ge:=of_decide_eq_false ge
   unfold formB; rw [hd,hf,all_take (by omega) hj.2.2]; rfl
theorem o33 (m:Int):SpecOk PQ (GQ m) 33 s33:=spec_of (X:=X24) (m:=[]) mixedQ (tbl_cons (o77u m) (tbl_cons (o78 m) (tbl_cons (o20 m) (tbl_cons (o79 m) tbl_nil)))) itbl_nil fun args r h=>by
 unfold s33 at h
 split at h
 case h_2=>cases h
 split at h
 case h_2=>cases h
 rename_i hu
 split at h
 case isFalse=>cases h
 rename_i hk
 injection h with h; subst h
 rw [unRqN_inv _ _ hu]
 exact ⟨_,p33 m _ hk⟩
end Go.Abs
namespace Go.Abs
open Go.Proofs Go.RowKit Go.Wire
def uintA (bs:List UInt8) (at_:Int):Int × Int × Int:=if at_ < 0∨(bs.length:Int) < at_ then (0,0,1) else match uintP 10 (bs.drop at_.toNat) with
 | .error x=>(0,0,x)
 | .ok (v,m)=>(v,at_ + m,0)
def textA (bs:List UInt8) (at_:Int):List UInt8 × Int × Int:=if at_ < 0∨(bs.length:Int) < at_ then ([],0,1) else match Z05.textR bs at_.toNat with
 | .error x=>([],0,x)
 | .ok (l,m)=>(l,m,0)
def lenOk (bs:List UInt8):Prop:=(bs.length:Int)≤1000000000000
instance (bs : List UInt8) : Decidable (lenOk bs) := by unfold lenOk; infer_instance
def sReadUint:Spec:=fun args=>match args with
 | [.sl sz es _,.int .i64 at_]=>if sz = 1∨es = [] then (unBytes es).bind fun bs=>if lenOk bs then some (.tup [.int .u64 (uintA bs at_).1,.int .i64 (uintA bs at_).2.1,.int .i64 (uintA bs at_).2.2],[]) else none else none
 | _=>none
def sReadText:Spec:=fun args=>match args with
 | [.sl sz es _,.int .i64 at_]=>if sz = 1∨es = [] then (unBytes es).bind fun bs=>if lenOk bs then some (.tup [.str (textA bs at_).1,.int .i64 (textA bs at_).2.1,.int .i64 (textA bs at_).2.2],[]) else none else none
 | _=>none
variable {E : Env} {w w' : World} {G : Glob}
theorem rep_tup3 {a b c:AV} {x y z:Value} (ha:Rep E w a x) (hb:Rep E w b y) (hc:Rep E w c z):Rep E w (.tup [a,b,c]) (.tuple #[x,y,z]):=by
 refine .tup _ _ rfl fun i c' v hi hv=>?_
 match i,hi,hv with
 | 0,hi,hv=>simp at hi hv; subst hi; subst hv; exact ha
 | 1,hi,hv=>simp at hi hv; subst hi; subst hv; exact hb
 | 2,hi,hv=>simp at hi hv; subst hi; subst hv; exact hc
theorem size_toList (l:List UInt8):(⟨l.toArray⟩:ByteArray).data.toList = l:=by simp
theorem bytes_arg {sz:Nat} {es:List AV} {o:Own} {v:Value} {bs:List UInt8} (h:Rep E w (.sl sz es o) v) (hsz:sz = 1∨es = []) (hu:unBytes es = some bs) :
  ∃ A cap,v = .slice A bs.length cap∧bs.length≤cap∧(bs = []∨∃ b off,A = some ⟨b,off,none⟩∧(b < w.heap.size)∧(∀ j,j < bs.length→E.I b (off + j))∧∀ j,j < bs.length→w.cell? ⟨b,off + j,none⟩ = some (.int .u8 (bs.getD j 0).toNat)):=by
 obtain rfl:=unBytes_some hu
 obtain ⟨A,cap,rfl,hcap,hc⟩:=rep_bytes h (hsz.imp id fun h=>by simpa [bytesL] using h)
 refine ⟨A,cap,rfl,hcap,?_⟩
 rcases hc with hc | ⟨b,off,rfl,hc⟩
 ·exact .inl hc
 ·rcases Nat.eq_zero_or_pos bs.length with h0 | h0
  ·exact .inl (List.eq_nil_of_length_eq_zero h0)
  ·refine .inr ⟨b,off,rfl,cell_lt (hc 0 h0).1,fun j hj=>(hc j hj).2,fun j hj=>?_⟩
   rw [(hc j hj).1]
   simp [hj]
theorem o35:SpecOk PQ G 35 sReadUint:=by
 intro g args r lv h E w vs hI hG hn' hv hcl
 simp only at h
 split at h
 ·rename_i e
  subst e
  unfold sReadUint at h
  split at h
  ·rename_i sz es o at_
   split at h
   ·rename_i hsz
    cases hu:unBytes es with
    | none=>rw [hu] at h; cases h
    | some bs =>
     rw [hu] at h
     simp only [Option.bind_some] at h
     split at h
     ·rename_i hlen
      simp only [Option.some.injEq,Prod.mk.injEq] at h
      obtain ⟨rfl,rfl⟩:=h
      obtain ⟨a,b,rfl⟩:=vs_two hn'
      obtain ⟨A,cap,rfl,hcap,hc⟩:=bytes_arg (hv 0 _ _ rfl rfl) hsz hu
      obtain rfl:=rep_int (hv 1 _ _ rfl rfl)
      refine .inl ⟨goodQ (by kernel_rfl),?_⟩
      unfold uintA
      by_cases hbad:at_ < 0∨(bs.length:Int) < at_
      ·simp only [if_pos hbad]
       refine (Z05.uint_bad A bs.length cap at_ hbad w).mono fun e w' ⟨he,hb⟩=>⟨_,he,res_below hb fun B K=>rep_tup3 (.int _ _) (.int _ _) (.int _ _)⟩
      ·simp only [if_neg hbad]
       obtain ⟨n,rfl⟩:∃ n:Nat,at_ = n:=⟨at_.toNat,by omega⟩
       simp only [Int.toNat_natCast]
       by_cases hend:n = bs.length
       ·subst hend
        have:uintP 10 (bs.drop bs.length) = .error 41:=by rw [List.drop_length]; rfl
        rw [this]
        refine (Z05.uint_end A bs.length cap w hlen).mono fun e w' ⟨he,hb⟩=>⟨_,he,res_below hb fun B K=>rep_tup3 (.int _ _) (.int _ _) (.int _ _)⟩
       ·rcases hc with rfl | ⟨b,off,rfl,hb,_,hcells⟩
        ·simp at hend hbad; omega
        ·refine (Z05.uint_in b off bs.length cap n bs w (by omega) hlen hcap rfl hb hcells).mono fun e w' ⟨he,hb⟩=>?_
         rw [Z05.num_in] at he
         cases hR:uintP 10 (bs.drop n) with
         | error x =>
          rw [hR] at he
          exact ⟨_,he,res_below hb fun B K=>rep_tup3 (.int _ _) (.int _ _) (.int _ _)⟩
         | ok vm =>
          obtain ⟨v,m⟩:=vm
          rw [hR] at he
          exact ⟨_,he,res_below hb fun B K=>rep_tup3 (.int _ _) (.int _ _) (.int _ _)⟩
     ·cases h
   ·cases h
  ·cases h
 ·cases h
theorem o34:SpecOk PQ G 34 sReadText:=by
 intro g args r lv h E w vs hI hG hn' hv hcl
 simp only at h
 split at h
 ·rename_i e
  subst e
  unfold sReadText at h
  split at h
  ·rename_i sz es o at_
   split at h
   ·rename_i hsz
    cases hu:unBytes es with
    | none=>rw [hu] at h; cases h
    | some bs =>
     rw [hu] at h
     simp only [Option.bind_some] at h
     split at h
     ·rename_i hlen
      simp only [Option.some.injEq,Prod.mk.injEq] at h
      obtain ⟨rfl,rfl⟩:=h
      obtain ⟨a,b,rfl⟩:=vs_two hn'
      obtain ⟨A,cap,rfl,hcap,hc⟩:=bytes_arg (hv 0 _ _ rfl rfl) hsz hu
      obtain rfl:=rep_int (hv 1 _ _ rfl rfl)
      refine .inl ⟨goodQ (by kernel_rfl),?_⟩
      unfold textA
      by_cases hbad:at_ < 0∨(bs.length:Int) < at_
      ·simp only [if_pos hbad]
       refine (Z05.text_bad A bs.length cap at_ hbad w).mono fun e w' ⟨he,hb⟩=>⟨_,he,res_below hb fun B K=>rep_tup3 (.str _ _ rfl) (.int _ _) (.int _ _)⟩
      ·simp only [if_neg hbad]
       obtain ⟨n,rfl⟩:∃ n:Nat,at_ = n:=⟨at_.toNat,by omega⟩
       simp only [Int.toNat_natCast]
       by_cases hend:n = bs.length
       ·subst hend
        have:Z05.textR bs bs.length = .error 41:=by unfold Z05.textR; rw [List.drop_length]; rfl
        rw [this]
        refine (Z05.text_end A bs.length cap w hlen).mono fun e w' ⟨he,hb⟩=>⟨_,he,res_below hb fun B K=>rep_tup3 (.str _ _ rfl) (.int _ _) (.int _ _)⟩
       ·rcases hc with rfl | ⟨b,off,rfl,hb,_,hcells⟩
        ·simp at hend hbad; omega
        ·refine (Z05.text_in b off bs.length cap n bs w (by omega) hlen hcap rfl hb hcells).mono fun e w' ⟨he,hb⟩=>?_
         cases hR:Z05.textR bs n with
         | error x =>
          rw [hR] at he
          exact ⟨_,he,res_below hb fun B K=>rep_tup3 (.str _ _ rfl) (.int _ _) (.int _ _)⟩
         | ok vm =>
          obtain ⟨v,m⟩:=vm
          rw [hR] at he
          exact ⟨_,he,res_below hb fun B K=>rep_tup3 (.str _ _ (size_toList v)) (.int _ _) (.int _ _)⟩
     ·cases h
   ·cases h
  ·cases h
 ·cases h
end Go.Abs
namespace Go.Abs
open Go.Proofs Go.Wire
def strOk (s:List UInt8):Prop:=s.length≤2000000
instance (s : List UInt8) : Decidable (strOk s) := inferInstanceAs (Decidable (_ ≤ _))
end Go.Abs
namespace Go.Abs
open Go.Proofs
theorem tbl_hit {g:FuncId} {s:Spec} {l:List (FuncId × Spec)} {args:List AV}:tbl ((g,s) :: l) g args = s args:=by simp only [tbl,if_true]
variable {G : Glob}
end Go.Abs
namespace Go.Abs
open Go.Proofs Go.Wire
def onBytes (es:List AV) (f:List UInt8→Option (AV × List (Nat × TypeId))):Option (AV × List (Nat × TypeId)):=
 match unBytes es with
 | some bs=>f bs
 | none=>none
def ownR (l:List UInt8):AV × List (Nat × TypeId):=(.sl 1 (bytesL l) (.tok 0),[(l.length,5)])
def laxR (l:List UInt8):AV × List (Nat × TypeId):=(bytesA l,[])
def zig (n:Int):Nat:=if 0≤n then (2 * n).toNat else (-2 * n - 1).toNat
def unzig (v:Nat):Int:=if v % 2 = 1 then -((v / 2:Nat):Int) - 1 else ((v / 2:Nat):Int)
def textL (s:List UInt8):List UInt8:=uintL s.length ++ s
def u64Ok (n:Int):Prop:=0≤n∧n < 18446744073709551616
instance (n : Int) : Decidable (u64Ok n) := inferInstanceAs (Decidable (_ ∧ _))
def i64W (n:Int):Prop:=-9223372036854775808≤n∧n < 9223372036854775808
instance (n : Int) : Decidable (i64W n) := inferInstanceAs (Decidable (_ ∧ _))
def sBytesNum (k:IntKind) (p:Int→Prop) [∀ n,Decidable (p n)] (f:List UInt8→Int→AV × List (Nat × TypeId)):Spec:=fun args=>match args with
 | [.sl sz es _,.int k' n]=>if (sz = 1∨es = [])∧k' = k then onBytes es fun bs=>if strOk bs∧p n then some (f bs n) else none else none
 | _=>none
def s62:Spec:=sBytesNum .u64 u64Ok fun bs n=>ownR (bs ++ uintL n.toNat)
def s25:Spec:=sBytesNum .i64 i64W fun bs n=>ownR (bs ++ uintL (zig n))
def s26:Spec:=fun args=>match args with
 | [.sl sz es _,.str s]=>if sz = 1∨es = [] then onBytes es fun bs=>if strOk bs∧strOk s then some (ownR (bs ++ textL s)) else none else none
 | _=>none
def shOwn:Sh × Option TypeId:=(.val (.one (.sl 1 (.tok 0))),some 5)
def shLax:Sh × Option TypeId:=(.val (.one (.sl 1 .no)),none)
def Xwi:Shapes:=fun f=>match f with
 | 159=>some shI
 | 25 | 26 | 62 | 122 | 120 | 121=>some shOwn
 | 119=>some shLax
 | _=>none
structure X62 where
 pre:List UInt8
 n:Nat
structure I62 (b:List UInt8) (N:Nat) (x:X62):Prop where
 e:x.pre ++ uintL x.n = b ++ uintL N
 n:x.n≤N
 c:x.pre.length + (uintL x.n).length≤b.length + (uintL N).length
def a62 (bs:List UInt8) (N:Nat):Anns:=⟨fun q=>if q = 2 then some { α:=X62,slots:=[1,4],nb:=0,vals:=fun x=>[.int .u64 x.n,.sl 1 (bytesL x.pre) (.tok 0)],sS:=fun x=>⟨[],[(x.pre.length,5)]⟩,I:=I62 bs N,μ:=fun x=>x.n,peel:=1 } else none,nA⟩
end Go.Abs
namespace Go.Abs
open Go.Proofs
abbrev w62c1 (bs:List UInt8):=List.take (↑(bytesL bs).length:Int).toNat (bytesL bs)
abbrev w62c2 (bs:List UInt8):Prop:=(1:Nat) = (1:Nat)∨List.drop 0 (w62c1 bs) = []
abbrev w62c3 (bs:List UInt8):=(List.drop 0 (w62c1 bs)).length + (1:Nat)
theorem w62 (m:Int) (N:Nat) (bs r:List UInt8):(pureW PQ (GQ m) Xwi (tbl []) (itbl []) (a62 bs N) [] 62 [bytesA bs,.int .u64 (N:Nat)] (ownR r)) =
((0:Int)≤(↑(bytesL bs).length:Int)∧((0:Nat)≤(↑(bytesL bs).length:Int).toNat∧(↑(bytesL bs).length:Int).toNat≤(bytesL bs).length)∧((1:Nat) = (1:Nat)∨bytesL bs = [])∧((some (AV.int IntKind.i64 (↑(bytesL bs).length:Int))).isSome = true∧(↑(↑(bytesL bs).length:Int).toNat:Int)≤(↑(bytesL bs).length:Int)∧(↑(bytesL bs).length:Int)≤(↑(bytesL bs).length:Int))∧((↑(bytesL bs).length:Int).toNat = (↑(bytesL bs).length:Int).toNat→(decide ((↑N:Int) ≥ (128:Int)) = true→(w62c2 bs)∧(w62c3 bs) * (2:Nat)≤(70368744177664:Nat)∧(0:Int)≤(7:Int)∧(∃ (y:X62),ValsAre [AV.int IntKind.u64 ((↑N:Int).fdiv (128:Int)),AV.sl 1 (List.drop 0 (w62c1 bs) ++ [AV.int IntKind.u8 (IntKind.u8.wrap (↑(BitVec.ofInt IntKind.u8.bits (IntKind.u8.wrap (↑N:Int)) ||| BitVec.ofInt IntKind.u8.bits (128:Int)).toNat:Int))]) (Own.tok 0)] [AV.int IntKind.u64 (↑y.n:Int),AV.sl 1 (bytesL y.pre) (Own.tok 0)]∧StIs { boxes:=[],live:=[((List.drop 0 (w62c1 bs)).length + (1:Nat),5)] } { boxes:=[],live:=[(y.pre.length,5)] }∧I62 bs N y∧True)∧∀ (x:X62),I62 bs N x→(decide ((↑x.n:Int) ≥ (128:Int)) = true→((1:Nat) = (1:Nat)∨bytesL x.pre = [])∧((bytesL x.pre).length + (1:Nat)) * (2:Nat)≤(70368744177664:Nat)∧x.pre.length = (bytesL x.pre).length∧(0:Int)≤(7:Int)∧∃ (y:X62),ValsAre [AV.int IntKind.u64 ((↑x.n:Int).fdiv (128:Int)),AV.sl 1 (bytesL x.pre ++ [AV.int IntKind.u8 (IntKind.u8.wrap (↑(BitVec.ofInt IntKind.u8.bits (IntKind.u8.wrap (↑x.n:Int)) ||| BitVec.ofInt IntKind.u8.bits (128:Int)).toNat:Int))]) (Own.tok 0)] [AV.int IntKind.u64 (↑y.n:Int),AV.sl 1 (bytesL y.pre) (Own.tok 0)]∧StIs { boxes:=[],live:=[((bytesL x.pre).length + (1:Nat),5)] } { boxes:=[],live:=[(y.pre.length,5)] }∧I62 bs N y∧y.n < x.n)∧(decide ((↑x.n:Int) ≥ (128:Int)) = false→((1:Nat) = (1:Nat)∨bytesL x.pre = [])∧((bytesL x.pre).length + (1:Nat)) * (2:Nat)≤(70368744177664:Nat)∧x.pre.length = (bytesL x.pre).length∧((bytesL x.pre).length + (1:Nat),5).fst = (bytesL x.pre ++ [AV.int IntKind.u8 (IntKind.u8.wrap (↑x.n:Int))]).length∧RetIs (AV.sl 1 (bytesL x.pre ++ [AV.int IntKind.u8 (IntKind.u8.wrap (↑x.n:Int))]) (Own.tok 0)) [((bytesL x.pre).length + (1:Nat),5)] (AV.sl 1 (bytesL r) (Own.tok 0),[(r.length,5)])))∧(decide ((↑N:Int) ≥ (128:Int)) = false→(w62c2 bs)∧(w62c3 bs) * (2:Nat)≤(70368744177664:Nat)∧((List.drop 0 (w62c1 bs)).length + (1:Nat),5).fst = (List.drop 0 (w62c1 bs) ++ [AV.int IntKind.u8 (IntKind.u8.wrap (↑N:Int))]).length∧RetIs (AV.sl 1 (List.drop 0 (w62c1 bs) ++ [AV.int IntKind.u8 (IntKind.u8.wrap (↑N:Int))]) (Own.tok 0)) [((List.drop 0 (w62c1 bs)).length + (1:Nat),5)] (AV.sl 1 (bytesL r) (Own.tok 0),[(r.length,5)])))∧((↑(bytesL bs).length:Int).toNat ≠ (↑(bytesL bs).length:Int).toNat→(decide ((↑N:Int) ≥ (128:Int)) = true→(w62c2 bs)∧(w62c3 bs) * (2:Nat)≤(70368744177664:Nat)∧False)∧(decide ((↑N:Int) ≥ (128:Int)) = false→(w62c2 bs)∧(w62c3 bs) * (2:Nat)≤(70368744177664:Nat)∧False))):=by kernel_rfl
theorem w25 (m n:Int) (bs r:List UInt8):(pureW PQ (GQ m) Xwi (tbl [(62,s62)]) (itbl []) nAn [] 25 [bytesA bs,.int .i64 n] (ownR r)) =
((0:Int)≤(1:Int)∧(0:Int)≤(63:Int)∧∃ (es:List AV),CallIs (tbl [(62,s62)] 62 [AV.sl 1 (bytesL bs) Own.no,AV.int IntKind.u64 (IntKind.u64.wrap (↑(BitVec.ofInt IntKind.u64.bits (IntKind.u64.wrap (IntKind.u64.wrap n * (2:Int) ^ min (Int.toNat (1:Int)) IntKind.u64.bits)) ^^^ BitVec.ofInt IntKind.u64.bits (IntKind.u64.wrap (n.fdiv ((2:Int) ^ min (Int.toNat (63:Int)) IntKind.i64.bits)))).toNat:Int))]) (AV.sl 1 es (Own.tok 0)) [(es.length,5)]∧(es.length,5).fst = es.length∧RetIs (AV.sl 1 es (Own.tok 0)) [(es.length,5)] (AV.sl 1 (bytesL r) (Own.tok 0),[(r.length,5)])):=by kernel_rfl
theorem w26 (m:Int) (bs r s:List UInt8):(pureW PQ (GQ m) Xwi (tbl [(62,s62)]) (itbl []) nAn [] 26 [bytesA bs,.str s] (ownR r)) =
(∃ (es:List AV),CallIs (tbl [(62,s62)] 62 [AV.sl 1 (bytesL bs) Own.no,AV.int IntKind.u64 (IntKind.u64.wrap (↑s.length:Int))]) (AV.sl 1 es (Own.tok 0)) [(es.length,5)]∧((1:Nat) = (1:Nat)∨es = [])∧(es.length + (List.map (fun (c:UInt8)=>AV.int IntKind.u8 (↑c.toNat:Int)) s).length) * (2:Nat)≤(70368744177664:Nat)∧es.length = es.length∧(es.length + (List.map (fun (c:UInt8)=>AV.int IntKind.u8 (↑c.toNat:Int)) s).length,5).fst = (es ++ List.map (fun (c:UInt8)=>AV.int IntKind.u8 (↑c.toNat:Int)) s).length∧RetIs (AV.sl 1 (es ++ List.map (fun (c:UInt8)=>AV.int IntKind.u8 (↑c.toNat:Int)) s) (Own.tok 0)) [(es.length + (List.map (fun (c:UInt8)=>AV.int IntKind.u8 (↑c.toNat:Int)) s).length,5)] (AV.sl 1 (bytesL r) (Own.tok 0),[(r.length,5)])):=by kernel_rfl
end Go.Abs
namespace Go.Abs
open Go.Proofs Go.Wire
theorem wrapu64 (n:Int):IntKind.u64.wrap n = n % 18446744073709551616:=by simp [IntKind.wrap,IntKind.bits,IntKind.signed]
theorem wrapu8 (n:Int):IntKind.u8.wrap n = n % 256:=by simp [IntKind.wrap,IntKind.bits,IntKind.signed]
theorem or128:∀ x,x < 256→x ||| 128 = x % 128 + 128:=by decide +kernel
theorem byteOr (N:Nat):IntKind.u8.wrap (↑(BitVec.ofInt IntKind.u8.bits (IntKind.u8.wrap (↑N:Int)) ||| BitVec.ofInt IntKind.u8.bits (128:Int)).toNat:Int) = ((UInt8.ofNat (N % 128 + 128)).toNat:Int):=by
 have h:bits .or .u8 ((N % 256:Nat):Int) ((128:Nat):Int) = _:=u8_or_nat (N % 256) 128 (by omega) (by omega)
 have e:IntKind.u8.wrap (N:Int) = ((N % 256:Nat):Int):=by rw [wrapu8]; omega
 rw [e]
 refine Eq.trans h ?_
 rw [or128 _ (by omega),UInt8.toNat_ofNat']
 omega
theorem byteLast {N:Nat} (_h:N < 128):IntKind.u8.wrap (N:Int) = ((UInt8.ofNat N).toNat:Int):=by
 rw [wrapu8,UInt8.toNat_ofNat']; omega
theorem fdiv128 (N:Nat):(N:Int).fdiv 128 = ((N / 128:Nat):Int):=by
 rw [Int.fdiv_eq_ediv_of_nonneg _ (by omega)]; omega
theorem bytesL_append (a b:List UInt8):bytesL (a ++ b) = bytesL a ++ bytesL b:=by simp [bytesL]
theorem bytesL_one (c:UInt8):bytesL [c] = [.int .u8 c.toNat]:=rfl
theorem bytesL_eq_nil {l:List UInt8}:bytesL l = [] ↔ l = []:=by simp [bytesL]
theorem uintL_len:∀ (f n:Nat),n < 2 ^ (7 * f + 1)→(uintL n).length≤f + 1
 | f,n,hn=>by
  by_cases h:n < 128
  ·rw [uintL_small h]; simp
  ·match f,hn with
   | 0,hn=>simp at hn; omega
   | f + 1,hn =>
    have e2:2 ^ (7 * (f + 1) + 1) = 128 * 2 ^ (7 * f + 1):=by rw [show 7 * (f + 1) + 1 = 7 * f + 1 + 7 by omega,Nat.pow_add]; omega
    have:=uintL_len f (n / 128) (by omega)
    rw [uintL_big h]; simp; omega
theorem uintL_len10 {n:Nat} (h:n < 18446744073709551616):(uintL n).length≤10:=uintL_len 9 n (by simpa using h)
theorem p62 (m:Int) (N:Nat) (bs:List UInt8) (hs:strOk bs) (hN:N < 18446744073709551616):PureOk PQ (GQ m) Xwi (tbl []) (itbl []) (a62 bs N) [] 62 [bytesA bs,.int .u64 (N:Nat)] (ownR (bs ++ uintL N)):=by
 have hs':bs.length≤2000000:=hs
 have h10:=uintL_len10 hN
 constructor
 generalize hr:bs ++ uintL N = r
 rw [w62]; unfold w62c3 w62c2 w62c1
 have htk:List.drop 0 (List.take bs.length (bytesL bs)) = bytesL bs:=by rw [List.drop_zero]; exact List.take_of_length_le (by simp [bytesL])
 simp only [htk,Int.toNat_natCast,valsAre_iff,stIs_iff,retIs_iff,Prod.mk.injEq,AV.int.injEq,AV.sl.injEq,List.cons.injEq,St.mk.injEq,and_true,true_and,true_or,decide_eq_true_eq,decide_eq_false_iff_not,ge_iff_le,fdiv128,byteOr,Option.isSome_some,Nat.zero_le,Nat.le_refl,Int.le_refl,ne_eq,not_true_eq_false,false_imp_iff,Int.reduceLE,List.length_append,List.length_map,List.length_cons,List.length_nil,forall_const,Nat.zero_add,Int.natCast_inj]
 refine ⟨by omega,fun h=>⟨by omega,⟨⟨bs ++ [UInt8.ofNat (N % 128 + 128)],N / 128⟩,⟨rfl,by rw [bytesL_append,bytesL_one]⟩,by simp,?_⟩,fun x hx=>⟨fun h2=>⟨by have:=hx.c; omega,⟨x.pre ++ [UInt8.ofNat (x.n % 128 + 128)],x.n / 128⟩,⟨rfl,by rw [bytesL_append,bytesL_one]⟩,by simp,?_,by simp only []; omega⟩,fun h2=>⟨by have:=hx.c; omega,?_,?_⟩⟩⟩,fun h=>⟨by omega,?_,?_⟩⟩
 ·refine ⟨?_,by simp only []; omega,?_⟩
  ·rw [uintL_big (n:=N) (by omega)]; simp
  ·rw [uintL_big (n:=N) (by omega)]; simp; omega
 ·have hb:=uintL_big (n:=x.n) (by omega)
  refine ⟨?_,by simp only []; have:=hx.n; omega,?_⟩
  ·rw [← hx.e,hb]; simp
  ·have:=hx.c; rw [hb] at this; simp at this ⊢; omega
 ·rw [byteLast (by omega),← hr,← hx.e,uintL_small (by omega),bytesL_append,bytesL_one]
 ·rw [← hr,← hx.e,uintL_small (by omega)]; simp
 ·rw [byteLast (by omega),← hr,uintL_small (by omega),bytesL_append,bytesL_one]
 ·rw [← hr,uintL_small (by omega)]; simp
theorem sl_ok {l:List UInt8}:(1 = 1∨bytesL l = []):=.inl rfl
theorem s62_at {bs:List UInt8} {n:Int} {o:Own} (h:strOk bs) (hn:u64Ok n):s62 [.sl 1 (bytesL bs) o,.int .u64 n] = some (ownR (bs ++ uintL n.toNat)):=by
 simp only [s62,sBytesNum,onBytes,unBytes_mk,true_or,true_and,if_true,h,hn]
theorem zig_lt {n:Int} (h:i64W n):zig n < 18446744073709551616:=by
 obtain ⟨h0,h1⟩:=h
 unfold zig; split <;> omega
theorem bv_neg (x:Nat) (hx:x < 18446744073709551616):(BitVec.ofNat 64 x ^^^ BitVec.allOnes 64).toNat = 18446744073709551615 - x:=by
 rw [BitVec.xor_allOnes,BitVec.toNat_not,BitVec.toNat_ofNat]
 omega
theorem zig_bits {n:Int} (h:i64W n):IntKind.u64.wrap (↑(BitVec.ofInt IntKind.u64.bits (IntKind.u64.wrap (IntKind.u64.wrap n * (2:Int) ^ min (Int.toNat (1:Int)) IntKind.u64.bits)) ^^^
                          BitVec.ofInt IntKind.u64.bits (IntKind.u64.wrap (n.fdiv ((2:Int) ^ min (Int.toNat (63:Int)) IntKind.i64.bits)))).toNat:Int) = (zig n:Int):=by
  obtain ⟨h0,h1⟩:=h
  have e1:IntKind.u64.bits = 64:=rfl
  have e2:IntKind.i64.bits = 64:=rfl
  rw [e1,e2,show min (Int.toNat 1) 64 = 1 by decide,show min (Int.toNat 63) 64 = 63 by decide]
  rw [wrapu64,wrapu64,wrapu64,wrapu64,Int.pow_succ,Int.pow_zero,Int.one_mul]
  have e3:(2:Int) ^ 63 = 9223372036854775808:=by decide
  rw [e3,Int.fdiv_eq_ediv_of_nonneg _ (by omega)]
  by_cases hn:0≤n
  · have e4 : n / 9223372036854775808 % 18446744073709551616 = 0 := by omega
    have e5:n % 18446744073709551616 * 2 % 18446744073709551616 = ((2 * n).toNat:Int):=by omega
    rw [e4,e5]
    have:BitVec.ofInt 64 (0:Int) = 0#64:=by decide
    rw [this,BitVec.xor_zero,BitVec.ofInt_natCast,BitVec.toNat_ofNat]
    unfold zig; rw [if_pos hn]; omega
  · have e4 : n / 9223372036854775808 % 18446744073709551616 = 18446744073709551615 := by omega
    have e5:n % 18446744073709551616 * 2 % 18446744073709551616 = ((2 * n + 18446744073709551616).toNat:Int):=by omega
    rw [e4,e5]
    have:BitVec.ofInt 64 (18446744073709551615:Int) = BitVec.allOnes 64:=by decide
    rw [this,BitVec.ofInt_natCast,bv_neg _ (by omega)]
    unfold zig; rw [if_neg hn]; omega
theorem wrapi64 (n:Int):IntKind.i64.wrap n = (n + 9223372036854775808) % 18446744073709551616 - 9223372036854775808:=by
 simp only [IntKind.wrap,IntKind.bits,IntKind.signed]
 simp
 split <;> omega
theorem wrapu64_len {s:List UInt8} (h:strOk s):IntKind.u64.wrap (s.length:Int) = (s.length:Int):=by
 have:s.length≤2000000:=h
 rw [wrapu64]; omega
theorem u64Ok_nat {n:Nat} (h:n < 18446744073709551616):u64Ok (n:Int):=⟨by omega,by omega⟩
theorem p25 (m n:Int) (bs:List UInt8) (hs:strOk bs) (hn:i64W n):PureOk PQ (GQ m) Xwi (tbl [(62,s62)]) (itbl []) nAn [] 25 [bytesA bs,.int .i64 n] (ownR (bs ++ uintL (zig n))):=by
 constructor
 generalize hr:bs ++ uintL (zig n) = r
 rw [w25,zig_bits hn,tbl_hit,s62_at hs (u64Ok_nat (zig_lt hn)),Int.toNat_natCast,hr]
 exact ⟨by omega,by omega,bytesL r,⟨by simp [ownR]⟩,rfl,⟨by simp []⟩⟩
theorem p26 (m:Int) (bs s:List UInt8) (hs:strOk bs) (hn:strOk s):PureOk PQ (GQ m) Xwi (tbl [(62,s62)]) (itbl []) nAn [] 26 [bytesA bs,.str s] (ownR (bs ++ textL s)):=by
 have h1:s.length≤2000000:=hn
 have h2:bs.length≤2000000:=hs
 have h3:=uintL_len10 (n:=s.length) (by omega)
 constructor
 rw [w26,wrapu64_len hn,tbl_hit,s62_at hs (u64Ok_nat (by omega)),Int.toNat_natCast]
 refine ⟨bytesL (bs ++ uintL s.length),⟨by simp [ownR]⟩,sl_ok,?_,rfl,?_,⟨?_⟩⟩
 ·simp [bytesL]; omega
 ·simp [bytesL]; omega
 ·simp [bytesL,textL]; omega
theorem lax_bytes {l:List UInt8} {o:Own}:RetLax (AV.sl 1 (bytesL l) o) (AV.sl 1 (bytesL l) Own.no,[]):=⟨⟨rfl,rfl,.inl rfl⟩,rfl,rfl⟩
theorem wk1 {sz:Nat} {es:List AV} {o:Own} {bs:List UInt8} (hz:sz = 1∨es = []) (hb:unBytes es = some bs):wkA 1 (.sl sz es o) = bytesA bs:=by
 obtain rfl:=unBytes_some hb
 rcases hz with rfl | hz
 ·cases bs <;> rfl
 ·rw [bytesL_eq_nil] at hz; subst hz; rfl
theorem sBN_of {X:Shapes} {R:Callee} {C:CCallee} {m:Int} {g:FuncId} {k:IntKind} {p:Int→Prop} [∀ n,Decidable (p n)] {f:List UInt8→Int→AV × List (Nat × TypeId)} (hR:CalleeOk PQ (GQ m) R) (hC:ICalleeOk PQ (GQ m) (lowC C))
  (h:∀ bs n,strOk bs→p n→∃ A,PureOk PQ (GQ m) X R C A [] g [bytesA bs,.int k n] (f bs n)):SpecOk PQ (GQ m) g (sBytesNum k p f):=spec_ofW (X:=X) (m:=[]) [1] mixedQ hR hC fun args r h'=>by
 unfold sBytesNum onBytes at h'
 split at h'
 ·split at h'
  ·rename_i hc
   obtain ⟨hz,rfl⟩:=hc
   split at h'
   ·rename_i bs hb
    dsimp only at h'
    split at h'
    ·rename_i hp
     injection h' with h'; subst h'
     simp only [wkL,wk1 hz hb]
     exact h _ _ hp.1 hp.2
    ·cases h'
   ·cases h'
  ·cases h'
 ·cases h'
theorem o62 (m:Int):SpecOk PQ (GQ m) 62 s62:=sBN_of (X:=Xwi) tbl_nil itbl_nil fun bs n hs hn=>⟨a62 bs n.toNat,by
 obtain ⟨N,rfl⟩:∃ N:Nat,n = N:=⟨n.toNat,by have:=hn.1; omega⟩
 exact p62 m N bs hs (by have:=hn.2; omega)⟩
theorem o25 (m:Int):SpecOk PQ (GQ m) 25 s25:=sBN_of (X:=Xwi) (tbl_cons (o62 m) tbl_nil) itbl_nil fun bs n hs hn=>⟨nAn,p25 m n bs hs hn⟩
theorem o26 (m:Int):SpecOk PQ (GQ m) 26 s26:=spec_ofW (X:=Xwi) (m:=[]) [1] mixedQ (tbl_cons (o62 m) tbl_nil) itbl_nil fun args r h'=>by
 unfold s26 onBytes at h'
 split at h'
 ·split at h'
  ·rename_i hz
   split at h'
   ·rename_i bs hb
    dsimp only at h'
    split at h'
    ·rename_i hp
     injection h' with h'; subst h'
     simp only [wkL,wk1 hz hb]
     exact ⟨nAn,p26 m _ _ hp.1 hp.2⟩
    ·cases h'
   ·cases h'
  ·cases h'
 ·cases h'
def shIntR:Sh × Option TypeId:=(.tup [.one (.int .i64),.one (.int .i64),.one (.int .i64)],none)
def shUintR:Sh × Option TypeId:=(.tup [.one (.int .u64),.one (.int .i64),.one (.int .i64)],none)
def shTextR:Sh × Option TypeId:=(.tup [.one .str,.one (.int .i64),.one (.int .i64)],none)
def Xwo:Shapes:=fun f=>match f with
 | 68 | 118=>some shIntR
 | 35 | 117=>some shUintR
 | 34 | 116=>some shTextR
 | f=>Xwi f
def sintA (bs:List UInt8) (at_:Int):Int × Int × Int:=if (uintA bs at_).2.2 ≠ 0 then (0,0,(uintA bs at_).2.2) else (unzig (uintA bs at_).1.toNat,(uintA bs at_).2.1,0)
def sRd (f:List UInt8→Int→AV):Spec:=fun args=>match args with
 | [.sl sz es _,.int .i64 at_]=>if sz = 1∨es = [] then onBytes es fun bs=>if strOk bs then some (f bs at_,[]) else none else none
 | _=>none
def wInt (x:Int × Int × Int):AV:=.tup [.int .i64 x.1,.int .i64 x.2.1,.int .i64 x.2.2]
def rUint (x:Int × Int × Int):AV:=.tup [.int .u64 x.1,.int .i64 x.2.1,.int .i64 x.2.2]
def rText (x:List UInt8 × Int × Int):AV:=.tup [.str x.1,.int .i64 x.2.1,.int .i64 x.2.2]
def s68:Spec:=sRd fun bs at_=>wInt (sintA bs at_)
end Go.Abs
namespace Go.Abs
open Go.Proofs
theorem w68 (m at_:Int) (bs:List UInt8) (r:AV):(pureW PQ (GQ m) Xwo (tbl [(35,sReadUint)]) (itbl []) nAn [] 68 [bytesA bs,.int .i64 at_] (r,[])) =
(∃ (n:Int),∃ (n_1:Int),∃ (n_2:Int),CallIs (tbl [(35,sReadUint)] 35 [AV.sl 1 (bytesL bs) Own.no,I6 at_]) (AV.tup [AV.int IntKind.u64 n,I6 n_1,I6 n_2]) []∧((n_2 != (0:Int)) = true→RetIs (AV.tup [I6 0,I6 0,I6 n_2]) [] (r,[]))∧((n_2 != (0:Int)) = false→(0:Int)≤(1:Int)∧RetIs (AV.tup [I6 (IntKind.i64.wrap (↑(BitVec.ofInt IntKind.i64.bits (IntKind.i64.wrap (n.fdiv ((2:Int) ^ min (Int.toNat (1:Int)) IntKind.u64.bits))) ^^^ BitVec.ofInt IntKind.i64.bits (IntKind.i64.wrap ((0:Int) - IntKind.i64.wrap (IntKind.u64.wrap (↑((fun (x1 x2:BitVec IntKind.u64.bits)=>x1 &&& x2) (BitVec.ofInt IntKind.u64.bits n) (BitVec.ofInt IntKind.u64.bits (1:Int))).toNat:Int))))).toNat:Int)),I6 n_1,I6 0]) [] (r,[]))):=by kernel_rfl
end Go.Abs
namespace Go.Abs
open Go.Proofs Go.Wire
theorem callSome {x:AV × List (Nat × TypeId)} {r:AV} {lv:List (Nat × TypeId)} (h:x = (r,lv)):CallIs (some x) r lv:=⟨by rw [h]⟩
theorem sReadUint_at {bs:List UInt8} {at_:Int} {o:Own} (h:strOk bs):sReadUint [.sl 1 (bytesL bs) o,.int .i64 at_] = some (rUint (uintA bs at_),[]):=by
 have h1:bs.length≤2000000:=h
 have h2:lenOk bs:=by show (bs.length:Int)≤_; omega
 simp only [sReadUint,true_or,if_true,unBytes_mk,Option.bind_some,h2,rUint]
theorem sRd_at {f:List UInt8→Int→AV} {bs:List UInt8} {at_:Int} {o:Own} (h:strOk bs):sRd f [.sl 1 (bytesL bs) o,.int .i64 at_] = some (f bs at_,[]):=by
 simp only [sRd,onBytes,unBytes_mk,true_or,if_true,h]
theorem uintA_bound {bs:List UInt8} {at_:Int}:0≤(uintA bs at_).1∧(uintA bs at_).1 < 18446744073709551616:=by
 unfold uintA
 split
 ·simp
 ·split
  ·simp
  ·rename_i v m h
   have:=(uintP_bound _ _ _ _ h).1
   have e:2 ^ (7 * (10 - 1) + 1) = 18446744073709551616:=by decide
   simp only []
   omega
theorem unzig_bits {v:Nat} (h:v < 18446744073709551616):IntKind.i64.wrap
                        (↑(BitVec.ofInt IntKind.i64.bits (IntKind.i64.wrap ((v:Int).fdiv ((2:Int) ^ min (Int.toNat (1:Int)) IntKind.u64.bits))) ^^^
                                BitVec.ofInt IntKind.i64.bits
                                  (IntKind.i64.wrap
                                    ((0 : Int) -
                                      IntKind.i64.wrap
                                        (IntKind.u64.wrap
                                          (↑(BitVec.ofInt IntKind.u64.bits (v:Int) &&&
                                                  BitVec.ofInt IntKind.u64.bits (1:Int)).toNat :
                                            Int))))).toNat :
                          Int) = unzig v:=by
  have e1:IntKind.u64.bits = 64:=rfl
  have e2:IntKind.i64.bits = 64:=rfl
  rw [e1,e2,show min (Int.toNat 1) 64 = 1 by decide,Int.pow_succ,Int.pow_zero,Int.one_mul,Int.fdiv_eq_ediv_of_nonneg _ (by omega)]
  have e3:(BitVec.ofInt 64 (v:Int) &&& BitVec.ofInt 64 (1:Int)).toNat = v % 2:=by
    have:BitVec.ofInt 64 (1:Int) = BitVec.ofNat 64 1:=by decide
    rw [this,BitVec.ofInt_natCast,BitVec.toNat_and,BitVec.toNat_ofNat,BitVec.toNat_ofNat,show 1 % 2 ^ 64 = 1 by decide,Nat.and_one_is_mod]
    omega
  rw [e3]
  have e4:(v:Int) / 2 = ((v / 2:Nat):Int):=by omega
  have e5:IntKind.i64.wrap ((v / 2:Nat):Int) = ((v / 2:Nat):Int):=wrap64_in (by omega) (by omega)
  have e6:IntKind.i64.wrap (IntKind.u64.wrap ((v % 2:Nat):Int)) = ((v % 2:Nat):Int):=by
    rw [wrapu64]; rw [wrap64_in (by omega) (by omega)]; omega
  rw [e4,e5,e6,BitVec.ofInt_natCast]
  unfold unzig
  rcases Nat.mod_two_eq_zero_or_one v with h0 | h0
  · rw [h0, if_neg (by omega)]
    have:BitVec.ofInt 64 (IntKind.i64.wrap (0 - ((0:Nat):Int))) = 0#64:=by decide
    rw [this,BitVec.xor_zero,BitVec.toNat_ofNat,Nat.mod_eq_of_lt (by omega),e5]
  · rw [h0, if_pos rfl]
    have:BitVec.ofInt 64 (IntKind.i64.wrap (0 - ((1:Nat):Int))) = BitVec.allOnes 64:=by decide
    rw [this,bv_neg _ (by omega),wrapi64]
    omega
theorem p68 (m at_:Int) (bs:List UInt8) (hb:strOk bs):PureOk PQ (GQ m) Xwo (tbl [(35,sReadUint)]) (itbl []) nAn [] 68 [bytesA bs,.int .i64 at_] (wInt (sintA bs at_),[]):=by
 constructor
 rw [w68]; unfold I6; rw [tbl_hit,sReadUint_at hb]
 obtain ⟨h0,h1⟩:=uintA_bound (bs:=bs) (at_:=at_)
 refine ⟨_,_,_,callSome rfl,?_,?_⟩
 all_goals simp only [bne_iff_ne,bne_eq_false_iff_eq,ne_eq]
 ·intro h
  refine ⟨?_⟩
  unfold sintA; rw [if_pos h]; rfl
 ·intro h
  refine ⟨by omega,⟨?_⟩⟩
  unfold sintA; rw [if_neg (by omega)]
  obtain ⟨v,hv⟩:∃ v:Nat,(uintA bs at_).1 = v:=⟨(uintA bs at_).1.toNat,by omega⟩
  rw [hv] at h1 ⊢
  rw [unzig_bits (by omega)]; rfl
def hornL:List UInt8→Nat
 | []=>0
 | c :: l=>hornL l * 128 + c.toNat % 128
def fewN (bs:List UInt8) (a:Nat):Nat:=min (bs.length - a) 10
def atB (bs:List UInt8) (i:Nat):Nat:=(bs.getD i 0).toNat
structure N117 where
 e:Nat
 n:Nat
 i:Int
structure J117 (bs:List UInt8) (a:Nat) (x:N117):Prop where
 e:x.e < fewN bs a
 l:atB bs (a + x.e) < 128
 b:∀ j:Nat,j < x.e→128≤atB bs (a + j)
 g:x.e = 9→atB bs (a + 9)≤1
 i0:-1≤x.i
 i1:x.i≤x.e
 n:x.n = hornL (((bs.drop a).take (x.e + 1)).drop (x.i + 1).toNat)
end Go.Abs
namespace Go.Abs
open Go.Proofs
end Go.Abs
namespace Go.Abs
open Go.Proofs Go.Wire
theorem atB_drop {bs:List UInt8} {a j:Nat}:((bs.drop a).getD j 0).toNat = atB bs (a + j):=by
 unfold atB
 rw [List.getD_eq_getElem?_getD,List.getD_eq_getElem?_getD,List.getElem?_drop]
theorem hornL_lt:∀ l:List UInt8,hornL l < 2 ^ (7 * l.length)
 | []=>by simp [hornL]
 | c :: l=>by
  have h:=hornL_lt l
  have e:2 ^ (7 * (c :: l).length) = 128 * 2 ^ (7 * l.length):=by
   rw [List.length_cons,show 7 * (l.length + 1) = 7 * l.length + 7 by omega,Nat.pow_add]; omega
  rw [hornL,e]; omega
theorem hornL_snoc:∀ (l:List UInt8) (c:UInt8),c.toNat≤1→hornL (l ++ [c]) < 2 ^ (7 * l.length + 1)
 | [],c,h=>by simp [hornL]; omega
 | d :: l,c,h=>by
  have h:=hornL_snoc l c h
  have e:2 ^ (7 * (d :: l).length + 1) = 128 * 2 ^ (7 * l.length + 1):=by
   rw [List.length_cons,show 7 * (l.length + 1) + 1 = 7 * l.length + 1 + 7 by omega,Nat.pow_add]; omega
  rw [List.cons_append,hornL,e]; omega
theorem J117.lt {bs:List UInt8} {a:Nat} {x:N117} (h:J117 bs a x) (hi:0≤x.i):x.n < 2 ^ 57:=by
 obtain ⟨he,hl,hb,hg,h0,h1,hn⟩:=h
 unfold fewN at he
 obtain ⟨i,hi⟩:∃ i:Nat,x.i = i:=⟨x.i.toNat,by omega⟩
 rw [hi] at hn h1
 rw [hn,show ((i:Int) + 1).toNat = i + 1 by omega]
 by_cases h9:x.e = 9
 ·have h9':=hg h9
  have e:((bs.drop a).take (x.e + 1)).drop (i + 1) = (((bs.drop a).take x.e).drop (i + 1)) ++ (if i < x.e then [(bs.drop a).getD x.e 0] else []):=by
   have hlen:x.e < (bs.drop a).length:=by rw [List.length_drop]; omega
   rw [List.take_succ_eq_append_getElem hlen,List.drop_append]
   congr 1
   rw [List.length_take,Nat.min_eq_left (by omega)]
   by_cases hlt:i < x.e
   ·rw [if_pos hlt,show i + 1 - x.e = 0 by omega,List.drop_zero,List.getD_eq_getElem?_getD,List.getElem?_eq_getElem hlen]; rfl
   ·rw [if_neg hlt,List.drop_eq_nil_of_le (by simp; omega)]
  rw [e]
  by_cases hlt:i < x.e
  ·rw [if_pos hlt]
   have h2:=hornL_snoc (((bs.drop a).take x.e).drop (i + 1)) ((bs.drop a).getD x.e 0) (by rw [atB_drop,h9]; exact h9')
   refine Nat.lt_of_lt_of_le h2 (Nat.pow_le_pow_right (by omega) ?_)
   rw [List.length_drop,List.length_take]; omega
  ·rw [if_neg hlt,List.append_nil]
   refine Nat.lt_of_lt_of_le (hornL_lt _) (Nat.pow_le_pow_right (by omega) ?_)
   rw [List.length_drop,List.length_take]; omega
 ·refine Nat.lt_of_lt_of_le (hornL_lt _) (Nat.pow_le_pow_right (by omega) ?_)
  rw [List.length_drop,List.length_take]; omega
theorem J117.next {bs:List UInt8} {a:Nat} {x:N117} {i:Nat} (h:J117 bs a x) (hi:x.i = i):J117 bs a ⟨x.e,x.n * 128 + atB bs (a + i) % 128,(i:Int) - 1⟩:=by
 obtain ⟨he,hl,hb,hg,h0,h1,hn⟩:=h
 refine ⟨he,hl,hb,hg,by simp only []; omega,by simp only []; omega,?_⟩
 simp only []
 unfold fewN at he
 rw [hi] at hn
 rw [hn,show ((i:Int) + 1).toNat = i + 1 by omega,show ((i:Int) - 1 + 1).toNat = i by omega]
 have hlen:i < ((bs.drop a).take (x.e + 1)).length:=by rw [List.length_take,List.length_drop]; omega
 rw [List.drop_eq_getElem_cons hlen,hornL]
 congr 2
 rw [List.getElem_take,← atB_drop,List.getD_eq_getElem?_getD,List.getElem?_eq_getElem (by rw [List.length_drop]; omega)]
 rfl
section
variable {bs : List UInt8} {a : Nat}
end
theorem sRd_of {X:Shapes} {R:Callee} {C:CCallee} {m:Int} {g:FuncId} {f:List UInt8→Int→AV} (hR:CalleeOk PQ (GQ m) R) (hC:ICalleeOk PQ (GQ m) (lowC C))
  (h:∀ bs n,strOk bs→∃ A,PureOk PQ (GQ m) X R C A [] g [bytesA bs,.int .i64 n] (f bs n,[])):SpecOk PQ (GQ m) g (sRd f):=spec_ofW (X:=X) (m:=[]) [1] mixedQ hR hC fun args r h'=>by
 unfold sRd onBytes at h'
 split at h'
 ·split at h'
  ·rename_i hz
   split at h'
   ·rename_i bs hb
    dsimp only at h'
    split at h'
    ·rename_i hp
     injection h' with h'; subst h'
     simp only [wkL,wk1 hz hb]
     exact h _ _ hp
    ·cases h'
   ·cases h'
  ·cases h'
 ·cases h'
theorem o68 (m:Int):SpecOk PQ (GQ m) 68 s68:=sRd_of (X:=Xwo) (tbl_cons o35 tbl_nil) itbl_nil fun bs n hb=>⟨nAn,p68 m n bs hb⟩
theorem s25_at {bs:List UInt8} {n:Int} {o:Own} (h:strOk bs) (hn:i64W n):s25 [.sl 1 (bytesL bs) o,.int .i64 n] = some (ownR (bs ++ uintL (zig n))):=by
 simp only [s25,sBytesNum,onBytes,unBytes_mk,true_or,true_and,if_true,h,hn]
theorem s26_at {bs s:List UInt8} {o:Own} (h:strOk bs) (hn:strOk s):s26 [.sl 1 (bytesL bs) o,.str s] = some (ownR (bs ++ textL s)):=by
 simp only [s26,onBytes,unBytes_mk,true_or,true_and,if_true,h,hn]
theorem zig_len {n:Int} (h:i64W n):(uintL (zig n)).length≤10:=uintL_len10 (zig_lt h)
end Go.Abs
namespace Go.Abs
open Go.Proofs Go.RowKit
def valL (s:List UInt8):Nat:=s.foldl (fun n c=>10 * n + (c.toNat - 48)) 0
def intB (l:List UInt8):Bool:=decide (l ≠ []) && l.all digitB
def valF (n:Nat) (l:List UInt8):Nat:=l.foldl (fun n c=>10 * n + (c.toNat - 48)) n
theorem valL_eq (l:List UInt8):valL l = valF 0 l:=rfl
theorem valF_ge:∀ (l:List UInt8) (n:Nat),n≤valF n l
 | [],n=>Nat.le_refl _
 | c :: l,n=>by
  have:=valF_ge l (10 * n + (c.toNat - 48))
  simp only [valF,List.foldl_cons] at this ⊢
  omega
theorem digitB_iff {c:UInt8}:digitB c = true ↔ 48≤c.toNat∧c.toNat≤57:=by simp [digitB]
theorem parse_digits:∀ (l:List UInt8) (n:Nat),l.all digitB = true→n < 18446744073709551616 →
  Lib.parseUint10 n l = if valF n l < 18446744073709551616 then .ok (valF n l) else .range
 | [],n,_,hn=>by simp [Lib.parseUint10,valF,hn]
 | c :: l,n,hd,hn=>by
  simp only [List.all_cons,Bool.and_eq_true,digitB_iff] at hd
  have hv:valF n (c :: l) = valF (10 * n + (c.toNat - 48)) l:=rfl
  have hge:=valF_ge l (10 * n + (c.toNat - 48))
  simp only [Lib.parseUint10]
  rw [if_pos hd.1,hv]
  by_cases h1:1844674407370955162≤n
  ·rw [if_pos h1,if_neg (by omega)]
  ·rw [if_neg h1]
   by_cases h2:18446744073709551616≤n * 10 + (c.toNat - 48)
   ·rw [if_pos h2,if_neg (by omega)]
   ·rw [if_neg h2,Nat.mul_comm n 10]
    exact parse_digits l _ hd.2 (by omega)
theorem atoi_digits {l:List UInt8} (h:intB l = true):Lib.atoiAll l = if valL l≤9223372036854775807 then .ok (valL l:Int) else .range:=by
 simp only [intB,Bool.and_eq_true,decide_eq_true_eq] at h
 obtain ⟨h1,h2⟩:=h
 cases l with
 | nil=>exact absurd rfl h1
 | cons c r =>
  have hc:48≤c.toNat∧c.toNat≤57:=by
   simp only [List.all_cons,Bool.and_eq_true,digitB_iff] at h2; exact h2.1
  have hp:=parse_digits (c :: r) 0 h2 (by omega)
  simp only [Lib.atoiAll,Lib.parseMag]
  rw [if_neg (show ¬ (c.toNat = 43∨c.toNat = 45) by omega),if_neg (by simp),hp,valL_eq]
  by_cases h3:valF 0 (c :: r) < 18446744073709551616
  ·rw [if_pos h3]
   simp only
   by_cases h4:valF 0 (c :: r)≤9223372036854775807
   ·rw [if_pos h4,if_neg (by omega),if_neg (by omega),if_neg (by omega)]
   ·rw [if_neg h4,if_pos (by omega)]
  ·rw [if_neg h3,if_neg (by omega)]
section
variable {P : Program} {G : Glob} {E : Env} {w w' : World}
theorem glob_ifc {g:Nat} (hG:GlobOk G E w) (h:G g = some .ifc):∃ t x,w.cell? ⟨g,0,none⟩ = some (.iface t x):=by
 have:=(hG g _ h).2.1
 generalize hv:Value.pointer (some ⟨g,0,none⟩) = v at this
 cases this with | elt _ _ _ _ b off u hcl hA hr h1 =>
 injection hv with hv
 injection hv with hv
 injection hv with h2 h3
 subst h2
 obtain ⟨_,h4⟩:=hA 0 _ 0 _ rfl rfl
 obtain ⟨t,x,h5⟩:=rep_ifc (hr 0 _ 0 _ rfl rfl)
 refine ⟨t,x,?_⟩
 rw [← h5,← h4]
 congr 2
theorem rep_tup2 {a b:AV} {u v:Value} (h1:Rep E w a u) (h2:Rep E w b v):Rep E w (.tup [a,b]) (.tuple #[u,v]):=by
 refine .tup _ _ rfl fun i c x hc hx=>?_
 match i,hc,hx with
 | 0,hc,hx=>simp at hc hx; subst hc; subst hx; exact h1
 | 1,hc,hx=>simp at hc hx; subst hc; subst hx; exact h2
 | i + 2,hc,hx=>simp at hc
theorem vs_one' {vs:Array Value} (h:vs.size = 1):∃ a,vs = #[a]:=vs_one h
end
section
variable {P : Program} {G : Glob} {E : Env} {w w' : World}
theorem glob_tab {g:Nat} {k:IntKind} {zs:List Int} (hG:GlobOk G E w) (h:G g = some (.agg (zs.map fun z=>.int k z))) (hz:zs ≠ []):w.heap[g]?.bind (fun o=>match o with | .cells cs _ _=>some cs | _=>none) = some (zs.map fun z=>Value.int k z).toArray:=by
 obtain ⟨_,h1,_,h2⟩:=hG g _ h
 have hcell:∀ j (hj:j < zs.length),w.cell? ⟨g,j,none⟩ = some (.int k zs[j]):=by
  generalize hv:Value.pointer (some ⟨g,0,none⟩) = v at h1
  cases h1 with | elt _ _ _ _ b off u hcl hA hr h1 =>
  injection hv with hv
  injection hv with hv
  injection hv with h3 h4
  subst h3
  intro j hj
  have hc:(AV.agg (zs.map fun z=>.int k z)).cells[j]? = some (.int k zs[j]):=by simp [AV.cells,hj]
  obtain ⟨_,h5⟩:=hA 0 _ j _ rfl hc
  have h6:=rep_int (hr 0 _ j _ rfl hc)
  rw [← h6,← h5]
  congr 2
  omega
 have h0:=hcell 0 (List.length_pos_iff.2 hz)
 unfold World.cell? at hcell h0 h2
 simp only at hcell h0 h2
 cases ho:w.heap[g]? with
 | none=>rw [ho] at h0; cases h0
 | some o =>
  rw [ho] at h0
  rw [ho] at hcell h2
  cases o with
  | cells cs e f =>
   simp only [Option.isSome_none,Bool.false_eq_true,if_false] at hcell h2
   simp only [Option.bind_some,Option.some.injEq]
   have hn:(AV.agg (zs.map fun z=>.int k z)).cells.length = zs.length:=by simp [AV.cells]
   rw [hn] at h2
   have hsz:cs.size≤zs.length:=by
    apply Classical.byContradiction
    intro hlt
    rw [Array.getElem?_eq_getElem (by omega)] at h2
    cases h2
   apply Array.ext_getElem?
   intro i
   by_cases hi:i < zs.length
   ·rw [hcell i hi]; simp [hi]
   ·have e1:cs[i]? = none:=Array.getElem?_eq_none (by omega)
    rw [e1,List.getElem?_toArray,List.getElem?_map,List.getElem?_eq_none (by omega)]; rfl
  | _=>simp at h0
end
def s89:Spec:=fun args=>match args with
 | [.str l]=>if l.length≤1000000∧intB l = true then some (if valL l≤9223372036854775807 then (.tup [.int .i64 (valL l),.lit .nilIface],[]) else (.tup [.int .i64 9223372036854775807,.ifc],[])) else none
 | _=>none
theorem o89 (m:Int):SpecOk PQ (GQ m) 89 s89:=by
 intro g args r lv h E w vs hI hG hn' hv hcl
 simp only at h
 split at h
 case isFalse=>cases h
 case isTrue e =>
 subst e
 unfold s89 at h
 split at h
 case h_2=>cases h
 case h_1 l =>
 split at h
 case isFalse=>cases h
 case isTrue hl =>
 obtain ⟨hl,hi⟩:=hl
 obtain ⟨a,rfl⟩:=vs_one' hn'
 obtain ⟨s,rfl,hs⟩:=rep_str (hv 0 _ _ rfl rfl)
 have hsz:s.size = l.length:=by rw [size_data,hs]
 have ha:=atoi_digits hi
 by_cases h63:valL l≤9223372036854775807
 ·rw [if_pos h63] at h ha
  simp only [Option.some.injEq,Prod.mk.injEq] at h
  obtain ⟨rfl,rfl⟩:=h
  refine .inl ⟨goodQ (by kernel_rfl),(Tryz.strconv_Atoi_ok s (by omega) (valL l) (by rw [hs]; exact ha) w).mono fun e w' ⟨he,hw⟩=>⟨_,he,?_⟩⟩
  have hb:Below w.heap.size w w':=by
   rcases hw with rfl | ⟨t,rfl⟩
   ·exact Below.refl _ _
   ·exact Lib.bytesWorld_below _ _ _
  exact res_below hb fun B K=>rep_tup2 (.int _ _) (.lit _ rfl)
 ·rw [if_neg h63] at h ha
  simp only [Option.some.injEq,Prod.mk.injEq] at h
  obtain ⟨rfl,rfl⟩:=h
  obtain ⟨t,x,hx⟩:=glob_ifc (g:=3) hG rfl
  refine .inl ⟨goodQ (by kernel_rfl),(Tryz.strconv_Atoi_range s (by omega) (by rw [hs]; exact ha) _ w hx (.inr ⟨t,x,rfl⟩)).mono fun e w' ⟨N,he,_,_,hb⟩=>⟨_,he,?_⟩⟩
  have hsat:Lib.atoiSat s.data.toList = 9223372036854775807:=by
   rw [hs,Lib.atoiSat,if_neg]
   cases l with
   | nil=>simp
   | cons c t =>
    simp only [intB,Bool.and_eq_true,List.all_cons,digitB_iff] at hi
    simp
    omega
  rw [hsat]
  exact res_below hb fun B K=>rep_tup2 (.int _ _) (.ifc _ _)
def s52:Spec:=fun args=>match args with
 | [.int .i64 n]=>if -9223372036854775808≤n∧n≤9223372036854775807 then some (.str (Lib.itoa n),[]) else none
 | _=>none
theorem o52 (m:Int):SpecOk PQ (GQ m) 52 s52:=by
 intro g args r lv h E w vs hI hG hn' hv hcl
 simp only at h
 split at h
 case isFalse=>cases h
 case isTrue e =>
 subst e
 unfold s52 at h
 split at h
 case h_2=>cases h
 case h_1 n =>
 split at h
 case isFalse=>cases h
 case isTrue hl =>
 simp only [Option.some.injEq,Prod.mk.injEq] at h
 obtain ⟨rfl,rfl⟩:=h
 obtain ⟨a,rfl⟩:=vs_one hn'
 obtain rfl:=rep_int (hv 0 _ _ rfl rfl)
 have htab:Lib.TabIs PQ w "internal/strconv.uint64pow10" .u64 Lib.pow10Tab:=by
  have hg:PQ.globalNamed "internal/strconv.uint64pow10" = some 4:=by kernel_rfl
  have hk:GQ m 4 = some (.agg (Lib.pow10Tab.map fun z=>.int .u64 z)):=by
   show some keptPowsA = _
   unfold keptPowsA keptPows Lib.pow10Tab
   rw [List.map_map]; rfl
  have:=glob_tab hG hk (by unfold Lib.pow10Tab; simp)
  unfold Lib.TabIs World.var?
  rw [hg]
  cases ho:w.heap[4]? with
  | none=>rw [ho] at this; cases this
  | some o=>rw [ho] at this; cases o <;> simp_all
 refine .inl ⟨goodQ (by kernel_rfl),(Tryz.strconv_Itoa n hl.1 (hl.2) w htab).mono fun e w' ⟨he,k,os,hw⟩=>⟨_,he,?_⟩⟩
 subst hw
 exact res_below (Lib.below_grow _ _ (Nat.le_refl _) _ _) fun B K=>.str _ _ rfl
end Go.Abs
namespace Go.Abs
open Go.Proofs
structure Tk where
 k:Int
 s:List UInt8
 a:Int
deriving DecidableEq
instance : Inhabited Tk := ⟨⟨0, [], 0⟩⟩
def tkA (t:Tk):AV:=.agg [.int .i64 t.k,.str t.s,.int .i64 t.a]
abbrev toksL (l:List Tk):List AV:=l.map tkA
def unTk:AV→Option Tk
 | .agg [.int .i64 k,.str s,.int .i64 a]=>some ⟨k,s,a⟩
 | _=>none
theorem unTk_ok (x:Tk):unTk (tkA x) = some x:=rfl
def hdT:List AV→Tk
 | a :: _=>(unTk a).getD default
 | []=>default
def wrongV (a c:Int):Value:=.iface 88 (.agg #[.int .i64 a,.int .i64 c])
def numV (s:List UInt8):Int:=if valL s≤9223372036854775807 then valL s else 1099511627777
/-! the plain parser: a syntax error is told by its place -/
def thn {α β:Type} (x:Except Int α) (f:α→Except Int β):Except Int β:=
 match x with
 | .ok a=>f a
 | .error e=>.error e
def everyB (_:List UInt8):Bool:=true
def nx (k:Int) (acc:List UInt8→Bool):List Tk→Except Int (List UInt8 × List Tk)
 | []=>.error 0
 | t :: l=>if t.k = k∧acc t.s = true then .ok (t.s,if k = 6 then t :: l else l) else .error t.a
def num (ts:List Tk):Except Int (Int × List Tk):=thn (nx 2 everyB ts) fun x=>.ok (numV x.1,x.2)
def isCm:List Tk→Bool
 | t :: _=>decide (t.k = 5) && (t.s == [44])
 | []=>false
def isAtB:List Tk→Bool
 | t :: _=>decide (t.k = 1) && (t.s == [97,116])
 | []=>false
def lab (ts:List Tk):Except Int (Lb × List Tk):=thn (nx 4 everyB ts) fun x=>thn (num x.2) fun y=>thn (num y.2) fun z=>.ok (⟨x.1,y.1,z.1⟩,z.2)
def moreF:List Tk→List (List UInt8)→Except Int (List (List UInt8) × List Tk)
 | t :: u :: l,fs=>if isCm [t] then (if u.k = 1∧nameR u.s = true then moreF l (fs ++ [u.s]) else .error u.a) else .ok (fs,t :: u :: l)
 | l,fs=>.ok (fs,l)
def moreL:List Tk→List Lb→Except Int (List Lb × List Tk)
 | t :: a :: b :: c :: l,ls=>if isCm [t] then (if a.k = 4 then (if b.k = 2 then (if c.k = 2 then moreL l (ls ++ [⟨a.s,numV b.s,numV c.s⟩]) else .error c.a) else .error b.a) else .error a.a) else .ok (ls,t :: a :: b :: c :: l)
 | [t,a,b],ls=>if isCm [t] then (if a.k = 4 then .error b.a else .error a.a) else .ok (ls,[t,a,b])
 | [t,a],ls=>if isCm [t] then .error a.a else .ok (ls,[t,a])
 | l,ls=>.ok (ls,l)
def k21 (r:Rq) (ts:List Tk):Except Int Rq:=thn (nx 6 everyB ts) fun _=>.ok r
def kMl (r:Rq) (ts:List Tk) (ls:List Lb):Except Int Rq:=thn (moreL ts ls) fun x=>k21 { r with labels:=x.1 } x.2
def k20 (r:Rq) (ts:List Tk):Except Int Rq:=thn (lab ts) fun x=>kMl r x.2 [x.1]
def k18 (r:Rq) (ts:List Tk):Except Int Rq:=if isAtB ts then k20 r ts.tail else k21 r ts
def k17 (r:Rq) (ts:List Tk):Except Int Rq:=thn (num ts) fun x=>k18 { r with permille:=x.1 } x.2
def k16 (r:Rq) (ts:List Tk):Except Int Rq:=thn (nx 1 (· == [107,101,101,112]) ts) fun x=>k17 r x.2
def k15 (r:Rq) (ts:List Tk):Except Int Rq:=thn (num ts) fun x=>k16 { r with seed:=x.1 } x.2
def k14 (r:Rq) (ts:List Tk):Except Int Rq:=thn (nx 1 (· == [115,101,101,100]) ts) fun x=>k15 r x.2
def kMf (r:Rq) (ts:List Tk) (fs:List (List UInt8)):Except Int Rq:=thn (moreF ts fs) fun x=>k14 { r with feats:=x.1 } x.2
def k13 (r:Rq) (ts:List Tk):Except Int Rq:=thn (nx 1 nameR ts) fun x=>kMf r x.2 [x.1]
def k12 (r:Rq) (ts:List Tk):Except Int Rq:=thn (nx 1 (· == [116,97,107,101]) ts) fun x=>k13 r x.2
def k11 (ts:List Tk):Except Int Rq:=thn (nx 1 nameR ts) fun x=>k12 ⟨x.1,[],[],0,0⟩ x.2
def parseTk (ts:List Tk):Except Int Rq:=thn (nx 1 (· == [111,102]) ts) fun x=>k11 x.2
def zRq:Rq:=⟨[],[],[],0,0⟩
def resP (x:Except Int Rq):AV:=
 match x with
 | .error a=>.tup [rqA zRq,.int .i64 a,.int .i64 90]
 | .ok r=>if formB r then .tup [rqA r,.int .i64 0,.int .i64 0] else .tup [rqA zRq,.int .i64 0,.int .i64 240]
/-! specs of the scanner -/
def pS (b0 b1 b2 es:List AV) (lv:List (Nat × TypeId)):St:=⟨[some b0,some b1,some b2,some [.sl 3 es .no],some [.ptr 3 0]],lv⟩
def pS6 (b0 b1 b2 es:List AV) (b5:Option (List AV)) (lv:List (Nat × TypeId)):St:=⟨[some b0,some b1,some b2,some [.sl 3 es .no],some [.ptr 3 0],b5],lv⟩
def oOk (n:Nat):Option (List AV)→Prop
 | some l=>l.all (AV.p1 n) = true
 | none=>True
structure TokIn (es:List AV):Prop where
 out:∃ t l,es = toksL (t :: l)
def pOk (n:Nat) (l:List AV):Prop:=l.all (AV.p1 n) = true
def accS (g:FuncId) (w:List UInt8):List UInt8→Bool:=if g = 40 then nameR else if g = 87 then (fun s=>s == w) else everyB
def nextOuts (k:Int) (acc:List UInt8→Bool) (es:List AV) (mk:List AV→St):List POut:=
 [⟨(hdT es).k = k∧acc (hdT es).s = true,none,.str (hdT es).s,mk (if k = 6 then es else es.drop 1)⟩,⟨¬ ((hdT es).k = k∧acc (hdT es).s = true),some (wrongV (hdT es).a 90),.tup [],mk es⟩]
def s39:PSpec:=fun args S=>match args,S with
 | [.ptr 3 0,.int .i64 k,.fn g []],⟨[some b0,some b1,some b2,some [.sl 3 es .no],some [.ptr 3 0]],lv⟩ =>
  if g = 40∨g = 45 then some (TokIn es∧pOk 5 b0∧pOk 5 b1∧pOk 5 b2,nextOuts k (accS g []) es fun e=>pS b0 b1 b2 e lv) else none
 | [.ptr 3 0,.int .i64 k,.fn g []],⟨[some b0,some b1,some b2,some [.sl 3 es .no],some [.ptr 3 0],some b5],lv⟩ =>
  if g = 45 then some (TokIn es∧pOk 6 b0∧pOk 6 b1∧pOk 6 b2∧pOk 6 b5,nextOuts k everyB es fun e=>pS6 b0 b1 b2 e (some b5) lv) else none
 | [.ptr 3 0,.int .i64 k,.fn g []],⟨[some b0,some b1,some b2,some [.sl 3 es .no],some [.ptr 3 0],none],lv⟩ =>
  if g = 45 then some (TokIn es∧pOk 6 b0∧pOk 6 b1∧pOk 6 b2,nextOuts k everyB es fun e=>pS6 b0 b1 b2 e none lv) else none
 | [.ptr 3 0,.int .i64 k,.fn g [.ptr 5 0]],⟨[some b0,some b1,some b2,some [.sl 3 es .no],some [.ptr 3 0],some [.str w]],lv⟩ =>
  if g = 87 then some (TokIn es∧pOk 6 b0∧pOk 6 b1∧pOk 6 b2,nextOuts k (fun s=>s == w) es fun e=>pS6 b0 b1 b2 e (some [.str w]) lv) else none
 | _,_=>none
def s38:PSpec:=fun args S=>match args,S with
 | [.ptr 3 0,.str w],⟨[some b0,some b1,some b2,some [.sl 3 es .no],some [.ptr 3 0]],lv⟩ =>
  some (TokIn es∧(pOk 5 b0∧pOk 5 b1∧pOk 5 b2)∧pOk 6 b0∧pOk 6 b1∧pOk 6 b2,
   [⟨(hdT es).k = 1∧((hdT es).s == w) = true,none,.tup [],pS b0 b1 b2 (es.drop 1) lv⟩,⟨¬ ((hdT es).k = 1∧((hdT es).s == w) = true),some (wrongV (hdT es).a 90),.tup [],pS b0 b1 b2 es lv⟩])
 | _,_=>none
structure IntIn (es:List AV):Prop where
 out:(hdT es).k = 2→intB (hdT es).s = true∧(hdT es).s.length≤1000000
def numOuts (es:List AV) (mk:List AV→St):List POut:=
 [⟨(hdT es).k = 2,none,.int .i64 (numV (hdT es).s),mk (es.drop 1)⟩,⟨(hdT es).k ≠ 2,some (wrongV (hdT es).a 90),.tup [],mk es⟩]
def s43:PSpec:=fun args S=>match args,S with
 | [.ptr 3 0],⟨[some b0,some b1,some b2,some [.sl 3 es .no],some [.ptr 3 0]],lv⟩ =>
  some (TokIn es∧IntIn es∧pOk 5 b0∧pOk 5 b1∧pOk 5 b2,numOuts es fun e=>pS b0 b1 b2 e lv)
 | [.ptr 3 0],⟨[some b0,some b1,some b2,some [.sl 3 es .no],some [.ptr 3 0],some b5],lv⟩ =>
  some (TokIn es∧IntIn es∧pOk 6 b0∧pOk 6 b1∧pOk 6 b2∧pOk 6 b5,numOuts es fun e=>pS6 b0 b1 b2 e (some b5) lv)
 | _,_=>none
def s45:Spec:=fun args=>match args with
 | [.str _]=>some (.bool true,[])
 | _=>none
def XN:Shapes:=fun f=>match f with
 | 40 | 45 | 46 | 87=>some shB
 | 89=>some (.tup [.one (.int .i64),.one .err],none)
 | _=>none
def tN:List (FuncId × Spec):=[(40,s40u),(45,s45),(89,s89)]
def J0:InC:=fun _ _ _ _=>False
def fsN (f:FuncId):Bool:=f = 38 || f = 39 || f = 43 || f = 42 || f = 44 || f = 41
def fsW (f:FuncId):Bool:=f = 87
def cfW (_:FuncId) (_:List AV):PCfg:={ ps:=[],A:=nAn }
def g39:PCfg:={ ps:=[2,3],A:=nAn }
def g38:PCfg:={ ps:=[1],A:=nAn }
theorem w45 (m:Int) (s:List UInt8) (r:AV):(pureW PQ (GQ m) XN (tbl []) (itbl []) nAn [] 45 [.str s] (r,[])) =
(RetIs (AV.bool true) [] (r,[])):=by kernel_rfl
abbrev w39ac1 (b0:List AV) (b1:List AV) (b2:List AV) (t:Tk) (l:List Tk):List (Option (List AV)):=[some b0,some b1,some b2,some [AV.sl 3 (toksL (t :: l)) Own.no],some [AV.ptr 3 0]]
theorem w39a (m:Int) (k:Int) (t:Tk) (l:List Tk) (b0 b1 b2:List AV) (lv:List (Nat × TypeId)) (os:List POut):(pnW PQ idMk (GQ m) XN (tbl tN) (itbl []) fsN J0 g39 39 [.ptr 3 0,.int .i64 k,.fn 40 []] (pS b0 b1 b2 (toksL (t :: l)) lv) os) =
(((0:Int)≤(0:Int)∧(0:Int) < (↑(toksL (t :: l)).length:Int))∧∃ (n:Int),∃ (s:List UInt8),∃ (n_1:Int),some (AV.agg [I6 t.k,AV.str t.s,I6 t.a]) = some (AV.agg [I6 n,AV.str s,I6 n_1])∧((n != k) = true→PEnd (AV.p2 5 (AV.tup []) && boxesOk 5 (w39ac1 b0 b1 b2 t l)) (some (Value.iface 88 (Value.agg #[Value.int IntKind.i64 n_1,Value.int IntKind.i64 90]))) (AV.tup []) { boxes:=(w39ac1 b0 b1 b2 t l),live:=lv } os)∧((n != k) = false→∃ (b:Bool),CallIs (some (AV.bool (nameR s),[])) (AV.bool b) []∧(b = true→((n != (6:Int)) = true→(0:Int)≤(1:Int)∧((1:Nat)≤(toksL (t :: l)).length∧(toksL (t :: l)).length≤(toksL (t :: l)).length)∧((3:Nat) = (3:Nat)∨toksL (t :: l) = [])∧PEnd (AV.p2 5 (AV.str s) && boxesOk 5 [some b0,some b1,some b2,some [AV.sl 3 (List.drop 1 (List.take (toksL (t :: l)).length (toksL (t :: l)))) Own.no],some [AV.ptr 3 0]]) none (AV.str s) { boxes:=[some b0,some b1,some b2,some [AV.sl 3 (List.drop 1 (List.take (toksL (t :: l)).length (toksL (t :: l)))) Own.no],some [AV.ptr 3 0]],live:=lv } os)∧((n != (6:Int)) = false→PEnd (AV.p2 5 (AV.str s) && boxesOk 5 (w39ac1 b0 b1 b2 t l)) none (AV.str s) { boxes:=(w39ac1 b0 b1 b2 t l),live:=lv } os))∧(b = false→PEnd (AV.p2 5 (AV.tup []) && boxesOk 5 (w39ac1 b0 b1 b2 t l)) (some (Value.iface 88 (Value.agg #[Value.int IntKind.i64 n_1,Value.int IntKind.i64 90]))) (AV.tup []) { boxes:=(w39ac1 b0 b1 b2 t l),live:=lv } os))):=by kernel_rfl
abbrev w39bc1 (b0:List AV) (b1:List AV) (b2:List AV) (t:Tk) (l:List Tk):List (Option (List AV)):=[some b0,some b1,some b2,some [AV.sl 3 (toksL (t :: l)) Own.no],some [AV.ptr 3 0]]
theorem w39b (m:Int) (k:Int) (t:Tk) (l:List Tk) (b0 b1 b2:List AV) (lv:List (Nat × TypeId)) (os:List POut):(pnW PQ idMk (GQ m) XN (tbl tN) (itbl []) fsN J0 g39 39 [.ptr 3 0,.int .i64 k,.fn 45 []] (pS b0 b1 b2 (toksL (t :: l)) lv) os) =
(((0:Int)≤(0:Int)∧(0:Int) < (↑(toksL (t :: l)).length:Int))∧∃ (n:Int),∃ (s:List UInt8),∃ (n_1:Int),some (AV.agg [I6 t.k,AV.str t.s,I6 t.a]) = some (AV.agg [I6 n,AV.str s,I6 n_1])∧((n != k) = true→PEnd (AV.p2 5 (AV.tup []) && boxesOk 5 (w39bc1 b0 b1 b2 t l)) (some (Value.iface 88 (Value.agg #[Value.int IntKind.i64 n_1,Value.int IntKind.i64 90]))) (AV.tup []) { boxes:=(w39bc1 b0 b1 b2 t l),live:=lv } os)∧((n != k) = false→∃ (b:Bool),CallIs (some (AV.bool true,[])) (AV.bool b) []∧(b = true→((n != (6:Int)) = true→(0:Int)≤(1:Int)∧((1:Nat)≤(toksL (t :: l)).length∧(toksL (t :: l)).length≤(toksL (t :: l)).length)∧((3:Nat) = (3:Nat)∨toksL (t :: l) = [])∧PEnd (AV.p2 5 (AV.str s) && boxesOk 5 [some b0,some b1,some b2,some [AV.sl 3 (List.drop 1 (List.take (toksL (t :: l)).length (toksL (t :: l)))) Own.no],some [AV.ptr 3 0]]) none (AV.str s) { boxes:=[some b0,some b1,some b2,some [AV.sl 3 (List.drop 1 (List.take (toksL (t :: l)).length (toksL (t :: l)))) Own.no],some [AV.ptr 3 0]],live:=lv } os)∧((n != (6:Int)) = false→PEnd (AV.p2 5 (AV.str s) && boxesOk 5 (w39bc1 b0 b1 b2 t l)) none (AV.str s) { boxes:=(w39bc1 b0 b1 b2 t l),live:=lv } os))∧(b = false→PEnd (AV.p2 5 (AV.tup []) && boxesOk 5 (w39bc1 b0 b1 b2 t l)) (some (Value.iface 88 (Value.agg #[Value.int IntKind.i64 n_1,Value.int IntKind.i64 90]))) (AV.tup []) { boxes:=(w39bc1 b0 b1 b2 t l),live:=lv } os))):=by kernel_rfl
abbrev w39cc1 (b0:List AV) (b1:List AV) (b2:List AV) (t:Tk) (l:List Tk) (b5:List AV):List (Option (List AV)):=[some b0,some b1,some b2,some [AV.sl 3 (toksL (t :: l)) Own.no],some [AV.ptr 3 0],some b5]
theorem w39c (m:Int) (k:Int) (t:Tk) (l:List Tk) (b0 b1 b2 b5:List AV) (lv:List (Nat × TypeId)) (os:List POut):(pnW PQ idMk (GQ m) XN (tbl tN) (itbl []) fsN J0 g39 39 [.ptr 3 0,.int .i64 k,.fn 45 []] (pS6 b0 b1 b2 (toksL (t :: l)) (some b5) lv) os) =
(((0:Int)≤(0:Int)∧(0:Int) < (↑(toksL (t :: l)).length:Int))∧∃ (n:Int),∃ (s:List UInt8),∃ (n_1:Int),some (AV.agg [I6 t.k,AV.str t.s,I6 t.a]) = some (AV.agg [I6 n,AV.str s,I6 n_1])∧((n != k) = true→PEnd (AV.p2 6 (AV.tup []) && boxesOk 6 (w39cc1 b0 b1 b2 t l b5)) (some (Value.iface 88 (Value.agg #[Value.int IntKind.i64 n_1,Value.int IntKind.i64 90]))) (AV.tup []) { boxes:=(w39cc1 b0 b1 b2 t l b5),live:=lv } os)∧((n != k) = false→∃ (b:Bool),CallIs (some (AV.bool true,[])) (AV.bool b) []∧(b = true→((n != (6:Int)) = true→(0:Int)≤(1:Int)∧((1:Nat)≤(toksL (t :: l)).length∧(toksL (t :: l)).length≤(toksL (t :: l)).length)∧((3:Nat) = (3:Nat)∨toksL (t :: l) = [])∧PEnd (AV.p2 6 (AV.str s) && boxesOk 6 [some b0,some b1,some b2,some [AV.sl 3 (List.drop 1 (List.take (toksL (t :: l)).length (toksL (t :: l)))) Own.no],some [AV.ptr 3 0],some b5]) none (AV.str s) { boxes:=[some b0,some b1,some b2,some [AV.sl 3 (List.drop 1 (List.take (toksL (t :: l)).length (toksL (t :: l)))) Own.no],some [AV.ptr 3 0],some b5],live:=lv } os)∧((n != (6:Int)) = false→PEnd (AV.p2 6 (AV.str s) && boxesOk 6 (w39cc1 b0 b1 b2 t l b5)) none (AV.str s) { boxes:=(w39cc1 b0 b1 b2 t l b5),live:=lv } os))∧(b = false→PEnd (AV.p2 6 (AV.tup []) && boxesOk 6 (w39cc1 b0 b1 b2 t l b5)) (some (Value.iface 88 (Value.agg #[Value.int IntKind.i64 n_1,Value.int IntKind.i64 90]))) (AV.tup []) { boxes:=(w39cc1 b0 b1 b2 t l b5),live:=lv } os))):=by kernel_rfl
abbrev w39ec1 (b0:List AV) (b1:List AV) (b2:List AV) (t:Tk) (l:List Tk):List (Option (List AV)):=[some b0,some b1,some b2,some [AV.sl 3 (toksL (t :: l)) Own.no],some [AV.ptr 3 0],none]
theorem w39e (m:Int) (k:Int) (t:Tk) (l:List Tk) (b0 b1 b2:List AV) (lv:List (Nat × TypeId)) (os:List POut):(pnW PQ idMk (GQ m) XN (tbl tN) (itbl []) fsN J0 g39 39 [.ptr 3 0,.int .i64 k,.fn 45 []] (pS6 b0 b1 b2 (toksL (t :: l)) none lv) os) =
(((0:Int)≤(0:Int)∧(0:Int) < (↑(toksL (t :: l)).length:Int))∧∃ (n:Int),∃ (s:List UInt8),∃ (n_1:Int),some (AV.agg [I6 t.k,AV.str t.s,I6 t.a]) = some (AV.agg [I6 n,AV.str s,I6 n_1])∧((n != k) = true→PEnd (AV.p2 6 (AV.tup []) && boxesOk 6 (w39ec1 b0 b1 b2 t l)) (some (Value.iface 88 (Value.agg #[Value.int IntKind.i64 n_1,Value.int IntKind.i64 90]))) (AV.tup []) { boxes:=(w39ec1 b0 b1 b2 t l),live:=lv } os)∧((n != k) = false→∃ (b:Bool),CallIs (some (AV.bool true,[])) (AV.bool b) []∧(b = true→((n != (6:Int)) = true→(0:Int)≤(1:Int)∧((1:Nat)≤(toksL (t :: l)).length∧(toksL (t :: l)).length≤(toksL (t :: l)).length)∧((3:Nat) = (3:Nat)∨toksL (t :: l) = [])∧PEnd (AV.p2 6 (AV.str s) && boxesOk 6 [some b0,some b1,some b2,some [AV.sl 3 (List.drop 1 (List.take (toksL (t :: l)).length (toksL (t :: l)))) Own.no],some [AV.ptr 3 0],none]) none (AV.str s) { boxes:=[some b0,some b1,some b2,some [AV.sl 3 (List.drop 1 (List.take (toksL (t :: l)).length (toksL (t :: l)))) Own.no],some [AV.ptr 3 0],none],live:=lv } os)∧((n != (6:Int)) = false→PEnd (AV.p2 6 (AV.str s) && boxesOk 6 (w39ec1 b0 b1 b2 t l)) none (AV.str s) { boxes:=(w39ec1 b0 b1 b2 t l),live:=lv } os))∧(b = false→PEnd (AV.p2 6 (AV.tup []) && boxesOk 6 (w39ec1 b0 b1 b2 t l)) (some (Value.iface 88 (Value.agg #[Value.int IntKind.i64 n_1,Value.int IntKind.i64 90]))) (AV.tup []) { boxes:=(w39ec1 b0 b1 b2 t l),live:=lv } os))):=by kernel_rfl
abbrev w39dc1 (b0:List AV) (b1:List AV) (b2:List AV) (t:Tk) (l:List Tk) (w:List UInt8):List (Option (List AV)):=[some b0,some b1,some b2,some [AV.sl 3 (toksL (t :: l)) Own.no],some [AV.ptr 3 0],some [AV.str w]]
theorem w39d (m:Int) (k:Int) (w:List UInt8) (t:Tk) (l:List Tk) (b0 b1 b2:List AV) (lv:List (Nat × TypeId)) (os:List POut):(pnW PQ idMk (GQ m) XN (tbl tN) (itbl []) fsW (inW PQ idMk (GQ m) XN (tbl []) (itbl []) fsW cfW 1) g39 39 [.ptr 3 0,.int .i64 k,.fn 87 [.ptr 5 0]] (pS6 b0 b1 b2 (toksL (t :: l)) (some [.str w]) lv) os) =
(((0:Int)≤(0:Int)∧(0:Int) < (↑(toksL (t :: l)).length:Int))∧∃ (n:Int),∃ (s:List UInt8),∃ (n_1:Int),some (AV.agg [I6 t.k,AV.str t.s,I6 t.a]) = some (AV.agg [I6 n,AV.str s,I6 n_1])∧((n != k) = true→PEnd (AV.p2 6 (AV.tup []) && boxesOk 6 (w39dc1 b0 b1 b2 t l w)) (some (Value.iface 88 (Value.agg #[Value.int IntKind.i64 n_1,Value.int IntKind.i64 90]))) (AV.tup []) { boxes:=(w39dc1 b0 b1 b2 t l w),live:=lv } os)∧((n != k) = false→((s == w) = true→((n != (6:Int)) = true→(0:Int)≤(1:Int)∧((1:Nat)≤(toksL (t :: l)).length∧(toksL (t :: l)).length≤(toksL (t :: l)).length)∧((3:Nat) = (3:Nat)∨toksL (t :: l) = [])∧PEnd (AV.p2 6 (AV.str s) && boxesOk 6 [some b0,some b1,some b2,some [AV.sl 3 (List.drop 1 (List.take (toksL (t :: l)).length (toksL (t :: l)))) Own.no],some [AV.ptr 3 0],some [AV.str w]]) none (AV.str s) { boxes:=[some b0,some b1,some b2,some [AV.sl 3 (List.drop 1 (List.take (toksL (t :: l)).length (toksL (t :: l)))) Own.no],some [AV.ptr 3 0],some [AV.str w]],live:=lv } os)∧((n != (6:Int)) = false→PEnd (AV.p2 6 (AV.str s) && boxesOk 6 (w39dc1 b0 b1 b2 t l w)) none (AV.str s) { boxes:=(w39dc1 b0 b1 b2 t l w),live:=lv } os))∧((s == w) = false→PEnd (AV.p2 6 (AV.tup []) && boxesOk 6 (w39dc1 b0 b1 b2 t l w)) (some (Value.iface 88 (Value.agg #[Value.int IntKind.i64 n_1,Value.int IntKind.i64 90]))) (AV.tup []) { boxes:=(w39dc1 b0 b1 b2 t l w),live:=lv } os))):=by kernel_rfl
theorem w38 (m:Int) (w:List UInt8) (t:Tk) (l:List Tk) (b0 b1 b2:List AV) (lv:List (Nat × TypeId)) (os:List POut):(pnW PQ idMk (GQ m) XN (tbl tN) (itbl []) fsN (ptbl [(39,s39)] J0) g38 38 [.ptr 3 0,.str w] (pS b0 b1 b2 (toksL (t :: l)) lv) os) =
((TokIn (toksL (t :: l))∧b0.all (AV.p1 6) = true∧b1.all (AV.p1 6) = true∧b2.all (AV.p1 6) = true)∧((hdT (toksL (t :: l))).k = (1:Int)∧((hdT (toksL (t :: l))).s == w) = true→PEnd (AV.p2 5 (AV.tup []) && boxesOk 5 [some b0,some b1,some b2,some [AV.sl 3 (if (1:Int) = (6:Int) then toksL (t :: l) else List.drop 1 (toksL (t :: l))) Own.no],some [AV.ptr 3 0]]) none (AV.tup []) { boxes:=[some b0,some b1,some b2,some [AV.sl 3 (if (1:Int) = (6:Int) then toksL (t :: l) else List.drop 1 (toksL (t :: l))) Own.no],some [AV.ptr 3 0]],live:=lv } os)∧(((hdT (toksL (t :: l))).k = (1:Int)∧((hdT (toksL (t :: l))).s == w) = true→False)→PEnd (AV.p2 5 (AV.tup []) && boxesOk 5 [some b0,some b1,some b2,some [AV.sl 3 (toksL (t :: l)) Own.no],some [AV.ptr 3 0]]) (some (Value.iface 88 (Value.agg #[Value.int IntKind.i64 (hdT (toksL (t :: l))).a,Value.int IntKind.i64 90]))) (AV.tup []) { boxes:=[some b0,some b1,some b2,some [AV.sl 3 (toksL (t :: l)) Own.no],some [AV.ptr 3 0]],live:=lv } os)∧True):=by kernel_rfl
abbrev w43ac1 (b0:List AV) (b1:List AV) (b2:List AV) (t:Tk) (l:List Tk):List (Option (List AV)):=[some b0,some b1,some b2,some [AV.sl 3 (if (2:Int) = (6:Int) then toksL (t :: l) else List.drop 1 (toksL (t :: l))) Own.no],some [AV.ptr 3 0]]
abbrev w43ac2:=AV.int IntKind.i64 (1099511627777:Int)
theorem w43a (m:Int) (t:Tk) (l:List Tk) (b0 b1 b2:List AV) (lv:List (Nat × TypeId)) (os:List POut):(pnW PQ idMk (GQ m) XN (tbl tN) (itbl []) fsN (ptbl [(39,s39)] J0) g38 43 [.ptr 3 0] (pS b0 b1 b2 (toksL (t :: l)) lv) os) =
((TokIn (toksL (t :: l))∧b0.all (AV.p1 5) = true∧b1.all (AV.p1 5) = true∧b2.all (AV.p1 5) = true)∧((hdT (toksL (t :: l))).k = (2:Int)∧accS 45 [] (hdT (toksL (t :: l))).s = true→∃ (n:Int),CallIs (tbl [(40,s40u),(45,s45),(89,s89)] 89 [AV.str (hdT (toksL (t :: l))).s]) (AV.tup [I6 n,AV.ifc]) []∧(true = true→PEnd (AV.p2 5 w43ac2 && boxesOk 5 (w43ac1 b0 b1 b2 t l)) none w43ac2 { boxes:=(w43ac1 b0 b1 b2 t l),live:=lv } os)∧(true = false→PEnd (AV.p2 5 (I6 n) && boxesOk 5 (w43ac1 b0 b1 b2 t l)) none (I6 n) { boxes:=(w43ac1 b0 b1 b2 t l),live:=lv } os)∨CallIs (tbl [(40,s40u),(45,s45),(89,s89)] 89 [AV.str (hdT (toksL (t :: l))).s]) (AV.tup [I6 n,AV.lit Value.nilIface]) []∧(false = true→PEnd (AV.p2 5 w43ac2 && boxesOk 5 (w43ac1 b0 b1 b2 t l)) none w43ac2 { boxes:=(w43ac1 b0 b1 b2 t l),live:=lv } os)∧(false = false→PEnd (AV.p2 5 (I6 n) && boxesOk 5 (w43ac1 b0 b1 b2 t l)) none (I6 n) { boxes:=(w43ac1 b0 b1 b2 t l),live:=lv } os))∧(((hdT (toksL (t :: l))).k = (2:Int)∧accS 45 [] (hdT (toksL (t :: l))).s = true→False)→PEnd (AV.p2 5 (AV.tup []) && boxesOk 5 [some b0,some b1,some b2,some [AV.sl 3 (toksL (t :: l)) Own.no],some [AV.ptr 3 0]]) (some (Value.iface 88 (Value.agg #[Value.int IntKind.i64 (hdT (toksL (t :: l))).a,Value.int IntKind.i64 90]))) (AV.tup []) { boxes:=[some b0,some b1,some b2,some [AV.sl 3 (toksL (t :: l)) Own.no],some [AV.ptr 3 0]],live:=lv } os)∧True):=by kernel_rfl
abbrev w43bc1 (b0:List AV) (b1:List AV) (b2:List AV) (t:Tk) (l:List Tk) (b5:List AV):List (Option (List AV)):=[some b0,some b1,some b2,some [AV.sl 3 (if (2:Int) = (6:Int) then toksL (t :: l) else List.drop 1 (toksL (t :: l))) Own.no],some [AV.ptr 3 0],some b5]
abbrev w43bc2:=AV.int IntKind.i64 (1099511627777:Int)
theorem w43b (m:Int) (t:Tk) (l:List Tk) (b0 b1 b2 b5:List AV) (lv:List (Nat × TypeId)) (os:List POut):(pnW PQ idMk (GQ m) XN (tbl tN) (itbl []) fsN (ptbl [(39,s39)] J0) g38 43 [.ptr 3 0] (pS6 b0 b1 b2 (toksL (t :: l)) (some b5) lv) os) =
((TokIn (toksL (t :: l))∧b0.all (AV.p1 6) = true∧b1.all (AV.p1 6) = true∧b2.all (AV.p1 6) = true∧b5.all (AV.p1 6) = true)∧((hdT (toksL (t :: l))).k = (2:Int)∧everyB (hdT (toksL (t :: l))).s = true→∃ (n:Int),CallIs (tbl [(40,s40u),(45,s45),(89,s89)] 89 [AV.str (hdT (toksL (t :: l))).s]) (AV.tup [I6 n,AV.ifc]) []∧(true = true→PEnd (AV.p2 6 w43bc2 && boxesOk 6 (w43bc1 b0 b1 b2 t l b5)) none w43bc2 { boxes:=(w43bc1 b0 b1 b2 t l b5),live:=lv } os)∧(true = false→PEnd (AV.p2 6 (I6 n) && boxesOk 6 (w43bc1 b0 b1 b2 t l b5)) none (I6 n) { boxes:=(w43bc1 b0 b1 b2 t l b5),live:=lv } os)∨CallIs (tbl [(40,s40u),(45,s45),(89,s89)] 89 [AV.str (hdT (toksL (t :: l))).s]) (AV.tup [I6 n,AV.lit Value.nilIface]) []∧(false = true→PEnd (AV.p2 6 w43bc2 && boxesOk 6 (w43bc1 b0 b1 b2 t l b5)) none w43bc2 { boxes:=(w43bc1 b0 b1 b2 t l b5),live:=lv } os)∧(false = false→PEnd (AV.p2 6 (I6 n) && boxesOk 6 (w43bc1 b0 b1 b2 t l b5)) none (I6 n) { boxes:=(w43bc1 b0 b1 b2 t l b5),live:=lv } os))∧(((hdT (toksL (t :: l))).k = (2:Int)∧everyB (hdT (toksL (t :: l))).s = true→False)→PEnd (AV.p2 6 (AV.tup []) && boxesOk 6 [some b0,some b1,some b2,some [AV.sl 3 (toksL (t :: l)) Own.no],some [AV.ptr 3 0],some b5]) (some (Value.iface 88 (Value.agg #[Value.int IntKind.i64 (hdT (toksL (t :: l))).a,Value.int IntKind.i64 90]))) (AV.tup []) { boxes:=[some b0,some b1,some b2,some [AV.sl 3 (toksL (t :: l)) Own.no],some [AV.ptr 3 0],some b5],live:=lv } os)∧True):=by kernel_rfl
end Go.Abs
