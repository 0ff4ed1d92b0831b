/- Part of the proof. -/
import Derived.Test.YtoejdgoicoaomaaGreatDoorCode
import Derived.Test.YtoejdgoicoaomaaGreatDoorG6
import Derived.Test.YtoejdgoicoaomaaGreatDoorG9
import Derived.Test.YtoejdgoicoaomaaGreatDoorProg
import Derived.WalkKit
import Derived.LaidEql
import Derived.Stop.Asserts
import Derived.RowKitTokens
import Derived.Below
import Derived.Deep.LoopGhost
import Derived.Test.YtoejdgoicoaomaaGreatDoorG8
set_option linter.unusedVariables false
set_option linter.unusedSimpArgs false
namespace Go.Proofs.YtoejdgoicoaomaaGreatDoor
open Go.Mini
open Go.Proofs.YtoejdgoicoaomaaGreatDoor.Code
attribute [local irreducible] mx ml mld mstep MCalls Ex.thn Ex.inb
variable {E:World→Prop}
theorem b8 (a:Nat) (h:a < 256):(BitVec.ofInt 8 (a:Int)).toNat=a:=by
 rw [BitVec.ofInt_natCast,BitVec.toNat_ofNat];exact Nat.mod_eq_of_lt h
theorem and8 (a b:Nat) (ha:a < 256) (hb:b < 256):(BitVec.ofInt 8 (a:Int) &&& BitVec.ofInt 8 (b:Int)).toNat=a &&& b:=by
 rw [BitVec.toNat_and,b8 a ha,b8 b hb]
theorem or8 (a b:Nat) (ha:a < 256) (hb:b < 256):(BitVec.ofInt 8 (a:Int) ||| BitVec.ofInt 8 (b:Int)).toNat=a ||| b:=by
 rw [BitVec.toNat_or,b8 a ha,b8 b hb]
theorem andNot8 (a b:Nat) (ha:a < 256) (hb:b < 256):(BitVec.ofInt 8 (a:Int) &&& ~~~BitVec.ofInt 8 (b:Int)).toNat=a &&& (255 - b):=by
 rw [BitVec.toNat_and,BitVec.toNat_not,b8 a ha,b8 b hb]
theorem pow8 {k:Nat} (h:k < 8):2 ^ k < 256:=by
 have:=Nat.pow_lt_pow_right (a:=2) (by omega) h
 omega
structure Offs where
 l:List Nat
 len:l.length=8
 lt:∀ b ∈ l,b < 256
def offC (o:List Nat):List Value:=o.map fun (b:Nat)=>.int .u8 (b:Int)
def offV (o:List Nat):Value:=.agg (offC o).toArray
attribute [go_sem] offV
theorem offC_len (o:List Nat):(offC o).length=o.length:=by simp [offC]
theorem offC_get {o:List Nat} {i:Nat} (h:i < o.length):(offC o)[i]?=some (.int .u8 (o.getD i 0:Nat)):=by
 unfold offC;rw [List.getElem?_map,List.getElem?_eq_getElem h,List.getD_eq_getElem?_getD,List.getElem?_eq_getElem h];rfl
theorem offC_one (o:List Nat):(offC o).all one=true:=by unfold offC;rw [List.all_map,List.all_eq_true];intro _ _;rfl
theorem getD_lt {o:List Nat} (h:∀ b ∈ o,b < 256) (i:Nat):o.getD i 0 < 256:=by
 rw [List.getD_eq_getElem?_getD]
 cases e:o[i]? with
 | none=>simp
 | some b=>exact h b (List.mem_of_getElem? e)
def isOff (o:List Nat) (c:Nat):Bool:=(o.getD (c / 8) 0).testBit (c % 8)
def turn (o:List Nat) (c:Int) (is:Bool):List Nat:=
 if 0≤c∧c < 64 then o.set (c.toNat / 8) (if is then o.getD (c.toNat / 8) 0 ||| 2 ^ (c.toNat % 8) else o.getD (c.toNat / 8) 0 &&& (255 - 2 ^ (c.toNat % 8))) else o
theorem and_bit (a k:Nat):(((a &&& 2 ^ k:Nat):Int) != 0)=a.testBit k:=by
 rw [Bool.eq_iff_iff,bne_iff_ne]
 have hb:(a &&& 2 ^ k).testBit k=a.testBit k:=by rw [Nat.testBit_and,Nat.testBit_two_pow];simp
 cases h:a.testBit k
 ·have:a &&& 2 ^ k=0:=by
   apply Nat.eq_of_testBit_eq
   intro i
   rw [Nat.testBit_and,Nat.testBit_two_pow,Nat.zero_testBit]
   by_cases e:k=i
   ·subst e;simp [h]
   ·simp [e]
  rw [this];simp
 ·have:a &&& 2 ^ k≠0:=fun e=>by rw [e,Nat.zero_testBit,h] at hb;cases hb
  simp;omega
theorem bit_c (c:Nat) (σ:H):MCalls E Tryz.prog 83 [.int .i64 c] σ (fun v τ=>v=.int .u8 ((2 ^ (c % 8):Nat):Int)∧τ=σ):=by
 refine mcalls_of fn83 (by simp) ?_
 unfold c83 r83
 have h8:(c:Int).tmod 8=((c % 8:Nat):Int):=by rw [Int.ofNat_tmod];rfl
 have hb:((c % 8:Nat):Int)≥0:=by omega
 refine stepR (An h8 hb) ?_
 refine fin1 ⟨?_,rfl⟩
 simp only [go_sem,reduceIte,Nat.reduceEqDiff,reduceCtorEq,Nat.reduceAdd,Nat.reduceLeDiff,Int.reduceNeg,Int.reduceToNat,Int.reduceBEq,Int.reduceBNe,Int.reduceLT,Int.reduceLE,Int.reduceAdd,Int.reduceSub,h8,hb]
 have hlt:c % 8 < 8:=Nat.mod_lt _ (by omega)
 generalize c % 8=r at hlt
 have:r=0∨r=1∨r=2∨r=3∨r=4∨r=5∨r=6∨r=7:=by omega
 rcases this with rfl | rfl | rfl | rfl | rfl | rfl | rfl | rfl<;>rfl
theorem on1_c {σ:H} {id:Nat} {o:List Nat} (hl:o.length=8) (ho:∀ b ∈ o,b < 256) (hg:σ.get id=.cells 0 (offC o)) (c:Nat) (hc:c < 64):
 MCalls E Tryz.prog 118 [.int .i64 c,.pointer (some ⟨id,0,none⟩)] σ (fun v τ=>v=.bool (isOff o c)∧τ=σ):=by
 refine mcalls_of fn118 (by simp) ?_
 unfold c118 r118
 have h8:IntKind.i64.wrap ((c:Int).tdiv 8)=((c / 8:Nat):Int):=by
  have:(c:Int).tdiv 8=((c / 8:Nat):Int):=by rw [Int.ofNat_tdiv];rfl
  rw [this];exact i64wrap (by omega) (by omega)
 refine stepR h8 ?_
 refine mld_load1 Sd0 (Sw h8) (cell_of (off:=c / 8) hg (offC_get (by omega))) ?_
 refine stepR h8 ?_
 refine mld_call Sd0 Sd0 (bit_c c σ) (fun _ _ h=>by rw [h.2];exact .refl _) ?_
 rintro _ _ ⟨rfl,rfl⟩
 have hlt:c % 8 < 8:=Nat.mod_lt _ (by omega)
 have ha:=and8 (o.getD (c / 8) 0) (2 ^ (c % 8)) (getD_lt ho _) (pow8 hlt)
 refine stepR ha ?_
 refine fin1 ⟨?_,rfl⟩
 simp only [go_sem,reduceIte,Nat.reduceEqDiff,reduceCtorEq,Nat.reduceAdd,Nat.reduceLeDiff,Int.reduceNeg,Int.reduceToNat,Int.reduceBEq,Int.reduceBNe,Int.reduceLT,Int.reduceLE,Int.reduceAdd,Int.reduceSub,ha]
 rw [Value.bool.injEq,isOff]
 exact (congrArg (fun z:Nat=>((z:Int) != 0)) ha).trans (and_bit _ _)
theorem off_c {σ:H} {o:List Nat} (hl:o.length=8) (ho:∀ b ∈ o,b < 256) (c:Nat) (hc:c < 64):
 MCalls E Tryz.prog 39 [offV o,.int .i64 c] σ (fun v τ=>v=.bool (isOff o c)∧Ext σ τ):=by
 refine mcalls_of fn39 (by simp) ?_
 unfold c39 r39 offV
 have h8:IntKind.i64.wrap ((c:Int).tdiv 8)=((c / 8:Nat):Int):=by
  have:(c:Int).tdiv 8=((c / 8:Nat):Int):=by rw [Int.ofNat_tdiv];rfl
  rw [this];exact i64wrap (by omega) (by omega)
 have hm:(c:Int).tmod 8=((c % 8:Nat):Int):=by rw [Int.ofNat_tmod];rfl
 refine stepR0 ?_
 generalize hτ:H.push _ _=τ
 have e1:Ext σ τ:=hτ ▸ Ext.push _ _
 have g1:τ.get σ.size=.cells 0 (offC o):=hτ ▸ H.get_push_self _ _
 refine stepR h8 ?_
 refine ml_load1 Sd0 (Sw h8) (cell_of (off:=c / 8) g1 (offC_get (by omega))) ?_
 have hb:=getD_lt ho (c / 8)
 unfold isOff
 generalize o.getD (c / 8) 0=b at hb
 have hlt:c % 8 < 8:=Nat.mod_lt _ (by omega)
 refine stepR0 ?_
 refine mx_loop (fun n ts τ'=>∃ i,n=c % 8 - i∧i≤c % 8∧τ'=τ∧ts 1=.int .i64 c∧ts 5=.int .u8 ((b / 2 ^ i:Nat):Int)∧ts 6=.int .i64 ((i:Nat):Int)) (c % 8) ?_ ?_
 ·exact ⟨0,rfl,Nat.zero_le _,rfl,Sd0,(by first | with_reducible rfl | (simp only [go_sem,reduceIte,Nat.reduceEqDiff,reduceCtorEq,Nat.reduceAdd,Nat.reduceLeDiff,Int.reduceNeg,Int.reduceToNat,Int.reduceBEq,Int.reduceBNe,Int.reduceLT,Int.reduceLE,Int.reduceAdd,Int.reduceSub,Nat.pow_zero,Nat.div_one];done) | (simp only [go_sem,reduceIte,Nat.reduceEqDiff,reduceCtorEq,Nat.reduceAdd,Nat.reduceLeDiff,Int.reduceNeg,Int.reduceToNat,Int.reduceBEq,Int.reduceBNe,Int.reduceLT,Int.reduceLE,Int.reduceAdd,Int.reduceSub,Nat.pow_zero,Nat.div_one];with_reducible rfl) | (simp only [go_sem,reduceIte,Nat.reduceEqDiff,reduceCtorEq,Nat.reduceAdd,Nat.reduceLeDiff,Int.reduceNeg,Int.reduceToNat,Int.reduceBEq,Int.reduceBNe,Int.reduceLT,Int.reduceLE,Int.reduceAdd,Int.reduceSub,Nat.pow_zero,Nat.div_one];(try simp (disch:=omega) only [i64wrap,u64wrap,u8wrap,u32wrap,i32wrap]);first | with_reducible rfl | done | (refine congrArg (Value.int _) ?_;omega)) | (simp only [go_sem,reduceIte,Nat.reduceEqDiff,reduceCtorEq,Nat.reduceAdd,Nat.reduceLeDiff,Int.reduceNeg,Int.reduceToNat,Int.reduceBEq,Int.reduceBNe,Int.reduceLT,Int.reduceLE,Int.reduceAdd,Int.reduceSub,Nat.pow_zero,Nat.div_one];rfl)),Sd0⟩
 rintro n ts _ ⟨i,rfl,hi,rfl,t1,t5,t6⟩
 have hdb:b / 2 ^ i≤b:=Nat.div_le_self _ _
 rcases Nat.lt_or_ge i (c % 8) with hlt2 | hge
 ·have hd:((b / 2 ^ i:Nat):Int).tdiv 2=((b / 2 ^ (i + 1):Nat):Int):=by
   rw [Nat.pow_succ,← Nat.div_div_eq_div_mul,show (2:Int)=((2:Nat):Int) from rfl,← Int.ofNat_tdiv]
  have hdb2:b / 2 ^ (i + 1)≤b:=Nat.div_le_self _ _
  have hw:IntKind.u8.wrap ((b / 2 ^ (i + 1):Nat):Int)=((b / 2 ^ (i + 1):Nat):Int):=by
   generalize b / 2 ^ (i + 1)=q at hdb2;exact u8wrap (by omega) (by omega)
  refine stepR (An t1 (An t5 (An t6 (An hm hd)))) ?_
  exact ⟨_,by omega,i + 1,rfl,hlt2,rfl,(Sw t1),(Sw (An hd hw)),Sd0⟩
 ·have:i=c % 8:=by omega
  subst this
  have hr:((b / 2 ^ (c % 8):Nat):Int).tmod 2=((b / 2 ^ (c % 8) % 2:Nat):Int):=by rw [Int.ofNat_tmod];rfl
  refine stepR (An t1 (An t5 (An t6 (An hm hr)))) ?_
  refine fin1 ⟨?_,e1⟩
  simp only [go_sem,reduceIte,Nat.reduceEqDiff,reduceCtorEq,Nat.reduceAdd,Nat.reduceLeDiff,Int.reduceNeg,Int.reduceToNat,Int.reduceBEq,Int.reduceBNe,Int.reduceLT,Int.reduceLE,Int.reduceAdd,Int.reduceSub,hr,t5]
  rw [Value.bool.injEq,Nat.testBit_eq_decide_div_mod_eq,Bool.eq_iff_iff,beq_iff_eq,decide_eq_true_eq]
  omega
theorem turn_len (o:List Nat) (c:Int) (is:Bool):(turn o c is).length=o.length:=by unfold turn;split<;>simp
theorem turn_lt {o:List Nat} (ho:∀ b ∈ o,b < 256) (c:Int) (is:Bool):∀ b ∈ turn o c is,b < 256:=by
 intro b hb
 unfold turn at hb
 split at hb
 ·rcases List.mem_or_eq_of_mem_set hb with h | h
  ·exact ho b h
  ·subst h
   have h1:=getD_lt ho (c.toNat / 8)
   have h2:=pow8 (k:=c.toNat % 8) (Nat.mod_lt _ (by omega))
   split
   ·exact Nat.or_lt_two_pow (n:=8) h1 h2
   ·have:o.getD (c.toNat / 8) 0 &&& (255 - 2 ^ (c.toNat % 8))≤o.getD (c.toNat / 8) 0:=Nat.and_le_left
    omega
 ·exact ho b hb
theorem rowC {cs:List Value} {n:Nat} (h:cs.length=n):rowL cs 0 n=some cs:=rowAll h
theorem turn_c {σ:H} {o:List Nat} (hl:o.length=8) (ho:∀ b ∈ o,b < 256) (c:Int) (is:Bool):
 MCalls E Tryz.prog 55 [offV o,.int .i64 c,.bool is] σ (fun v τ=>v=offV (turn o c is)∧Ext σ τ):=by
 refine mcalls_of fn55 (by simp) ?_
 unfold c55 r55 offV
 have hcl:(offC o).length=8:=by rw [offC_len];exact hl
 refine stepR0 ?_
 generalize hτ:H.push _ _=τ
 have g1:τ.get σ.size=.cells 0 (offC o):=by rw [← hτ,H.get_push_ne (by simp),H.get_push_self]
 have g2:∃ z,τ.get (σ.size + 1)=.cells 0 z∧z.length=8:=⟨_,by rw [← hτ];exact H.get_push_self (σ.push _) _,rfl⟩
 have e1:Ext σ τ:=hτ ▸ (Ext.push _ _).trans (Ext.push _ _)
 clear hτ
 obtain ⟨z,g2,hz⟩:=g2
 have fin:∀ {τ':H} {o':List Nat} {ts:Fr},Ext σ τ'→τ'.get σ.size=.cells 0 (offC o')→o'.length=8→τ'.get (σ.size + 1)=.cells 0 z→ts 3=.pointer (some ⟨σ.size,0,none⟩)→ts 6=.pointer (some ⟨σ.size + 1,0,none⟩)→
  ∀ {d:Nat} {K:Fr→H→Prop},d≠6→d≠3→(∀ ts τ'',ts 6=.pointer (some ⟨σ.size + 1,0,none⟩)→τ''.get (σ.size + 1)=.cells 0 (offC o')→Ext σ τ''→K ts τ'')→ml E Tryz.prog [⟨some d,.loadN 8 (.t 3),none⟩,⟨none,.store 8 (.t 6) (.t d),none⟩] K ts τ':=by
  intro τ' o' ts e g h8 g' t3 t6 d K hd6 hd3 hK
  have hd6':6≠d:=Ne.symm hd6
  refine ml_loadN rfl (Sw t3) (row_of g (rowC (by rw [offC_len];exact h8))) ?_
  refine ml_storeA (id:=σ.size + 1) (off:=0) (vs:=offC o') rfl ?_ ?_ g' (by rw [offC_len];exact h8) (by omega) (offC_one _) fun τ2 t2=>?_
  ·simp only [mev,updO,upd,hd6',if_false,t6]
  ·simp only [mev,updO,upd_same,Value.cells]
  ·have hs:spl z 0 (offC o')=offC o':=spl_all (by rw [offC_len,h8,hz])
   rw [hs] at t2
   refine ml_nil (hK _ _ ?_ t2.self (t2.ext e (by omega)))
   simp only [updO,upd,hd6',if_false,t6]
 by_cases hc:0≤c∧c < 64
 ·obtain ⟨h0,h1⟩:=hc
  obtain ⟨n,rfl⟩:=Int.eq_ofNat_of_zero_le h0
  have hn:n < 64:=by omega
  have hn0:¬ ((n:Int) < 0):=by omega
  have hn1:¬ ((64:Int)≤(n:Int)):=by omega
  have h8:IntKind.i64.wrap ((n:Int).tdiv 8)=((n / 8:Nat):Int):=by
   have:(n:Int).tdiv 8=((n / 8:Nat):Int):=by rw [Int.ofNat_tdiv];rfl
   rw [this];exact i64wrap (by omega) (by omega)
  have hlt:n % 8 < 8:=Nat.mod_lt _ (by omega)
  have hget:=offC_get (o:=o) (i:=n / 8) (by omega)
  have hb:=getD_lt ho (n / 8)
  have htl:=turn_len o n is
  have hturn:turn o n is=o.set (n / 8) (if is then o.getD (n / 8) 0 ||| 2 ^ (n % 8) else o.getD (n / 8) 0 &&& (255 - 2 ^ (n % 8))):=by
   unfold turn;rw [if_pos ⟨by omega,by omega⟩,Int.toNat_natCast]
  generalize o.getD (n / 8) 0=b at hget hb hturn
  cases is
  ·have hop:=andNot8 b (2 ^ (n % 8)) hb (pow8 hlt)
   refine stepR (An hn0 (An hn1 h8)) ?_
   refine mld_load1 Sd0 (Sw h8) (cell_of (off:=n / 8) g1 hget) ?_
   refine stepR h8 ?_
   refine mld_call Sd0 Sd0 (bit_c n τ) (fun _ _ h=>by rw [h.2];exact .refl _) ?_
   rintro _ τ ⟨rfl,rfl⟩
   refine stepR (An hop h8) ?_
   refine mld_storeA (id:=σ.size) (off:=n / 8) (vs:=[.int .u8 ((b &&& (255 - 2 ^ (n % 8)):Nat):Int)]) Sd0 (Sw h8) (by simp only [go_sem,reduceIte,Nat.reduceEqDiff,reduceCtorEq,Nat.reduceAdd,Nat.reduceLeDiff,Int.reduceNeg,Int.reduceToNat,Int.reduceBEq,Int.reduceBNe,Int.reduceLT,Int.reduceLE,Int.reduceAdd,Int.reduceSub];exact congrArg (fun z:Nat=>#[Value.int .u8 (z:Int)]) hop) g1 rfl (by omega) rfl fun τ2 t2=>?_
   have hset:spl (offC o) (n / 8) [.int .u8 ((b &&& (255 - 2 ^ (n % 8)):Nat):Int)]=offC (turn o n false):=by
    rw [spl_one,hturn];unfold offC;rw [List.map_set];rfl
   rw [hset] at t2
   refine stepR0 ?_
   refine fin (t2.ext e1 (Nat.le_refl _)) t2.self (by omega) (t2.cells g2 (by omega)) Sd0 Sd0 (by omega) (by omega) fun ts τ3 t6 g3 e3=>?_
   refine stepR0 ?_
   exact finC t6 (row_of g3 (rowC (by rw [offC_len];omega))) ⟨rfl,e3⟩
  ·have hop:=or8 b (2 ^ (n % 8)) hb (pow8 hlt)
   refine stepR (An hn0 (An hn1 h8)) ?_
   refine mld_load1 Sd0 (Sw h8) (cell_of (off:=n / 8) g1 hget) ?_
   refine stepR h8 ?_
   refine mld_call Sd0 Sd0 (bit_c n τ) (fun _ _ h=>by rw [h.2];exact .refl _) ?_
   rintro _ τ ⟨rfl,rfl⟩
   refine stepR (An hop h8) ?_
   refine mld_storeA (id:=σ.size) (off:=n / 8) (vs:=[.int .u8 ((b ||| 2 ^ (n % 8):Nat):Int)]) Sd0 (Sw h8) (by simp only [go_sem,reduceIte,Nat.reduceEqDiff,reduceCtorEq,Nat.reduceAdd,Nat.reduceLeDiff,Int.reduceNeg,Int.reduceToNat,Int.reduceBEq,Int.reduceBNe,Int.reduceLT,Int.reduceLE,Int.reduceAdd,Int.reduceSub];exact congrArg (fun z:Nat=>#[Value.int .u8 (z:Int)]) hop) g1 rfl (by omega) rfl fun τ2 t2=>?_
   have hset:spl (offC o) (n / 8) [.int .u8 ((b ||| 2 ^ (n % 8):Nat):Int)]=offC (turn o n true):=by
    rw [spl_one,hturn];unfold offC;rw [List.map_set];rfl
   rw [hset] at t2
   refine stepR0 ?_
   refine fin (t2.ext e1 (Nat.le_refl _)) t2.self (by omega) (t2.cells g2 (by omega)) Sd0 Sd0 (by omega) (by omega) fun ts τ3 t6 g3 e3=>?_
   refine stepR0 ?_
   exact finC t6 (row_of g3 (rowC (by rw [offC_len];omega))) ⟨rfl,e3⟩
 ·have hturn:turn o c is=o:=by unfold turn;rw [if_neg hc]
  rw [hturn]
  refine ml_mid (fun ts τ'=>τ'=τ∧ts 15=.bool true∧ts 3=.pointer (some ⟨σ.size,0,none⟩)∧ts 6=.pointer (some ⟨σ.size + 1,0,none⟩)) ?_ ?_
  ·by_cases h0:c < 0
   ·refine stepR h0 ?_
    exact ⟨rfl,(Sw h0),Sd0,Sd0⟩
   ·have h1:64≤c:=by omega
    refine stepR (An h0 h1) ?_
    exact ⟨rfl,(Sw (An h0 h1)),Sd0,Sd0⟩
  ·rintro ts _ ⟨rfl,t15,t3,t6⟩
   refine stepR t15 ?_
   refine fin e1 g1 hl g2 t3 t6 (by omega) (by omega) fun ts τ3 t6 g3 e3=>?_
   refine stepR0 ?_
   exact finC t6 (row_of g3 (rowC (by rw [offC_len];omega))) ⟨rfl,e3⟩
end Go.Proofs.YtoejdgoicoaomaaGreatDoor
namespace Go.Proofs.YtoejdgoicoaomaaGreatDoor
open Go.Mini
open Go.Proofs.YtoejdgoicoaomaaGreatDoor.Code
attribute [local irreducible] mx ml mld mstep MCalls Ex.thn Ex.inb
variable {E:World→Prop}
def KeepBut (oid:Option Nat) (σ τ:H):Prop:=σ.size≤τ.size∧∀ j,j < σ.size→oid≠some j→τ.get j=σ.get j
theorem KeepBut.of_ext {oid:Option Nat} {σ τ:H} (e:Ext σ τ):KeepBut oid σ τ:=⟨e.size,fun j hj _=>e.get j hj⟩
theorem KeepBut.trans {oid:Option Nat} {a b c:H} (h:KeepBut oid a b) (k:KeepBut oid b c):KeepBut oid a c:=
 ⟨Nat.le_trans h.1 k.1,fun j hj hn=>(k.2 j (Nat.lt_of_lt_of_le hj h.1) hn).trans (h.2 j hj hn)⟩
theorem KeepBut.set {σ σ' τ:H} {id:Nat} {o:MObj} (h:KeepBut (some id) σ σ') (s:SetTo σ' id o τ):KeepBut (some id) σ τ:=
 ⟨by rw [s.size];exact h.1,fun j hj hn=>by rw [s.other j (fun e=>hn (by rw [e]))];exact h.2 j hj hn⟩
theorem KeepBut.ext {σ0 σ τ:H} {oid:Option Nat} (e:Ext σ0 σ) (h:KeepBut oid σ τ) (hid:∀ i,oid=some i→σ0.size≤i):Ext σ0 τ:=
 ⟨Nat.le_trans e.size h.1,fun i hi=>by rw [h.2 i (Nat.lt_of_lt_of_le hi e.size) (fun x=>by have:=hid i x;omega)];exact e.get i hi⟩
theorem ints_getD {l:List Int} {i:Nat} (hi:i < l.length):(ints l)[i]?=some (.int .i64 (l.getD i 0)):=by
 unfold ints;rw [List.getElem?_map,List.getElem?_eq_getElem hi,List.getD_eq_getElem?_getD,List.getElem?_eq_getElem hi];rfl
theorem take_succ_getD {l:List Int} {j:Nat} (hj:j < l.length):l.take (j + 1)=l.take j ++ [l.getD j 0]:=by
 rw [List.take_add_one,List.getElem?_eq_getElem hj,List.getD_eq_getElem?_getD,List.getElem?_eq_getElem hj];rfl
theorem _root_.Go.Mini.Own.inv {σ:H} {sz:Nat} {v:Value} {oid:Option Nat} {cs:List Value} (h:Own σ sz v oid cs):(v=.slice none 0 0∧oid=none∧cs=[])∨∃ id n,v=.slice (some ⟨id,0,none⟩) n n∧oid=some id∧σ.get id=.cells sz cs∧cs.length=n * sz:=by
 cases h with
 | nil=>exact .inl ⟨rfl,rfl,rfl⟩
 | full h hl=>exact .inr ⟨_,_,rfl,rfl,h,hl⟩
theorem slIndexFunc_c {σ:H} {v fv:Value} {l:List Int} {p:Int→Bool} {g:FuncId} {caps:Array Value} (hr:Rd σ v (ints l)) (hf:fv=.func (.func g) #[] caps)
 (hl:l.length≤1000000) (hp:∀ x ∈ l,∀ τ,Ext σ τ→MCalls E Tryz.prog g ([.int .i64 x] ++ caps.toList) τ (fun r τ'=>r=.bool (p x)∧Ext τ τ')):
 MCalls E Tryz.prog 142 [v,fv] σ (fun r τ=>Ext σ τ∧((r=.int .i64 (-1)∧∀ x ∈ l,p x=false)∨∃ i:Nat,i < l.length∧r=.int .i64 i∧p (l.getD i 0)=true∧∀ x ∈ l.take i,p x=false)):=by
 subst hf
 refine mcalls_of fn142 (by simp) ?_
 unfold c142 r142
 have hsz:(ints l).length=l.length:=ints_len _
 refine stepR0 ?_
 refine ml_len Sd0 hr Sd0 ?_
 refine stepR hsz ?_
 refine mx_loop (fun n ts τ=>∃ i:Nat,n=l.length - i∧i≤l.length∧Ext σ τ∧(∀ x ∈ l.take i,p x=false)∧ts 0=v∧ts 1=.func (.func g) #[] caps∧ts 7=.int .i64 l.length∧ts 8=.int .i64 ((i:Nat):Int)) l.length ?_ ?_
 ·exact ⟨0,rfl,Nat.zero_le _,.refl _,by simp,Sd0,Sd0,Sd0,Sd0⟩
 rintro n ts τ ⟨i,rfl,hi,e,hall,t0,t1,t7,t8⟩
 rcases Nat.lt_or_ge i l.length with hlt | hge
 ·have hm:l.getD i 0 ∈ l:=by rw [List.getD_eq_getElem?_getD,List.getElem?_eq_getElem hlt];exact List.getElem_mem hlt
  refine stepR (An t0 (An t1 (An t7 t8))) ?_
  refine ml_getS (hr.of_ext e) (Sw t0) (Sw t8) (by omega) (by rw [Int.toNat_natCast];exact ints_getD hlt) fun q=>?_
  refine ml_callv Sd0 (Sw t1) Sd0 (hp _ hm τ e) ?_
  rintro _ τ2 ⟨rfl,e2⟩
  cases hx:p (l.getD i 0)
  ·refine stepR t8 ?_
   refine ⟨_,?_,i + 1,rfl,hlt,e.trans e2,?_,(Sw t0),(Sw t1),(Sw t7),Sd0⟩
   ·omega
   ·intro x hx2
    rw [take_succ_getD hlt,List.mem_append] at hx2
    rcases hx2 with h | h
    ·exact hall x h
    ·rw [List.mem_singleton] at h;subst h;exact hx
  ·refine stepR t8 ?_
   exact fin1 ⟨e.trans e2,.inr ⟨i,hlt,Sd0,hx,hall⟩⟩
 ·have:i=l.length:=by omega
  subst this
  rw [List.take_length] at hall
  refine stepR (An t0 (An t1 (An t7 t8))) ?_
  exact fin1 ⟨e,.inl ⟨Sd0,hall⟩⟩
theorem repZ1 (z:Value):∀ n:Nat,repZ [z] n=List.replicate n z
 | 0=>rfl
 | n + 1=>by simp only [repZ,repZ1 z n,List.replicate_succ,List.cons_append,List.nil_append]
theorem _root_.Go.Mini.o_clr {ts:Fr} {σ:H} {x:Opd} {z:Value} {id off len cap sz:Nat} {cs:List Value} (hx:mev ts x=.slice (some ⟨id,off,none⟩) len cap) (hl:len≠0) (hg:σ.get id=.cells sz cs) (hb:off + len≤cs.length) (hz:one z=true):
 mop ts σ (.clr [z] x)=some (undef,σ.set id (.cells sz (spl cs off (List.replicate len z)))):=by
 simp only [mop,hx,hl,if_false,repZ1,putRow,hg,List.length_replicate]
 rw [if_pos ⟨hb,by rw [List.all_replicate];simp [hz]⟩];rfl
theorem spl_take:∀ (vs cs:List Value) (k m:Nat),m≤k→(spl cs k vs).take m=cs.take m
 | [],cs,k,m,h=>rfl
 | v :: vs,cs,k,m,h=>by
   rw [spl,spl_take vs _ (k + 1) m (by omega)]
   exact List.take_set_of_le h
def BlkP (v:Value) (P:Nat→Prop):Prop:=∀ a n c,v=.slice (some a) n c→P a.block
theorem _root_.Go.Mini.Own.blk {σ:H} {sz:Nat} {v:Value} {oid:Option Nat} {cs:List Value} (h:Own σ sz v oid cs):BlkP v fun i=>oid=some i:=by
 intro a n c e
 cases h with
 | nil=>cases e
 | full _ _=>cases e;rfl
set_option maxHeartbeats 1000000 in
theorem deleteFunc_c2 {σ:H} {v fv:Value} {oid:Option Nat} {l:List Int} {p:Int→Bool} {g:FuncId} {caps:Array Value} (hr:Own σ 1 v oid (ints l)) (hf:fv=.func (.func g) #[] caps)
 (hl:l.length≤1000000) (hp:∀ x ∈ l,∀ τ,KeepBut oid σ τ→MCalls E Tryz.prog g ([.int .i64 x] ++ caps.toList) τ (fun r τ'=>r=.bool (p x)∧Ext τ τ')):
 MCalls E Tryz.prog 117 [v,fv] σ (fun r τ=>Rd τ r (ints (l.filter fun x=>!p x))∧KeepBut oid σ τ∧BlkP r fun i=>oid=some i):=by
 subst hf
 refine mcalls_of fn117 (by simp) ?_
 unfold c117 r117
 have hsz:(ints l).length=l.length:=ints_len _
 refine stepR0 ?_
 refine ml_call Sd0 Sd0 (slIndexFunc_c hr.rd rfl hl fun x hx τ e=>hp x hx τ (.of_ext e)) ?_
 rintro _ τ ⟨e1,⟨rfl,hall⟩ | ⟨i,hi,rfl,hpi,hall⟩⟩
 ·refine stepR0 ?_
  refine fin1 ⟨?_,.of_ext e1,?_⟩
  ·simp only [go_sem,reduceIte,Nat.reduceEqDiff,reduceCtorEq,Nat.reduceAdd,Nat.reduceLeDiff,Int.reduceNeg,Int.reduceToNat,Int.reduceBEq,Int.reduceBNe,Int.reduceLT,Int.reduceLE,Int.reduceAdd,Int.reduceSub]
   rw [List.filter_eq_self.2 (fun x hx=>by rw [hall x hx];rfl)]
   exact (hr.of_ext e1).rd
  ·simp only [go_sem,reduceIte,Nat.reduceEqDiff,reduceCtorEq,Nat.reduceAdd,Nat.reduceLeDiff,Int.reduceNeg,Int.reduceToNat,Int.reduceBEq,Int.reduceBNe,Int.reduceLT,Int.reduceLE,Int.reduceAdd,Int.reduceSub]
   exact hr.blk
 ·rcases hr.inv with ⟨_,_,h0⟩ | ⟨id,n,rfl,rfl,hg,hn⟩
  ·rw [h0] at hsz;simp at hsz;omega
  have hln:l.length=n:=by rw [← hsz];omega
  subst hln
  have hne:((i:Int) == -1)=false:=by simp
  refine stepR hne ?_
  have hf0:(l.take (i + 1)).filter (fun x=>!p x)=l.take i:=by
   rw [take_succ_getD hi,List.filter_append,List.filter_eq_self.2 (fun x hx=>by rw [hall x hx];rfl)]
   simp only [List.filter_cons,hpi,Bool.not_true,Bool.false_eq_true,if_false,List.filter_nil,List.append_nil]
  refine mx_loop (fun n ts τ=>∃ (j:Nat) (arr F:List Int),n=l.length - j∧j≤l.length∧F=(l.take j).filter (fun x=>!p x)∧F.length < j∧arr.length=l.length∧arr.take F.length=F∧arr.drop j=l.drop j∧
   τ.get id=.cells 1 (ints arr)∧KeepBut (some id) σ τ∧ts 0=.slice (some ⟨id,0,none⟩) l.length l.length∧ts 1=.func (.func g) #[] caps∧ts 5=.int .i64 ((F.length:Nat):Int)∧ts 6=.int .i64 ((j:Nat):Int)) (l.length - (i + 1)) ?_ ?_
  ·have hti:(l.take i).length=i:=by rw [List.length_take];omega
   refine ⟨i + 1,l,l.take i,rfl,hi,hf0.symm,by omega,rfl,by rw [hti],rfl,e1.cells hg,.of_ext e1,Sd0,Sd0,(Sw hti),Sd0⟩
  rintro n ts τ ⟨j,arr,F,rfl,hj,hF,hFj,ha,hat,had,g1,kb,t0,t1,t5,t6⟩
  rcases Nat.lt_or_ge j l.length with hlt | hge
  ·have hm:l.getD j 0 ∈ l:=by rw [List.getD_eq_getElem?_getD,List.getElem?_eq_getElem hlt];exact List.getElem_mem hlt
   have haj:arr.getD j 0=l.getD j 0:=by
    have:(arr.drop j)[0]?=(l.drop j)[0]?:=by rw [had]
    rw [List.getElem?_drop,List.getElem?_drop] at this
    rw [List.getD_eq_getElem?_getD,List.getD_eq_getElem?_getD];simpa using congrArg (·.getD 0) this
   have hd1:arr.drop (j + 1)=l.drop (j + 1):=by rw [← List.drop_drop,← List.drop_drop,had]
   refine stepR (An t0 (An t1 (An t5 t6))) ?_
   refine ml_load1 (v:=.int .i64 (l.getD j 0)) Sd0 Sd0 (cell_of (off:=j) g1 (by rw [← haj];exact ints_getD (by omega))) ?_
   refine stepR t1 ?_
   refine ml_callv Sd0 Sd0 Sd0 (hp _ hm τ kb) ?_
   rintro _ τ2 ⟨rfl,e2⟩
   have kb2:=kb.trans (.of_ext e2)
   have hFs:(l.take (j + 1)).filter (fun x=>!p x)=if p (l.getD j 0) then F else F ++ [l.getD j 0]:=by
    rw [take_succ_getD hlt,List.filter_append,← hF]
    cases h:p (l.getD j 0)<;>simp only [List.filter_cons,h,Bool.not_true,Bool.not_false,if_true,Bool.false_eq_true,if_false,List.filter_nil,List.append_nil]
   cases hx:p (l.getD j 0)
   ·rw [hx,if_neg (by simp)] at hFs
    refine stepR (An t0 t5) ?_
    refine ml_storeA (off:=F.length) (vs:=[.int .i64 (l.getD j 0)]) Sd0 Sd0 Sd0 (e2.cells g1) rfl (by rw [ints_len];omega) rfl fun τ3 t3=>?_
    have hse:(ints arr).set F.length (.int .i64 (l.getD j 0))=ints (arr.set F.length (l.getD j 0)):=by unfold ints;rw [List.map_set]
    rw [spl_one,hse] at t3
    have hap:(arr.set F.length (l.getD j 0)).take (F ++ [l.getD j 0]).length=F ++ [l.getD j 0]:=by
     rw [List.length_append,List.length_cons,List.length_nil,Nat.zero_add,List.take_add_one,List.take_set_of_le (Nat.le_refl _),hat,List.getElem?_set_self (by omega)];rfl
    refine stepR (An t5 t6) ?_
    refine ⟨_,?_,j + 1,_,F ++ [l.getD j 0],rfl,hlt,hFs.symm,by simp;omega,by simp [ha],hap,?_,t3.self,kb2.set t3,(Sw t0),(Sw t1),(by first | with_reducible rfl | (simp only [go_sem,reduceIte,Nat.reduceEqDiff,reduceCtorEq,Nat.reduceAdd,Nat.reduceLeDiff,Int.reduceNeg,Int.reduceToNat,Int.reduceBEq,Int.reduceBNe,Int.reduceLT,Int.reduceLE,Int.reduceAdd,Int.reduceSub,List.length_append];done) | (simp only [go_sem,reduceIte,Nat.reduceEqDiff,reduceCtorEq,Nat.reduceAdd,Nat.reduceLeDiff,Int.reduceNeg,Int.reduceToNat,Int.reduceBEq,Int.reduceBNe,Int.reduceLT,Int.reduceLE,Int.reduceAdd,Int.reduceSub,List.length_append];with_reducible rfl) | (simp only [go_sem,reduceIte,Nat.reduceEqDiff,reduceCtorEq,Nat.reduceAdd,Nat.reduceLeDiff,Int.reduceNeg,Int.reduceToNat,Int.reduceBEq,Int.reduceBNe,Int.reduceLT,Int.reduceLE,Int.reduceAdd,Int.reduceSub,List.length_append];(try simp (disch:=omega) only [i64wrap,u64wrap,u8wrap,u32wrap,i32wrap]);first | with_reducible rfl | done | (refine congrArg (Value.int _) ?_;omega)) | (simp only [go_sem,reduceIte,Nat.reduceEqDiff,reduceCtorEq,Nat.reduceAdd,Nat.reduceLeDiff,Int.reduceNeg,Int.reduceToNat,Int.reduceBEq,Int.reduceBNe,Int.reduceLT,Int.reduceLE,Int.reduceAdd,Int.reduceSub,List.length_append];rfl)),Sd0⟩
    ·omega
    ·rw [List.drop_set_of_lt (by omega),hd1]
   ·rw [hx,if_pos rfl] at hFs
    refine stepR (An t5 t6) ?_
    refine ⟨_,?_,j + 1,arr,F,rfl,hlt,hFs.symm,by omega,ha,hat,hd1,e2.cells g1,kb2,(Sw t0),(Sw t1),(Sw t5),Sd0⟩
    ·omega
  ·have:j=l.length:=by omega
   subst this
   rw [List.take_length] at hF
   refine stepR (An t0 (An t1 (An t5 t6))) ?_
   refine ml_op Sd0 (o_slc_lo Sd0 (Sw t5) (by omega) (by omega) g1) ?_
   refine ml_op Sd0 (o_clr (len:=l.length - F.length) (off:=F.length) Sd0 (by omega) g1 (by rw [ints_len];omega) rfl) ?_
   refine stepR (An t0 t5) ?_
   refine ml_op Sd0 (o_slc_hi Sd0 (Sw t5) (by omega) (by omega) (H.get_set_self (H.lt_of_cells g1))) ?_
   refine stepR0 ?_
   refine fin1 ⟨?_,kb.set (.mk' (H.lt_of_cells g1)),?_⟩
   rotate_left
   ·simp only [go_sem,reduceIte,Nat.reduceEqDiff,reduceCtorEq,Nat.reduceAdd,Nat.reduceLeDiff,Int.reduceNeg,Int.reduceToNat,Int.reduceBEq,Int.reduceBNe,Int.reduceLT,Int.reduceLE,Int.reduceAdd,Int.reduceSub]
    intro a n c e
    cases e;rfl
   rw [← hF]
   simp only [go_sem,reduceIte,Nat.reduceEqDiff,reduceCtorEq,Nat.reduceAdd,Nat.reduceLeDiff,Int.reduceNeg,Int.reduceToNat,Int.reduceBEq,Int.reduceBNe,Int.reduceLT,Int.reduceLE,Int.reduceAdd,Int.reduceSub]
   have hrow:(τ.set id (.cells 1 (spl (ints arr) F.length (List.replicate (l.length - F.length) (.int .i64 0))))).row id 0 (ints F).length=some (ints F):=by
    refine row_of (H.get_set_self (H.lt_of_cells g1)) ?_
    rw [rowL_some _ _ _ (by rw [ints_len,spl_length,ints_len];omega),List.drop_zero,ints_len,spl_take _ _ _ _ (Nat.le_refl _)]
    congr 1
    unfold ints
    rw [← List.map_take,hat]
   have:=Rd.mk (cap:=l.length) hrow
   rwa [ints_len] at this
end Go.Proofs.YtoejdgoicoaomaaGreatDoor
namespace Go.Proofs.YtoejdgoicoaomaaGreatDoor
open Go.Mini
open Go.Proofs.YtoejdgoicoaomaaGreatDoor.Code
attribute [local irreducible] mx ml mld mstep MCalls Ex.thn Ex.inb
variable {E:World→Prop}
def onL (S:ByteArray) (o:List Nat) (b:Bool):List Int:=(gkind S 67 b).filter fun x=>!isOff o x.toNat
theorem gkind_mem {S:ByteArray} {k:UInt8} {b:Bool} {x:Int}:x ∈ gkind S k b↔b=true∧∃ i:Nat,x=i∧i < S.size∧S.data.toList.getD i 0=k:=by
 unfold gkind
 cases b
 ·simp
 ·simp only [if_true,List.mem_map,List.mem_filter,List.mem_range,beq_iff_eq,true_and]
  constructor
  ·rintro ⟨i,⟨h1,h2⟩,rfl⟩;exact ⟨i,rfl,h1,h2⟩
  ·rintro ⟨i,rfl,h1,h2⟩;exact ⟨i,⟨h1,h2⟩,rfl⟩
theorem on_c2 {σ:H} (W Hh:Int) (S:ByteArray) {o:List Nat} (hl:o.length=8) (ho:∀ b ∈ o,b < 256):
 MCalls E Tryz.prog 84 [mapV W Hh S,offV o] σ (fun v τ=>Rd τ v (ints (onL S o (gr W Hh S)))∧Ext σ τ∧BlkP v fun i=>σ.size≤i):=by
 refine mcalls_of fn84 (by simp) ?_
 unfold c84 r84 mapV offV
 refine stepR0 ?_
 generalize hτ:H.push _ _=τ
 have g1:τ.get σ.size=.cells 0 [.int .i64 W,.int .i64 Hh,.string S]:=by rw [← hτ,H.get_push_ne (by simp),H.get_push_self]
 have g2:τ.get (σ.size + 1)=.cells 0 (offC o):=by rw [← hτ];exact H.get_push_self (σ.push _) _
 have e1:Ext σ τ:=hτ ▸ (Ext.push _ _).trans (Ext.push _ _)
 have hlt:=H.lt_of_cells g2
 clear hτ
 refine stepR g1 ?_
 refine ml_call Sd0 Sd0 (gkind_c W Hh S 67 τ) ?_
 rintro kv τ2 ⟨e2,oid,own,hid⟩
 refine stepR0 ?_
 refine ml_call Sd0 Sd0 (deleteFunc_c2 (p:=fun x=>isOff o x.toNat) own rfl ?_ ?_) ?_
 ·unfold gkind
  cases hg:gr W Hh S
  ·simp
  ·have:=gkindN_len S 67 S.size
   have:=gr_size hg
   simp only [gkindN] at *;simp only [if_true];omega
 ·intro x hx τ3 kb
  obtain ⟨hg,i,rfl,hi,_⟩:=gkind_mem.1 hx
  have:=gr_size hg
  have g3:τ3.get (σ.size + 1)=.cells 0 (offC o):=by
   rw [kb.2 _ (by have:=e2.size;omega) (fun e=>by have:=hid _ e;omega)];exact e2.cells g2
  rw [Int.toNat_natCast]
  exact (on1_c hl ho g3 i (by omega)).mono fun v τ' h=>⟨h.1,by rw [h.2];exact .refl _⟩
 rintro v τ3 ⟨rd,kb,hb⟩
 refine stepR0 ?_
 refine fin1 ⟨?_,kb.ext (e1.trans e2) fun i hi=>(by have:=hid i hi;have:=e1.size;omega),?_⟩
 ·simp only [go_sem,reduceIte,Nat.reduceEqDiff,reduceCtorEq,Nat.reduceAdd,Nat.reduceLeDiff,Int.reduceNeg,Int.reduceToNat,Int.reduceBEq,Int.reduceBNe,Int.reduceLT,Int.reduceLE,Int.reduceAdd,Int.reduceSub]
  exact rd
 ·simp only [go_sem,reduceIte,Nat.reduceEqDiff,reduceCtorEq,Nat.reduceAdd,Nat.reduceLeDiff,Int.reduceNeg,Int.reduceToNat,Int.reduceBEq,Int.reduceBNe,Int.reduceLT,Int.reduceLE,Int.reduceAdd,Int.reduceSub]
  intro a n c e
  have:=hid _ (hb a n c e)
  have:=e1.size
  omega
noncomputable def dist (W:Int) (S:ByteArray) (src:List Int) (x:Int):Option Nat:=
 @dite _ (∃ k,Wk W S src k x) (Classical.propDecidable _) (fun h=>some (Classical.choose (show ∃ k,Wk W S src k x∧∀ j,Wk W S src j x→k≤j from by
  obtain ⟨k,hk⟩:=h
  induction k using Nat.strongRecOn with
  | ind k ih=>
    by_cases hc:∃ j,j < k∧Wk W S src j x
    ·obtain ⟨j,hj,hw⟩:=hc;exact ih j hj hw
    ·exact ⟨k,hk,fun j hj=>Nat.le_of_not_lt fun hlt=>hc ⟨j,hlt,hj⟩⟩))) (fun _=>none)
theorem dist_spec (W:Int) (S:ByteArray) (src:List Int) (x:Int):(dist W S src x=none∧∀ k,¬ Wk W S src k x)∨∃ k,dist W S src x=some k∧Wk W S src k x∧∀ j,Wk W S src j x→k≤j:=by
 unfold dist
 by_cases h:∃ k,Wk W S src k x
 ·rw [dif_pos h]
  exact .inr ⟨_,rfl,Classical.choose_spec (_:∃ k,Wk W S src k x∧∀ j,Wk W S src j x→k≤j)⟩
 ·rw [dif_neg h]
  exact .inl ⟨rfl,fun k hk=>h ⟨k,hk⟩⟩
theorem dist_eq {W:Int} {S:ByteArray} {src:List Int} {x:Int} {k:Nat} (h:Wk W S src k x) (hm:∀ j,Wk W S src j x→k≤j):dist W S src x=some k:=by
 rcases dist_spec W S src x with ⟨_,h2⟩ | ⟨k',h1,h2,h3⟩
 ·exact absurd h (h2 k)
 ·rw [h1,Nat.le_antisymm (h3 _ h) (hm _ h2)]
theorem dist_none {W:Int} {S:ByteArray} {src:List Int} {x:Int} (h:∀ k,¬ Wk W S src k x):dist W S src x=none:=by
 rcases dist_spec W S src x with ⟨h1,_⟩ | ⟨k',h1,h2,h3⟩
 ·exact h1
 ·exact absurd h2 (h k')
def costV (step:Int):Option Nat→Int
 | none=>-1
 | some k=>step * k
theorem CostOK.eq {W:Int} {S:ByteArray} {src:List Int} {step x c:Int} (h:CostOK W S src step x c):c=costV step (dist W S src x):=by
 rcases h with ⟨rfl,h⟩ | ⟨k,h1,h2,rfl⟩
 ·rw [dist_none h];rfl
 ·rw [dist_eq h1 h2];rfl
theorem Cst.get {W:Int} {S:ByteArray} {src:List Int} {step:Int} {out:List Int} (h:Cst W S src step out) {i:Nat} (hi:i < S.size):out.getD i 0=costV step (dist W S src i):=(h.2 i hi).eq
theorem costV_nonneg {step:Int} (h:0≤step) {d:Option Nat}:0≤costV step d↔d.isSome=true:=by
 cases d with
 | none=>simp [costV]
 | some k=>simp only [costV,Option.isSome_some,iff_true];exact Int.mul_nonneg h (by omega)
noncomputable def needO (W Hh:Int) (S:ByteArray) (on:List Int) (step c:Int):Option Int:=
 if costOK W Hh S on step && opn S c then (dist W S on c).map (fun (k:Nat)=>step * (k:Int)) else none
theorem costOK_iff {W Hh:Int} {S:ByteArray} {srcs:List Int} {step:Int}:costOK W Hh S srcs step=true↔gr W Hh S=true∧1≤step∧step≤100∧srcs.length≤64:=by
 simp only [costOK,Bool.and_eq_true,decide_eq_true_eq,and_assoc]
theorem need_c {σ:H} (W Hh:Int) (S:ByteArray) {ov:Value} {on:List Int} (hr:Rd σ ov (ints on)) (c step:Int):
 MCalls E Tryz.prog 27 [mapV W Hh S,ov,.int .i64 c,.int .i64 step] σ (fun v τ=>v=.tuple #[.int .i64 ((needO W Hh S on step c).getD 0),.bool (needO W Hh S on step c).isSome]∧Ext σ τ):=by
 refine mcalls_of fn27 (by simp) ?_
 unfold c27 r27 mapV
 refine stepR0 ?_
 generalize hτ:H.push _ _=τ
 have g1:τ.get σ.size=.cells 0 [.int .i64 W,.int .i64 Hh,.string S]:=by rw [← hτ];exact H.get_push_self _ _
 have e1:Ext σ τ:=hτ ▸ Ext.push _ _
 clear hτ
 refine stepR g1 ?_
 refine ml_call Sd0 Sd0 (costs_c W Hh S on step ov τ (hr.of_ext e1)) ?_
 intro v τ2 h2
 unfold costR at h2
 unfold needO
 cases hok:costOK W Hh S on step
 ·rw [if_neg (by rw [hok];simp)] at h2
  obtain ⟨ev,rfl,⟨id,rfl,_⟩,e2⟩:=h2
  refine stepR0 ?_
  refine fin2 (And.intro ?_ (e1.trans e2))
  simp only [go_sem,reduceIte,Nat.reduceEqDiff,reduceCtorEq,Nat.reduceAdd,Nat.reduceLeDiff,Int.reduceNeg,Int.reduceToNat,Int.reduceBEq,Int.reduceBNe,Int.reduceLT,Int.reduceLE,Int.reduceAdd,Int.reduceSub,Bool.false_and]
  try rfl
 rw [if_pos hok] at h2
 obtain ⟨vo,out,rfl,hc,e2,oid,own,_⟩:=h2
 have hall:=costOK_iff.1 hok
 have g2:=e2.cells g1
 refine stepR g2 ?_
 refine ml_call Sd0 Sd0 (gopen_c W Hh S c τ2) ?_
 rintro _ τ3 ⟨rfl,e3⟩
 rw [hall.1]
 have e13:=e1.trans (e2.trans e3)
 cases hop:opn S c
 ·refine stepR0 ?_
  refine fin2 (And.intro ?_ (e13))
  simp only [go_sem,reduceIte,Nat.reduceEqDiff,reduceCtorEq,Nat.reduceAdd,Nat.reduceLeDiff,Int.reduceNeg,Int.reduceToNat,Int.reduceBEq,Int.reduceBNe,Int.reduceLT,Int.reduceLE,Int.reduceAdd,Int.reduceSub,Bool.and_false]
  try rfl
 have hcl:=opn_lt hop
 have hci:((c.toNat:Nat):Int)=c:=Int.toNat_of_nonneg hcl.1
 have hct:c.toNat < S.size:=by omega
 have hget:=hc.get hct
 rw [hci] at hget
 have rd:=(own.of_ext e3).rd
 have hge:=ints_getD (l:=out) (i:=c.toNat) (by rw [hc.1];exact hct)
 rw [hget] at hge
 have hnn:=costV_nonneg (step:=step) (by omega) (d:=dist W S on c)
 refine stepR0 ?_
 refine ml_getSg Sd0 rd Sd0 Sd0 hcl.1 hge (fun p=>Sd0) fun p=>?_
 cases hd:dist W S on c with
 | none=>
   rw [hd] at hge
   have h0:costV step none < 0:=by simp [costV]
   refine stepR h0 ?_
   refine fin2 (And.intro ?_ (e13))
   simp only [go_sem,reduceIte,Nat.reduceEqDiff,reduceCtorEq,Nat.reduceAdd,Nat.reduceLeDiff,Int.reduceNeg,Int.reduceToNat,Int.reduceBEq,Int.reduceBNe,Int.reduceLT,Int.reduceLE,Int.reduceAdd,Int.reduceSub,Bool.and_self,Option.map_none]
   try rfl
 | some k=>
   rw [hd] at hge hnn
   have h0:¬ costV step (some k) < 0:=by have:=hnn.2 rfl;omega
   refine stepR h0 ?_
   refine ml_getS rd Sd0 Sd0 hcl.1 hge fun p2=>?_
   refine stepR0 ?_
   refine fin2 (And.intro ?_ (e13))
   simp only [go_sem,reduceIte,Nat.reduceEqDiff,reduceCtorEq,Nat.reduceAdd,Nat.reduceLeDiff,Int.reduceNeg,Int.reduceToNat,Int.reduceBEq,Int.reduceBNe,Int.reduceLT,Int.reduceLE,Int.reduceAdd,Int.reduceSub,Bool.and_self,Option.map_some,costV]
   try rfl
noncomputable def safeB (W Hh:Int) (S:ByteArray) (on:List Int) (step c charge:Int):Bool:=(needO W Hh S on step c).any fun n=>decide (n≤charge)
theorem safe_c {σ:H} (W Hh:Int) (S:ByteArray) {ov:Value} {on:List Int} (hr:Rd σ ov (ints on)) (c charge step:Int):
 MCalls E Tryz.prog 119 [mapV W Hh S,ov,.int .i64 c,.int .i64 charge,.int .i64 step] σ (fun v τ=>v=.bool (safeB W Hh S on step c charge)∧Ext σ τ):=by
 refine mcalls_of fn119 (by simp) ?_
 unfold c119 r119 mapV
 refine stepR0 ?_
 generalize hτ:H.push _ _=τ
 have g1:τ.get σ.size=.cells 0 [.int .i64 W,.int .i64 Hh,.string S]:=by rw [← hτ];exact H.get_push_self _ _
 have e1:Ext σ τ:=hτ ▸ Ext.push _ _
 clear hτ
 refine stepR g1 ?_
 refine ml_call Sd0 Sd0 (need_c W Hh S (hr.of_ext e1) c step) ?_
 rintro _ τ2 ⟨rfl,e2⟩
 unfold safeB
 cases hn:needO W Hh S on step c with
 | none=>
   refine stepR0 ?_
   refine fin1 ⟨?_,e1.trans e2⟩
   simp only [go_sem,reduceIte,Nat.reduceEqDiff,reduceCtorEq,Nat.reduceAdd,Nat.reduceLeDiff,Int.reduceNeg,Int.reduceToNat,Int.reduceBEq,Int.reduceBNe,Int.reduceLT,Int.reduceLE,Int.reduceAdd,Int.reduceSub,Option.isSome_none]
   try rfl
 | some n=>
   refine stepR0 ?_
   refine fin1 ⟨?_,e1.trans e2⟩
   simp only [go_sem,reduceIte,Nat.reduceEqDiff,reduceCtorEq,Nat.reduceAdd,Nat.reduceLeDiff,Int.reduceNeg,Int.reduceToNat,Int.reduceBEq,Int.reduceBNe,Int.reduceLT,Int.reduceLE,Int.reduceAdd,Int.reduceSub,Option.isSome_some]
   try rfl
theorem slIndex_c {σ:H} {v:Value} {l:List Int} (hr:Rd σ v (ints l)) (hl:l.length≤1000000) (x:Int):
 MCalls E Tryz.prog 67 [v,.int .i64 x] σ (fun r τ=>τ=σ∧((r=.int .i64 (-1)∧x ∉ l)∨∃ i:Nat,i < l.length∧r=.int .i64 i∧x ∈ l)):=by
 refine mcalls_of fn67 (by simp) ?_
 unfold c67 r67
 have hsz:(ints l).length=l.length:=ints_len _
 refine stepR0 ?_
 refine ml_len Sd0 hr Sd0 ?_
 refine stepR hsz ?_
 refine mx_loop (fun n ts τ=>∃ i:Nat,n=l.length - i∧i≤l.length∧τ=σ∧x ∉ l.take i∧ts 0=v∧ts 1=.int .i64 x∧ts 7=.int .i64 l.length∧ts 8=.int .i64 ((i:Nat):Int)) l.length ?_ ?_
 ·exact ⟨0,rfl,Nat.zero_le _,rfl,by simp,Sd0,Sd0,Sd0,Sd0⟩
 rintro n ts τ ⟨i,rfl,hi,rfl,hall,t0,t1,t7,t8⟩
 rcases Nat.lt_or_ge i l.length with hlt | hge
 ·have hm:l.getD i 0 ∈ l:=by rw [List.getD_eq_getElem?_getD,List.getElem?_eq_getElem hlt];exact List.getElem_mem hlt
  refine stepR (An t0 (An t1 (An t7 t8))) ?_
  refine ml_getS hr (Sw t0) (Sw t8) (by omega) (by rw [Int.toNat_natCast];exact ints_getD hlt) fun q=>?_
  by_cases hx:x=l.getD i 0
  ·have hx2:(x == l.getD i 0)=true:=by simpa using hx
   refine stepR (An t1 (An hx2 t8)) ?_
   exact fin1 ⟨rfl,.inr ⟨i,hlt,Sd0,by rw [hx];exact hm⟩⟩
  ·have hx2:(x == l.getD i 0)=false:=by simpa using hx
   refine stepR (An t1 (An hx2 t8)) ?_
   refine ⟨_,?_,i + 1,rfl,hlt,rfl,?_,(Sw t0),(Sw t1),(Sw t7),Sd0⟩
   ·omega
   ·rw [take_succ_getD hlt,List.mem_append,List.mem_singleton]
    rintro (h | h)
    ·exact hall h
    ·exact hx h
 ·have:i=l.length:=by omega
  subst this
  rw [List.take_length] at hall
  refine stepR (An t0 (An t1 (An t7 t8))) ?_
  exact fin1 ⟨rfl,.inl ⟨Sd0,hall⟩⟩
theorem contains_c {σ:H} {v:Value} {l:List Int} (hr:Rd σ v (ints l)) (hl:l.length≤1000000) (x:Int):
 MCalls E Tryz.prog 43 [v,.int .i64 x] σ (fun r τ=>r=.bool (decide (x ∈ l))∧τ=σ):=by
 refine mcalls_of fn43 (by simp) ?_
 unfold c43 r43
 refine stepR0 ?_
 refine ml_call Sd0 Sd0 (slIndex_c hr hl x) ?_
 rintro _ τ ⟨rfl,⟨rfl,h⟩ | ⟨i,hi,rfl,h⟩⟩
 ·refine stepR0 ?_
  refine fin1 ⟨?_,rfl⟩
  simp only [go_sem,reduceIte,Nat.reduceEqDiff,reduceCtorEq,Nat.reduceAdd,Nat.reduceLeDiff,Int.reduceNeg,Int.reduceToNat,Int.reduceBEq,Int.reduceBNe,Int.reduceLT,Int.reduceLE,Int.reduceAdd,Int.reduceSub,h]
 ·have h0:(0:Int)≤(i:Int):=by omega
  refine stepR h0 ?_
  refine fin1 ⟨?_,rfl⟩
  simp only [go_sem,reduceIte,Nat.reduceEqDiff,reduceCtorEq,Nat.reduceAdd,Nat.reduceLeDiff,Int.reduceNeg,Int.reduceToNat,Int.reduceBEq,Int.reduceBNe,Int.reduceLT,Int.reduceLE,Int.reduceAdd,Int.reduceSub,h,h0]
noncomputable def mayB (W Hh:Int) (S:ByteArray) (on:List Int) (step c to charge:Int):Bool:=
 decide (to ∈ gnear W Hh S c (gr W Hh S)) && decide (step≤charge) && safeB W Hh S on step to (charge - step)
theorem safeB_ok {W Hh:Int} {S:ByteArray} {on:List Int} {step c charge:Int} (h:safeB W Hh S on step c charge=true):1≤step∧step≤100:=by
 unfold safeB needO at h
 split at h
 ·rename_i h1
  simp only [Bool.and_eq_true] at h1
  have:=costOK_iff.1 h1.1
  exact ⟨this.2.1,this.2.2.1⟩
 ·simp at h
theorem gnear_len (W Hh:Int) (S:ByteArray) (c:Int) (b:Bool):(gnear W Hh S c b).length≤4:=by
 unfold gnear;split
 ·exact nearL_len W S c
 ·simp
theorem may_c {σ:H} (W Hh:Int) (S:ByteArray) {ov:Value} {on:List Int} (hr:Rd σ ov (ints on)) (c to charge step:Int) (h1:-9223372036854775808≤charge) (h2:charge≤9223372036854775807) (h3:-9223372036854775808≤step) (h4:step≤9223372036854775807):
 MCalls E Tryz.prog 149 [mapV W Hh S,ov,.int .i64 c,.int .i64 to,.int .i64 charge,.int .i64 step] σ (fun v τ=>v=.bool (mayB W Hh S on step c to charge)∧Ext σ τ):=by
 refine mcalls_of fn149 (by simp) ?_
 unfold c149 r149 mapV
 refine stepR0 ?_
 generalize hτ:H.push _ _=τ
 have g1:τ.get σ.size=.cells 0 [.int .i64 W,.int .i64 Hh,.string S]:=by rw [← hτ];exact H.get_push_self _ _
 have e1:Ext σ τ:=hτ ▸ Ext.push _ _
 clear hτ
 refine stepR g1 ?_
 refine ml_call Sd0 Sd0 (gnear_c W Hh S c τ) ?_
 rintro nv τ2 ⟨e2,no,nown,_⟩
 refine stepR0 ?_
 refine ml_call Sd0 Sd0 (contains_c nown.rd (by have:=gnear_len W Hh S c (gr W Hh S);omega) to) ?_
 rintro _ τ2 ⟨rfl,rfl⟩
 have g2:=e2.cells g1
 unfold mayB
 by_cases hin:to ∈ gnear W Hh S c (gr W Hh S)
 ·by_cases hs:step≤charge
  ·refine stepR (An hin (An hs g2)) ?_
   refine ml_call (Sw (An hin hs)) Sd0 (safe_c W Hh S (hr.of_ext (e1.trans e2)) to (IntKind.i64.wrap (charge - step)) step) ?_
   rintro _ τ3 ⟨rfl,e3⟩
   refine stepR (An hin hs) ?_
   refine fin1 ⟨?_,e1.trans (e2.trans e3)⟩
   simp only [go_sem,reduceIte,Nat.reduceEqDiff,reduceCtorEq,Nat.reduceAdd,Nat.reduceLeDiff,Int.reduceNeg,Int.reduceToNat,Int.reduceBEq,Int.reduceBNe,Int.reduceLT,Int.reduceLE,Int.reduceAdd,Int.reduceSub,hin,hs,Bool.true_and]
   rw [Value.bool.injEq]
   by_cases hw:1≤step∧step≤100
   ·rw [i64wrap (by omega) (by omega)]
   ·have a1:safeB W Hh S on step to (IntKind.i64.wrap (charge - step))=false:=by
     rw [← Bool.not_eq_true];exact fun h=>hw (safeB_ok h)
    have a2:safeB W Hh S on step to (charge - step)=false:=by
     rw [← Bool.not_eq_true];exact fun h=>hw (safeB_ok h)
    rw [a1,a2]
  ·refine stepR (An hin hs) ?_
   refine fin1 ⟨?_,e1.trans e2⟩
   simp only [go_sem,reduceIte,Nat.reduceEqDiff,reduceCtorEq,Nat.reduceAdd,Nat.reduceLeDiff,Int.reduceNeg,Int.reduceToNat,Int.reduceBEq,Int.reduceBNe,Int.reduceLT,Int.reduceLE,Int.reduceAdd,Int.reduceSub,hin,hs,Bool.and_false,Bool.false_and]
 ·refine stepR hin ?_
  refine fin1 ⟨?_,e1.trans e2⟩
  simp only [go_sem,reduceIte,Nat.reduceEqDiff,reduceCtorEq,Nat.reduceAdd,Nat.reduceLeDiff,Int.reduceNeg,Int.reduceToNat,Int.reduceBEq,Int.reduceBNe,Int.reduceLT,Int.reduceLE,Int.reduceAdd,Int.reduceSub,hin,Bool.false_and]
end Go.Proofs.YtoejdgoicoaomaaGreatDoor
namespace Go.Proofs.YtoejdgoicoaomaaGreatDoor
open Go.Mini
open Go.Proofs.YtoejdgoicoaomaaGreatDoor.Code
attribute [local irreducible] mx ml mld mstep MCalls Ex.thn Ex.inb
variable {E:World→Prop}
def exS:ByteArray:=⟨#[46,67]⟩
end Go.Proofs.YtoejdgoicoaomaaGreatDoor
namespace Go.Proofs.YtoejdgoicoaomaaGreatDoor
open Go.RowKit Go.Extern.Stop Go.Stop Go.Extern
def ErrType (w:World):Prop:=w.cell? ⟨0,0,none⟩=some (.iface 134 (.agg #[.pointer (some ⟨4,42,none⟩)]))
inductive EChain (w:World):Nat→Value→Int→Prop where
 | num (k:Int):EChain w 0 (.iface 78 (.int .i64 k)) k
 | tag {n:Nat} {b o:Nat} {v:Value} {k:Int} (h:w.cell? ⟨b,o + 1,none⟩=some v) (t:EChain w n v k):EChain w (n + 1) (.iface 92 (.pointer (some ⟨b,o,none⟩))) k
theorem EChain.ofBelow {w w':World} (hb:Below w.heap.size w w') {n:Nat} {v:Value} {k:Int} (h:EChain w n v k):EChain w' n v k:=by
 induction h with
 | num k=>exact .num k
 | @tag n b o v k h t ih=>
   refine .tag ?_ ih
   have hlt:b < w.heap.size:=by
    rcases Nat.lt_or_ge b w.heap.size with x | x
    ·exact x
    ·simp [World.cell?,Array.getElem?_eq_none x] at h
   simp only [World.cell?] at h ⊢
   rw [hb.block b hlt];exact h
theorem Tryz.valueOfP (t:Addr) (w:World):(ReflectliteValue.unpack (.iface 81 (.pointer (some t)))).run Tryz.prog w
 = .ok (.agg #[.pointer (some ⟨4,81,none⟩),.pointer (some ⟨w.heap.size,0,none⟩),.int .u64 150]) (w.alloc (.cells #[.pointer (some t)] 81)):=by kernel_rfl
theorem Tryz.typeP (a:Addr) (w:World):(ReflectliteValue.methodAny (ReflectliteValue.valueError "reflectlite.Value.Type" 0) (fun t _ _ _=>ReflectliteType.toType t) #[.agg #[.pointer (some ⟨4,81,none⟩),.pointer (some a),.int .u64 150]]).run Tryz.prog w
 = .ok (.iface 134 (.agg #[.pointer (some ⟨4,81,none⟩)])) w:=by kernel_rfl
theorem Tryz.methodKind (h:Value) (w:World):(Go.method 362 134 (.agg #[h]) "Kind").run Tryz.prog w=.ok (180,h) w:=by kernel_rfl
theorem Tryz.kindP (w:World):((ReflectliteType.abiMethod fun t=>(fun a:Nat=>Value.int IntKind.u8 (a:Int)) <$> Rtype.kind t) #[.pointer (some ⟨4,81,none⟩)]).run Tryz.prog w=.ok (.int .u8 22) w:=by kernel_rfl
theorem Tryz.kindE (w:World):((ReflectliteType.abiMethod fun t=>(fun a:Nat=>Value.int IntKind.u8 (a:Int)) <$> Rtype.kind t) #[.pointer (some ⟨4,78,none⟩)]).run Tryz.prog w=.ok (.int .u8 2) w:=by kernel_rfl
theorem as_rlm (z:Sem Value) (f:TypeId→Addr→Nat→Nat→Sem Value) (v:Value):
 ReflectliteValue.method z f #[v]=(do match ← ReflectliteValue.parts v with | none=>z | some (t,a,fl)=>f t a fl (fl % 32)):=rfl
theorem Tryz.partsP (a:Addr) (w:World):(ReflectliteValue.parts (.agg #[.pointer (some ⟨4,81,none⟩),.pointer (some a),.int .u64 150])).run Tryz.prog w=.ok (some (81,a,150)) w:=by kernel_rfl
theorem Tryz.isNilP (a p:Addr) (W:World) (ha:W.cell? a=some (.pointer (some p))):
 (ReflectliteValue.method (ReflectliteValue.valueError "reflectlite.Value.IsNil" 0) ReflectliteValue.isNil #[.agg #[.pointer (some ⟨4,81,none⟩),.pointer (some a),.int .u64 150]]).run Tryz.prog W=.ok (.bool false) W:=by
 rw [as_rlm]
 simp only [Sem.run_bind,Tryz.partsP,Result.andThen]
 simp [ReflectliteValue.isNil,loadVar,isAgg,underlying,Tryz.underlying81,ha,Result.andThen]
theorem Tryz.methodElem (h:Value) (w:World):(Go.method 362 134 (.agg #[h]) "Elem").run Tryz.prog w=.ok (192,.agg #[h]) w:=by kernel_rfl
theorem Tryz.methodImplements (h:Value) (w:World):(Go.method 362 134 (.agg #[h]) "Implements").run Tryz.prog w=.ok (193,.agg #[h]) w:=by kernel_rfl
theorem Tryz.methodAssignableTo (h:Value) (w:World):(Go.method 362 134 (.agg #[h]) "AssignableTo").run Tryz.prog w=.ok (190,.agg #[h]) w:=by kernel_rfl
theorem Tryz.methodUnwrap (h:Value) (w:World):(Go.method 362 92 h "Unwrap").run Tryz.prog w=.ok (185,h) w:=by kernel_rfl
theorem Tryz.elemP (w:World):(ReflectliteType.method ReflectliteType.elem #[.agg #[.pointer (some ⟨4,81,none⟩)]]).run Tryz.prog w=.ok (.iface 134 (.agg #[.pointer (some ⟨4,78,none⟩)])) w:=by kernel_rfl
theorem Tryz.implementsE (w:World):(ReflectliteType.relation "Implements" ReflectliteType.implements_ #[.agg #[.pointer (some ⟨4,78,none⟩)],.iface 134 (.agg #[.pointer (some ⟨4,42,none⟩)])]).run Tryz.prog w=.ok (.bool true) w:=by kernel_rfl
theorem Tryz.typeOfE (v:Value) (w:World):(ReflectliteType.typeOf #[.iface 78 v]).run Tryz.prog w=.ok (.iface 134 (.agg #[.pointer (some ⟨4,78,none⟩)])) w:=by kernel_rfl
theorem Tryz.typeOfT (v:Value) (w:World):(ReflectliteType.typeOf #[.iface 92 v]).run Tryz.prog w=.ok (.iface 134 (.agg #[.pointer (some ⟨4,92,none⟩)])) w:=by kernel_rfl
theorem Tryz.assignableE (w:World):(ReflectliteType.relation "AssignableTo" ReflectliteType.assignableTo #[.agg #[.pointer (some ⟨4,78,none⟩)],.iface 134 (.agg #[.pointer (some ⟨4,78,none⟩)])]).run Tryz.prog w=.ok (.bool true) w:=by kernel_rfl
theorem Tryz.assignableT (w:World):(ReflectliteType.relation "AssignableTo" ReflectliteType.assignableTo #[.agg #[.pointer (some ⟨4,92,none⟩)],.iface 134 (.agg #[.pointer (some ⟨4,78,none⟩)])]).run Tryz.prog w=.ok (.bool false) w:=by kernel_rfl
theorem Tryz.valueOfE (k:Int) (w:World):(ReflectliteValue.unpack (.iface 78 (.int .i64 k))).run Tryz.prog w
 = .ok (.agg #[.pointer (some ⟨4,78,none⟩),.pointer (some ⟨w.heap.size,0,none⟩),.int .u64 130]) (w.alloc (.cells #[.int .i64 k] 78)):=by kernel_rfl
theorem Tryz.elemOfP (w:World):(Rtype.elem? 81).run Tryz.prog w=.ok (some 78) w:=by kernel_rfl
theorem Tryz.mkE (p:Addr) (w:World):(ReflectliteValue.mk 78 p ReflectliteValue.flagAddr).run Tryz.prog w=.ok (.agg #[.pointer (some ⟨4,78,none⟩),.pointer (some p),.int .u64 386]) w:=by kernel_rfl
theorem Tryz.elemVP (a p:Addr) (W:World) (ha:W.cell? a=some (.pointer (some p))):
 (ReflectliteValue.method (ReflectliteValue.valueError "reflectlite.Value.Elem" 0) ReflectliteValue.elem #[.agg #[.pointer (some ⟨4,81,none⟩),.pointer (some a),.int .u64 150]]).run Tryz.prog W
   = .ok (.agg #[.pointer (some ⟨4,78,none⟩),.pointer (some p),.int .u64 386]) W:=by
 rw [as_rlm]
 simp only [Sem.run_bind,Tryz.partsP,Result.andThen]
 simp [ReflectliteValue.elem,loadVar,isAgg,underlying,Tryz.underlying81,ha,Result.andThen,Tryz.elemOfP,Tryz.mkE]
theorem as_rls (v x:Value):ReflectliteValue.set #[v,x]=(do
 let (some (dst,a,fl),some (src,b,_)):=(← ReflectliteValue.parts v,← ReflectliteValue.parts x)
  | unsupported (.noEntry "extern/(internal/reflectlite.Value).Set.zeroValue")
 if fl / ReflectliteValue.flagAddr % 2 == 0 then unsupported (.noEntry "extern/(internal/reflectlite.Value).Set.unaddressable")
 let val ← loadVar src b
 if ← Rtype.directlyAssignable dst src then storeVar dst a val
 else if ← Rtype.implements dst src then
  if (← Rtype.kind src) == 20 then
   match val with
   | .nilIface=>unsupported (.noEntry "extern/reflectlite: a nil value of one interface type handed on as a value of another")
   | _=>storeVar dst a val
  else storeVar dst a (.iface src val)
 else panicString ("reflectlite.Set: value of type " ++ (← Rtype.spelt src) ++ " is not assignable to type " ++ (← Rtype.spelt dst))
 pure (.tuple #[])):=rfl
theorem Tryz.partsEa (a:Addr) (w:World):(ReflectliteValue.parts (.agg #[.pointer (some ⟨4,78,none⟩),.pointer (some a),.int .u64 386])).run Tryz.prog w=.ok (some (78,a,386)) w:=by kernel_rfl
theorem Tryz.partsE (a:Addr) (w:World):(ReflectliteValue.parts (.agg #[.pointer (some ⟨4,78,none⟩),.pointer (some a),.int .u64 130])).run Tryz.prog w=.ok (some (78,a,130)) w:=by kernel_rfl
theorem Tryz.directE (w:World):(Rtype.directlyAssignable 78 78).run Tryz.prog w=.ok true w:=by kernel_rfl
theorem Tryz.setE (ta b:Addr) (k:Int) (old:Value) (W:World) (hb:W.cell? b=some (.int .i64 k)) (ht:W.cell? ta=some old) (hf:W.frozen? ta=false):
 (ReflectliteValue.set #[.agg #[.pointer (some ⟨4,78,none⟩),.pointer (some ta),.int .u64 386],.agg #[.pointer (some ⟨4,78,none⟩),.pointer (some b),.int .u64 130]]).run Tryz.prog W
   = .ok (.tuple #[]) (W.setCell ta (.int .i64 k)):=by
 rw [as_rls]
 simp only [Sem.run_bind,Tryz.partsEa,Tryz.partsE,Result.andThen]
 simp [ReflectliteValue.flagAddr,loadVar,isAgg,underlying,Tryz.underlying78,hb,Result.andThen,Tryz.directE,storeVar,Value.cells,storeCells,Addr.add]
 rw [run_store Tryz.prog W ta _ _ (by rfl)]
 simp [ht,hf]
theorem Tryz.noAsT (v:Value) (xT:TypeId) (w:World):(Instr.typeAssert (.iface 92 v) xT 139 true).run Tryz.prog w=.ok (.tuple #[.nilIface,.bool false]) w:=run_typeAssert_lacksB Tryz.underlying139 (by kernel_rfl) (by kernel_rfl) v xT w
theorem Tryz.unT (v:Value) (xT:TypeId) (w:World):(Instr.typeAssert (.iface 92 v) xT 142 true).run Tryz.prog w=.ok (.tuple #[.iface 92 v,.bool true]) w:=run_typeAssert_hasB Tryz.underlying142 (by kernel_rfl) v xT w
end Go.Proofs.YtoejdgoicoaomaaGreatDoor
namespace Go.Proofs.YtoejdgoicoaomaaGreatDoor
open Go.RowKit Go.Extern.Stop Go.Stop Go.Extern
theorem unwrap_c (b o:Nat) (v:Value) (w:World) (h:w.cell? ⟨b,o + 1,none⟩=some v):Calls Tryz.prog 185 #[.pointer (some ⟨b,o,none⟩)] w fun e w'=>e=.returned v∧w'=w:=by
 go_enter Tryz.func185,Tryz.ntmps185
 go_wp2
 go_ret
 exact ⟨rfl,rfl⟩
set_option maxHeartbeats 4000000 in
theorem as_c (n:Nat) (v:Value) (k:Int) (t p:Addr) (old:Value) (w:World) (hc:EChain w n v k) (ht0:w.cell? t=some old) (hf0:w.frozen? t=false) (hp:w.cell? p=some (.pointer (some t))):
 Calls Tryz.prog 51 #[v,.iface 81 (.pointer (some t)),.agg #[.pointer (some ⟨4,81,none⟩),.pointer (some p),.int .u64 150],.iface 134 (.agg #[.pointer (some ⟨4,78,none⟩)])] w
  fun e w'=>e=.returned (.bool true)∧∃ w2,Below w.heap.size w w2∧w'=w2.setCell t (.int .i64 k):=by
 have h73:=@run_callFunc_extern Tryz.prog 48 _ (fun args=>ReflectliteValue.unpack (args.getD 0 (.tuple #[]))) Tryz.func48 (by kernel_rfl) (by kernel_rfl) (by kernel_rfl) (by kernel_rfl)
 have h99:=@run_callFunc_extern Tryz.prog 77 _ ReflectliteType.typeOf Tryz.func77 (by kernel_rfl) (by kernel_rfl) (by kernel_rfl) (by kernel_rfl)
 have h140:=@run_callFunc_extern Tryz.prog 190 _ (ReflectliteType.relation "AssignableTo" ReflectliteType.assignableTo) Tryz.func190 (by kernel_rfl) (by kernel_rfl) (by kernel_rfl) (by kernel_rfl)
 have h100:=@run_callFunc_extern Tryz.prog 78 _ (ReflectliteValue.method (ReflectliteValue.valueError "reflectlite.Value.Elem" 0) ReflectliteValue.elem) Tryz.func78 (by kernel_rfl) (by kernel_rfl) (by kernel_rfl) (by kernel_rfl)
 have h101:=@run_callFunc_extern Tryz.prog 79 _ ReflectliteValue.set Tryz.func79 (by kernel_rfl) (by kernel_rfl) (by kernel_rfl) (by kernel_rfl)
 have tE:=Tryz.typeOfE
 have tT:=Tryz.typeOfT
 have mA:=Tryz.methodAssignableTo
 have mU:=Tryz.methodUnwrap
 have aE:=Tryz.assignableE
 have aT:=Tryz.assignableT
 have vE:=Tryz.valueOfE
 have nA:=Tryz.noAsT
 have uT:=Tryz.unT
 go_enter Tryz.func51,Tryz.ntmps51
 go_wp2
 have hlt:∀ {a:Addr} {u:Value},w.cell? a=some u→a.block < w.heap.size:=fun {a u} h=>by
  rcases Nat.lt_or_ge a.block w.heap.size with x | x
  ·exact x
  ·simp [World.cell?,Array.getElem?_eq_none x] at h
 have htl:=hlt ht0
 have hpl:=hlt hp
 obtain ⟨W1,hW1⟩:∃ W1,w.alloc (Obj.cells #[Value.pointer (some { block:=4,off:=81 }),Value.pointer (some p),Value.int IntKind.u64 150] 98)=W1:=⟨_,rfl⟩
 have hb1:Below w.heap.size w W1:=hW1 ▸ (Below.refl _ w).alloc (Nat.le_refl _) _
 have ht1:W1.cell? t=some old:=by rw [← hW1,World.cell?_alloc_lt _ _ t htl];exact ht0
 have hf1:W1.frozen? t=false:=by rw [← hW1,World.frozen?_alloc_old _ _ t (Nat.ne_of_lt htl)];exact hf0
 have hp1:W1.cell? p=some (.pointer (some t)):=by rw [← hW1,World.cell?_alloc_lt _ _ p hpl];exact hp
 have q0:W1.cell? ⟨w.heap.size,0,none⟩=some (.pointer (some ⟨4,81,none⟩)):=by rw [← hW1,World.cell?_alloc_at _ _ _ _ (by simp)];rfl
 have q1:W1.cell? ⟨w.heap.size,1,none⟩=some (.pointer (some p)):=by rw [← hW1,World.cell?_alloc_at _ _ _ _ (by simp)];rfl
 have q2:W1.cell? ⟨w.heap.size,2,none⟩=some (.int .u64 150):=by rw [← hW1,World.cell?_alloc_at _ _ _ _ (by simp)];rfl
 have hc1:=hc.ofBelow hb1
 have hlt1:∀ {a:Addr} {u:Value},W1.cell? a=some u→a.block < W1.heap.size:=fun {a u} h=>by
  rcases Nat.lt_or_ge a.block W1.heap.size with x | x
  ·exact x
  ·simp [World.cell?,Array.getElem?_eq_none x] at h
 have el:=Tryz.elemVP p t W1 hp1
 have st:=Tryz.setE t ⟨W1.heap.size,0,none⟩ k old (W1.alloc (.cells #[.int .i64 k] 78)) (by rw [World.cell?_alloc_at _ _ _ _ (by simp)];rfl)
  (by rw [World.cell?_alloc_lt _ _ t (hlt1 ht1)];exact ht1) (by rw [World.frozen?_alloc_old _ _ t (Nat.ne_of_lt (hlt1 ht1))];exact hf1)
 have hend:∃ w2,Below w.heap.size w w2∧(W1.alloc (.cells #[.int .i64 k] 78)).setCell t (.int .i64 k)=w2.setCell t (.int .i64 k):=⟨_,hb1.alloc hb1.size _,rfl⟩
 generalize hN:w.heap.size=N at *
 have hNA:Aside (w.heap.size=N):=hN
 rw [hW1]
 clear hN hW1 ht0 hf0 hp hc htl hpl hlt
 go_loopg [0] (n + 1) (fun gk v wr=>wr=W1∧∃ m,gk=m + 1∧EChain W1 m v k)
 case atStart=>exact ⟨rfl,n,rfl,hc1⟩
 case round=>
  obtain ⟨rfl,m,rfl,hch⟩:=hrel
  cases hch with
  | num k=>
    go_wp2
    go_ret
    exact ⟨rfl,by rw [hNA.out];exact hend⟩
  | @tag n b o v k h ht=>
    have hu:=unwrap_c b o _ wr h
    cases ht with
    | num k=>
      go_wp2_with (go_at_call 185;refine hu.mono ?_;rintro e w' ⟨rfl,rfl⟩)
      go_roundg 1
      case measure=>omega
      case rel=>exact ⟨rfl,0,rfl,.num _⟩
    | @tag n2 b2 o2 v2 k h2 ht2=>
      go_wp2_with (go_at_call 185;refine hu.mono ?_;rintro e w' ⟨rfl,rfl⟩)
      go_roundg (n2 + 2)
      case measure=>omega
      case rel=>exact ⟨rfl,n2 + 1,rfl,.tag h2 ht2⟩
theorem ErrType.lt {w:World} (h:ErrType w):0 < w.heap.size:=by
 rcases Nat.lt_or_ge 0 w.heap.size with h1 | h0
 ·exact h1
 ·simp [ErrType,World.cell?,Array.getElem?_eq_none h0] at h
theorem ErrType.ofBelow {w w':World} (h:ErrType w) (hb:Below w.heap.size w w'):ErrType w':=by
 have:=h.lt
 unfold ErrType at *
 simp only [World.cell?] at h ⊢
 rw [hb.block 0 this];exact h
set_option maxHeartbeats 4000000 in
theorem errorsAs_c (n:Nat) (v:Value) (k:Int) (t:Addr) (old:Value) (w:World) (hg:ErrType w) (hc:EChain w n v k) (ht0:w.cell? t=some old) (hf0:w.frozen? t=false):
 Calls Tryz.prog 34 #[v,.iface 81 (.pointer (some t))] w
  fun e w'=>e=.returned (.bool true)∧∃ w2,Below w.heap.size w w2∧w'=w2.setCell t (.int .i64 k):=by
 have h73:=@run_callFunc_extern Tryz.prog 48 _ (fun args=>ReflectliteValue.unpack (args.getD 0 (.tuple #[]))) Tryz.func48 (by kernel_rfl) (by kernel_rfl) (by kernel_rfl) (by kernel_rfl)
 have h74:=@run_callFunc_extern Tryz.prog 49 _ (ReflectliteValue.methodAny (ReflectliteValue.valueError "reflectlite.Value.Type" 0) (fun t _ _ _=>ReflectliteType.toType t)) Tryz.func49 (by kernel_rfl) (by kernel_rfl) (by kernel_rfl) (by kernel_rfl)
 have h75:=@run_callFunc_extern Tryz.prog 50 _ (ReflectliteValue.method (ReflectliteValue.valueError "reflectlite.Value.IsNil" 0) ReflectliteValue.isNil) Tryz.func50 (by kernel_rfl) (by kernel_rfl) (by kernel_rfl) (by kernel_rfl)
 have h129:=@run_callFunc_extern Tryz.prog 180 _ (ReflectliteType.abiMethod fun t=>do pure (.int .u8 (← Rtype.kind t))) Tryz.func180 (by kernel_rfl) (by kernel_rfl) (by kernel_rfl) (by kernel_rfl)
 have h142:=@run_callFunc_extern Tryz.prog 192 _ (ReflectliteType.method ReflectliteType.elem) Tryz.func192 (by kernel_rfl) (by kernel_rfl) (by kernel_rfl) (by kernel_rfl)
 have h143:=@run_callFunc_extern Tryz.prog 193 _ (ReflectliteType.relation "Implements" ReflectliteType.implements_) Tryz.func193 (by kernel_rfl) (by kernel_rfl) (by kernel_rfl) (by kernel_rfl)
 have vP:=Tryz.valueOfP
 have tP:=Tryz.typeP
 have mK:=Tryz.methodKind
 have mE:=Tryz.methodElem
 have mI:=Tryz.methodImplements
 have kP:=Tryz.kindP
 have kE:=Tryz.kindE
 have eP:=Tryz.elemP
 have iE:=Tryz.implementsE
 have hlt:∀ {a:Addr} {u:Value},w.cell? a=some u→a.block < w.heap.size:=fun {a u} h=>by
  rcases Nat.lt_or_ge a.block w.heap.size with x | x
  ·exact x
  ·simp [World.cell?,Array.getElem?_eq_none x] at h
 have htl:=hlt ht0
 have hvv:∃ T x,v=.iface T x:=by cases hc with
  | num k=>exact ⟨_,_,rfl⟩
  | tag h t=>exact ⟨_,_,rfl⟩
 obtain ⟨T,x,rfl⟩:=hvv
 obtain ⟨W1,hW1⟩:∃ W1,w.alloc (Obj.cells #[Value.pointer (some t)] 81)=W1:=⟨_,rfl⟩
 obtain ⟨W2,hW2⟩:∃ W2,W1.alloc (Obj.cells #[Value.pointer (some { block:=4,off:=81 }),Value.pointer (some ⟨w.heap.size,0,none⟩),Value.int IntKind.u64 150] 98)=W2:=⟨_,rfl⟩
 have hb1:Below w.heap.size w W1:=hW1 ▸ (Below.refl _ w).alloc (Nat.le_refl _) _
 have hb2:Below w.heap.size w W2:=hW2 ▸ hb1.alloc hb1.size _
 have s1:W1.heap.size=w.heap.size + 1:=by rw [← hW1];simp
 have g2:=hg.ofBelow hb2
 have c2:=hc.ofBelow hb2
 have p1:W1.cell? ⟨w.heap.size,0,none⟩=some (.pointer (some t)):=by rw [← hW1,World.cell?_alloc_at _ _ _ _ (by simp)];rfl
 have p2:W2.cell? ⟨w.heap.size,0,none⟩=some (.pointer (some t)):=by rw [← hW2,World.cell?_alloc_lt _ _ _ (by simp;omega)];exact p1
 have t2:W2.cell? t=some old:=by rw [← hW2,World.cell?_alloc_lt _ _ t (by omega),← hW1,World.cell?_alloc_lt _ _ t htl];exact ht0
 have f2:W2.frozen? t=false:=by rw [← hW2,World.frozen?_alloc_old _ _ t (by omega),← hW1,World.frozen?_alloc_old _ _ t (Nat.ne_of_lt htl)];exact hf0
 have n8:=Tryz.isNilP ⟨w.heap.size,0,none⟩ t W2 p2
 have ca:=as_c n _ k t ⟨w.heap.size,0,none⟩ old W2 c2 t2 f2 p2
 have hend:∀ w2,Below W2.heap.size W2 w2→∃ w3,Below w.heap.size w w3∧w2.setCell t (.int .i64 k)=w3.setCell t (.int .i64 k):=fun w2 h=>⟨w2,hb2.trans (h.mono hb2.size),rfl⟩
 have g2':W2.cell? ⟨0,0,none⟩=some (.iface 134 (.agg #[.pointer (some ⟨4,42,none⟩)])):=g2
 clear s1
 clear c2 g2 hb2 hb1 hlt htl t2 f2 p1 p2 hc ht0 hf0 hg
 subst hW2
 subst hW1
 go_enter Tryz.func34,Tryz.ntmps34
 go_wp2_with (go_at_call 51;refine ca.mono ?_;rintro e w' ⟨rfl,w2,hb,rfl⟩)
 go_ret
 exact ⟨rfl,hend _ hb⟩
end Go.Proofs.YtoejdgoicoaomaaGreatDoor
namespace Go.Proofs.YtoejdgoicoaomaaGreatDoor
open Go.Mini Go.RowKit
open Go.Proofs.YtoejdgoicoaomaaGreatDoor.Code
attribute [local irreducible] mx ml mld mstep Ex.thn Ex.inb
inductive SChain (σ:H):Nat→Value→Int→Prop where
 | num (k:Int):SChain σ 0 (.iface 78 (.int .i64 k)) k
 | tag {n id:Nat} {v:Value} {k:Int} {s:Value} (h:σ.get id=.cells 0 [s,v]) (t:SChain σ n v k):SChain σ (n + 1) (.iface 92 (.pointer (some ⟨id,0,none⟩))) k
theorem SChain.of_ext {σ τ:H} (e:Ext σ τ) {n:Nat} {v:Value} {k:Int} (h:SChain σ n v k):SChain τ n v k:=by
 induction h with
 | num k=>exact .num k
 | tag h t ih=>exact .tag (e.cells h) ih
theorem TagE.chain {σ:H} {v:Value} {name:ByteArray} {n:Int} (h:TagE σ v name n):SChain σ 1 v n:=by
 obtain ⟨id,rfl,h2⟩:=h
 exact .tag h2 (.num n)
theorem SChain.echain {B:Fz} {w0 w:World} {μ:Nat→Blk} {σ:H} (hs:Sim B w0 μ σ w) {n:Nat} {v:Value} {k:Int} (h:SChain σ n v k):∀ {v'},VR μ σ.size v v'→EChain w n v' k:=by
 induction h with
 | num k=>
   intro v' hv
   obtain ⟨x,rfl,hx⟩:=hv.inv_iface
   obtain rfl:=hx.inv_int
   exact .num k
 | @tag n id v k s h t ih=>
   intro v' hv
   obtain ⟨x,rfl,hx⟩:=hv.inv_iface
   obtain ⟨hid,rfl⟩:=hx.inv_ptr
   obtain ⟨u,h1,h2⟩:=hs.cell (id:=id) (off:=1) (v:=v) (by simp [H.cell,h])
   exact .tag h1 (ih h2)
theorem ErrType.sim {B:Fz} {w0 w:World} {μ:Nat→Blk} {σ:H} (hs:Sim B w0 μ σ w) (h:ErrType w0):ErrType w:=by
 have:=h.lt
 unfold ErrType at *
 simp only [World.cell?] at h ⊢
 rw [hs.below.block 0 (by have:=hs.wh;omega)];exact h
theorem frozen_of {w:World} {b i:Nat} {c:Array Value} {t:TypeId} {fz:Nat × Nat} (h:w.heap[b]?=some (.cells c t fz)) (hz:Unfrozen c fz) (hi:i < c.size):w.frozen? ⟨b,i,none⟩=false:=by
 simp only [World.frozen?,h]
 have:=hz i hi
 simp only [Bool.and_eq_false_iff,decide_eq_false_iff_not]
 rcases Nat.lt_or_ge i fz.1 with y | y
 ·exact .inl (by omega)
 ·exact .inr (fun x=>this ⟨y,x⟩)
theorem setCell_at {w:World} {b i:Nat} {c:Array Value} {t:TypeId} {fz:Nat × Nat} (h:w.heap[b]?=some (.cells c t fz)) (v:Value):
 w.setCell ⟨b,i,none⟩ v={ w with heap:=w.heap.setIfInBounds b (.cells (c.setIfInBounds i v) t fz) }:=by
 unfold World.setCell
 congr 1
 apply Array.ext_getElem?
 intro k
 have hb:b < w.heap.size:=by
  rcases Nat.lt_or_ge b w.heap.size with y | y
  ·exact y
  ·rw [Array.getElem?_eq_none y] at h;cases h
 rw [Array.getElem?_modify,Array.getElem?_setIfInBounds]
 split
 ·rename_i e;subst e;show Option.map _ (w.heap[b]?)=_;rw [h];simp [hb]
 ·rfl
theorem errorsAs_m {E:World→Prop} (hE:∀ w,E w→ErrType w) {n:Nat} {v:Value} {k x:Int} {tid:Nat} {σ:H} (hc:SChain σ n v k) (ht:σ.get tid=.cells 0 [.int .i64 x]):
 MCalls E Tryz.prog 34 [v,.iface 81 (.pointer (some ⟨tid,0,none⟩))] σ (fun r τ=>r=.bool true∧SetTo σ tid (.cells 0 [.int .i64 k]) τ):=by
 refine ⟨by kernel_rfl,fun B w0 μ w args' he hs ha=>?_⟩
 obtain ⟨v',h0,hv⟩:=ha.get (i:=0) rfl
 obtain ⟨t',h1,hv1⟩:=ha.get (i:=1) rfl
 have hl:=ha.length
 obtain ⟨p,rfl,hp⟩:=hv1.inv_iface
 obtain ⟨hid,rfl⟩:=hp.inv_ptr
 obtain rfl:args'=[v',.iface 81 (.pointer (some ⟨(μ tid).b,(μ tid).o + 0,none⟩))]:=by
  match args',hl,h0,h1 with
  | [a,b],_,h0,h1=>simp at h0 h1;rw [h0,h1];rfl
 obtain ⟨_,cs',t,fz,hb,⟨hz,hn⟩,hcs⟩:=hs.own tid 0 _ ht
 obtain ⟨y,hy,hyv⟩:=hcs 0 _ rfl
 have hyo:(μ tid).o + 0 < cs'.size:=by
  rcases Nat.lt_or_ge ((μ tid).o + 0) cs'.size with q | q
  ·exact q
  ·rw [Array.getElem?_eq_none q] at hy;cases hy
 have hlt:(μ tid).b < w.heap.size:=hs.fin tid hid
 refine (errorsAs_c n v' k ⟨(μ tid).b,(μ tid).o + 0,none⟩ y w ((hE _ he).sim hs) (hc.echain hs hv) (by simp [World.cell?,hb];simpa using hy) (frozen_of hb hz hyo)).mono ?_
 rintro e w' ⟨rfl,w2,hbel,rfl⟩
 have hs2:=hs.of_grown hbel
 have hb2:w2.heap[(μ tid).b]?=some (.cells cs' t fz):=by rw [hbel.block _ hlt];exact hb
 refine ⟨.bool true,.bool true,σ.set tid (.cells 0 [.int .i64 k]),μ,rfl,⟨rfl,.mk' (H.lt_of_cells ht)⟩,?_,.bool true,.refl _ _,by simp⟩
 refine hs2.setOwn ht (setCell_at hb2 _) ⟨fun j hj=>hz j (by simpa using hj),by simpa using hn⟩ (.inl ⟨_,rfl,fun j u hu=>?_⟩)
 match j,hu with
 | 0,hu=>
   simp at hu;subst hu
   exact ⟨.int .i64 k,by rw [Array.getElem?_setIfInBounds,if_pos rfl,if_pos hyo],.int _ _⟩
attribute [local irreducible] MCalls
theorem tNum_c {E:World→Prop} (hE:∀ w,E w→ErrType w) {n:Nat} {v:Value} {k:Int} {σ:H} (hc:SChain σ n v k):MCalls E Tryz.prog 17 [v] σ (fun r τ=>r=.int .i64 k∧Ext σ τ):=by
 have hv:∃ T x,v=.iface T x:=by cases hc with
  | num k=>exact ⟨_,_,rfl⟩
  | tag h t=>exact ⟨_,_,rfl⟩
 obtain ⟨T,x,rfl⟩:=hv
 refine mcalls_of fn17 (by simp) ?_
 unfold c17 r17
 refine stepR0 ?_
 have hg:=H.get_push_self σ (.cells 0 [.int .i64 0])
 have e1:Ext σ (σ.push (.cells 0 [.int .i64 0])):=Ext.push _ _
 refine ml_call Sd0 Sd0 (errorsAs_m hE (hc.of_ext e1) hg) ?_
 rintro _ τ ⟨rfl,hs⟩
 have h2:=hs.self
 refine stepR h2 ?_
 exact fin1 ⟨Sd0,hs.ext e1 (Nat.le_refl _)⟩
end Go.Proofs.YtoejdgoicoaomaaGreatDoor
namespace Go.Proofs.YtoejdgoicoaomaaGreatDoor
open Go.Mini
open Go.Proofs.YtoejdgoicoaomaaGreatDoor.Code
attribute [local irreducible] mx ml mld mstep MCalls Ex.thn Ex.inb
variable {E:World→Prop}
def exB:ByteArray:=⟨#[46,67]⟩
theorem cost_ok {W Hh:Int} {S:ByteArray} {srcs:List Int} {step:Int} {σ τ:H} {v:Value} (h:costR W Hh S srcs step σ v τ) (hok:costOK W Hh S srcs step=true):
 ∃ vo out,v=.tuple #[vo,.nilIface]∧Cst W S srcs step out∧Out σ τ 1 vo (ints out):=by
 unfold costR at h;rw [if_pos hok] at h;exact h
theorem cost_bad {W Hh:Int} {S:ByteArray} {srcs:List Int} {step:Int} {σ τ:H} {v:Value} (h:costR W Hh S srcs step σ v τ) (hok:costOK W Hh S srcs step=false):
 ∃ e,v=.tuple #[.slice none 0 0,e]∧TagE τ e ⟨#[102,105,101,108,100]⟩ 1∧Ext σ τ:=by
 unfold costR at h;rw [if_neg (by rw [hok];simp)] at h;exact h
theorem one_rd {σ:H} {x:Int} {id:Nat} (h:σ.get id=.cells 1 [.int .i64 x]):Rd σ (.slice (some ⟨id,0,none⟩) 1 1) (ints [x]):=(Own.full (sz:=1) (n:=1) (cs:=ints [x]) h rfl).rd
theorem tNumN_c (σ:H):MCalls E Tryz.prog 17 [.nilIface] σ (fun v τ=>v=.int .i64 0∧τ=σ):=by
 refine mcalls_of fn17 (by simp) ?_
 unfold c17 r17
 refine stepR0 ?_
 exact fin1 ⟨Sd0,rfl⟩
end Go.Proofs.YtoejdgoicoaomaaGreatDoor
namespace Go.Proofs.YtoejdgoicoaomaaGreatDoor
open Go.Mini
open Go.Proofs.YtoejdgoicoaomaaGreatDoor.Code
attribute [local irreducible] mx ml mld mstep MCalls Ex.thn Ex.inb
variable {E:World→Prop}
theorem HeapAt.buflt {σ0 τ:H} {hid i:Nat} {L:List Due} (h:HeapAt σ0 hid L τ) (hb:IsBuf τ hid i):i < τ.size:=by
 rcases Classical.em (∀ cs,τ.get i≠.cells 2 cs) with x | x
 ·exact absurd hb (h.notbuf x)
 ·exact Classical.byContradiction fun hge=>x fun cs e=>hge (H.lt_of_cells e)
theorem HeapAt.keepI {σ0 τ τ':H} {hid:Nat} {L:List Due} {oo:Option Nat} (h:HeapAt σ0 hid L τ) (hs:τ.size≤τ'.size) (hk:∀ i,i < τ.size→oo≠some i→τ'.get i=τ.get i) (ho:∀ id,oo=some id→σ0.size≤id∧id≠hid∧¬ IsBuf τ hid id):
 HeapAt σ0 hid L τ'∧∀ i,IsBuf τ' hid i→IsBuf τ hid i:=by
 have hh:=hk hid h.lt (fun e=>(ho hid e).2.1 rfl)
 obtain ⟨h1,h2,v,h3,h4⟩:=h
 refine ⟨⟨⟨Nat.le_trans h1.size hs,fun i hi=>?_⟩,h2,v,by rw [hh];exact h3,?_⟩,fun i ⟨n,m,x⟩=>⟨n,m,by rw [← hh];exact x⟩⟩
 ·have:=h1.size
  rw [hk i (by omega) (fun e=>by have:=(ho i e).1;omega),h1.get i hi]
 ·rcases h4 with h4 | ⟨id,R,rfl,h6,h7⟩
  ·exact .inl h4
  ·exact .inr ⟨id,R,rfl,h6,by rw [hk id (H.lt_of_cells h7) (fun e=>(ho id e).2.2 ⟨_,_,h3⟩)];exact h7⟩
theorem HeapAt.setX {σ0 τ τ':H} {hid i:Nat} {L:List Due} {cs cs':List Value} (h:HeapAt σ0 hid L τ) (hs:SetTo τ i (.cells 0 cs') τ') (hg:τ.get i=.cells 0 cs) (hi:σ0.size≤i) (hne:i≠hid):HeapAt σ0 hid L τ'∧∀ j,IsBuf τ' hid j→IsBuf τ hid j:=by
 have hh:=hs.other hid (Ne.symm hne)
 obtain ⟨h1,h2,v,h3,h4⟩:=h
 refine ⟨⟨hs.ext h1 hi,h2,v,by rw [hh];exact h3,?_⟩,fun i ⟨n,m,x⟩=>⟨n,m,by rw [← hh];exact x⟩⟩
 rcases h4 with h4 | ⟨id,R,rfl,h6,h7⟩
 ·exact .inl h4
 ·exact .inr ⟨id,R,rfl,h6,hs.cells h7 (fun e=>by rw [e,hg] at h7;cases h7)⟩
structure SS (σ0:H) (hid x8:Nat) (ov:Value) (oo:Option Nat) (x:Due) (L acc:List Due) (τ:H):Prop where
 heap:HeapAt σ0 hid L τ
 ok:HeapOK L
 x:τ.get x8=.cells 0 [.int .i64 x.1,.int .i64 x.2]
 own:Own τ 2 ov oo (dues acc)
 lo:∀ id,oo=some id→σ0.size≤id∧¬ IsBuf τ hid id
 ne:x8≠hid∧σ0.size≤x8
theorem own2_get {τ:H} {ov:Value} {oo:Option Nat} {l:List Due} (h:Own τ 2 ov oo (dues l)):(ov=.slice none 0 0∧oo=none∧l=[])∨∃ id,ov=.slice (some ⟨id,0,none⟩) l.length l.length∧oo=some id∧τ.get id=.cells 2 (dues l):=by
 generalize hd:dues l=d at h
 cases h with
 | nil=>cases l with
   | nil=>exact .inl ⟨rfl,rfl,rfl⟩
   | cons p l=>simp [dues] at hd
 | @full id n _ h hl=>
   subst hd
   have:=dues_len l
   obtain rfl:n=l.length:=by omega
   exact .inr ⟨id,rfl,rfl,h⟩
theorem len_own {τ:H} {ts:Fr} {x:Opd} {ov:Value} {oo:Option Nat} {l:List Due} (h:Own τ 2 ov oo (dues l)) (hx:mev ts x=ov):mop ts τ (.len false x)=some (.int .i64 l.length,τ):=by
 rcases own2_get h with ⟨rfl,_,rfl⟩ | ⟨id,rfl,_,_⟩<;>simp [mop,hx]
set_option maxHeartbeats 2000000 in
theorem hSorted_c {σ:H} {lv:Value} {lo:Option Nat} {l:List Due} (hl:Own σ 2 lv lo (dues l)) (hn:l.length≤1000):
 MCalls E Tryz.prog 160 [lv] σ (fun v τ=>∃ oo out,Ext σ τ∧Own τ 2 v oo (dues out)∧out.Perm l∧out.Pairwise le):=by
 refine mcalls_of fn160 (by simp) ?_
 unfold c160 r160
 refine stepR0 ?_
 refine ml_call Sd0 Sd0 (hNew_c σ) ?_
 rintro _ τ ⟨hid,rfl,hh,e1⟩
 have hhlo:=hh.lo
 refine stepR0 ?_
 refine ml_op Sd0 (len_own (hl.of_ext e1) Sd0) ?_
 refine stepR0 ?_
 refine mx_loop (fun n ts τ=>∃ i L,n=l.length - i∧i≤l.length∧HeapAt σ hid L τ∧HeapOK L∧L.Perm (l.take i)∧ts 3=.pointer (some ⟨hid,0,none⟩)∧ts 4=.func (.func 63) #[.pointer (some ⟨hid,0,none⟩)] #[]∧ts 13=lv∧ts 14=.int .i64 l.length∧ts 15=.int .i64 ((i:Nat):Int)) l.length ?_ ?_
 ·exact ⟨0,[],rfl,by omega,hh,fun j _ hj=>absurd hj (Nat.not_lt_zero _),by simp,Sd0,Sd0,Sd0,Sd0,Sd0⟩
 clear hh e1 τ
 rintro n ts τ ⟨i,L,rfl,hi,hh,ok,pm,t3,t4,t13,t14,t15⟩
 have hLl:L.length=i:=by have:=pm.length_eq;rw [List.length_take] at this;omega
 rcases Nat.lt_or_ge i l.length with hil | hig
 ·have hil':((i:Nat):Int) < (l.length:Int):=by omega
  rcases own2_get (hl.of_ext hh.ext) with ⟨_,_,rfl⟩ | ⟨id,rfl,_,hg⟩
  ·simp at hil
  have hrow:=dues_row l i hil
  have hdl:=dues_len l
  refine stepR (An t13 (An t14 (An t15 hil'))) ?_
  refine ml_loadN Sd0 Sd0 (row_of hg hrow) ?_
  generalize hx:l.getD i (0,0)=x
  refine stepR0 ?_
  refine ml_init (vs:=[.int .i64 x.1,.int .i64 x.2]) Sd0 Sd0 Sd0 rfl rfl rfl fun τ2 e2 g2=>?_
  refine stepR (An t4 g2) ?_
  refine ml_callv Sd0 Sd0 Sd0 (hPush_c (hh.of_ext e2) x (by omega)) ?_
  rintro _ τ3 ⟨hh3,_⟩
  obtain ⟨ok3,pm3⟩:=push_ok ok x
  have htk:l.take (i + 1)=l.take i ++ [x]:=by
   rw [List.take_add_one,List.getElem?_eq_getElem hil]
   rw [List.getD_eq_getElem?_getD,List.getElem?_eq_getElem hil] at hx
   simp at hx;simp [hx]
  refine stepR t15 ?_
  exact ⟨_,by omega,i + 1,_,rfl,hil,hh3,ok3,by rw [htk];exact pm3.trans (pm.append_right _),(Sw t3),(Sw t4),(Sw t13),(Sw t14),Sd0⟩
 ·obtain rfl:i=l.length:=by omega
  rw [List.take_length] at pm
  have hnl:¬ (l.length:Int) < (l.length:Int):=by omega
  refine stepR (An t14 (An t15 (An hnl t3))) ?_
  let I:Nat→Fr→H→Prop:=fun n ts τ=>ts 3=.pointer (some ⟨hid,0,none⟩)∧∃ x8 ov oo acc,ts 7=ov∧ts 8=.pointer (some ⟨x8,0,none⟩)∧
   ((ts 9=.bool false∧Ext σ τ∧Own τ 2 ov oo (dues acc)∧acc.Perm l∧acc.Pairwise le)∨
    (∃ x L,ts 9=.bool true∧n=L.length + 1∧SS σ hid x8 ov oo x L acc τ∧(acc ++ x :: L).Perm l∧(acc ++ [x]).Pairwise le∧∀ y ∈ L,le x y∧∀ a ∈ acc,le a y))
  have pop:∀ {L:List Due} {τ:H} (h:HeapAt σ hid L τ),HeapOK L→L.length≤1000→MCalls E Tryz.prog 64 [.pointer (some ⟨hid,0,none⟩)] τ (fun v τ'=>(L=[]∧v=.tuple #[dueV (0,0),.bool false]∧Ext τ τ')∨(∃ x L',v=.tuple #[dueV x,.bool true]∧(x :: L').Perm L∧HeapOK L'∧(∀ y ∈ L',le x y)∧HeapAt σ hid L' τ'∧Keep3 hid τ τ')):=by
   intro L τ h ok hl
   rcases Nat.eq_zero_or_pos L.length with h0 | hpos
   ·obtain rfl:=List.eq_nil_of_length_eq_zero h0
    exact (hPop_nil h).mono fun v τ' ⟨a,b⟩=>.inl ⟨rfl,a,b⟩
   ·refine (hPop_c3 h (by omega) hpos).mono fun v τ' ⟨a,b,c⟩=>?_
    obtain ⟨ok5,pm5⟩:HeapOK (popL L)∧(dv L 0 :: popL L).Perm L:=pop_ok ok hpos
    exact .inr ⟨_,_,a,pm5,ok5,fun y hy=>least_mem ok (pm5.mem_iff.1 (List.mem_cons_of_mem _ hy)),b,c⟩
  refine ml_mid (fun ts τ=>∃ n,I n ts τ) ?_ ?_
  ·refine ml_call Sd0 (Sw t3) (pop hh ok (by omega)) ?_
   intro v τ1 hv
   rcases hv with ⟨rfl,rfl,e2⟩ | ⟨x,L',rfl,pm1,ok1,hle,hh1,k1⟩
   ·refine stepR0 ?_
    refine ml_init (vs:=[.int .i64 0,.int .i64 0]) Sd0 Sd0 Sd0 rfl rfl rfl fun τ2 e3 g2=>?_
    refine stepR0 ?_
    exact ⟨0,(Sw t3),τ1.size,.slice none 0 0,none,[],Sd0,Sd0,.inl ⟨Sd0,hh.ext.trans (e2.trans e3),.nil,pm,by simp⟩⟩
   ·refine stepR0 ?_
    refine ml_init (vs:=[.int .i64 x.1,.int .i64 x.2]) Sd0 Sd0 Sd0 rfl rfl rfl fun τ2 e3 g2=>?_
    refine stepR0 ?_
    have hlt:=hh1.lt
    have hsz:=hh1.ext.size
    exact ⟨L'.length + 1,(Sw t3),τ1.size,.slice none 0 0,none,[],Sd0,Sd0,.inr ⟨x,L',Sd0,rfl,⟨hh1.of_ext e3,ok1,g2,.nil,(fun _ h=>nomatch h),by omega,hsz⟩,by rw [List.nil_append];exact pm1.trans pm,by simp,fun y hy=>⟨hle y hy,by simp⟩⟩⟩
  clear t3 t4 t13 t14 t15 hh ok pm hLl hig hi hnl L ts τ
  rintro ts τ ⟨n0,hI⟩
  refine stepR0 ?_
  refine mx_loop I n0 ⟨(by first | with_reducible rfl | (simp only [go_sem,reduceIte,Nat.reduceEqDiff,reduceCtorEq,Nat.reduceAdd,Nat.reduceLeDiff,Int.reduceNeg,Int.reduceToNat,Int.reduceBEq,Int.reduceBNe,Int.reduceLT,Int.reduceLE,Int.reduceAdd,Int.reduceSub,hI.1];done) | (simp only [go_sem,reduceIte,Nat.reduceEqDiff,reduceCtorEq,Nat.reduceAdd,Nat.reduceLeDiff,Int.reduceNeg,Int.reduceToNat,Int.reduceBEq,Int.reduceBNe,Int.reduceLT,Int.reduceLE,Int.reduceAdd,Int.reduceSub,hI.1];with_reducible rfl) | (simp only [go_sem,reduceIte,Nat.reduceEqDiff,reduceCtorEq,Nat.reduceAdd,Nat.reduceLeDiff,Int.reduceNeg,Int.reduceToNat,Int.reduceBEq,Int.reduceBNe,Int.reduceLT,Int.reduceLE,Int.reduceAdd,Int.reduceSub,hI.1];(try simp (disch:=omega) only [i64wrap,u64wrap,u8wrap,u32wrap,i32wrap]);first | with_reducible rfl | done | (refine congrArg (Value.int _) ?_;omega)) | (simp only [go_sem,reduceIte,Nat.reduceEqDiff,reduceCtorEq,Nat.reduceAdd,Nat.reduceLeDiff,Int.reduceNeg,Int.reduceToNat,Int.reduceBEq,Int.reduceBNe,Int.reduceLT,Int.reduceLE,Int.reduceAdd,Int.reduceSub,hI.1];rfl)),hI.2⟩ ?_
  clear hI
  rintro n ts τ ⟨t3,x8,ov,oo,acc,t7,t8,⟨t9,e1,own,pm,pw⟩ | ⟨x,L,t9,rfl,⟨hh,ok,gx,own,hlo,hne⟩,pm,pw,hle⟩⟩
  ·refine stepR (An t7 t9) ?_
   have ht7:ov=ts 7:=t7.symm
   refine fin1 ⟨oo,acc,e1,?_,pm,pw⟩
   simp only [go_sem,reduceIte,Nat.reduceEqDiff,reduceCtorEq,Nat.reduceAdd,Nat.reduceLeDiff,Int.reduceNeg,Int.reduceToNat,Int.reduceBEq,Int.reduceBNe,Int.reduceLT,Int.reduceLE,Int.reduceAdd,Int.reduceSub,t7]
   exact own
  ·have hal:acc.length + L.length + 1=l.length:=by have:=pm.length_eq;simp at this;omega
   have hdl:=dues_len acc
   refine stepR (An t7 (An t8 (An t9 gx))) ?_
   refine ml_app1 (cs:=dues acc) (vs:=[.int .i64 x.1,.int .i64 x.2]) (oid:=oo) Sd0 (Sw t7) Sd0 (own.of_ext (Ext.push _ _)) (H.get_push_self _ _) rfl (by omega) (by rw [List.all_append,dues_one];rfl) (by omega) (by simp only [appMax];omega) ?_
   intro v' τ1 own1 s1 k1
   have ep:Ext τ (τ.push (.cells 2 [.int .i64 x.1,.int .i64 x.2])):=Ext.push _ _
   generalize τ.push (.cells 2 [.int .i64 x.1,.int .i64 x.2])=τp at own1 s1 k1 ep
   have hhp:=hh.of_ext ep
   have hbp:∀ i,IsBuf τp hid i→IsBuf τ hid i:=fun i ⟨n,m,y⟩=>⟨n,m,by rw [← ep.get hid hh.lt];exact y⟩
   have hoo:∀ id,oo=some id→σ.size≤id∧id≠hid∧¬ IsBuf τp hid id:=fun id e=>by
    refine ⟨(hlo id e).1,fun e2=>?_,fun y=>(hlo id e).2 (hbp id y)⟩
    rcases own2_get own with ⟨_,rfl,_⟩ | ⟨id2,_,rfl,hg⟩
    ·cases e
    ·cases e
     obtain ⟨_,_,v,h3,_⟩:=hh
     rw [e2,h3] at hg;cases hg
   obtain ⟨hh1,hb1⟩:=hhp.keepI (by omega) k1 hoo
   have gx1:τ1.get x8=.cells 0 [.int .i64 x.1,.int .i64 x.2]:=by
    have gxp:=ep.cells gx
    rw [k1 x8 (H.lt_of_cells gxp) (fun e=>?_)]
    ·exact gxp
    ·rcases own2_get own with ⟨_,rfl,_⟩ | ⟨id2,_,rfl,hg⟩
     ·cases e
     ·cases e;rw [gx] at hg;cases hg
   have hnb:¬ IsBuf τ1 hid τp.size:=fun y=>by have:=hhp.buflt (hb1 _ y);omega
   have hpne:τp.size≠hid:=by have:=hhp.lt;omega
   have hda:dues acc ++ [.int .i64 x.1,.int .i64 x.2]=dues (acc ++ [x]):=by rw [dues_app];rfl
   rw [hda] at own1
   have hlop:σ.size≤τp.size:=hhp.ext.size
   generalize τp.size=oid at own1 hnb hpne hlop
   clear hoo hbp hhp ep k1 s1 own gx hh hlo hne
   refine stepR (An t8 gx1) ?_
   refine ml_init (vs:=[.int .i64 x.1,.int .i64 x.2]) Sd0 Sd0 Sd0 rfl rfl rfl fun τ2 e2 g2=>?_
   have hh2:=hh1.of_ext e2
   have hx8:τ1.size≠hid:=by have:=hh1.lt;omega
   have hx8s:σ.size≤τ1.size:=hh1.ext.size
   have hnb2:¬ IsBuf τ2 hid oid:=fun ⟨n,m,y⟩=>hnb ⟨n,m,by rw [← e2.get hid hh1.lt];exact y⟩
   have own2:=own1.of_ext e2
   generalize τ1.size=x9 at g2 hx8 hx8s ⊢
   clear hh1 own1 hnb gx1 hb1 e2 t8 τ1
   refine stepR t3 ?_
   refine ml_call Sd0 (Sw t3) (pop hh2 ok (by omega)) ?_
   intro v τ3 hv
   have og:τ2.get oid=.cells 2 (dues (acc ++ [x])):=by
    rcases own2_get own2 with ⟨_,h,_⟩ | ⟨id2,_,h,hg⟩
    ·cases h
    ·cases h;exact hg
   rcases hv with ⟨rfl,rfl,e3⟩ | ⟨x',L',rfl,pm1,ok1,hle1,hh3,k3⟩
   ·refine stepR0 ?_
    refine ml_storeA (id:=x9) (off:=0) (vs:=[.int .i64 0,.int .i64 0]) Sd0 Sd0 Sd0 (e3.cells g2) rfl (by simp) rfl fun τ4 s4=>?_
    refine stepR0 ?_
    refine ⟨0,by omega,(Sw t3),x9,v',some oid,acc ++ [x],Sd0,Sd0,.inl ⟨Sd0,s4.ext (hh2.ext.trans e3) hx8s,?_,pm,pw⟩⟩
    refine (own2.of_ext e3).ext fun id hi=>s4.other id (fun e=>?_)
    cases hi;rw [← e] at g2;rw [og] at g2;cases g2
   ·refine stepR0 ?_
    have og3:τ3.get oid=.cells 2 (dues (acc ++ [x])):=by rw [k3.get oid (by rw [og];simp) hpne hnb2];exact og
    have g3:τ3.get x9=.cells 0 [.int .i64 x.1,.int .i64 x.2]:=by rw [k3.get x9 (by rw [g2];simp) hx8 (hh2.notbuf (by rw [g2];simp))];exact g2
    have hnb3:¬ IsBuf τ3 hid oid:=fun y=>hnb2 (k3.buf _ y)
    refine ml_storeA (id:=x9) (off:=0) (vs:=[.int .i64 x'.1,.int .i64 x'.2]) Sd0 Sd0 Sd0 g3 rfl (by simp) rfl fun τ4 s4=>?_
    obtain ⟨hh4,hb4⟩:=hh3.setX s4 g3 hx8s hx8
    have own4:Own τ4 2 v' (some oid) (dues (acc ++ [x])):=by
     refine own2.ext fun id hi=>?_
     cases hi
     rw [s4.other oid (fun e=>by rw [e,g3] at og3;cases og3),og3,og]
    have hx'L:x' ∈ L:=pm1.mem_iff.1 (List.mem_cons_self ..)
    have hsub:∀ y ∈ L',y ∈ L:=fun y hy=>pm1.mem_iff.1 (List.mem_cons_of_mem _ hy)
    have hacc:∀ y ∈ L,∀ a ∈ acc ++ [x],le a y:=fun y hy a ha=>by
     rcases List.mem_append.1 ha with h | h
     ·exact (hle y hy).2 a h
     ·simp at h;subst h;exact (hle y hy).1
    have hLl:L'.length + 1=L.length:=by have:=pm1.length_eq;simpa using this
    refine stepR0 ?_
    refine ⟨L'.length + 1,by omega,(Sw t3),x9,v',some oid,acc ++ [x],Sd0,Sd0,.inr ⟨x',L',Sd0,rfl,⟨hh4,ok1,s4.self,own4,fun id hi=>?_,hx8,hx8s⟩,?_,?_,fun y hy=>⟨hle1 y hy,hacc y (hsub y hy)⟩⟩⟩
    ·cases hi;exact ⟨hlop,fun y=>hnb3 (hb4 _ y)⟩
    ·rw [List.append_assoc]
     exact (List.Perm.append_left acc (List.Perm.cons x pm1)).trans pm
    ·rw [List.pairwise_append]
     exact ⟨pw,by simp,fun a ha b hb=>by simp at hb;subst hb;exact hacc _ hx'L a ha⟩
end Go.Proofs.YtoejdgoicoaomaaGreatDoor
namespace Go.Proofs.YtoejdgoicoaomaaGreatDoor
open Go.Mini
open Go.Proofs.YtoejdgoicoaomaaGreatDoor.Code
attribute [local irreducible] mx ml mld mstep MCalls Ex.thn Ex.inb
section
variable {E:World→Prop} {P:Program} {ts:Fr} {σ τ σ0:H} {v:Value} {K:Fr→H→Prop} {Q:MQ} {rest:List MI}
theorem ml_appG {d:Option Nat} {g:Option (Nat × Bool)} {sz bytes:Nat} {xs xx:Opd} {cs vs:List Value} {tid:Nat} (hw:wantM ts g=true) (hv:mev ts xs=v) (hx:mev ts xx=.slice (some ⟨tid,0,none⟩) 1 1)
 (ho:Out σ0 σ sz v cs) (ht:σ.get tid=.cells sz vs) (hl:vs.length=sz) (hz:sz≠0) (h1:(cs ++ vs).all one=true) (hb:bytes≤128) (hn:cs.length < appMax)
 (h:∀ v' τ,Out σ0 τ sz v' (cs ++ vs)→ml E P rest K (updO ts d v') τ):
 ml E P (⟨d,.app sz bytes xs xx,g⟩ :: rest) K ts σ:=by
 obtain ⟨e,oid,own,hid⟩:=ho
 refine ml_app1 hw hv hx own ht hl hz h1 hb hn fun v' τ o2 s2 k2=>h v' τ ⟨⟨by have:=e.size;omega,fun i hi=>?_⟩,_,o2,fun id hi=>?_⟩
 ·have:=e.size
  rw [k2 i (by omega) (fun x=>by have:=hid i x;omega),e.get i hi]
 ·injection hi with hi;have:=e.size;omega
end
variable {E:World→Prop}
def dnI (W:Int) (S:ByteArray) (f:List Int) (c:Int):List Due:=((nearL W S c).filter fun n=>decide (0≤f.getD n.toNat 0) && decide (f.getD n.toNat 0 < f.getD c.toNat 0)).map fun n=>(f.getD n.toNat 0,n)
def DownL (W:Int) (S:ByteArray) (f:List Int) (c:Int) (out:List Int):Prop:=∃ l:List Due,l.Perm (dnI W S f c)∧l.Pairwise le∧out=l.map (·.2)
noncomputable def downOK (W Hh:Int) (S:ByteArray) (f:List Int) (c:Int):Bool:=decide (f.length=S.size) && (gr W Hh S && opn S c) && decide (0≤f.getD c.toNat 0)
def DownR (W Hh:Int) (S:ByteArray) (f:List Int) (c:Int) (out:List Int):Prop:=if downOK W Hh S f c=true then DownL W S f c out else out=[]
set_option maxHeartbeats 4000000 in
theorem fDown_c (W Hh:Int) (S:ByteArray) {σ:H} {fv:Value} {f:List Int} (hr:Rd σ fv (ints f)) (c:Int):
 MCalls E Tryz.prog 161 [mapV W Hh S,fv,.int .i64 c] σ (fun v τ=>∃ out,Out σ τ 1 v (ints out)∧DownR W Hh S f c out):=by
 refine mcalls_of fn161 (by simp) ?_
 unfold c161 r161 mapV
 refine stepR0 ?_
 refine ml_len Sd0 (hr.of_ext (Ext.push _ _)) Sd0 ?_
 rw [ints_len]
 generalize hτ:H.push _ _=τ
 have e1:Ext σ τ:=hτ ▸ Ext.push _ _
 have g1:τ.get σ.size=.cells 0 [.int .i64 W,.int .i64 Hh,.string S]:=by rw [← hτ];exact H.get_push_self _ _
 have r1:=hr.of_ext e1
 clear hτ
 refine ml_mid (fun ts τ'=>Ext τ τ'∧ts 1=fv∧ts 2=.int .i64 c∧ts 3=.pointer (some ⟨σ.size,0,none⟩)∧ts 31=.bool (!downOK W Hh S f c)) ?_ ?_
 ·by_cases h1:f.length=S.size
  ·have h1':((f.length:Int) != (S.size:Int))=false:=by rw [h1];simp
   refine stepR (An g1 h1') ?_
   refine ml_call Sd0 Sd0 (gopen_c W Hh S c τ) ?_
   rintro _ τ2 ⟨rfl,e2⟩
   cases h2:gr W Hh S && opn S c
   ·have hd:downOK W Hh S f c=false:=by simp [downOK,h2]
    rw [hd]
    refine stepR0 ?_
    exact ⟨e2,Sd0,Sd0,Sd0,Sd0⟩
   ·have ho:opn S c=true:=by rw [Bool.and_eq_true] at h2;exact h2.2
    have hc:=opn_lt ho
    have hci:c.toNat < f.length:=by omega
    refine stepR0 ?_
    refine ml_getSg (q:=c) Sd0 (r1.of_ext e2) Sd0 Sd0 hc.1 (ints_at hci) (fun p=>Sd0) fun p=>?_
    by_cases h3:0≤f.getD c.toNat 0
    ·have hd:downOK W Hh S f c=true:=by unfold downOK;rw [h2,decide_eq_true h1,decide_eq_true h3];rfl
     have h3':¬ f.getD c.toNat 0 < 0:=by omega
     rw [hd]
     refine stepR h3' ?_
     exact ⟨e2,Sd0,Sd0,Sd0,(Sw h3')⟩
    ·have hd:downOK W Hh S f c=false:=by unfold downOK;rw [decide_eq_false h3,Bool.and_false]
     have h3':f.getD c.toNat 0 < 0:=by omega
     rw [hd]
     refine stepR h3' ?_
     exact ⟨e2,Sd0,Sd0,Sd0,(Sw h3')⟩
  ·have h1':((f.length:Int) != (S.size:Int))=true:=by simp;omega
   have hd:downOK W Hh S f c=false:=by simp [downOK,h1]
   rw [hd]
   refine stepR (An g1 h1') ?_
   exact ⟨Ext.refl _,Sd0,Sd0,Sd0,Sd0⟩
 rintro ts τ2 ⟨e2,t1,t2,t3,t31⟩
 unfold DownR
 cases hd:downOK W Hh S f c
 ·rw [hd] at t31
  refine stepR t31 ?_
  refine fin1 ⟨[],?_,by rw [if_neg (by simp)]⟩
  simp only [go_sem,reduceIte,Nat.reduceEqDiff,reduceCtorEq,Nat.reduceAdd,Nat.reduceLeDiff,Int.reduceNeg,Int.reduceToNat,Int.reduceBEq,Int.reduceBNe,Int.reduceLT,Int.reduceLE,Int.reduceAdd,Int.reduceSub]
  exact Out.nil (e1.trans e2)
 rw [hd] at t31
 have hd':=hd
 simp only [downOK,Bool.and_eq_true,decide_eq_true_eq] at hd'
 obtain ⟨⟨hfl,hg,ho⟩,hfc⟩:=hd'
 have hgs:=gr_size hg
 obtain ⟨hS1,hS64⟩:=hgs.2.2.2.1
 have hc:=opn_lt ho
 have g2:=e2.cells g1
 have r2:=r1.of_ext e2
 refine stepR (An t31 (An t2 (An t3 g2))) ?_
 refine ml_call Sd0 Sd0 (gnear_c W Hh S c τ2) ?_
 intro nv τB on
 have hnl:gnear W Hh S c (gr W Hh S)=nearL W S c:=by rw [gnear,hg,ho,Bool.and_self,if_pos rfl]
 rw [hnl] at on
 have rB:=r2.of_ext on.1
 have eσB:Ext σ τB:=e1.trans (e2.trans on.1)
 have hn4:=nearL_len W S c
 have hli:=ints_len (nearL W S c)
 refine stepR0 ?_
 refine ml_len Sd0 on.rd Sd0 ?_
 rw [ints_len]
 refine stepR0 ?_
 let p:Int→Bool:=fun n=>decide (0≤f.getD n.toNat 0) && decide (f.getD n.toNat 0 < f.getD c.toNat 0)
 let g:Int→Due:=fun n=>(f.getD n.toNat 0,n)
 refine mx_loop (fun n ts τ=>∃ j lv,n=(nearL W S c).length - j∧j≤(nearL W S c).length∧ts 1=fv∧ts 2=.int .i64 c∧ts 7=lv∧ts 34=nv∧ts 35=.int .i64 (nearL W S c).length∧ts 36=.int .i64 ((j:Nat):Int)∧Out τB τ 2 lv (dues ((((nearL W S c).take j).filter p).map g))) (nearL W S c).length ?_ ?_
 ·exact ⟨0,.slice none 0 0,rfl,by omega,(Sw t1),(Sw t2),Sd0,Sd0,Sd0,Sd0,Ext.refl _,none,.nil,fun _ h=>nomatch h⟩
 clear t1 t2 t3 t31 ts g1 g2 r1 r2 e1 e2
 rintro n ts τ ⟨j,lv,rfl,hj,t1,t2,t7,t34,t35,t36,out⟩
 rcases Nat.lt_or_ge j (nearL W S c).length with hjl | hjg
 ·have hjl':((j:Nat):Int) < ((nearL W S c).length:Int):=by omega
  have hxo:opn S ((nearL W S c).getD j 0)=true:=by
   rw [List.getD_eq_getElem?_getD,List.getElem?_eq_getElem hjl];exact near_opn (List.getElem_mem hjl)
  have htk:(nearL W S c).take (j + 1)=(nearL W S c).take j ++ [(nearL W S c).getD j 0]:=by
   rw [List.take_add_one,List.getElem?_eq_getElem hjl,List.getD_eq_getElem?_getD,List.getElem?_eq_getElem hjl];rfl
  have hat:=ints_at hjl
  generalize (nearL W S c).getD j 0=x at hxo htk hat
  have hx:=opn_lt hxo
  have afx:=ints_at (l:=f) (i:=x.toNat) (by omega)
  have afc:=ints_at (l:=f) (i:=c.toNat) (by omega)
  have rf:=rB.of_ext out.1
  have hdl:=dues_len ((((nearL W S c).take j).filter p).map g)
  have hfl2:((((nearL W S c).take j).filter p).map g).length≤j:=by rw [List.length_map];exact Nat.le_trans (List.length_filter_le _ _) (by simp;omega)
  have hpx:p x=(decide (0≤f.getD x.toNat 0) && decide (f.getD x.toNat 0 < f.getD c.toNat 0)):=rfl
  have hgx:g x=(f.getD x.toNat 0,x):=rfl
  have skip:p x=false→Out τB τ 2 lv (dues ((((nearL W S c).take (j + 1)).filter p).map g)):=fun h=>by
   rw [htk,List.filter_append,List.map_append];simp [h];exact out
  refine stepR (An t34 (An t35 (An t36 hjl'))) ?_
  refine ml_getS (on.rd.of_ext out.1) (Sw t34) (Sw t36) (by omega) (by rw [Int.toNat_natCast];exact hat) fun q=>?_
  refine stepR t1 ?_
  refine mld_getS (q:=x) Sd0 rf (Sw t1) Sd0 hx.1 afx (fun p=>Sd0) fun q=>?_
  generalize f.getD x.toNat 0=fx at hpx hgx afx
  generalize f.getD c.toNat 0=fc at hpx afc hfc
  by_cases h1:0≤fx
  ·refine stepR (An h1 t1) ?_
   refine mld_getS (q:=x) (Sw h1) rf (Sw t1) (Sw h1) hx.1 afx (fun p=>(Sw h1)) fun q=>?_
   refine stepR (An h1 (An t1 t2)) ?_
   refine mld_getS (q:=c) (Sw h1) rf (Sw t1) (Sw t2) hc.1 afc (fun p=>(Sw h1)) fun q=>?_
   by_cases h2:fx < fc
   ·refine stepR (An h1 (An h2 t1)) ?_
    refine ml_getS (q:=x) rf (Sw t1) Sd0 hx.1 afx fun q=>?_
    refine stepR0 ?_
    refine ml_appG (cs:=dues ((((nearL W S c).take j).filter p).map g)) (vs:=[.int .i64 fx,.int .i64 x]) Sd0 (Sw t7) Sd0 (out.of_ext (Ext.push _ _)) (H.get_push_self _ _) rfl (by omega) (by rw [List.all_append,dues_one];rfl) (by omega) (by simp only [appMax];omega) ?_
    intro lv' τ' out'
    have hda:dues ((((nearL W S c).take j).filter p).map g) ++ [.int .i64 fx,.int .i64 x]=dues ((((nearL W S c).take (j + 1)).filter p).map g):=by
     rw [htk,List.filter_append,List.map_append,dues_app]
     have:p x=true:=by rw [hpx];simp [h1,h2]
     simp [this,hgx,dues]
    rw [hda] at out'
    refine stepR t36 ?_
    exact ⟨_,by omega,j + 1,lv',rfl,hjl,(Sw t1),(Sw t2),Sd0,(Sw t34),(Sw t35),Sd0,out'⟩
   ·refine stepR (An h1 (An h2 t36)) ?_
    exact ⟨_,by omega,j + 1,lv,rfl,hjl,(Sw t1),(Sw t2),(Sw t7),(Sw t34),(Sw t35),Sd0,skip (by rw [hpx];simp [h2])⟩
  ·refine stepR (An h1 t36) ?_
   exact ⟨_,by omega,j + 1,lv,rfl,hjl,(Sw t1),(Sw t2),(Sw t7),(Sw t34),(Sw t35),Sd0,skip (by rw [hpx];simp [h1])⟩
 ·obtain rfl:j=(nearL W S c).length:=by omega
  rw [List.take_length] at out
  have hnl2:¬ ((nearL W S c).length:Int) < ((nearL W S c).length:Int):=by omega
  obtain ⟨eB,lo,ownl,hlo⟩:=out
  have hfl2:(((nearL W S c).filter p).map g).length≤4:=by rw [List.length_map];exact Nat.le_trans (List.length_filter_le _ _) hn4
  refine stepR (An t35 (An t36 (An hnl2 t7))) ?_
  refine ml_call Sd0 (Sw t7) (hSorted_c ownl (by omega)) ?_
  rintro sv τC ⟨so,srt,eC,owns,pm,pw⟩
  have hsl:srt.length≤4:=by rw [pm.length_eq];exact hfl2
  have hds:=dues_len srt
  refine stepR0 ?_
  refine ml_op Sd0 (len_own owns Sd0) ?_
  refine stepR0 ?_
  refine mx_loop (fun n ts τ=>∃ j ov,n=srt.length - j∧j≤srt.length∧ts 10=ov∧ts 67=sv∧ts 68=.int .i64 srt.length∧ts 69=.int .i64 ((j:Nat):Int)∧Out τC τ 1 ov (ints ((srt.take j).map (·.2)))) srt.length ?_ ?_
  ·exact ⟨0,.slice none 0 0,rfl,by omega,Sd0,Sd0,Sd0,Sd0,Ext.refl _,none,.nil,fun _ h=>nomatch h⟩
  clear t1 t2 t7 t34 t35 t36
  rintro n ts τ3 ⟨j,ov,rfl,hj,t10,t67,t68,t69,out⟩
  rcases Nat.lt_or_ge j srt.length with hjl | hjg
  ·have hjl':((j:Nat):Int) < (srt.length:Int):=by omega
   rcases own2_get (owns.of_ext out.1) with ⟨_,_,rfl⟩ | ⟨id,rfl,_,hgs2⟩
   ·simp at hjl
   have hrow:=dues_row srt j hjl
   have htk:srt.take (j + 1)=srt.take j ++ [srt.getD j (0,0)]:=by
    rw [List.take_add_one,List.getElem?_eq_getElem hjl,List.getD_eq_getElem?_getD,List.getElem?_eq_getElem hjl];rfl
   refine stepR (An t67 (An t68 (An t69 hjl'))) ?_
   refine ml_loadN Sd0 Sd0 (row_of hgs2 hrow) ?_
   generalize srt.getD j (0,0)=x at htk
   refine stepR0 ?_
   refine ml_init (vs:=[.int .i64 x.1,.int .i64 x.2]) Sd0 Sd0 Sd0 rfl rfl rfl fun τ4 e4 g4=>?_
   refine stepR (An t10 g4) ?_
   refine ml_appG (cs:=ints ((srt.take j).map (·.2))) (vs:=[.int .i64 x.2]) Sd0 (Sw t10) Sd0 ((out.of_ext e4).of_ext (Ext.push _ _)) (H.get_push_self _ _) rfl (by omega) (by rw [List.all_append,ints_one];rfl) (by omega) (by rw [ints_len];simp only [appMax,List.length_map,List.length_take];omega) ?_
   intro ov' τ5 out5
   have hia:ints ((srt.take j).map (·.2)) ++ [.int .i64 x.2]=ints ((srt.take (j + 1)).map (·.2)):=by rw [htk,List.map_append];simp [ints]
   rw [hia] at out5
   refine stepR t69 ?_
   exact ⟨_,by omega,j + 1,ov',rfl,hjl,Sd0,(Sw t67),(Sw t68),Sd0,out5⟩
  ·obtain rfl:j=srt.length:=by omega
   rw [List.take_length] at out
   have hnl3:¬ (srt.length:Int) < (srt.length:Int):=by omega
   refine stepR (An t68 (An t69 hnl3)) ?_
   refine fin1 ⟨srt.map (·.2),?_,?_⟩
   ·simp only [go_sem,reduceIte,Nat.reduceEqDiff,reduceCtorEq,Nat.reduceAdd,Nat.reduceLeDiff,Int.reduceNeg,Int.reduceToNat,Int.reduceBEq,Int.reduceBNe,Int.reduceLT,Int.reduceLE,Int.reduceAdd,Int.reduceSub,t10]
    obtain ⟨e5,o5,own5,h5⟩:=out
    have eall:Ext σ τC:=eσB.trans (eB.trans eC)
    exact ⟨eall.trans e5,o5,own5,fun id hi=>Nat.le_trans eall.size (h5 id hi)⟩
   ·rw [if_pos rfl]
    exact ⟨srt,pm,pw,rfl⟩
end Go.Proofs.YtoejdgoicoaomaaGreatDoor
namespace Go.Proofs.YtoejdgoicoaomaaGreatDoor
open Go.Mini
open Go.Proofs.YtoejdgoicoaomaaGreatDoor.Code
attribute [local irreducible] mx ml mld mstep MCalls Ex.thn Ex.inb
variable {E:World→Prop}
end Go.Proofs.YtoejdgoicoaomaaGreatDoor
namespace Go.Proofs.YtoejdgoicoaomaaGreatDoor
open Go.Mini
open Go.Proofs.YtoejdgoicoaomaaGreatDoor.Code
attribute [local irreducible] mx ml mld mstep MCalls Ex.thn Ex.inb
variable {E:World→Prop}
inductive WayR (W Hh:Int) (S:ByteArray) (f:List Int):Nat→Int→List Int→Prop where
 | stop {n:Nat} {c:Int} (h:DownR W Hh S f c []):WayR W Hh S f n c []
 | full {c:Int}:WayR W Hh S f 0 c []
 | step {n:Nat} {c d:Int} {l out:List Int} (h:DownR W Hh S f c (d :: l)) (t:WayR W Hh S f n d out):WayR W Hh S f (n + 1) c (d :: out)
set_option maxHeartbeats 2000000 in
theorem fWay_c (W Hh:Int) (S:ByteArray) {σ:H} {fv:Value} {f:List Int} (hr:Rd σ fv (ints f)) (c:Int):
 MCalls E Tryz.prog 155 [mapV W Hh S,fv,.int .i64 c] σ (fun v τ=>∃ out,Out σ τ 1 v (ints out)∧WayR W Hh S f 64 c out):=by
 refine mcalls_of fn155 (by simp) ?_
 unfold c155 r155 mapV
 refine stepR0 ?_
 generalize hτ:H.push _ _=τ
 have e1:Ext σ τ:=hτ ▸ Ext.push _ _
 have g1:τ.get σ.size=.cells 0 [.int .i64 W,.int .i64 Hh,.string S]:=by rw [← hτ];exact H.get_push_self _ _
 have r1:=hr.of_ext e1
 clear hτ
 refine stepR g1 ?_
 refine ml_call Sd0 Sd0 (fDown_c W Hh S r1 c) ?_
 rintro lv τ2 ⟨l,out2,hd⟩
 refine stepR0 ?_
 refine mx_loop (fun n ts τ'=>∃ acc ov c' lv l,n=64 - acc.length∧acc.length≤64∧ts 1=fv∧ts 2=.int .i64 c'∧ts 3=.pointer (some ⟨σ.size,0,none⟩)∧ts 7=ov∧ts 8=lv∧Out τ τ' 1 ov (ints acc)∧Rd τ' lv (ints l)∧DownR W Hh S f c' l∧(∀ rest,WayR W Hh S f (64 - acc.length) c' rest→WayR W Hh S f 64 c (acc ++ rest))) 64 ?_ ?_
 ·exact ⟨[],.slice none 0 0,c,lv,l,rfl,by simp,Sd0,Sd0,Sd0,Sd0,Sd0,⟨out2.1,none,.nil,fun _ h=>nomatch h⟩,out2.rd,hd,fun rest h=>h⟩
 clear hd out2
 rintro n ts τ' ⟨acc,ov,c',lv',l',rfl,ha,t1,t2,t3,t7,t8,out,rl,hd,hw⟩
 refine stepR t8 ?_
 refine ml_len Sd0 rl (Sw t8) ?_
 rw [ints_len]
 cases l' with
 | nil=>
   rw [List.length_nil]
   refine stepR t7 ?_
   refine fin1 ⟨acc,?_,?_⟩
   ·simp only [go_sem,reduceIte,Nat.reduceEqDiff,reduceCtorEq,Nat.reduceAdd,Nat.reduceLeDiff,Int.reduceNeg,Int.reduceToNat,Int.reduceBEq,Int.reduceBNe,Int.reduceLT,Int.reduceLE,Int.reduceAdd,Int.reduceSub,t7]
    obtain ⟨e5,o5,own5,h5⟩:=out
    exact ⟨e1.trans e5,o5,own5,fun id hi=>Nat.le_trans e1.size (h5 id hi)⟩
   ·have:=hw [] (.stop hd);rwa [List.append_nil] at this
 | cons d l'=>
   have hm0:0 < (d :: l').length:=Nat.succ_pos _
   generalize (d :: l').length=m at hm0 ⊢
   have hl0:¬ ((m:Int)=0):=by omega
   have hl1:(0:Int) < (m:Int):=by omega
   refine stepR (An hl0 (An hl1 t7)) ?_
   refine ml_len (Sw (An hl0 hl1)) out.rd (Sw t7) ?_
   rw [ints_len]
   by_cases h64:acc.length < 64
   ·have h64':(acc.length:Int) < 64:=by omega
    refine stepR (An hl0 (An hl1 (An h64' t8))) ?_
    refine ml_getS (q:=0) (e:=.int .i64 d) rl (Sw t8) Sd0 (by omega) rfl fun p=>?_
    refine stepR t7 ?_
    refine ml_appG (cs:=ints acc) (vs:=[.int .i64 d]) Sd0 (Sw t7) Sd0 (out.of_ext (Ext.push _ _)) (H.get_push_self _ _) rfl (by omega) (by rw [List.all_append,ints_one];rfl) (by omega) (by rw [ints_len];simp only [appMax];omega) ?_
    intro ov' τ3 out3
    have hia:ints acc ++ [.int .i64 d]=ints (acc ++ [d]):=by simp [ints]
    rw [hia] at out3
    have g3:=out3.1.cells g1
    have r3:=r1.of_ext out3.1
    refine stepR (An t3 (An g3 t1)) ?_
    refine ml_call Sd0 Sd0 (fDown_c W Hh S r3 d) ?_
    rintro lv2 τ4 ⟨l2,out4,hd2⟩
    refine stepR0 ?_
    have hal:(acc ++ [d]).length=acc.length + 1:=by simp
    refine ⟨_,?_,acc ++ [d],ov',d,lv2,l2,rfl,by omega,(Sw t1),Sd0,(Sw t3),Sd0,Sd0,out3.of_ext out4.1,out4.rd,hd2,fun rest hrest=>?_⟩
    ·omega
    ·have e:64 - acc.length=(64 - (acc ++ [d]).length) + 1:=by omega
     have:=hw (d :: rest) (by rw [e];exact .step hd hrest)
     rw [List.append_assoc];exact this
   ·have h64':¬ (acc.length:Int) < 64:=by omega
    refine stepR (An hl0 (An hl1 (An h64' t7))) ?_
    refine fin1 ⟨acc,?_,?_⟩
    ·simp only [go_sem,reduceIte,Nat.reduceEqDiff,reduceCtorEq,Nat.reduceAdd,Nat.reduceLeDiff,Int.reduceNeg,Int.reduceToNat,Int.reduceBEq,Int.reduceBNe,Int.reduceLT,Int.reduceLE,Int.reduceAdd,Int.reduceSub,t7]
     obtain ⟨e5,o5,own5,h5⟩:=out
     exact ⟨e1.trans e5,o5,own5,fun id hi=>Nat.le_trans e1.size (h5 id hi)⟩
    ·have e:64 - acc.length=0:=by omega
     rw [e] at hw
     have:=hw [] .full;rwa [List.append_nil] at this
inductive PathTo (W:Int) (S:ByteArray):Int→List Int→Int→Prop where
 | nil (x:Int):PathTo W S x [] x
 | cons {x h y:Int} {out:List Int} (hn:h ∈ nearL W S x) (t:PathTo W S h out y):PathTo W S x (h :: out) y
section
variable {W Hh:Int} {S:ByteArray} {src:List Int} {st:Int} {f:List Int}
theorem cst_at (hc:Cst W S src st f) {x:Int} (hx:opn S x=true):CostOK W S src st x (f.getD x.toNat 0):=by
 have hl:=opn_lt hx
 have:=hc.2 x.toNat (by omega)
 rwa [Int.toNat_of_nonneg hl.1] at this
theorem dnI_mem {c:Int} {p:Due}:p ∈ dnI W S f c↔p.2 ∈ nearL W S c∧p.1=f.getD p.2.toNat 0∧0≤p.1∧p.1 < f.getD c.toNat 0:=by
 unfold dnI
 rw [List.mem_map]
 constructor
 ·rintro ⟨n,hn,rfl⟩
  have:=List.mem_filter.1 hn
  rw [Bool.and_eq_true,decide_eq_true_eq,decide_eq_true_eq] at this
  exact ⟨this.1,rfl,this.2.1,this.2.2⟩
 ·rintro ⟨h1,h2,h3,h4⟩
  refine ⟨p.2,List.mem_filter.2 ⟨h1,?_⟩,by rw [← h2]⟩
  rw [Bool.and_eq_true,decide_eq_true_eq,decide_eq_true_eq,← h2]
  exact ⟨h3,h4⟩
theorem DownL.mem {c:Int} {out:List Int} (h:DownL W S f c out) {n:Int}:n ∈ out↔n ∈ nearL W S c∧0≤f.getD n.toNat 0∧f.getD n.toNat 0 < f.getD c.toNat 0:=by
 obtain ⟨l,pm,_,rfl⟩:=h
 rw [List.mem_map]
 constructor
 ·rintro ⟨p,hp,rfl⟩
  obtain ⟨h1,h2,h3,h4⟩:=dnI_mem.1 (pm.mem_iff.1 hp)
  rw [← h2];exact ⟨h1,h3,h4⟩
 ·rintro ⟨h1,h2,h3⟩
  exact ⟨(f.getD n.toNat 0,n),pm.mem_iff.2 (dnI_mem.2 ⟨h1,rfl,h2,h3⟩),rfl⟩
end
end Go.Proofs.YtoejdgoicoaomaaGreatDoor
namespace Go.Proofs.YtoejdgoicoaomaaGreatDoor
open Go.Mini
open Go.Proofs.YtoejdgoicoaomaaGreatDoor.Code
attribute [local irreducible] mx ml mld mstep MCalls Ex.thn Ex.inb
variable {E:World→Prop}
noncomputable def planOK (W Hh:Int) (S:ByteArray) (a b step:Int):Bool:=gr W Hh S && opn S a && opn S b && decide (1≤step) && decide (step≤100)
def planR (W Hh:Int) (S:ByteArray) (a b step:Int) (σ:H) (v:Value) (τ:H):Prop:=
 if planOK W Hh S a b step=true then ∃ wv out f,v=.tuple #[wv,.int .i64 (f.getD a.toNat 0),.nilIface]∧Cst W S [b] step f∧WayR W Hh S f 64 a out∧Out σ τ 1 wv (ints out)
 else ∃ nm e,v=.tuple #[.slice none 0 0,.int .i64 0,e]∧TagE τ e nm 1∧Ext σ τ
theorem plan_ok {W Hh:Int} {S:ByteArray} {a b step:Int} {σ τ:H} {v:Value} (h:planR W Hh S a b step σ v τ) (hok:planOK W Hh S a b step=true):
 ∃ wv out f,v=.tuple #[wv,.int .i64 (f.getD a.toNat 0),.nilIface]∧Cst W S [b] step f∧WayR W Hh S f 64 a out∧Out σ τ 1 wv (ints out):=by
 unfold planR at h;rw [if_pos hok] at h;exact h
theorem plan_bad {W Hh:Int} {S:ByteArray} {a b step:Int} {σ τ:H} {v:Value} (h:planR W Hh S a b step σ v τ) (hok:planOK W Hh S a b step=false):
 ∃ nm e,v=.tuple #[.slice none 0 0,.int .i64 0,e]∧TagE τ e nm 1∧Ext σ τ:=by
 unfold planR at h;rw [if_neg (by rw [hok];simp)] at h;exact h
theorem fin3 {i j k:Nat} {ts:Fr} {σ:H} {R:Value→H→Prop} (h:R (.tuple #[ts i,ts j,ts k]) σ):mpost [.t i,.t j,.t k] R .ret ts σ:=⟨[ts i,ts j,ts k],rfl,h⟩
theorem TagE.neq {σ:H} {v:Value} {nm:ByteArray} {n:Int} (h:TagE σ v nm n) {ts:Fr} {x:Opd} (hx:mev ts x=v) (neg:Bool):mop ts σ (.eqN .iface neg x (.c .nilIface))=some (.bool (if neg then true else false),σ):=by
 obtain ⟨id,rfl,_⟩:=h
 show (eqNil .iface (mev ts x) .nilIface).map _=_
 rw [hx]
 cases neg<;>rfl
set_option maxHeartbeats 2000000 in
theorem oPlan_c (W Hh:Int) (S:ByteArray) (a b step:Int) (σ:H):MCalls E Tryz.prog 143 [mapV W Hh S,.int .i64 a,.int .i64 b,.int .i64 step] σ (planR W Hh S a b step σ):=by
 refine mcalls_of fn143 (by simp) ?_
 unfold c143 r143 mapV
 refine stepR0 ?_
 refine ml_call Sd0 Sd0 (gopen_c W Hh S a _) ?_
 rintro _ τ ⟨rfl,e1⟩
 have g1:=e1.cells (H.get_push_self σ _)
 have e1':Ext σ τ:=(Ext.push _ _).trans e1
 refine ml_mid (fun ts τ'=>Ext τ τ'∧ts 1=.int .i64 a∧ts 2=.int .i64 b∧ts 3=.int .i64 step∧ts 4=.pointer (some ⟨σ.size,0,none⟩)∧ts 22=.bool (!(gr W Hh S && opn S a && opn S b))) ?_ ?_
 ·cases h1:gr W Hh S && opn S a
  ·refine stepR0 ?_
   exact ⟨Ext.refl _,Sd0,Sd0,Sd0,Sd0,Sd0⟩
  ·have hg:gr W Hh S=true:=by rw [Bool.and_eq_true] at h1;exact h1.1
   refine stepR g1 ?_
   refine ml_call Sd0 Sd0 (gopen_c W Hh S b τ) ?_
   rintro _ τ2 ⟨rfl,e2⟩
   rw [hg,Bool.true_and]
   refine stepR0 ?_
   exact ⟨e2,Sd0,Sd0,Sd0,Sd0,Sd0⟩
 rintro ts τ2 ⟨e2,t1,t2,t3,t4,t22⟩
 have e2':=e1'.trans e2
 have g2:=e2.cells g1
 cases h1:gr W Hh S && opn S a && opn S b
 ·have hbad:planOK W Hh S a b step=false:=by unfold planOK;rw [h1];rfl
  rw [h1] at t22
  refine stepR t22 ?_
  refine ml_call Sd0 Sd0 (tag_c _ _ _) ?_
  rintro ev τ3 ⟨he,e3⟩
  refine stepR0 ?_
  refine fin3 ?_
  unfold planR
  rw [if_neg (by rw [hbad];simp)]
  exact ⟨_,ev,Sd0,he,e2'.trans e3⟩
 have h1':=h1
 simp only [Bool.and_eq_true] at h1'
 obtain ⟨⟨hg,ha⟩,hb⟩:=h1'
 rw [h1] at t22
 refine stepR (An t22 (An t4 (An g2 (An t2 t3)))) ?_
 refine ml_call Sd0 (Sw t2) (costs_c W Hh S [b] step _ _ (one_rd (H.get_push_self _ _))) ?_
 intro v τ3 hc
 cases hok:costOK W Hh S [b] step
 ·have hbad:planOK W Hh S a b step=false:=by
   unfold costOK at hok
   unfold planOK
   rw [h1]
   rw [hg] at hok
   simpa using hok
  obtain ⟨ev,rfl,he,e3⟩:=cost_bad hc hok
  refine stepR0 ?_
  refine ml_op Sd0 (he.neq Sd0 true) ?_
  refine stepR0 ?_
  refine fin3 ?_
  unfold planR
  rw [if_neg (by rw [hbad];simp)]
  exact ⟨_,ev,Sd0,he,e2'.trans ((Ext.push _ _).trans e3)⟩
 ·have hgood:planOK W Hh S a b step=true:=by
   unfold costOK at hok
   unfold planOK
   rw [h1]
   rw [hg] at hok
   simpa using hok
  obtain ⟨fv,f,rfl,hcf,hof⟩:=cost_ok hc hok
  have e3:=(Ext.push τ2 _).trans hof.1
  have g3:=e3.cells g2
  have hal:=opn_lt ha
  have afa:=ints_at (l:=f) (i:=a.toNat) (by rw [hcf.1];omega)
  refine stepR (An t4 (An g3 t1)) ?_
  refine mld_getS (q:=a) Sd0 hof.rd Sd0 (Sw t1) hal.1 afa (fun p=>Sd0) fun p=>?_
  refine stepR0 ?_
  refine mld_call Sd0 (Sw t1) (fWay_c W Hh S hof.rd a) (fun _ _ ⟨_,h,_⟩=>h.1) ?_
  rintro wv τ4 ⟨out,how,hway⟩
  refine stepR0 ?_
  refine fin3 ?_
  unfold planR
  rw [if_pos hgood]
  refine ⟨wv,out,f,Sd0,hcf,hway,?_⟩
  obtain ⟨e5,o5,own5,h5⟩:=how
  have eall:=e2'.trans e3
  exact ⟨eall.trans e5,o5,own5,fun id hi=>Nat.le_trans eall.size (h5 id hi)⟩
section
variable {W Hh:Int} {S:ByteArray}
theorem wk_trans {a b c:Int} {i j:Nat} (h1:Wk W S [a] i b) (h2:Wk W S [b] j c):Wk W S [a] (i + j) c:=by
 induction h2 with
 | src h ho=>simp at h;subst h;exact h1
 | step _ hn ih=>exact .step ih hn
end
end Go.Proofs.YtoejdgoicoaomaaGreatDoor
namespace Go.Proofs.YtoejdgoicoaomaaGreatDoor
open Go.Mini
open Go.Proofs.YtoejdgoicoaomaaGreatDoor.Code
attribute [local irreducible] mx ml mld mstep MCalls Ex.thn Ex.inb
variable {E:World→Prop}
section
variable {W Hh:Int} {S:ByteArray} {s:Int} {st:Int} {f:List Int}
theorem fs_dist (hg:gr W Hh S=true) (hs:opn S s=true) (hc:Cst W S [s] st f) {x:Int} (hx:opn S x=true):∃ k:Nat,Wk W S [s] k x∧(∀ j,Wk W S [s] j x→k≤j)∧f.getD x.toNat 0=st * k∧k < S.size:=by
 rcases cst_at hc hx with ⟨_,h⟩ | ⟨k,h1,h2,h3⟩
 ·obtain ⟨_,c0,hc0,hC,hr⟩:=gr_all hg
  have hop:opn S (c0:Int)=true:=by
   simp only [opn,bAt,Int.toNat_natCast,hC]
   have h6:(c0:Int) < (S.size:Int):=by omega
   simp [h6]
  obtain ⟨k,hk⟩:=reach_wk hs (((hr s hs).symm (gr_size hg).1 hop).trans (hr x hx))
  exact absurd hk (h k)
 ·exact ⟨k,h1,h2,h3,h1.short h2⟩
theorem fs_diff (hg:gr W Hh S=true) (hs:opn S s=true) (hc:Cst W S [s] st f) (h1:1≤st) {x n:Int} (hx:opn S x=true) (hn:n ∈ nearL W S x):f.getD n.toNat 0 - f.getD x.toNat 0≤st∧-st≤f.getD n.toNat 0 - f.getD x.toNat 0:=by
 obtain ⟨a,a1,a2,a3,_⟩:=fs_dist hg hs hc hx
 obtain ⟨b,b1,b2,b3,_⟩:=fs_dist hg hs hc (near_opn hn)
 have h2:=b2 (a + 1) (.step a1 hn)
 have h3:=a2 (b + 1) (.step b1 (near_symm (gr_size hg).1 hx hn))
 rw [a3,b3]
 have e1:st * (b:Int)≤st * ((a + 1:Nat):Int):=Int.mul_le_mul_of_nonneg_left (by omega) (by omega)
 have e2:st * (a:Int)≤st * ((b + 1:Nat):Int):=Int.mul_le_mul_of_nonneg_left (by omega) (by omega)
 rw [Int.natCast_add,Int.mul_add] at e1 e2
 simp at e1 e2
 omega
theorem fs_less (hg:gr W Hh S=true) (hs:opn S s=true) (hc:Cst W S [s] st f) {x:Int} (hx:opn S x=true) (hne:x≠s):∃ n ∈ nearL W S x,f.getD n.toNat 0 - f.getD x.toNat 0=-st:=by
 obtain ⟨a,a1,a2,a3,_⟩:=fs_dist hg hs hc hx
 cases a1 with
 | src h _=>simp at h;exact absurd h hne
 | @step k y _ hy hxy=>
   have hyx:=near_symm (gr_size hg).1 hy.opn hxy
   refine ⟨y,hyx,?_⟩
   obtain ⟨b,b1,b2,b3,_⟩:=fs_dist hg hs hc hy.opn
   have h1:=b2 k hy
   have h2:=a2 (b + 1) (.step b1 hxy)
   obtain rfl:b=k:=by omega
   rw [a3,b3,Int.natCast_add,Int.mul_add];simp;omega
end
end Go.Proofs.YtoejdgoicoaomaaGreatDoor
namespace Go.Proofs.YtoejdgoicoaomaaGreatDoor
open Go.Mini
open Go.Proofs.YtoejdgoicoaomaaGreatDoor.Code
attribute [local irreducible] mx ml mld mstep MCalls Ex.thn Ex.inb
variable {E:World→Prop}
end Go.Proofs.YtoejdgoicoaomaaGreatDoor
namespace Go.Proofs.YtoejdgoicoaomaaGreatDoor
open Go.Mini
open Go.Proofs.YtoejdgoicoaomaaGreatDoor.Code
attribute [local irreducible] mx ml mld mstep MCalls Ex.thn Ex.inb
variable {E:World→Prop}
end Go.Proofs.YtoejdgoicoaomaaGreatDoor
