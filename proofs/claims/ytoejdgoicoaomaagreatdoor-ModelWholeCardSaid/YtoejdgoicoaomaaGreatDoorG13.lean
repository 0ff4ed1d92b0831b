/- slices.Concat of two; claim's Taken. -/
import Derived.Test.YtoejdgoicoaomaaGreatDoorG6
import Derived.Test.YtoejdgoicoaomaaGreatDoorG12
import Derived.Test.YtoejdgoicoaomaaGreatDoorG10
import Derived.Test.YtoejdgoicoaomaaGreatDoorG11
set_option linter.unusedVariables false
set_option linter.unusedSimpArgs false
namespace Go.Proofs.YtoejdgoicoaomaaGreatDoor
open Go.Mini
open Go.Proofs.YtoejdgoicoaomaaGreatDoor.Code
attribute [local irreducible] mx ml mld mstep MCalls Ex.thn Ex.inb
variable {E:World→Prop}
set_option maxHeartbeats 2000000 in
theorem slConcat_c {σ:H} {id:Nat} {vs:List Value} {ls:List (List Int)} (hg:σ.get id=.cells 1 vs) (hvl:vs.length=ls.length) (hr:∀ i (h:i < ls.length),∃ v,vs[i]?=some v∧Rd σ v (ints ls[i])) (hlen:ls.length≤1000) (hl:∀ l ∈ ls,l.length≤1000):
 MCalls E Tryz.prog 148 [.slice (some ⟨id,0,none⟩) ls.length ls.length] σ (fun v τ=>Out σ τ 1 v (ints ls.flatten)):=by
 have hfl0:∀ K,(∀ l ∈ ls,l.length≤K)→∀ i,((ls.take i).flatten).length≤i * K:=fun K hK i=>by
  induction i with
  | zero=>simp
  | succ i ih=>
    rw [List.take_add_one,List.flatten_append,List.length_append,Nat.add_mul,Nat.one_mul]
    refine Nat.add_le_add ih ?_
    cases h:ls[i]? with
    | none=>exact Nat.zero_le _
    | some l=>
      have h2:(Option.toList (some l)).flatten=l:=List.append_nil l
      rw [h2];exact hK l (List.mem_of_getElem? h)
 have hfl:=hfl0 1000 hl
 have hgt:∀ i (h:i < ls.length),(ls.take (i + 1)).flatten=(ls.take i).flatten ++ ls[i]:=fun i h=>by
  rw [List.take_add_one,List.getElem?_eq_getElem h,List.flatten_append];simp only [Option.toList_some,List.flatten_cons,List.flatten_nil,List.append_nil]
 refine mcalls_of fn148 (by simp) ?_
 unfold c148 r148
 refine stepR0 ?_
 refine mx_loop (fun n ts τ=>∃ i:Nat,n=ls.length - i∧i≤ls.length∧τ=σ∧ts 0=.slice (some ⟨id,0,none⟩) ls.length ls.length∧ts 3=.int .i64 (((ls.take i).flatten.length:Nat):Int)∧ts 9=.slice (some ⟨id,0,none⟩) ls.length ls.length∧ts 10=.int .i64 ((ls.length:Nat):Int)∧ts 11=.int .i64 ((i:Nat):Int)) ls.length ?_ ?_
 ·exact ⟨0,rfl,Nat.zero_le _,rfl,Sd0,by simp;exact Sd0,Sd0,Sd0,Sd0⟩
 rintro _ ts τ ⟨i,rfl,hi,rfl,t0,t3,t9,t10,t11⟩
 rcases Nat.lt_or_ge i ls.length with hil | hig
 ·have hil':((i:Nat):Int) < ((ls.length:Nat):Int):=by omega
  obtain ⟨v,hv,hrd⟩:=hr i hil
  have h1:=hfl i
  have h2:=hl _ (List.getElem_mem hil)
  have hng:¬ (((ls.take i).flatten.length:Nat):Int) + ((ls[i].length:Nat):Int) < 0:=by omega
  have hmul:i * 1000≤1000000:=by omega
  refine stepR (An t9 (An t10 (An t11 hil'))) ?_
  refine ml_op Sd0 (o_load1q (off:=i) (v:=v) Sd0 hg hv) ?_
  refine stepR t3 ?_
  refine ml_len Sd0 hrd Sd0 ?_
  rw [ints_len]
  refine stepR (An hng t11) ?_
  refine ⟨ls.length - (i + 1),by omega,i + 1,rfl,by omega,rfl,(Sw t0),?_,(Sw t9),(Sw t10),Sd0⟩
  rw [hgt i hil,List.length_append]
  exact Sd0
 obtain rfl:i=ls.length:=by omega
 have hil':¬ ((ls.length:Nat):Int) < ((ls.length:Nat):Int):=by omega
 rw [List.take_length] at t3
 have hN:ls.flatten.length≤1000000:=by have:=hfl ls.length;rw [List.take_length] at this;omega
 refine stepR (An t10 (An t11 (An hil' t3))) ?_
 refine ml_call Sd0 (Sw t3) (slGrow_c ls.flatten.length hN τ) ?_
 rintro v0 τ2 ⟨e2,oid,own,hid⟩
 refine stepR t0 ?_
 refine mx_loop (fun n ts τ'=>∃ (i:Nat) (v:Value) (oj:Option Nat),n=ls.length - i∧i≤ls.length∧Ext τ τ'∧Own τ' 1 v oj (ints (ls.take i).flatten)∧(∀ j,oj=some j→τ.size≤j)∧ts 6=v∧ts 25=.slice (some ⟨id,0,none⟩) ls.length ls.length∧ts 26=.int .i64 ((ls.length:Nat):Int)∧ts 27=.int .i64 ((i:Nat):Int)) ls.length ?_ ?_
 ·exact ⟨0,v0,oid,rfl,Nat.zero_le _,e2,own,hid,Sd0,(Sw t0),Sd0,Sd0⟩
 rintro _ ts τ' ⟨i,v1,oj,rfl,hi,e,own,hoj,t6,t25,t26,t27⟩
 rcases Nat.lt_or_ge i ls.length with hil | hig
 ·have hil':((i:Nat):Int) < ((ls.length:Nat):Int):=by omega
  obtain ⟨v,hv,hrd⟩:=hr i hil
  have h1:=hfl i
  have h2:=hl _ (List.getElem_mem hil)
  have hmul:i * 1000≤1000000:=by omega
  refine stepR (An t25 (An t26 (An t27 hil'))) ?_
  refine ml_op Sd0 (o_load1q (off:=i) (v:=v) Sd0 (e.cells hg) hv) ?_
  refine stepR t6 ?_
  refine ml_appR Sd0 (Sw t6) Sd0 own (hrd.of_ext e) (by rw [← ints_app];exact ints_one _) (by omega) (by rw [ints_len,ints_len];simp only [appMax];omega) fun v' τ3 oid' own3 ho3 hs3 hk3=>?_
  rw [← ints_app,← hgt i hil] at own3
  have hz:=e.size
  refine stepR t27 ?_
  refine ⟨ls.length - (i + 1),by omega,i + 1,v',oid',rfl,by omega,⟨by omega,fun k hk=>?_⟩,own3,fun j hj=>?_,Sd0,(Sw t25),(Sw t26),Sd0⟩
  ·rw [hk3 k (by omega) (fun e2=>by have:=hoj k e2;omega)];exact e.get k hk
  ·rcases ho3 with h | h
   ·exact hoj j (by rw [← h];exact hj)
   ·rw [h] at hj;injection hj with hj;omega
 ·obtain rfl:i=ls.length:=by omega
  have hil':¬ ((ls.length:Nat):Int) < ((ls.length:Nat):Int):=by omega
  rw [List.take_length] at own
  refine stepR (An t26 (An t27 (An hil' t6))) ?_
  refine fin1 ?_
  simp only [go_sem,reduceIte,Nat.reduceEqDiff,reduceCtorEq,Nat.reduceAdd,Nat.reduceLeDiff,Int.reduceNeg,Int.reduceToNat,Int.reduceBEq,Int.reduceBNe,Int.reduceLT,Int.reduceLE,Int.reduceAdd,Int.reduceSub]
  exact ⟨e,oj,own,hoj⟩
theorem takenL_len (l:List Int) (n:Nat):(takenL l n).length=min n 64:=by simp [takenL]
theorem takenL_get (l:List Int) (n:Nat) {i:Nat} (hi:i < min n 64):(takenL l n)[i]?=some (decide ((i:Int) ∈ l)):=by
 unfold takenL
 rw [List.getElem?_map,List.getElem?_range hi];rfl
theorem takenL_snoc (l:List Int) (x:Int) (n:Nat):takenL (l ++ [x]) n=if 0≤x∧x < ((min n 64:Nat):Int) then (takenL l n).set x.toNat true else takenL l n:=by
 apply List.ext_getElem?
 intro i
 by_cases hi:i < min n 64
 ·rw [takenL_get _ _ hi]
  split
  ·rename_i hx
   rw [List.getElem?_set]
   by_cases hxi:x.toNat=i
   ·rw [if_pos hxi,if_pos (by rw [takenL_len];omega)]
    have:(i:Int)=x:=by omega
    simp [this]
   ·rw [if_neg hxi,takenL_get _ _ hi]
    have:¬ (i:Int)=x:=by omega
    simp [this]
  ·rename_i hx
   rw [takenL_get _ _ hi]
   have:¬ (i:Int)=x:=by omega
   simp [this]
 ·rw [List.getElem?_eq_none (by rw [takenL_len];omega),List.getElem?_eq_none]
  split<;>simp [takenL_len]<;>omega
set_option maxHeartbeats 2000000 in
theorem clTaken_c {σ:H} {v:Value} {l:List Int} (hr:Rd σ v (ints l)) (hl:l.length≤1000000) (n:Nat) (hn:n≤1000000):MCalls E Tryz.prog 147 [v,.int .i64 ((n:Nat):Int)] σ (fun r τ=>Out σ τ 1 r (bools (takenL l n))):=by
 refine mcalls_of fn147 (by simp) ?_
 unfold c147 r147
 have hm:(if (if (64:Int) < ((n:Nat):Int) then (64:Int) else ((n:Nat):Int)) < 0 then (0:Int) else if (64:Int) < ((n:Nat):Int) then (64:Int) else ((n:Nat):Int))=((min n 64:Nat):Int):=by split<;>split<;>omega
 refine stepR0 ?_
 refine ml_op Sd0 (o_mks1 (n:=min n 64) (by rw [← hm];exact Sd0) (by rw [← hm];exact Sd0) (by omega) (by omega)) ?_
 have hz:List.replicate (min n 64) (Value.bool false)=bools (takenL [] n):=by
  unfold takenL bools
  simp [List.map_const']
 rw [hz]
 have e0:=Ext.push σ (.cells 1 (bools (takenL [] n)))
 have g0:=H.get_push_self σ (.cells 1 (bools (takenL [] n)))
 generalize σ.push (.cells 1 (bools (takenL [] n)))=τ0 at *
 generalize hM:min n 64=m at *
 refine stepR0 ?_
 refine ml_len Sd0 (hr.of_ext e0) Sd0 ?_
 rw [ints_len]
 refine stepR0 ?_
 refine mx_loop (fun k ts τ=>∃ i:Nat,k=l.length - i∧i≤l.length∧Ext σ τ∧τ.get σ.size=.cells 1 (bools (takenL (l.take i) n))∧ts 5=.slice (some ⟨σ.size,0,none⟩) m m∧ts 12=v∧ts 13=.int .i64 ((l.length:Nat):Int)∧ts 14=.int .i64 ((i:Nat):Int)) l.length ?_ ?_
 ·exact ⟨0,rfl,Nat.zero_le _,e0,g0,Sd0,Sd0,Sd0,Sd0⟩
 rintro _ ts τ ⟨i,rfl,hi,e,hg,t5,t12,t13,t14⟩
 rcases Nat.lt_or_ge i l.length with hil | hig
 ·have hil':((i:Nat):Int) < ((l.length:Nat):Int):=by omega
  refine stepR (An t12 (An t13 (An t14 hil'))) ?_
  refine ml_getS (hr.of_ext e) (Sw t12) (Sw t14) (by omega) (by rw [Int.toNat_natCast];exact ints_at hil) fun p=>?_
  have htk:l.take (i + 1)=l.take i ++ [l.getD i 0]:=take_succ_getD hil
  have hsn:=takenL_snoc (l.take i) (l.getD i 0) n
  rw [← htk,hM] at hsn
  generalize l.getD i 0=x at *
  by_cases h0:0≤x
  ·have h0':x≥0:=h0
   by_cases hx:x < (m:Int)
   ·rw [if_pos ⟨h0,hx⟩] at hsn
    refine stepR (An h0' (An t5 hx)) ?_
    refine ml_store1 (off:=x.toNat) (v:=.bool true) Sd0 Sd0 Sd0 rfl rfl hg (by rw [bools_len,takenL_len];omega) ?_
    have hs:(bools (takenL (l.take i) n)).set x.toNat (.bool true)=bools (takenL (l.take (i + 1)) n):=by rw [hsn];unfold bools;rw [List.map_set]
    rw [hs]
    have t3:=SetTo.mk' (o:=.cells 1 (bools (takenL (l.take (i + 1)) n))) (H.lt_of_cells hg)
    generalize τ.set σ.size _=τ2 at *
    refine stepR t14 ?_
    exact ⟨l.length - (i + 1),by omega,i + 1,rfl,by omega,t3.ext e (Nat.le_refl _),t3.self,(Sw t5),(Sw t12),(Sw t13),Sd0⟩
   ·rw [if_neg (fun h=>hx h.2)] at hsn
    refine stepR (An h0' (An t5 (An hx t14))) ?_
    exact ⟨l.length - (i + 1),by omega,i + 1,rfl,by omega,e,by rw [hsn];exact hg,(Sw t5),(Sw t12),(Sw t13),Sd0⟩
  ·have h0':¬ x≥0:=h0
   rw [if_neg (fun h=>h0 h.1)] at hsn
   refine stepR (An h0' t14) ?_
   exact ⟨l.length - (i + 1),by omega,i + 1,rfl,by omega,e,by rw [hsn];exact hg,(Sw t5),(Sw t12),(Sw t13),Sd0⟩
 ·obtain rfl:i=l.length:=by omega
  have hil':¬ ((l.length:Nat):Int) < ((l.length:Nat):Int):=by omega
  rw [List.take_length] at hg
  have hlen:=takenL_len l n
  refine stepR (An t13 (An t14 (An hil' t5))) ?_
  refine fin1 ?_
  simp only [go_sem,reduceIte,Nat.reduceEqDiff,reduceCtorEq,Nat.reduceAdd,Nat.reduceLeDiff,Int.reduceNeg,Int.reduceToNat,Int.reduceBEq,Int.reduceBNe,Int.reduceLT,Int.reduceLE,Int.reduceAdd,Int.reduceSub]
  exact ⟨e,some σ.size,.full hg (by rw [bools_len,hlen,hM];omega),fun j hj=>by injection hj with hj;omega⟩
end Go.Proofs.YtoejdgoicoaomaaGreatDoor
namespace Go.Proofs.YtoejdgoicoaomaaGreatDoor
open Go.Mini
open Go.Proofs.YtoejdgoicoaomaaGreatDoor.Code
attribute [local irreducible] mx ml mld mstep MCalls Ex.thn Ex.inb
variable {E:World→Prop}
abbrev Cn:=Int × Int × Int
def cnC (c:Cn):List Value:=[.int .i64 c.1,.int .i64 c.2.1,.int .i64 c.2.2]
def cns (l:List Cn):List Value:=l.flatMap cnC
def zCn:Cn:=(0,0,0)
theorem cnC_len (c:Cn):(cnC c).length=3:=rfl
theorem cns_len (l:List Cn):(cns l).length=l.length * 3:=rows_len cnC_len l
theorem cns_one (l:List Cn):(cns l).all one=true:=by
 unfold cns
 induction l with
 | nil=>rfl
 | cons r l ih=>rw [List.flatMap_cons,List.all_append,ih];rfl
theorem cns_app (a b:List Cn):cns (a ++ b)=cns a ++ cns b:=by unfold cns;rw [List.flatMap_append]
theorem cns_row {l:List Cn} {i:Nat} (hi:i < l.length):rowL (cns l) (i * 3) 3=some (cnC (l.getD i zCn)):=rows_row cnC_len zCn hi
theorem pcCan_c (c:Cn) (σ:H):MCalls E Tryz.prog 159 [.agg (cnC c).toArray] σ (fun v τ=>v=.bool (canB c)∧Ext σ τ):=by
 obtain ⟨r,n,ch⟩:=c
 refine mcalls_of fn159 (by simp) ?_
 unfold c159 r159 cnC canB
 have e:=Ext.push σ (.cells 0 [.int .i64 r,.int .i64 n,.int .i64 ch])
 have g1:=H.get_push_self σ (.cells 0 [.int .i64 r,.int .i64 n,.int .i64 ch])
 refine stepR0 ?_
 generalize σ.push (.cells 0 [.int .i64 r,.int .i64 n,.int .i64 ch])=τ at *
 by_cases h:0≤n
 ·have h':n≥0:=h
  refine stepR (An g1 h') ?_
  refine fin1 ⟨?_,e⟩
  simp only [go_sem,reduceIte,Nat.reduceEqDiff,reduceCtorEq,Nat.reduceAdd,Nat.reduceLeDiff,Int.reduceNeg,Int.reduceToNat,Int.reduceBEq,Int.reduceBNe,Int.reduceLT,Int.reduceLE,Int.reduceAdd,Int.reduceSub,decide_eq_true h]
 ·have h':¬ n≥0:=h
  refine stepR (An g1 h') ?_
  refine fin1 ⟨?_,e⟩
  simp only [go_sem,reduceIte,Nat.reduceEqDiff,reduceCtorEq,Nat.reduceAdd,Nat.reduceLeDiff,Int.reduceNeg,Int.reduceToNat,Int.reduceBEq,Int.reduceBNe,Int.reduceLT,Int.reduceLE,Int.reduceAdd,Int.reduceSub,decide_eq_false h]
theorem pcOrder1_c (c:Cn) (σ:H):MCalls E Tryz.prog 158 [.agg (cnC c).toArray] σ (fun v τ=>v=.bool (!canB c)∧Ext σ τ):=by
 refine mcalls_of fn158 (by simp) ?_
 unfold c158 r158
 have e:=Ext.push σ (.cells 0 (cnC c))
 have g1:=H.get_push_self σ (.cells 0 (cnC c))
 refine mx_seq (mx_ops (ml_op Sd0 (o_box Sd0) ?_))
 generalize σ.push (.cells 0 (cnC c))=τ at *
 refine stepR0 ?_
 refine ml_loadN Sd0 Sd0 (row_of g1 (rowAll rfl)) ?_
 refine ml_call Sd0 Sd0 (pcCan_c c τ) ?_
 rintro _ τ2 ⟨rfl,e2⟩
 refine stepR0 ?_
 exact fin1 ⟨Sd0,e.trans e2⟩
theorem take_cn {l:List Cn} {i:Nat} (hi:i < l.length):l.take (i + 1)=l.take i ++ [l.getD i zCn]:=by
 rw [List.take_add_one,List.getD_eq_getElem?_getD,List.getElem?_eq_getElem hi];rfl
theorem pcIndex_c {σ:H} {v:Value} {oid:Option Nat} {l:List Cn} (hr:Own σ 3 v oid (cns l)) (hl:l.length≤1000):
 MCalls E Tryz.prog 165 [v,.func (.func 158) #[] #[]] σ (fun r τ=>Ext σ τ∧((r=.int .i64 (-1)∧∀ x ∈ l,canB x=true)∨∃ i:Nat,i < l.length∧r=.int .i64 i∧canB (l.getD i zCn)=false∧∀ x ∈ l.take i,canB x=true)):=by
 refine mcalls_of fn165 (by simp) ?_
 unfold c165 r165
 have hcl:=cns_len l
 rcases hr.inv with ⟨rfl,rfl,h0⟩ | ⟨id,n,rfl,rfl,hg,hn⟩
 ·have hl0:l=[]:=by
   rw [h0] at hcl;exact List.length_eq_zero_iff.1 (by simp at hcl;omega)
  subst hl0
  refine stepR0 ?_
  refine mx_loop (fun n ts τ=>τ=σ∧ts 7=.int .i64 0∧ts 8=.int .i64 0) 0 ⟨rfl,Sd0,Sd0⟩ ?_
  rintro _ ts _ ⟨rfl,t7,t8⟩
  have h00:¬ (0:Int) < 0:=by omega
  refine stepR (An t7 (An t8 h00)) ?_
  exact fin1 ⟨.refl _,.inl ⟨Sd0,by simp⟩⟩
 obtain rfl:n=l.length:=by omega
 refine stepR0 ?_
 refine mx_loop (fun n ts τ=>∃ i:Nat,n=l.length - i∧i≤l.length∧Ext σ τ∧(∀ x ∈ l.take i,canB x=true)∧ts 0=.slice (some ⟨id,0,none⟩) l.length l.length∧ts 1=.func (.func 158) #[] #[]∧ts 7=.int .i64 ((l.length:Nat):Int)∧ts 8=.int .i64 ((i:Nat):Int)) l.length ?_ ?_
 ·exact ⟨0,rfl,Nat.zero_le _,.refl _,by simp,Sd0,Sd0,Sd0,Sd0⟩
 rintro n ts τ ⟨i,rfl,hi,e,hall,t0,t1,t7,t8⟩
 rcases Nat.lt_or_ge i l.length with hlt | hge
 ·have hlt':((i:Nat):Int) < ((l.length:Nat):Int):=by omega
  refine stepR (An t0 (An t1 (An t7 (An t8 hlt')))) ?_
  refine ml_loadN (off:=i * 3) Sd0 Sd0 (row_of (e.cells hg) (cns_row hlt)) ?_
  refine ml_callv Sd0 (Sw t1) Sd0 (pcOrder1_c (l.getD i zCn) τ) ?_
  rintro _ τ2 ⟨rfl,e2⟩
  cases hx:canB (l.getD i zCn)
  ·refine stepR0 ?_
   exact fin1 ⟨e.trans e2,.inr ⟨i,hlt,Sd0,hx,hall⟩⟩
  ·refine stepR t8 ?_
   refine ⟨l.length - (i + 1),by omega,i + 1,rfl,hlt,e.trans e2,fun x hx2=>?_,(Sw t0),(Sw t1),(Sw t7),Sd0⟩
   rw [take_cn hlt,List.mem_append] at hx2
   rcases hx2 with h | h
   ·exact hall x h
   ·rw [List.mem_singleton] at h;subst h;exact hx
 ·obtain rfl:i=l.length:=by omega
  have hlt':¬ ((l.length:Nat):Int) < ((l.length:Nat):Int):=by omega
  rw [List.take_length] at hall
  refine stepR (An t7 (An t8 hlt')) ?_
  exact fin1 ⟨e,.inl ⟨Sd0,hall⟩⟩
theorem rdN_pre {σ:H} {id sz k cap:Nat} {cs:List Value} {L:List (List Value)} (hk:∀ l ∈ L,l.length=k) (hg:σ.get id=.cells sz cs) (hp:cs.take (L.length * k)=L.flatten):RdN σ k (.slice (some ⟨id,0,none⟩) L.length cap) L:=by
 have hfl:=flat_len hk
 have hlen:L.length * k≤cs.length:=by
  have:=congrArg List.length hp
  rw [List.length_take,hfl] at this;omega
 refine .mk rfl (row_of hg ?_) fun i hi=>row_of hg ?_
 ·rw [rowL_some _ _ _ (by omega),List.drop_zero,hp]
 ·have h1:i * k + k≤L.length * k:=mul_lt_le hi (Nat.le_refl _)
  rw [rowL_some _ _ _ (by omega),← flat_row hk i hi,← hp,List.drop_take,List.take_take]
  congr 2;omega
theorem o_clr3 {ts:Fr} {σ:H} {x:Opd} {zs:List Value} {id off len cap sz:Nat} {cs:List Value} (hx:mev ts x=.slice (some ⟨id,off,none⟩) len cap) (hl:len≠0) (hg:σ.get id=.cells sz cs) (hb:off + len * zs.length≤cs.length) (hz:zs.all one=true):
 mop ts σ (.clr zs x)=some (undef,σ.set id (.cells sz (spl cs off (repZ zs len)))):=by
 have h1:∀ n,(repZ zs n).all one=true:=fun n=>by
  induction n with
  | zero=>rfl
  | succ n ih=>rw [repZ,List.all_append,hz,ih];rfl
 simp only [mop,hx,hl,if_false,putRow,hg,repZ_length]
 rw [if_pos ⟨hb,h1 _⟩];rfl
theorem cns_flat (l:List Cn):(l.map cnC).flatten=cns l:=by unfold cns;rw [List.flatMap_def]
theorem cns_take (l:List Cn) (n:Nat):(cns l).take (n * 3)=cns (l.take n):=by
 rcases Nat.le_total n l.length with h | h
 ·have e:l=l.take n ++ l.drop n:=(List.take_append_drop n l).symm
  conv=>lhs;rw [e,cns_app]
  rw [List.take_append_of_le_length (by rw [cns_len,List.length_take];omega),List.take_of_length_le (by rw [cns_len,List.length_take];omega)]
 ·rw [List.take_of_length_le (by rw [cns_len];omega),List.take_of_length_le h]
set_option maxHeartbeats 4000000 in
theorem pcDelete_c {σ:H} {v:Value} {oid:Option Nat} {l:List Cn} (hr:Own σ 3 v oid (cns l)) (hl:l.length≤1000):
 MCalls E Tryz.prog 156 [v,.func (.func 158) #[] #[]] σ (fun r τ=>RdN τ 3 r ((l.filter canB).map cnC)∧KeepBut oid σ τ):=by
 refine mcalls_of fn156 (by simp) ?_
 unfold c156 r156
 have hcl:=cns_len l
 have hk3:∀ (F:List Cn),∀ x ∈ F.map cnC,x.length=3:=fun F x hx=>by
  obtain ⟨c,_,rfl⟩:=List.mem_map.1 hx;rfl
 refine stepR0 ?_
 refine ml_call Sd0 Sd0 (pcIndex_c hr hl) ?_
 rintro _ τ ⟨e1,⟨rfl,hall⟩ | ⟨i,hi,rfl,hpi,hall⟩⟩
 ·refine stepR0 ?_
  refine fin1 ⟨?_,.of_ext e1⟩
  simp only [go_sem,reduceIte,Nat.reduceEqDiff,reduceCtorEq,Nat.reduceAdd,Nat.reduceLeDiff,Int.reduceNeg,Int.reduceToNat,Int.reduceBEq,Int.reduceBNe,Int.reduceLT,Int.reduceLE,Int.reduceAdd,Int.reduceSub]
  rw [List.filter_eq_self.2 hall]
  rcases (hr.of_ext e1).inv with ⟨rfl,_,h0⟩ | ⟨id,n,rfl,_,hg,hn⟩
  ·have hl0:l=[]:=by
    rw [h0] at hcl;exact List.length_eq_zero_iff.1 (by simp at hcl;omega)
   subst hl0;exact .nil
  ·obtain rfl:n=l.length:=by omega
   have:=rdN_pre (cap:=l.length) (hk3 l) hg (by rw [List.length_map,cns_flat,List.take_of_length_le (by omega)])
   rwa [List.length_map] at this
 ·rcases hr.inv with ⟨_,_,h0⟩ | ⟨id,n,rfl,rfl,hg,hn⟩
  ·rw [h0] at hcl;simp at hcl;omega
  obtain rfl:n=l.length:=by omega
  have hne:((i:Int) == -1)=false:=by simp
  refine stepR hne ?_
  have hf0:(l.take (i + 1)).filter canB=l.take i:=by
   rw [take_cn hi,List.filter_append,List.filter_eq_self.2 hall]
   simp only [List.filter_cons,hpi,Bool.false_eq_true,if_false,List.filter_nil,List.append_nil]
  refine mx_loop (fun n ts τ=>∃ (j:Nat) (arr F:List Cn),n=l.length - j∧j≤l.length∧F=(l.take j).filter canB∧F.length < j∧arr.length=l.length∧arr.take F.length=F∧arr.drop j=l.drop j∧
   τ.get id=.cells 3 (cns arr)∧KeepBut (some id) σ τ∧ts 0=.slice (some ⟨id,0,none⟩) l.length l.length∧ts 1=.func (.func 158) #[] #[]∧ts 5=.int .i64 ((F.length:Nat):Int)∧ts 6=.int .i64 ((j:Nat):Int)) (l.length - (i + 1)) ?_ ?_
  ·have hti:(l.take i).length=i:=by rw [List.length_take];omega
   refine ⟨i + 1,l,l.take i,rfl,hi,hf0.symm,by omega,rfl,by rw [hti],rfl,e1.cells hg,.of_ext e1,Sd0,Sd0,(Sw hti),Sd0⟩
  rintro n ts τ ⟨j,arr,F,rfl,hj,hF,hFj,ha,hat,had,g1,kb,t0,t1,t5,t6⟩
  rcases Nat.lt_or_ge j l.length with hlt | hge
  ·have hlt':((j:Nat):Int) < ((l.length:Nat):Int):=by omega
   have haj:arr.getD j zCn=l.getD j zCn:=by
    have:(arr.drop j)[0]?=(l.drop j)[0]?:=by rw [had]
    rw [List.getElem?_drop,List.getElem?_drop] at this
    rw [List.getD_eq_getElem?_getD,List.getD_eq_getElem?_getD];simpa using congrArg (·.getD zCn) this
   have hd1:arr.drop (j + 1)=l.drop (j + 1):=by rw [← List.drop_drop,← List.drop_drop,had]
   refine stepR (An t0 (An t1 (An t5 (An t6 hlt')))) ?_
   refine ml_loadN (off:=j * 3) Sd0 Sd0 (row_of g1 (cns_row (by omega))) ?_
   rw [haj]
   refine stepR0 ?_
   refine ml_init (vs:=cnC (l.getD j zCn)) Sd0 Sd0 Sd0 rfl rfl rfl fun τa ea ga=>?_
   refine stepR t1 ?_
   refine ml_loadN Sd0 Sd0 (row_of ga (rowAll rfl)) ?_
   refine ml_callv Sd0 (Sw t1) Sd0 (pcOrder1_c (l.getD j zCn) τa) ?_
   rintro _ τ2 ⟨rfl,e2⟩
   have g12:=e2.cells (ea.cells g1)
   have ga2:=e2.cells ga
   have kb2:=kb.trans (.of_ext (ea.trans e2))
   have hFs:(l.take (j + 1)).filter canB=if canB (l.getD j zCn) then F ++ [l.getD j zCn] else F:=by
    rw [take_cn hlt,List.filter_append,← hF]
    cases h:canB (l.getD j zCn)<;>simp only [List.filter_cons,h,if_true,Bool.false_eq_true,if_false,List.filter_nil,List.append_nil]
   cases hx:canB (l.getD j zCn)
   ·rw [hx,if_neg (by simp)] at hFs
    refine stepR t6 ?_
    exact ⟨l.length - (j + 1),by omega,j + 1,arr,F,rfl,hlt,hFs.symm,by omega,ha,hat,hd1,g12,kb2,(Sw t0),(Sw t1),(Sw t5),Sd0⟩
   ·rw [hx,if_pos rfl] at hFs
    have hFl:((F.length:Nat):Int) < ((l.length:Nat):Int):=by omega
    refine stepR (An t0 t5) ?_
    refine ml_loadN Sd0 Sd0 (row_of ga2 (rowAll rfl)) ?_
    refine stepR hFl ?_
    refine ml_storeA (off:=F.length * 3) (vs:=cnC (l.getD j zCn)) Sd0 Sd0 Sd0 g12 rfl (by rw [cns_len];omega) rfl fun τ3 t3=>?_
    rw [show F.length * 3=F.length * 3 + 0 from rfl,show spl (cns arr) (F.length * 3 + 0) (cnC (l.getD j zCn))=cns (arr.set F.length (l.getD j zCn)) from rows_spl cnC_len zCn (l.getD j zCn) (by omega) (by simp [cnC]) (by rw [spl_all (by simp [cnC])])] at t3
    have hap:(arr.set F.length (l.getD j zCn)).take (F ++ [l.getD j zCn]).length=F ++ [l.getD j zCn]:=by
     rw [List.length_append,List.length_cons,List.length_nil,Nat.zero_add,List.take_add_one,List.take_set_of_le (Nat.le_refl _),hat,List.getElem?_set_self (by omega)];rfl
    refine stepR (An t5 t6) ?_
    refine ⟨l.length - (j + 1),by omega,j + 1,_,F ++ [l.getD j zCn],rfl,hlt,hFs.symm,by simp;omega,by simp [ha],hap,?_,t3.self,kb2.set t3,(Sw t0),(Sw t1),(by first | with_reducible rfl | (simp only [go_sem,reduceIte,Nat.reduceEqDiff,reduceCtorEq,Nat.reduceAdd,Nat.reduceLeDiff,Int.reduceNeg,Int.reduceToNat,Int.reduceBEq,Int.reduceBNe,Int.reduceLT,Int.reduceLE,Int.reduceAdd,Int.reduceSub,List.length_append];done) | (simp only [go_sem,reduceIte,Nat.reduceEqDiff,reduceCtorEq,Nat.reduceAdd,Nat.reduceLeDiff,Int.reduceNeg,Int.reduceToNat,Int.reduceBEq,Int.reduceBNe,Int.reduceLT,Int.reduceLE,Int.reduceAdd,Int.reduceSub,List.length_append];with_reducible rfl) | (simp only [go_sem,reduceIte,Nat.reduceEqDiff,reduceCtorEq,Nat.reduceAdd,Nat.reduceLeDiff,Int.reduceNeg,Int.reduceToNat,Int.reduceBEq,Int.reduceBNe,Int.reduceLT,Int.reduceLE,Int.reduceAdd,Int.reduceSub,List.length_append];(try simp (disch:=omega) only [i64wrap,u64wrap,u8wrap,u32wrap,i32wrap]);first | with_reducible rfl | done | (refine congrArg (Value.int _) ?_;omega)) | (simp only [go_sem,reduceIte,Nat.reduceEqDiff,reduceCtorEq,Nat.reduceAdd,Nat.reduceLeDiff,Int.reduceNeg,Int.reduceToNat,Int.reduceBEq,Int.reduceBNe,Int.reduceLT,Int.reduceLE,Int.reduceAdd,Int.reduceSub,List.length_append];rfl)),Sd0⟩
    rw [List.drop_set_of_lt (by omega),hd1]
  ·obtain rfl:j=l.length:=by omega
   have hlt':¬ ((l.length:Nat):Int) < ((l.length:Nat):Int):=by omega
   rw [List.take_length] at hF
   refine stepR (An t0 (An t1 (An t5 (An t6 hlt')))) ?_
   refine ml_op Sd0 (o_slc_lo Sd0 (Sw t5) (by omega) (by omega) g1) ?_
   refine ml_op Sd0 (o_clr3 (len:=l.length - F.length) (off:=F.length * 3) Sd0 (by omega) g1 (by rw [cns_len];simp;omega) rfl) ?_
   refine stepR (An t0 t5) ?_
   refine ml_op Sd0 (o_slc_hi Sd0 (Sw t5) (by omega) (by omega) (H.get_set_self (H.lt_of_cells g1))) ?_
   refine stepR0 ?_
   refine fin1 ⟨?_,kb.set (.mk' (H.lt_of_cells g1))⟩
   rw [← hF]
   simp only [go_sem,reduceIte,Nat.reduceEqDiff,reduceCtorEq,Nat.reduceAdd,Nat.reduceLeDiff,Int.reduceNeg,Int.reduceToNat,Int.reduceBEq,Int.reduceBNe,Int.reduceLT,Int.reduceLE,Int.reduceAdd,Int.reduceSub]
   have:=rdN_pre (cap:=l.length) (hk3 F) (H.get_set_self (σ:=τ) (o:=.cells 3 (spl (cns arr) (F.length * 3) (repZ [.int .i64 0,.int .i64 0,.int .i64 0] (l.length - F.length)))) (H.lt_of_cells g1)) (by rw [List.length_map,cns_flat,spl_take _ _ _ _ (Nat.le_refl _),cns_take,hat])
   rwa [List.length_map] at this
end Go.Proofs.YtoejdgoicoaomaaGreatDoor
namespace Go.Proofs.YtoejdgoicoaomaaGreatDoor
open Go.Mini
open Go.Proofs.YtoejdgoicoaomaaGreatDoor.Code
attribute [local irreducible] mx ml mld mstep MCalls Ex.thn Ex.inb
variable {E:World→Prop}
theorem minD_spec:∀ {l:List Due},(minD l=none↔l=[])∧∀ y,minD l=some y→y ∈ l∧∀ x ∈ l,le y x
 | []=>⟨by simp [minD],fun y h=>by cases h⟩
 | x :: l=>by
   obtain ⟨ih1,ih2⟩:=minD_spec (l:=l)
   unfold minD
   cases hm:minD l with
   | none=>
     have:l=[]:=ih1.1 hm
     subst this
     refine ⟨by simp,fun y h=>?_⟩
     simp only [Option.some.injEq] at h
     subst h
     exact ⟨by simp,fun z hz=>by simp at hz;subst hz;exact .refl _⟩
   | some m=>
     obtain ⟨h1,h2⟩:=ih2 m hm
     refine ⟨by simp;split<;>simp,fun y h=>?_⟩
     simp only at h
     split at h
     ·rename_i hlt
      simp only [Option.some.injEq] at h;subst h
      exact ⟨List.mem_cons_of_mem _ h1,fun z hz=>by
       rcases List.mem_cons.1 hz with rfl | hz
       ·exact le_of_lt hlt
       ·exact h2 z hz⟩
     ·rename_i hlt
      simp only [Option.some.injEq] at h;subst h
      exact ⟨by simp,fun z hz=>by
       rcases List.mem_cons.1 hz with rfl | hz
       ·exact .refl _
       ·exact (le_of_not hlt).trans (h2 z hz)⟩
theorem minD_head {l ds:List Due} (hp:ds.Perm l) (hs:ds.Pairwise le):minD l=ds.head?:=by
 cases ds with
 | nil=>
   have:l=[]:=hp.symm.eq_nil
   rw [this];rfl
 | cons d ds=>
   cases hm:minD l with
   | none=>
     rw [(minD_spec.1).1 hm] at hp
     exact absurd hp.eq_nil (by simp)
   | some y=>
     obtain ⟨h1,h2⟩:=minD_spec.2 y hm
     have hy:=hp.mem_iff.2 h1
     have hd:=h2 d (hp.mem_iff.1 (by simp))
     have:y=d:=by
      rcases List.mem_cons.1 hy with h | h
      ·exact h
      ·have:=(List.pairwise_cons.1 hs).1 y h
       unfold le at this hd
       obtain ⟨a,b⟩:=y
       obtain ⟨c,e⟩:=d
       simp only at this hd
       simp only [Prod.mk.injEq]
       omega
     rw [this];rfl
def dueC (c:Cn):Due:=(c.2.1,c.1)
set_option maxHeartbeats 4000000 in
theorem pcClone_c {σ:H} {v:Value} {oid:Option Nat} {l:List Cn} (hr:Own σ 3 v oid (cns l)) (hnil:l=[]→v=.slice none 0 0) (hl:l.length≤1000):
 MCalls E Tryz.prog 157 [v] σ (fun r τ=>Ext σ τ∧∃ oid',Own τ 3 r oid' (cns l)∧∀ j,oid'=some j→σ.size≤j):=by
 refine mcalls_of fn157 (by simp) ?_
 unfold c157 r157
 have hcl:=cns_len l
 rcases hr.inv with ⟨rfl,rfl,h0⟩ | ⟨id,n,rfl,rfl,hg,hn⟩
 ·rw [h0]
  refine stepR0 ?_
  simp only [Option.isNone_none]
  refine stepR0 ?_
  exact fin1 ⟨.refl _,none,.nil,fun _ h=>nomatch h⟩
 ·obtain rfl:n=l.length:=by omega
  have hne:l≠[]:=fun e=>by have:=hnil e;cases this
  have hlp:l.length≠0:=fun e=>hne (List.length_eq_zero_iff.1 e)
  refine stepR0 ?_
  have g1:=H.get_push_self σ (.cells 3 [])
  have e1:=Ext.push σ (.cells 3 [])
  have hlt:=H.lt_of_cells hg
  have own1:Own (σ.push (.cells 3 [])) 3 (.slice (some ⟨σ.size,0,none⟩) 0 0) (some σ.size) []:=.full g1 rfl
  refine ml_appM (k:=l.length) Sd0 Sd0 Sd0 own1 (e1.cells hg) hn hlp (by omega) (by rw [List.nil_append];exact cns_one l) (by omega) (by simp only [List.length_nil,appMax];omega) fun v' τ own2 hs2 hk2=>?_
  rw [List.nil_append] at own2
  refine stepR0 ?_
  refine fin1 ⟨?_,some (σ.push (.cells 3 [])).size,own2,fun j hj=>by injection hj with hj;rw [← hj,H.size_push];omega⟩
  have hps:(σ.push (.cells 3 [])).size=σ.size + 1:=H.size_push _ _
  refine ⟨by omega,fun k hk=>?_⟩
  rw [hk2 k (by omega) (fun e=>by injection e with e;omega)]
  exact e1.get k hk
set_option maxHeartbeats 4000000 in
theorem pcOrder_c {σ:H} {v:Value} {oid:Option Nat} {l:List Cn} (hr:Own σ 3 v oid (cns l)) (hnil:l=[]→v=.slice none 0 0) (hl:l.length≤1000):
 MCalls E Tryz.prog 144 [v] σ (fun r τ=>Ext σ τ∧∃ ds:List Due,ds.Perm ((l.filter canB).map dueC)∧ds.Pairwise le∧Rd τ r (ints (ds.map (·.2)))):=by
 refine mcalls_of fn144 (by simp) ?_
 unfold c144 r144
 refine stepR0 ?_
 refine ml_call Sd0 Sd0 (pcClone_c hr hnil hl) ?_
 rintro cv τ1 ⟨e1,co,cown,hco⟩
 refine ml_call Sd0 Sd0 (pcDelete_c cown hl) ?_
 rintro dv τ2 ⟨hrd,kb⟩
 have e2:Ext σ τ2:=kb.ext e1 hco
 have hF:(l.filter canB).length≤1000:=Nat.le_trans (List.length_filter_le _ _) hl
 generalize l.filter canB=F at *
 obtain ⟨p,cap,rfl,hp⟩:=hrd.len
 rw [List.length_map]
 refine stepR0 ?_
 refine mx_loop (fun n ts τ=>∃ (i:Nat) (bv:Value) (oj:Option Nat),n=F.length - i∧i≤F.length∧Ext τ2 τ∧Own τ 2 bv oj (dues ((F.take i).map dueC))∧(∀ j,oj=some j→τ2.size≤j)∧ts 4=bv∧ts 13=.slice p F.length cap∧ts 14=.int .i64 ((F.length:Nat):Int)∧ts 15=.int .i64 ((i:Nat):Int)) F.length ?_ ?_
 ·exact ⟨0,_,_,rfl,Nat.zero_le _,.refl _,.nil,fun j h=>(nomatch h),Sd0,Sd0,Sd0,Sd0⟩
 rintro _ ts τ ⟨i,bv,oj,rfl,hi,e,own,hoj,t4,t13,t14,t15⟩
 rcases Nat.lt_or_ge i F.length with hil | hig
 ·have hil':((i:Nat):Int) < ((F.length:Nat):Int):=by omega
  obtain ⟨id,rfl,_,hrow⟩:=hp (fun h=>by rw [List.map_eq_nil_iff] at h;rw [h] at hil;simp at hil)
  have hri:=hrow i (by rw [List.length_map];exact hil)
  rw [List.getElem_map] at hri
  have hgd:F.getD i zCn=F[i]:=by rw [List.getD_eq_getElem?_getD,List.getElem?_eq_getElem hil];rfl
  have htk:(F.take (i + 1)).map dueC=(F.take i).map dueC ++ [dueC F[i]]:=by rw [take_cn hil,List.map_append,hgd];rfl
  generalize F[i]=c at *
  obtain ⟨rb,n,ch⟩:=c
  refine stepR (An t13 (An t14 (An t15 hil'))) ?_
  refine ml_loadN (off:=i * 3) (vs:=[.int .i64 rb,.int .i64 n,.int .i64 ch]) Sd0 Sd0 (rowE e hri) ?_
  refine stepR0 ?_
  refine ml_init (vs:=[.int .i64 rb,.int .i64 n,.int .i64 ch]) Sd0 Sd0 Sd0 rfl rfl rfl fun τa ea ga=>?_
  refine stepR (An ga t4) ?_
  refine ml_app1 (vs:=[.int .i64 n,.int .i64 rb]) Sd0 Sd0 Sd0 (own.of_ext (ea.trans (Ext.push _ _))) (H.get_push_self _ _) rfl (by omega) (by rw [List.all_append,dues_one];rfl) (by omega) (by rw [dues_len,List.length_map,List.length_take];simp only [appMax];omega) fun v' τ3 own3 hs3 hk3=>?_
  rw [show dues ((F.take i).map dueC) ++ [Value.int .i64 n,Value.int .i64 rb]=dues ((F.take (i + 1)).map dueC) by rw [htk,dues_app];rfl] at own3
  have ⟨e3,hj3⟩:=app_ext (e.trans (ea.trans (Ext.push _ _))) hoj hs3 hk3
  refine stepR t15 ?_
  exact ⟨F.length - (i + 1),by omega,i + 1,v',_,rfl,by omega,e3,own3,hj3,Sd0,(Sw t13),(Sw t14),Sd0⟩
 obtain rfl:i=F.length:=by omega
 have hil':¬ ((F.length:Nat):Int) < ((F.length:Nat):Int):=by omega
 rw [List.take_length] at own
 refine stepR (An t14 (An t15 (An hil' t4))) ?_
 refine ml_call Sd0 Sd0 (hSorted_c own (by rw [List.length_map];omega)) ?_
 rintro sv τ3 ⟨so,ds,e3,sown,hperm,hsort⟩
 have hdl:ds.length=F.length:=by rw [hperm.length_eq,List.length_map]
 refine stepR0 ?_
 refine ml_op Sd0 (len_own sown Sd0) ?_
 refine stepR0 ?_
 have ef:=(e2.trans e).trans e3
 refine mx_loop (fun n ts τ=>∃ (i:Nat) (bv:Value) (oj:Option Nat),n=ds.length - i∧i≤ds.length∧Ext τ3 τ∧Own τ 1 bv oj (ints ((ds.take i).map (·.2)))∧(∀ j,oj=some j→τ3.size≤j)∧ts 7=bv∧ts 29=sv∧ts 30=.int .i64 ((ds.length:Nat):Int)∧ts 31=.int .i64 ((i:Nat):Int)) ds.length ?_ ?_
 ·exact ⟨0,_,_,rfl,Nat.zero_le _,.refl _,.nil,fun j h=>(nomatch h),Sd0,Sd0,Sd0,Sd0⟩
 rintro _ ts4 τ4 ⟨i,bv4,oj4,rfl,hi,e4,own4,hoj4,t7,t29,t30,t31⟩
 rcases Nat.lt_or_ge i ds.length with hil | hig
 ·have hil2:((i:Nat):Int) < ((ds.length:Nat):Int):=by omega
  rcases own2_get sown with ⟨_,_,h0⟩ | ⟨id,rfl,_,hg⟩
  ·rw [h0] at hil;simp at hil
  have hrow:=dues_row ds i hil
  have hgd:ds.getD i (0,0)=ds[i]:=by rw [List.getD_eq_getElem?_getD,List.getElem?_eq_getElem hil];rfl
  have htk:(ds.take (i + 1)).map (·.2)=(ds.take i).map (·.2) ++ [(ds.getD i (0,0)).2]:=by rw [List.take_add_one,List.getElem?_eq_getElem hil,List.map_append,hgd];rfl
  generalize ds.getD i (0,0)=d at *
  refine stepR (An t29 (An t30 (An t31 hil2))) ?_
  refine ml_loadN (off:=i * 2) Sd0 Sd0 (row_of (e4.cells hg) hrow) ?_
  refine stepR0 ?_
  refine ml_init (vs:=[.int .i64 d.1,.int .i64 d.2]) Sd0 Sd0 Sd0 rfl rfl rfl fun τa ea ga=>?_
  refine stepR (An ga t7) ?_
  refine ml_app1 (vs:=[.int .i64 d.2]) Sd0 Sd0 Sd0 (own4.of_ext (ea.trans (Ext.push _ _))) (H.get_push_self _ _) rfl (by omega) (by rw [List.all_append,ints_one];rfl) (by omega) (by rw [ints_len,List.length_map,List.length_take];simp only [appMax];omega) fun v' τ5 own5 hs5 hk5=>?_
  rw [show ints ((ds.take i).map (·.2)) ++ [Value.int .i64 d.2]=ints ((ds.take (i + 1)).map (·.2)) by rw [htk,ints_app];rfl] at own5
  have ⟨e5,hj5⟩:=app_ext (e4.trans (ea.trans (Ext.push _ _))) hoj4 hs5 hk5
  refine stepR t31 ?_
  exact ⟨ds.length - (i + 1),by omega,i + 1,v',_,rfl,by omega,e5,own5,hj5,Sd0,(Sw t29),(Sw t30),Sd0⟩
 ·obtain rfl:i=ds.length:=by omega
  have hil2:¬ ((ds.length:Nat):Int) < ((ds.length:Nat):Int):=by omega
  rw [List.take_length] at own4
  refine stepR (An t30 (An t31 (An hil2 t7))) ?_
  refine fin1 ⟨ef.trans e4,ds,hperm,hsort,?_⟩
  simp only [go_sem,reduceIte,Nat.reduceEqDiff,reduceCtorEq,Nat.reduceAdd,Nat.reduceLeDiff,Int.reduceNeg,Int.reduceToNat,Int.reduceBEq,Int.reduceBNe,Int.reduceLT,Int.reduceLE,Int.reduceAdd,Int.reduceSub]
  exact own4.rd
theorem pcBest_c {σ:H} {v:Value} {oid:Option Nat} {l:List Cn} (hr:Own σ 3 v oid (cns l)) (hnil:l=[]→v=.slice none 0 0) (hl:l.length≤1000):
 MCalls E Tryz.prog 123 [v] σ (fun r τ=>r=.tuple #[.int .i64 ((bestI l).getD 0),.bool (bestI l).isSome]∧Ext σ τ):=by
 refine mcalls_of fn123 (by simp) ?_
 unfold c123 r123
 refine stepR0 ?_
 refine ml_call Sd0 Sd0 (pcOrder_c hr hnil hl) ?_
 rintro ov τ ⟨e,ds,hp,hs,hrd⟩
 have hb:bestI l=ds.head?.map (·.2):=by
  unfold bestI
  rw [show (fun c:Int × Int × Int=>(c.2.1,c.1))=dueC from rfl,minD_head hp hs]
 rw [hb]
 refine stepR0 ?_
 refine ml_len Sd0 hrd Sd0 ?_
 rw [ints_len,List.length_map]
 cases ds with
 | nil=>
   have h0:(((([]:List Due).length:Nat):Int) == 0)=true:=rfl
   refine stepR h0 ?_
   exact fin2 ⟨(by first | with_reducible rfl | (simp only [go_sem,reduceIte,Nat.reduceEqDiff,reduceCtorEq,Nat.reduceAdd,Nat.reduceLeDiff,Int.reduceNeg,Int.reduceToNat,Int.reduceBEq,Int.reduceBNe,Int.reduceLT,Int.reduceLE,Int.reduceAdd,Int.reduceSub,List.head?_nil];done) | (simp only [go_sem,reduceIte,Nat.reduceEqDiff,reduceCtorEq,Nat.reduceAdd,Nat.reduceLeDiff,Int.reduceNeg,Int.reduceToNat,Int.reduceBEq,Int.reduceBNe,Int.reduceLT,Int.reduceLE,Int.reduceAdd,Int.reduceSub,List.head?_nil];with_reducible rfl) | (simp only [go_sem,reduceIte,Nat.reduceEqDiff,reduceCtorEq,Nat.reduceAdd,Nat.reduceLeDiff,Int.reduceNeg,Int.reduceToNat,Int.reduceBEq,Int.reduceBNe,Int.reduceLT,Int.reduceLE,Int.reduceAdd,Int.reduceSub,List.head?_nil];(try simp (disch:=omega) only [i64wrap,u64wrap,u8wrap,u32wrap,i32wrap]);first | with_reducible rfl | done | (refine congrArg (Value.int _) ?_;omega)) | (simp only [go_sem,reduceIte,Nat.reduceEqDiff,reduceCtorEq,Nat.reduceAdd,Nat.reduceLeDiff,Int.reduceNeg,Int.reduceToNat,Int.reduceBEq,Int.reduceBNe,Int.reduceLT,Int.reduceLE,Int.reduceAdd,Int.reduceSub,List.head?_nil];rfl)),e⟩
 | cons d ds=>
   have h0:((((d :: ds).length:Nat):Int) == 0)=false:=by rw [List.length_cons];simp;omega
   refine stepR h0 ?_
   refine ml_getS hrd Sd0 Sd0 (by omega) (by rw [List.map_cons];rfl) fun p=>?_
   refine stepR0 ?_
   exact fin2 ⟨(by first | with_reducible rfl | (simp only [go_sem,reduceIte,Nat.reduceEqDiff,reduceCtorEq,Nat.reduceAdd,Nat.reduceLeDiff,Int.reduceNeg,Int.reduceToNat,Int.reduceBEq,Int.reduceBNe,Int.reduceLT,Int.reduceLE,Int.reduceAdd,Int.reduceSub,List.head?_cons];done) | (simp only [go_sem,reduceIte,Nat.reduceEqDiff,reduceCtorEq,Nat.reduceAdd,Nat.reduceLeDiff,Int.reduceNeg,Int.reduceToNat,Int.reduceBEq,Int.reduceBNe,Int.reduceLT,Int.reduceLE,Int.reduceAdd,Int.reduceSub,List.head?_cons];with_reducible rfl) | (simp only [go_sem,reduceIte,Nat.reduceEqDiff,reduceCtorEq,Nat.reduceAdd,Nat.reduceLeDiff,Int.reduceNeg,Int.reduceToNat,Int.reduceBEq,Int.reduceBNe,Int.reduceLT,Int.reduceLE,Int.reduceAdd,Int.reduceSub,List.head?_cons];(try simp (disch:=omega) only [i64wrap,u64wrap,u8wrap,u32wrap,i32wrap]);first | with_reducible rfl | done | (refine congrArg (Value.int _) ?_;omega)) | (simp only [go_sem,reduceIte,Nat.reduceEqDiff,reduceCtorEq,Nat.reduceAdd,Nat.reduceLeDiff,Int.reduceNeg,Int.reduceToNat,Int.reduceBEq,Int.reduceBNe,Int.reduceLT,Int.reduceLE,Int.reduceAdd,Int.reduceSub,List.head?_cons];rfl)),e⟩
end Go.Proofs.YtoejdgoicoaomaaGreatDoor
namespace Go.Proofs.YtoejdgoicoaomaaGreatDoor
open Go.Mini
open Go.Proofs.YtoejdgoicoaomaaGreatDoor.Code
attribute [local irreducible] mx ml mld mstep MCalls Ex.thn Ex.inb
variable {E:World→Prop}
theorem _root_.Go.Mini.Rd.keepBut {σ τ:Go.Mini.H} {v:Value} {cs:List Value} {id:Nat} (h:Rd σ v cs) (hb:BlkP v fun i=>i≠id) (k:KeepBut (some id) σ τ):Rd τ v cs:=by
 cases h with
 | nil=>exact .nil
 | mk hr=>
   rename_i i off cap
   have hne:i≠id:=hb _ _ _ rfl
   exact .mk (row_same (k.2 i (H.lt_of_live (row_live hr)) (fun e=>hne (by injection e with e;exact e.symm))) hr)
theorem strandN_inv {s:St} (h:Inv s) (on:List Int) {n:Nat} (hn:n≤10):Inv (iter (strand1 on) n s):=
 iter_ind (P:=fun _ s'=>Inv s') h fun i s' hi h1=>(strand1_inv h1 on (by omega)).1
theorem Inv.task {s:St} (h:Inv s) {i:Nat} (hi:i < 10) (o:s.o i=true):(s.r i).task≠-1→0≤(s.r i).task∧(s.r i).task < 20:=fun hne=>by
 have:=(h.tsk i hi o).rng.2
 omega
theorem rob_set1 {s:St} (hw:s.WF) {i j n:Nat} {v:Value} {r:Rob} (hi:i < 10) (hj:j < 7) (hn:n=12 + i * 7 + j) (hr:robC r=(robC (s.r i)).set j v):spl (stC s) n [v]=stC (s.setR i r):=by
 refine hw.rob_spl hi (by simp;omega) hn ?_
 rw [hr,spl_one];rfl
theorem tsk_set1 {s:St} (hw:s.WF) {k j n:Nat} {v:Value} {t:Tsk} (hk:k < 20) (hj:j < 3) (hn:n=92 + k * 3 + j) (hr:tskC t=(tskC (s.t k)).set j v):spl (stC s) n [v]=stC (s.setT k t):=by
 refine hw.tsk_spl hk (by simp;omega) hn ?_
 rw [hr,spl_one];rfl
set_option maxRecDepth 100000 in
set_option maxHeartbeats 8000000 in
theorem mStrand_c {σ:H} {id:Nat} (s0:St) (h0:Inv s0) (hg0:σ.get id=.cells 0 (stC s0)) {ov:Value} {on:List Int} (hr0:Rd σ ov (ints on)) (hb:BlkP ov fun i=>i≠id):
 MCalls E Tryz.prog 85 [.pointer (some ⟨id,0,none⟩),ov] σ (fun v τ=>v=.tuple #[]∧KeepBut (some id) σ τ∧τ.get id=.cells 0 (stC (iter (strand1 on) 10 s0))):=by
 refine mcalls_of fn85 (by simp) ?_
 unfold c85 r85
 refine stepR0 ?_
 refine mx_loop (fun n ts τ=>∃ i:Nat,n=10 - i∧i≤10∧KeepBut (some id) σ τ∧τ.get id=.cells 0 (stC (iter (strand1 on) i s0))∧ts 0=.pointer (some ⟨id,0,none⟩)∧ts 1=ov∧ts 6=.int .i64 ((i:Nat):Int)) 10 ?_ ?_
 ·exact ⟨0,rfl,Nat.zero_le _,⟨Nat.le_refl _,fun _ _ _=>rfl⟩,hg0,Sd0,Sd0,Sd0⟩
 rintro _ ts τ ⟨i,rfl,hi,kb,hg,t0,t1,t6⟩
 rcases Nat.lt_or_ge i 10 with hil | hig
 ·have hil':((i:Nat):Int) < 10:=by omega
  have hI:=strandN_inv h0 on hi
  have hstep:iter (strand1 on) (i + 1) s0=strand1 on i (iter (strand1 on) i s0):=rfl
  generalize iter (strand1 on) i s0=s at *
  have hw:=hI.wf
  have hr:=hr0.keepBut hb kb
  have hlt:=H.lt_of_cells hg
  refine stepR (An t0 (An t6 hil')) ?_
  refine ml_op Sd0 (o_load1q (off:=82 + i) (Sw t0) hg (hw.on_at hil)) ?_
  cases ho:s.o i
  ·have hs:strand1 on i s=s:=by unfold strand1;rw [if_neg (by rw [ho];simp)]
   refine stepR t6 ?_
   exact ⟨10 - (i + 1),by omega,i + 1,rfl,by omega,kb,by rw [hstep,hs];exact hg,(Sw t0),(Sw t1),Sd0⟩
  ·have hs:strand1 on i s=if safeB s.W s.H s.S on (stepS s (s.r i)) (s.r i).cell (s.r i).charge then (if (s.r i).phase=4 then s.setR i { s.r i with phase:=wakes s (s.r i) } else s) else s.setR i { s.r i with phase:=4 }:=by unfold strand1;rw [if_pos ho]
   refine stepR t0 ?_
   refine mld_loadN Sd0 (Sw t0) (row_of hg hw.map_row) ?_
   refine stepR t1 ?_
   refine mld_op Sd0 (o_load1q (off:=12 + i * 7 + 0) (v:=.int .i64 (s.r i).cell) Sd0 hg (hw.rob_at hil (by omega))) ?_
   refine stepR0 ?_
   refine mld_op Sd0 (o_load1q (off:=12 + i * 7 + 1) (v:=.int .i64 (s.r i).charge) Sd0 hg (hw.rob_at hil (by omega))) ?_
   refine stepR t0 ?_
   refine mld_loadN Sd0 (Sw t0) (row_of hg (rowAll hw.len)) ?_
   refine stepR0 ?_
   refine mld_loadN (off:=12 + i * 7) Sd0 Sd0 (row_of hg (hw.rob_row hil rfl)) ?_
   refine mld_call Sd0 Sd0 (mStep_c s hw (s.r i) (hI.task hil ho) τ) (fun _ _ h=>h.2) ?_
   rintro _ τ2 ⟨rfl,e2⟩
   refine stepR0 ?_
   refine mld_callW Sd0 Sd0 (safe_c s.W s.H s.S (hr.of_ext e2) (s.r i).cell (s.r i).charge (stepS s (s.r i))) ?_
   rintro _ τ3 ⟨rfl,e3⟩
   have hg3:=e3.cells (e2.cells hg)
   have kb3:=kb.trans (.of_ext (e2.trans e3))
   cases hsf:safeB s.W s.H s.S on (stepS s (s.r i)) (s.r i).cell (s.r i).charge
   ·rw [hsf,if_neg (by simp)] at hs
    refine stepR0 ?_
    refine ml_storeA (off:=12 + i * 7 + 2) (vs:=[.int .i64 4]) Sd0 Sd0 Sd0 hg3 rfl (by rw [hw.len];simp;omega) rfl fun τ4 t4=>?_
    rw [rob_set1 hw hil (by omega) rfl (r:={ s.r i with phase:=4 }) rfl] at t4
    refine stepR t6 ?_
    exact ⟨10 - (i + 1),by omega,i + 1,rfl,by omega,kb3.set t4,by rw [hstep,hs];exact t4.self,(Sw t0),(Sw t1),Sd0⟩
   ·rw [hsf,if_pos rfl] at hs
    refine stepR0 ?_
    refine ml_op Sd0 (o_load1q (off:=12 + i * 7 + 2) (v:=.int .i64 (s.r i).phase) Sd0 hg3 (hw.rob_at hil (by omega))) ?_
    by_cases hp:(s.r i).phase=4
    ·have hp':((s.r i).phase == 4)=true:=by rw [hp];rfl
     rw [if_pos hp] at hs
     refine stepR (An hp' t0) ?_
     refine mld_loadN Sd0 (Sw t0) (row_of hg3 (rowAll hw.len)) ?_
     refine stepR0 ?_
     refine mld_loadN (off:=12 + i * 7) Sd0 Sd0 (row_of hg3 (hw.rob_row hil rfl)) ?_
     refine mld_callW Sd0 Sd0 (mWakes_c s hw (s.r i) (hI.task hil ho) τ3) ?_
     rintro _ τ4 ⟨rfl,e4⟩
     refine stepR0 ?_
     refine mld_op Sd0 (o_store (off:=12 + i * 7 + 2) (vs:=[.int .i64 (wakes s (s.r i))]) Sd0 Sd0 (e4.cells hg3) rfl (by rw [hw.len];simp;omega) rfl) ?_
     have t5:=SetTo.mk' (o:=.cells 0 (spl (stC s) (12 + i * 7 + 2) [.int .i64 (wakes s (s.r i))])) (H.lt_of_cells (e4.cells hg3))
     generalize τ4.set id _=τ5 at *
     rw [rob_set1 hw hil (by omega) rfl (r:={ s.r i with phase:=wakes s (s.r i) }) rfl] at t5
     refine stepR t6 ?_
     exact ⟨10 - (i + 1),by omega,i + 1,rfl,by omega,(kb3.trans (.of_ext e4)).set t5,by rw [hstep,hs];exact t5.self,(Sw t0),(Sw t1),Sd0⟩
    ·have hp':((s.r i).phase == 4)=false:=by simpa using hp
     rw [if_neg hp] at hs
     refine stepR (An hp' t6) ?_
     exact ⟨10 - (i + 1),by omega,i + 1,rfl,by omega,kb3,by rw [hstep,hs];exact hg3,(Sw t0),(Sw t1),Sd0⟩
 ·obtain rfl:i=10:=by omega
  have hil':¬ (((10:Nat):Nat):Int) < 10:=by omega
  refine stepR (An t6 hil') ?_
  exact fin0n ⟨rfl,kb,hg⟩
end Go.Proofs.YtoejdgoicoaomaaGreatDoor
namespace Go.Proofs.YtoejdgoicoaomaaGreatDoor
open Go.Mini
open Go.Proofs.YtoejdgoicoaomaaGreatDoor.Code
attribute [local irreducible] mx ml mld mstep MCalls Ex.thn Ex.inb
variable {E:World→Prop}
theorem onL_zero (S:ByteArray) (b:Bool):onL S (List.replicate 8 0) b=gkind S 67 b:=by
 unfold onL
 rw [List.filter_eq_self]
 intro x _
 have:∀ c:Nat,isOff (List.replicate 8 0) c=false:=fun c=>by
  unfold isOff
  rw [List.getD_eq_getElem?_getD,List.getElem?_replicate]
  split<;>simp
 rw [this];rfl
end Go.Proofs.YtoejdgoicoaomaaGreatDoor
namespace Go.Proofs.YtoejdgoicoaomaaGreatDoor
open Go.Mini
open Go.Proofs.YtoejdgoicoaomaaGreatDoor.Code
attribute [local irreducible] mx ml mld mstep MCalls Ex.thn Ex.inb
variable {E:World→Prop}
theorem getD_set8 (o:List Nat) (i m c:Nat) (hi:i < o.length):(o.set i c).getD m 0=if m=i then c else o.getD m 0:=getD_set o i m c 0 hi
theorem turn_nat (o:List Nat) (c:Nat) (hc:c < 64) (is:Bool):turn o c is=o.set (c / 8) (if is then o.getD (c / 8) 0 ||| 2 ^ (c % 8) else o.getD (c / 8) 0 &&& (255 - 2 ^ (c % 8))):=by
 unfold turn;rw [if_pos ⟨by omega,by omega⟩,Int.toNat_natCast]
theorem bit_andNot (b k i:Nat) (hk:k < 8) (hi:i < 8):(b &&& (255 - 2 ^ k)).testBit i=(b.testBit i && !decide (k=i)):=by
 have h:255 - 2 ^ k=2 ^ 8 - (2 ^ k + 1):=by omega
 rw [Nat.testBit_and,h,Nat.testBit_two_pow_sub_succ (by have:=pow8 hk;omega),Nat.testBit_two_pow]
 simp [hi]
theorem bit_or (b k i:Nat):(b ||| 2 ^ k).testBit i=(b.testBit i || decide (k=i)):=by
 rw [Nat.testBit_or,Nat.testBit_two_pow]
theorem isOff_turn {o:List Nat} (hl:o.length=8) {c i:Nat} (hc:c < 64) (hi:i < 64) (is:Bool):isOff (turn o c is) i=if i=c then is else isOff o i:=by
 rw [turn_nat o c hc]
 unfold isOff
 rw [getD_set8 _ _ _ _ (by omega)]
 have h8:c % 8 < 8:=Nat.mod_lt _ (by omega)
 have i8:i % 8 < 8:=Nat.mod_lt _ (by omega)
 by_cases h:i / 8=c / 8
 ·rw [if_pos h,h]
  by_cases e:i=c
  ·subst e
   rw [if_pos rfl]
   cases is
   ·simp only [Bool.false_eq_true,if_false];rw [bit_andNot _ _ _ h8 i8];simp
   ·simp only [if_true];rw [bit_or];simp
  ·rw [if_neg e]
   have hne:¬ c % 8=i % 8:=by omega
   cases is
   ·simp only [Bool.false_eq_true,if_false];rw [bit_andNot _ _ _ h8 i8];simp [hne]
   ·simp only [if_true];rw [bit_or];simp [hne]
 ·rw [if_neg h]
  rw [if_neg (fun e=>h (by rw [e]))]
theorem rowC8 {o:List Nat} (h:o.length=8):rowL (offC o) 0 8=some (offC o):=rowC (by rw [offC_len];exact h)
end Go.Proofs.YtoejdgoicoaomaaGreatDoor
namespace Go.Proofs.YtoejdgoicoaomaaGreatDoor
open Go.Mini
open Go.Proofs.YtoejdgoicoaomaaGreatDoor.Code
attribute [local irreducible] mx ml mld mstep MCalls Ex.thn Ex.inb
variable {E:World→Prop}
end Go.Proofs.YtoejdgoicoaomaaGreatDoor
namespace Go.Proofs.YtoejdgoicoaomaaGreatDoor
open Go.Mini
theorem cst_costL (W:Int) (S:ByteArray) (src:List Int) (st:Int):Cst W S src st (costL W S src st):=by
 refine ⟨by simp [costL],fun i hi=>?_⟩
 have:(costL W S src st).getD i 0=costV st (dist W S src i):=by
  unfold costL
  rw [List.getD_eq_getElem?_getD,List.getElem?_map,List.getElem?_range hi];rfl
 rw [this]
 rcases dist_spec W S src i with ⟨h1,h2⟩ | ⟨k,h1,h2,h3⟩
 ·rw [h1];exact .inl ⟨rfl,h2⟩
 ·rw [h1];exact .inr ⟨k,h2,h3,rfl⟩
noncomputable def dd (W:Int) (S:ByteArray) (a x:Int):Nat:=(dist W S [a] x).getD 0
section
variable {W Hh:Int} {S:ByteArray}
theorem dd_spec (hg:gr W Hh S=true) {a x:Int} (ha:opn S a=true) (hx:opn S x=true):Wk W S [a] (dd W S a x) x∧(∀ j,Wk W S [a] j x→dd W S a x≤j)∧dd W S a x < S.size:=by
 obtain ⟨k,h1,h2,h3,h4⟩:=fs_dist hg ha (cst_costL W S [a] 1) hx
 have:dd W S a x=k:=by unfold dd;rw [dist_eq h1 h2];rfl
 rw [this];exact ⟨h1,h2,h4⟩
theorem dd_cost (hg:gr W Hh S=true) {a x st:Int} (ha:opn S a=true) (hx:opn S x=true):(costL W S [a] st).getD x.toNat 0=st * (dd W S a x:Nat):=by
 obtain ⟨k,h1,h2,h3,h4⟩:=fs_dist hg ha (cst_costL W S [a] st) hx
 obtain ⟨k1,k2,_⟩:=dd_spec hg ha hx
 rw [h3,Nat.le_antisymm (h2 _ k1) (k2 _ h1)]
theorem dd_zero (hg:gr W Hh S=true) {a x:Int} (ha:opn S a=true) (hx:opn S x=true):dd W S a x=0↔x=a:=by
 obtain ⟨k1,k2,_⟩:=dd_spec hg ha hx
 constructor
 ·intro h
  rw [h] at k1
  cases k1 with | src h _=>simpa using h
 ·rintro rfl
  have:=k2 0 (.src (by simp) hx)
  omega
theorem down_some (f:List Int) (c:Int):∃ l,DownR W Hh S f c l:=by
 unfold DownR
 split
 ·refine ⟨((dnI W S f c).mergeSort fun a b=>!lt b a).map (·.2),_,List.mergeSort_perm _ _,?_,rfl⟩
  have:=List.pairwise_mergeSort (le:=fun a b:Due=>!lt b a) (fun a b c h1 h2=>by
   simp only [Bool.not_eq_true'] at *
   exact (Bool.eq_false_iff).2 fun h=>by
    have e1:=le_of_not (a:=a) (b:=b) (by rw [h1];simp)
    have e2:=le_of_not (a:=b) (b:=c) (by rw [h2];simp)
    have e3:=e1.trans e2
    rw [lt_iff] at h
    unfold le at e3
    omega) (fun a b=>by
   cases h1:lt b a
   ·rfl
   ·cases h2:lt a b
    ·rfl
    ·rw [lt_iff] at h1 h2;omega) (dnI W S f c)
  exact this.imp fun {a b} h=>le_of_not (by simp at h;rw [h];simp)
 ·exact ⟨[],rfl⟩
theorem next_good (hg:gr W Hh S=true) {a x st:Int} (hst:1≤st) (ha:opn S a=true) (hx:opn S x=true) (hne:x≠a) {T:List Bool} (hT:∀ y,opn S y=true→y≠x→freeT T y=true):
 ∃ n,nextO W Hh S (costL W S [a] st) x T=some n∧n ∈ nearL W S x∧dd W S a n + 1=dd W S a x:=by
 obtain ⟨l,hl⟩:=down_some (W:=W) (Hh:=Hh) (S:=S) (costL W S [a] st) x
 have hcs:=cst_costL W S [a] st
 have hSz:=gr_size hg
 have hcx:0≤(costL W S [a] st).getD x.toNat 0:=by rw [dd_cost hg ha hx];exact Int.mul_nonneg (by omega) (by omega)
 have hok:downOK W Hh S (costL W S [a] st) x=true:=by
  unfold downOK
  rw [hg,hx,decide_eq_true hcx,decide_eq_true hcs.1];rfl
 have hl':=hl
 unfold DownR at hl'
 rw [if_pos hok] at hl'
 obtain ⟨m,hm1,hm2⟩:=fs_less hg ha hcs hx hne
 have hmo:=((near_iff hSz.1 hx).1 hm1).1
 have hfm:0≤(costL W S [a] st).getD m.toNat 0:=by rw [dd_cost hg ha hmo];exact Int.mul_nonneg (by omega) (by omega)
 have hml:m ∈ l:=hl'.mem.2 ⟨hm1,hfm,by omega⟩
 obtain ⟨L,hp,hs,rfl⟩:=hl'
 cases L with
 | nil=>simp at hml
 | cons d L=>
   have hd:=(DownL.mem (n:=d.2) ⟨d :: L,hp,hs,rfl⟩).1 (by simp)
   have hdo:=((near_iff hSz.1 hx).1 hd.1).1
   have hdx:d.2≠x:=fun e=>by rw [e] at hd;omega
   refine ⟨d.2,?_,hd.1,?_⟩
   ·unfold nextO
    rw [downX_eq hl,List.map_cons,List.find?_cons,hT _ hdo hdx]
   ·have h1:=(fs_diff hg ha hcs hst hx hd.1).2
    have hd1:d.1=(costL W S [a] st).getD d.2.toNat 0:=(dnI_mem.1 (hp.mem_iff.1 (List.mem_cons_self ..))).2.1
    have h2:d.1≤(costL W S [a] st).getD m.toNat 0:=by
     obtain ⟨e,he,hem⟩:=List.mem_map.1 hml
     have he1:e.1=(costL W S [a] st).getD e.2.toNat 0:=(dnI_mem.1 (hp.mem_iff.1 he)).2.1
     rw [← hem,← he1]
     rcases List.mem_cons.1 he with rfl | he
     ·exact Int.le_refl _
     ·have:=(List.pairwise_cons.1 hs).1 e he
      unfold le at this;omega
    have h3:(costL W S [a] st).getD d.2.toNat 0=(costL W S [a] st).getD x.toNat 0 - st:=by omega
    rw [dd_cost hg ha hdo,dd_cost hg ha hx] at h3
    have h4:st * ((dd W S a d.2:Nat) + 1:Int)=st * (dd W S a x:Nat):=by rw [Int.mul_add];omega
    have:=Int.eq_of_mul_eq_mul_left (by omega) h4
    omega
theorem free_of {l:List Int} {n:Nat} {x:Int} (h:x ∉ l) (hx:0≤x):freeT (takenL l n) x=true:=by
 unfold freeT takenL
 rw [Bool.or_eq_true,decide_eq_true_eq,List.length_map,List.length_range]
 by_cases h1:((min n 64:Nat):Int)≤x
 ·exact .inl h1
 ·right
  rw [List.getD_eq_getElem?_getD,List.getElem?_map,List.getElem?_range (by omega)]
  have:((x.toNat:Nat):Int)=x:=by omega
  simp [this,h]
theorem safe_of (hg:gr W Hh S=true) {on:List Int} (hl:on.length≤64) {y x st ch:Int} {m:Nat} (hy:y ∈ on) (hw:Wk W S [y] m x) (h1:1≤st) (h2:st≤100) (hc:st * m≤ch):safeB W Hh S on st x ch=true:=by
 unfold safeB needO
 rw [costOK_iff.2 ⟨hg,h1,h2,hl⟩,hw.opn]
 have hw':=wk_mono hy hw
 rcases dist_spec W S on x with ⟨_,h⟩ | ⟨k,hk,_,hmin⟩
 ·exact absurd hw' (h m)
 ·rw [hk]
  have:=Int.mul_le_mul_of_nonneg_left (a:=(k:Int)) (b:=(m:Int)) (c:=st) (by have:=hmin m hw';omega) (by omega)
  simp only [Bool.and_self,if_true,Option.map_some,Option.any_some,decide_eq_true_eq]
  omega
end
structure Solo (i k:Nat) (s:St):Prop where
 inv:Inv s
 hi:i < 10
 hk:k < 20
 oi:s.o i=true
 ik:s.i k=true
 only:∀ j,j < 10→j≠i→s.o j=false
 onlyT:∀ j,j < 20→j≠k→s.i j=false
theorem Solo.keep {i k:Nat} {s t:St} (h:Solo i k s) (hq:Keep s t) (hi:Inv t):Solo i k t:=
 ⟨hi,h.hi,h.hk,by rw [hq.o];exact h.oi,by rw [hq.i];exact h.ik,fun j hj hne=>by rw [hq.o];exact h.only j hj hne,fun j hj hne=>by rw [hq.i];exact h.onlyT j hj hne⟩
theorem iter_only {f:Nat→St→St} (P:St→Prop) {i n:Nat} (hi:i < n) (s:St) (hP:P s) (hPf:P (f i s)) (hid:∀ j s',j < n→j≠i→P s'→f j s'=s'):iter f n s=f i s:=by
 have key:∀ m,m≤n→iter f m s=if i < m then f i s else s:=fun m=>by
  induction m with
  | zero=>intro _;rw [if_neg (by omega)];rfl
  | succ m ih=>
    intro hm
    show f m (iter f m s)=_
    rw [ih (by omega)]
    by_cases h1:i < m
    ·rw [if_pos h1,if_pos (by omega)];exact hid m _ (by omega) (by omega) hPf
    ·rw [if_neg h1]
     by_cases h2:i=m
     ·subst h2;rw [if_pos (by omega)]
     ·rw [if_neg (by omega)];exact hid m _ (by omega) (fun e=>h2 e.symm) hP
 rw [key n (Nat.le_refl _),if_pos hi]
theorem Solo.others {i k:Nat} {s:St} (h:Solo i k s) {t:St} (hq:Keep s t) {j:Nat} (hj:j < 10) (hne:j≠i):t.o j=false:=by rw [hq.o];exact h.only j hj hne
theorem solo_tick {i k:Nat} {s:St} (h:Solo i k s):tickS s=(let on:=onL s.S s.off (gr s.W s.H s.S);let s2:=idle1 i (assign1 on k (strand1 on i { s with tick:=s.tick + 1 }));act1 on (placeL s2) i s2)∧
 Solo i k (idle1 i (assign1 (onL s.S s.off (gr s.W s.H s.S)) k (strand1 (onL s.S s.off (gr s.W s.H s.S)) i { s with tick:=s.tick + 1 }))):=by
 unfold tickS assign
 simp only
 generalize onL s.S s.off (gr s.W s.H s.S)=on
 have h0:Solo i k { s with tick:=s.tick + 1 }:=h.keep ⟨rfl,rfl,rfl,rfl,rfl,rfl⟩ (h.inv.tk _)
 generalize ({ s with tick:=s.tick + 1 }:St)=s0 at h0
 obtain ⟨i1,q1,_⟩:=strand1_inv h0.inv on h0.hi
 have e1:iter (strand1 on) 10 s0=strand1 on i s0:=iter_only (fun t=>Keep s0 t) h0.hi s0 (.refl _) q1.keep fun j t hj hne hq=>by
  unfold strand1;rw [if_neg (by rw [h0.others hq hj hne];simp)]
 rw [e1]
 have h1:=h0.keep q1.keep i1
 generalize strand1 on i s0=s1 at *
 obtain ⟨i2,q2,_⟩:=assign1_inv h1.inv on h1.hk
 have e2:iter (assign1 on) 20 s1=assign1 on k s1:=iter_only (fun t=>Keep s1 t) h1.hk s1 (.refl _) q2.keep fun j t hj hne hq=>by
  unfold assign1;rw [if_neg (by rw [hq.i,h1.onlyT j hj hne];simp)]
 rw [e2]
 have h2:=h1.keep q2.keep i2
 generalize assign1 on k s1=s2 at *
 obtain ⟨i3,q3,_⟩:=idle1_inv h2.inv h2.hi
 have e3:iter idle1 10 s2=idle1 i s2:=iter_only (fun t=>Keep s2 t) h2.hi s2 (.refl _) q3.keep fun j t hj hne hq=>by
  unfold idle1;rw [if_neg (by rw [h2.others hq hj hne];simp)]
 rw [e3]
 have h3:=h2.keep q3.keep i3
 generalize idle1 i s2=s3 at *
 obtain ⟨i4,a4⟩:=act1_inv h3.inv on (placeL s3) h3.hi
 refine ⟨?_,h3⟩
 exact iter_only (fun t=>Keep s3 t) h3.hi s3 (.refl _) a4.keep fun j t hj hne hq=>by
  unfold act1;simp only;rw [if_neg (by rw [h3.others hq hj hne];simp)]
theorem Solo.place {i k:Nat} {s:St} (h:Solo i k s) {x:Int} (hx:x ∈ placeL s):x=-1∨x=(s.r i).cell:=by
 obtain ⟨j,hj,rfl⟩:=placeL_mem.1 hx
 unfold St.pl
 by_cases hji:j=i
 ·subst hji;rw [if_pos h.oi];exact .inr rfl
 ·rw [if_neg (by rw [h.only j hj hji];simp)];exact .inl rfl
theorem spend_good {r:Rob} {k:Int} (h0:0≤k) (h1:k≤r.charge) (h2:r.charge≤200) (hm:0≤r.moved∧r.moved≤16777215) (hg:0≤r.gained∧r.gained≤16777215) (ha:-32768≤r.adj∧r.adj≤32767) (hk:k≤100):spend r k=some { r with charge:=r.charge - k,moved:=r.moved + k }:=by
 unfold spend
 rw [if_pos]
 simp only [Bool.and_eq_true,accOK_iff,decide_eq_true_eq,great]
 refine ⟨⟨⟨⟨by omega,by omega,by omega,by omega⟩,by omega⟩,by omega⟩,by omega,by omega,by omega,by omega⟩
def Sz (r:Rob):Prop:=(0≤r.moved∧r.moved≤16777215)∧(0≤r.gained∧r.gained≤16777215)∧(-32768≤r.adj∧r.adj≤32767)
theorem goes_good {i k:Nat} {s:St} (h:Solo i k s) (hz:Sz (s.r i)) {a:Int} {on:List Int} (ha:opn s.S a=true) (hne:(s.r i).cell≠a) (hch:stepS s (s.r i)≤(s.r i).charge)
 (hs:∀ n,n ∈ nearL s.W s.S (s.r i).cell→dd s.W s.S a n + 1=dd s.W s.S a (s.r i).cell→safeB s.W s.H s.S on (stepS s (s.r i)) n ((s.r i).charge - stepS s (s.r i))=true):
 ∃ n,n ∈ nearL s.W s.S (s.r i).cell∧opn s.S n=true∧dd s.W s.S a n + 1=dd s.W s.S a (s.r i).cell∧goes s i [a] on (placeL s)=s.setR i { s.r i with cell:=n,charge:=(s.r i).charge - stepS s (s.r i),moved:=(s.r i).moved + stepS s (s.r i) }:=by
 have hg:=h.inv.g
 have hc:=h.inv.cell i h.hi h.oi
 have hst:=stepS_two s (s.r i)
 have h200:=(h.inv.chg i h.hi h.oi).2
 have hS:=gr_size hg
 obtain ⟨n,hn1,hn2,hn3⟩:=next_good hg (st:=stepS s (s.r i)) (by omega) ha hc hne (T:=takenL (placeL s ++ placeL s) s.S.size) fun y hy hyx=>by
  refine free_of ?_ (opn_lt hy).1
  rw [List.mem_append]
  have:y ∉ placeL s:=fun hm=>by
   rcases h.place hm with e | e
   ·have:=(opn_lt hy).1;omega
   ·exact hyx e
  rintro (x | x)<;>exact this x
 refine ⟨n,hn2,((near_iff hS.1 hc).1 hn2).1,hn3,?_⟩
 unfold goes
 simp only
 rw [if_pos (costOK_iff.2 ⟨hg,by omega,by omega,by simp⟩),hn1]
 have hm:mayB s.W s.H s.S on (stepS s (s.r i)) (s.r i).cell n (s.r i).charge=true:=by
  unfold mayB gnear
  rw [hg,hc,hs n hn2 hn3,decide_eq_true hch]
  simp [hn2]
 simp only
 rw [if_pos hm,spend_good (by omega) hch h200 hz.1 hz.2.1 hz.2.2 (by omega)]
theorem act_fetch_go {i k:Nat} {s:St} (h:Solo i k s) (hz:Sz (s.r i)) {on:List Int} (hp:(s.r i).phase=1) (ht:(s.r i).task=(k:Int)) (hst:(s.t k).st=1) (hne:(s.r i).cell≠(s.t k).fr) (hch:1≤(s.r i).charge)
 (hs:∀ n,n ∈ nearL s.W s.S (s.r i).cell→dd s.W s.S (s.t k).fr n + 1=dd s.W s.S (s.t k).fr (s.r i).cell→safeB s.W s.H s.S on 1 n ((s.r i).charge - 1)=true):
 ∃ n,n ∈ nearL s.W s.S (s.r i).cell∧opn s.S n=true∧dd s.W s.S (s.t k).fr n + 1=dd s.W s.S (s.t k).fr (s.r i).cell∧act1 on (placeL s) i s=s.setR i { s.r i with cell:=n,charge:=(s.r i).charge - 1,moved:=(s.r i).moved + 1 }:=by
 have htk:s.tk (s.r i).task=s.t k:=SuitP.tk ht
 have hstep:stepS s (s.r i)=1:=by unfold stepS;rw [htk,if_neg (by rw [hst];omega)]
 have ha:=(h.inv.ends k h.hk h.ik).1
 obtain ⟨n,h1,h2,h3,h4⟩:=goes_good h hz (on:=on) ha hne (by rw [hstep];exact hch) (by rw [hstep];exact hs)
 refine ⟨n,h1,h2,h3,?_⟩
 rw [hstep] at h4
 unfold act1 works
 simp only
 rw [h.oi,hp,htk]
 rw [if_pos (by rfl),if_pos rfl,if_neg hne]
 simp only
 rw [if_pos trivial,h4]
 simp only [hp]
theorem act_carry_go {i k:Nat} {s:St} (h:Solo i k s) (hz:Sz (s.r i)) {on:List Int} (hp:(s.r i).phase=2) (ht:(s.r i).task=(k:Int)) (hst:(s.t k).st=2) (hne:(s.r i).cell≠(s.t k).dst) (hch:2≤(s.r i).charge)
 (hs:∀ n,n ∈ nearL s.W s.S (s.r i).cell→dd s.W s.S (s.t k).dst n + 1=dd s.W s.S (s.t k).dst (s.r i).cell→safeB s.W s.H s.S on 2 n ((s.r i).charge - 2)=true):
 ∃ n,n ∈ nearL s.W s.S (s.r i).cell∧opn s.S n=true∧dd s.W s.S (s.t k).dst n + 1=dd s.W s.S (s.t k).dst (s.r i).cell∧act1 on (placeL s) i s=s.setR i { s.r i with cell:=n,charge:=(s.r i).charge - 2,moved:=(s.r i).moved + 2 }:=by
 have htk:s.tk (s.r i).task=s.t k:=SuitP.tk ht
 have hstep:stepS s (s.r i)=2:=by unfold stepS;rw [htk,if_pos ⟨by rw [ht];omega,hst⟩]
 have ha:=(h.inv.ends k h.hk h.ik).2
 obtain ⟨n,h1,h2,h3,h4⟩:=goes_good h hz (on:=on) ha hne (by rw [hstep];exact hch) (by rw [hstep];exact hs)
 refine ⟨n,h1,h2,h3,?_⟩
 rw [hstep] at h4
 unfold act1 works
 simp only
 rw [h.oi,hp,htk]
 rw [if_pos (by rfl),if_neg (by omega),if_pos rfl,if_neg hne]
 simp only
 rw [if_neg (by omega),if_pos trivial,h4]
 simp only [hp]
theorem act_load {i k:Nat} {s:St} (h:Solo i k s) {on:List Int} (hp:(s.r i).phase=1) (ht:(s.r i).task=(k:Int)) (he:(s.r i).cell=(s.t k).fr) (hs:safeB s.W s.H s.S on 2 (s.r i).cell (s.r i).charge=true):
 act1 on (placeL s) i s=(s.setR i { s.r i with phase:=2 }).setT k { s.t k with st:=2 }:=by
 have htk:s.tk (s.r i).task=s.t k:=SuitP.tk ht
 unfold act1 works
 simp only
 rw [h.oi,hp,htk]
 rw [if_pos (by rfl),if_pos rfl,if_pos he,if_pos hs]
 simp only
 rw [ht,Int.toNat_natCast]
theorem act_done {i k:Nat} {s:St} (h:Solo i k s) {on:List Int} (hp:(s.r i).phase=2) (ht:(s.r i).task=(k:Int)) (he:(s.r i).cell=(s.t k).dst):
 act1 on (placeL s) i s=(s.setR i { s.r i with phase:=0,task:=-1 }).setT k { s.t k with st:=3 }:=by
 have htk:s.tk (s.r i).task=s.t k:=SuitP.tk ht
 unfold act1 works
 simp only
 rw [h.oi,hp,htk]
 rw [if_pos (by rfl),if_neg (by omega),if_pos rfl,if_pos he]
 simp only
 rw [ht,Int.toNat_natCast]
end Go.Proofs.YtoejdgoicoaomaaGreatDoor
namespace Go.Proofs.YtoejdgoicoaomaaGreatDoor
open Go.Mini
open Go.Proofs.YtoejdgoicoaomaaGreatDoor.Code
attribute [local irreducible] mx ml mld mstep MCalls Ex.thn Ex.inb
variable {E:World→Prop}
theorem cands_succ (s:St) (on:List Int) (k j:Nat):cands s on k (j + 1)=cands s on k j ++ (cand s on k j).toList:=by
 unfold cands
 rw [List.range_succ,List.filterMap_append]
 cases h:cand s on k j<;>simp [h]
theorem cands_len (s:St) (on:List Int) (k j:Nat):(cands s on k j).length≤j:=by
 unfold cands
 exact Nat.le_trans (List.length_filterMap_le _ _) (Nat.le_of_eq List.length_range)
theorem assignN_inv {s:St} (h:Inv s) (on:List Int) {n:Nat} (hn:n≤20):Inv (iter (assign1 on) n s):=
 iter_ind (P:=fun _ s'=>Inv s') h fun i s' hi h1=>(assign1_inv h1 on (by omega)).1
theorem idleN_inv {s:St} (h:Inv s) {n:Nat} (hn:n≤10):Inv (iter idle1 n s):=
 iter_ind (P:=fun _ s'=>Inv s') h fun i s' hi h1=>(idle1_inv h1 (by omega)).1
theorem o_enEq {ts:Fr} {σ τ:H} {x:Opd} {k:Int} {e:Value} (h:EN2 τ e k) (hx:mev ts x=e):mop ts σ (.eqN .iface false x (.c .nilIface))=some (.bool (k == 0),σ):=by
 show (eqNil .iface (mev ts x) .nilIface).map (fun b=>(Value.bool (if false then !b else b),σ))=_
 rw [hx]
 rcases h with ⟨rfl,rfl⟩ | ⟨hk,nm,id,rfl,_⟩
 ·rfl
 ·rw [beq_eq_false_iff_ne.2 hk];rfl
theorem setR_w (s:St) (i:Nat) (a b:Rob):(s.setR i a).setR i b=s.setR i b:=by
 unfold St.setR;simp
set_option maxRecDepth 100000 in
set_option maxHeartbeats 16000000 in
theorem mAssign_c {σ:H} {id:Nat} (s0:St) (h0:Inv s0) (hg0:σ.get id=.cells 0 (stC s0)) {ov:Value} {on:List Int} (hr0:Rd σ ov (ints on)) (hb:BlkP ov fun i=>i≠id):
 MCalls E Tryz.prog 86 [.pointer (some ⟨id,0,none⟩),ov] σ (fun v τ=>v=.tuple #[]∧KeepBut (some id) σ τ∧τ.get id=.cells 0 (stC (assign on s0))):=by
 refine mcalls_of fn86 (by simp) ?_
 unfold c86 r86
 refine stepR0 ?_
 refine mx_loop (fun n ts τ=>∃ k:Nat,n=20 - k∧k≤20∧KeepBut (some id) σ τ∧τ.get id=.cells 0 (stC (iter (assign1 on) k s0))∧ts 0=.pointer (some ⟨id,0,none⟩)∧ts 1=ov∧ts 15=.int .i64 ((k:Nat):Int)) 20 ?_ ?_
 ·exact ⟨0,rfl,Nat.zero_le _,⟨Nat.le_refl _,fun _ _ _=>rfl⟩,hg0,Sd0,Sd0,Sd0⟩
 rintro _ ts τ ⟨k,rfl,hk,kb,hg,t0,t1,t15⟩
 rcases Nat.lt_or_ge k 20 with hkl | hkg
 ·have hkl':((k:Nat):Int) < 20:=by omega
  have hI:=assignN_inv h0 on hk
  have hstep:iter (assign1 on) (k + 1) s0=assign1 on k (iter (assign1 on) k s0):=rfl
  generalize iter (assign1 on) k s0=s at *
  have hw:=hI.wf
  have hr:=hr0.keepBut hb kb
  have hlt:=H.lt_of_cells hg
  have ha1:assign1 on k s=if (s.i k && (s.t k).st == 0)=true then (match bestI (cands s on k 10) with | some i=>(s.setR i.toNat { s.r i.toNat with phase:=1,task:=k }).setT k { s.t k with st:=1 } | none=>s) else s:=rfl
  refine stepR (An t0 (An t15 hkl')) ?_
  refine ml_op Sd0 (o_load1q (off:=152 + k) (Sw t0) hg (hw.is_at hkl)) ?_
  cases hik:s.i k
  ·rw [hik] at ha1
   simp only [Bool.false_and,Bool.false_eq_true,if_false] at ha1
   refine stepR t15 ?_
   exact ⟨20 - (k + 1),by omega,k + 1,rfl,by omega,kb,by rw [hstep,ha1];exact hg,(Sw t0),(Sw t1),Sd0⟩
  refine stepR0 ?_
  refine ml_op Sd0 (o_load1q (off:=92 + k * 3 + 2) (v:=.int .i64 (s.t k).st) Sd0 hg (hw.tsk_at hkl (by omega))) ?_
  by_cases hst:(s.t k).st=0
  rotate_left
  ·have hst':((s.t k).st != 0)=true:=by simpa using hst
   have hst2:((s.t k).st == 0)=false:=by simpa using hst
   rw [hst2] at ha1
   simp only [Bool.and_false,Bool.false_eq_true,if_false] at ha1
   refine stepR (An hst' t15) ?_
   exact ⟨20 - (k + 1),by omega,k + 1,rfl,by omega,kb,by rw [hstep,ha1];exact hg,(Sw t0),(Sw t1),Sd0⟩
  have hst':((s.t k).st != 0)=false:=by rw [hst];rfl
  rw [if_pos (by rw [hik,hst];rfl)] at ha1
  refine stepR (An hst' t0) ?_
  refine ml_loadN Sd0 (Sw t0) (row_of hg hw.robs_row) ?_
  refine stepR0 ?_
  refine mx_loop (fun n ts' τ'=>∃ (j:Nat) (lv:Value) (oj:Option Nat),n=10 - j∧j≤10∧Ext τ τ'∧Own τ' 3 lv oj (cns (cands s on k j))∧(∀ x,oj=some x→τ.size≤x)∧(cands s on k j=[]→lv=.slice none 0 0)∧
   ts' 0=.pointer (some ⟨id,0,none⟩)∧ts' 1=ov∧ts' 4=.int .i64 ((k:Nat):Int)∧ts' 5=.pointer (some ⟨id,92 + k * 3,none⟩)∧ts' 6=lv∧ts' 15=.int .i64 ((k:Nat):Int)∧ts' 40=.agg (s.rob.flatMap robC).toArray∧ts' 41=.int .i64 ((j:Nat):Int)) 10 ?_ ?_
  ·exact ⟨0,_,_,rfl,Nat.zero_le _,.refl _,.nil,fun x hx=>(nomatch hx),fun _=>rfl,(Sw t0),(Sw t1),(Sw t15),Sd0,Sd0,(Sw t15),Sd0,Sd0⟩
  clear t0 t1 t15
  rintro _ ts2 τ2 ⟨j,lv,oj,rfl,hj,e2,own,hoj,hnl,t0,t1,t4,t5,t6,t15,t40,t41⟩
  have hg2:=e2.cells hg
  rcases Nat.lt_or_ge j 10 with hjl | hjg
  ·have hjl':((j:Nat):Int) < 10:=by omega
   refine stepR (An t40 (An t41 hjl')) ?_
   refine ml_op Sd0 (o_idxRob hw (Sw t40) (Sw t41) hjl) ?_
   refine stepR t41 ?_
   refine ml_init (vs:=robC (s.r j)) Sd0 Sd0 Sd0 rfl rfl rfl fun τ3 e3 g3=>?_
   have hg3:=e3.cells hg2
   refine stepR t0 ?_
   refine mld_loadN Sd0 (Sw t0) (row_of hg3 hw.map_row) ?_
   refine stepR t1 ?_
   refine mld_op Sd0 (o_load1q (off:=0) (v:=.int .i64 (s.r j).cell) Sd0 g3 rfl) ?_
   refine stepR t5 ?_
   refine mld_op Sd0 (o_load1q (off:=92 + k * 3 + 0) (v:=.int .i64 (s.t k).fr) Sd0 hg3 (hw.tsk_at hkl (by omega))) ?_
   refine stepR t5 ?_
   refine mld_op Sd0 (o_load1q (off:=92 + k * 3 + 1) (v:=.int .i64 (s.t k).dst) Sd0 hg3 (hw.tsk_at hkl (by omega))) ?_
   refine mld_callW Sd0 (Sw t1) (oTotal_c2 s.W s.H s.S (hr.of_ext (e2.trans e3)) (s.r j).cell (s.t k).fr (s.t k).dst) ?_
   rintro _ τ4 ⟨n,en,ev,rfl,htot,hen,e4⟩
   have hg4:=e4.cells hg3
   have g4:=e4.cells g3
   have e24:=(e2.trans e3).trans e4
   have hcd:cand s on k j=if en=0 then (if s.o j && (s.r j).phase == 0 then some ((j:Int),n,(s.r j).charge) else none) else none:=by
    unfold cand
    by_cases h:en=0
    ·subst h;rw [totO_good htot,if_pos rfl]
    ·rw [totO_bad htot h,if_neg h]
   have hsc:=cands_succ s on k j
   have keep:cand s on k j=none→cands s on k (j + 1)=cands s on k j:=fun h=>by rw [hsc,h];simp
   refine stepR t0 ?_
   refine ml_op Sd0 (o_load1q (off:=82 + j) Sd0 hg4 (hw.on_at hjl)) ?_
   cases oj':s.o j
   ·rw [oj'] at hcd
    have hk0:=keep (by rw [hcd];split<;>simp)
    refine stepR t41 ?_
    exact ⟨10 - (j + 1),by omega,j + 1,lv,oj,rfl,by omega,e24,by rw [hk0];exact (own.of_ext (e3.trans e4)),hoj,by rw [hk0];exact hnl,(Sw t0),(Sw t1),(Sw t4),(Sw t5),(Sw t6),(Sw t15),(Sw t40),Sd0⟩
   refine stepR0 ?_
   refine ml_op Sd0 (o_load1q (off:=2) (v:=.int .i64 (s.r j).phase) Sd0 g4 rfl) ?_
   by_cases hp:(s.r j).phase=0
   rotate_left
   ·have hp':((s.r j).phase == 0)=false:=by simpa using hp
    rw [hp',Bool.and_false] at hcd
    have hk0:=keep (by rw [hcd];split<;>simp)
    refine stepR (An hp' t41) ?_
    exact ⟨10 - (j + 1),by omega,j + 1,lv,oj,rfl,by omega,e24,by rw [hk0];exact (own.of_ext (e3.trans e4)),hoj,by rw [hk0];exact hnl,(Sw t0),(Sw t1),(Sw t4),(Sw t5),(Sw t6),(Sw t15),(Sw t40),Sd0⟩
   have hp':((s.r j).phase == 0)=true:=by rw [hp];rfl
   rw [hp',oj'] at hcd
   refine stepR hp' ?_
   refine ml_op Sd0 (o_enEq hen Sd0) ?_
   by_cases hen0:en=0
   rotate_left
   ·have hen':(en == 0)=false:=by simpa using hen0
    rw [if_neg hen0] at hcd
    have hk0:=keep hcd
    refine stepR (An hen' t41) ?_
    exact ⟨10 - (j + 1),by omega,j + 1,lv,oj,rfl,by omega,e24,by rw [hk0];exact (own.of_ext (e3.trans e4)),hoj,by rw [hk0];exact hnl,(Sw t0),(Sw t1),(Sw t4),(Sw t5),(Sw t6),(Sw t15),(Sw t40),Sd0⟩
   have hen':(en == 0)=true:=by rw [hen0];rfl
   rw [if_pos hen0] at hcd
   simp only [Bool.and_self,if_true] at hcd
   have hk1:cands s on k (j + 1)=cands s on k j ++ [((j:Int),n,(s.r j).charge)]:=by rw [hsc,hcd];rfl
   have hcl:=cands_len s on k j
   refine stepR (An hen' (An t6 t41)) ?_
   refine ml_op Sd0 (o_load1q (off:=1) (v:=.int .i64 (s.r j).charge) Sd0 g4 rfl) ?_
   refine stepR t6 ?_
   refine ml_app1 (vs:=cnC ((j:Int),n,(s.r j).charge)) Sd0 (Sw t6) Sd0 (own.of_ext ((e3.trans e4).trans (Ext.push _ _))) (H.get_push_self _ _) rfl (by omega) (by rw [List.all_append,cns_one];rfl) (by omega) (by rw [cns_len];simp only [appMax];omega) fun v' τ5 own5 hs5 hk5=>?_
   rw [show cns (cands s on k j) ++ cnC ((j:Int),n,(s.r j).charge)=cns (cands s on k (j + 1)) by rw [hk1,cns_app];simp [cns]] at own5
   have ⟨e5,hj5⟩:=app_ext (e24.trans (Ext.push _ _)) hoj hs5 hk5
   refine stepR t41 ?_
   exact ⟨10 - (j + 1),by omega,j + 1,v',_,rfl,by omega,e5,own5,hj5,fun h=>by rw [hk1] at h;simp at h,(Sw t0),(Sw t1),(Sw t4),(Sw t5),Sd0,(Sw t15),(Sw t40),Sd0⟩
  obtain rfl:j=10:=by omega
  have hjl':¬ (((10:Nat):Nat):Int) < 10:=by omega
  have hcl:=cands_len s on k 10
  refine stepR (An t41 (An hjl' t6)) ?_
  refine ml_call Sd0 (Sw t6) (pcBest_c own hnl (by omega)) ?_
  rintro _ τ3 ⟨rfl,e3⟩
  have hg3:=e3.cells hg2
  have kb3:=kb.trans (.of_ext (e2.trans e3))
  cases hbst:bestI (cands s on k 10) with
  | none=>
    rw [hbst] at ha1
    simp only at ha1
    refine stepR0 ?_
    simp only [Option.isSome_none]
    refine stepR t15 ?_
    exact ⟨20 - (k + 1),by omega,k + 1,rfl,by omega,kb3,by rw [hstep,ha1];exact hg3,(Sw t0),(Sw t1),Sd0⟩
  | some x=>
    obtain ⟨i,hi,rfl,oi,pi⟩:=bestI_some hbst
    rw [hbst] at ha1
    simp only [Int.toNat_natCast] at ha1
    have hi':((i:Nat):Int) < 10:=by omega
    refine stepR0 ?_
    simp only [Option.isSome_some,Option.getD_some]
    refine stepR (An t0 (An t4 (An t5 hi'))) ?_
    refine mld_op Sd0 (o_store (off:=12 + i * 7 + 2) (vs:=[.int .i64 1]) Sd0 Sd0 hg3 rfl (by rw [hw.len];simp;omega) rfl) ?_
    have s1:=SetTo.mk' (o:=.cells 0 (spl (stC s) (12 + i * 7 + 2) [.int .i64 1])) (H.lt_of_cells hg3)
    generalize τ3.set id _=τ4 at *
    rw [rob_set1 hw hi (by omega) rfl (r:={ s.r i with phase:=1 }) rfl] at s1
    have hw1:=hw.sR i { s.r i with phase:=1 }
    have hr1:(s.setR i { s.r i with phase:=1 }).r i={ s.r i with phase:=1 }:=by rw [hw.setR_r hi,if_pos rfl]
    have hg4:=s1.self
    refine stepR (An t4 hi') ?_
    refine mld_op Sd0 (o_store (off:=12 + i * 7 + 3) (vs:=[.int .i64 ((k:Nat):Int)]) Sd0 (Sw t4) hg4 rfl (by rw [hw1.len];simp;omega) rfl) ?_
    have s2:=SetTo.mk' (o:=.cells 0 (spl (stC (s.setR i { s.r i with phase:=1 })) (12 + i * 7 + 3) [.int .i64 ((k:Nat):Int)])) (H.lt_of_cells hg4)
    generalize τ4.set id _=τ5 at *
    rw [rob_set1 hw1 hi (by omega) rfl (r:={ s.r i with phase:=1,task:=(k:Int) }) (by rw [hr1];rfl),setR_w] at s2
    have hw2:=hw.sR i { s.r i with phase:=1,task:=(k:Int) }
    have hg5:=s2.self
    refine stepR t5 ?_
    refine mld_op Sd0 (o_store (off:=92 + k * 3 + 2) (vs:=[.int .i64 1]) Sd0 Sd0 hg5 rfl (by rw [hw2.len];simp;omega) rfl) ?_
    have s3:=SetTo.mk' (o:=.cells 0 (spl (stC (s.setR i { s.r i with phase:=1,task:=(k:Int) })) (92 + k * 3 + 2) [.int .i64 1])) (H.lt_of_cells hg5)
    generalize τ5.set id _=τ6 at *
    rw [tsk_set1 hw2 hkl (by omega) rfl (t:={ s.t k with st:=1 }) rfl] at s3
    refine stepR t15 ?_
    exact ⟨20 - (k + 1),by omega,k + 1,rfl,by omega,((kb3.set s1).set s2).set s3,by rw [hstep,ha1];exact s3.self,(Sw t0),(Sw t1),Sd0⟩
 ·obtain rfl:k=20:=by omega
  have hkl':¬ (((20:Nat):Nat):Int) < 20:=by omega
  have hI20:=assignN_inv h0 on hk
  unfold assign
  generalize iter (assign1 on) 20 s0=s1 at *
  refine stepR (An t15 hkl') ?_
  refine mx_loop (fun n ts τ=>∃ i:Nat,n=10 - i∧i≤10∧KeepBut (some id) σ τ∧τ.get id=.cells 0 (stC (iter idle1 i s1))∧ts 0=.pointer (some ⟨id,0,none⟩)∧ts 111=.int .i64 ((i:Nat):Int)) 10 ?_ ?_
  ·exact ⟨0,rfl,Nat.zero_le _,kb,hg,(Sw t0),Sd0⟩
  clear hg kb t0 t1 t15
  rintro _ ts τ ⟨i,rfl,hi,kb,hg,t0,t111⟩
  rcases Nat.lt_or_ge i 10 with hil | hig
  ·have hil':((i:Nat):Int) < 10:=by omega
   have hI:=idleN_inv hI20 hi
   have hstep:iter idle1 (i + 1) s1=idle1 i (iter idle1 i s1):=rfl
   generalize iter idle1 i s1=s at *
   have hw:=hI.wf
   have hid:idle1 i s=if (s.o i && (s.r i).phase == 0 && decide ((s.r i).charge < 100))=true then s.setR i { s.r i with phase:=3 } else s:=rfl
   refine stepR (An t0 (An t111 hil')) ?_
   refine ml_op Sd0 (o_load1q (off:=82 + i) (Sw t0) hg (hw.on_at hil)) ?_
   cases ho:s.o i
   ·rw [ho] at hid
    simp only [Bool.false_and,Bool.false_eq_true,if_false] at hid
    refine stepR t111 ?_
    exact ⟨10 - (i + 1),by omega,i + 1,rfl,by omega,kb,by rw [hstep,hid];exact hg,(Sw t0),Sd0⟩
   refine stepR0 ?_
   refine ml_op Sd0 (o_load1q (off:=12 + i * 7 + 2) (v:=.int .i64 (s.r i).phase) Sd0 hg (hw.rob_at hil (by omega))) ?_
   rcases Bool.eq_false_or_eq_true ((s.r i).phase == 0) with hp | hp
   rotate_left
   ·rw [hp] at hid
    simp only [Bool.and_false,Bool.false_and,Bool.false_eq_true,if_false] at hid
    refine stepR (An hp t111) ?_
    exact ⟨10 - (i + 1),by omega,i + 1,rfl,by omega,kb,by rw [hstep,hid];exact hg,(Sw t0),Sd0⟩
   refine stepR hp ?_
   refine ml_op Sd0 (o_load1q (off:=12 + i * 7 + 1) (v:=.int .i64 (s.r i).charge) Sd0 hg (hw.rob_at hil (by omega))) ?_
   by_cases hc:(s.r i).charge < 100
   ·rw [ho,hp,decide_eq_true hc] at hid
    simp only [Bool.and_self,if_true] at hid
    refine stepR hc ?_
    refine ml_storeA (off:=12 + i * 7 + 2) (vs:=[.int .i64 3]) Sd0 Sd0 Sd0 hg rfl (by rw [hw.len];simp;omega) rfl fun τ2 t2=>?_
    rw [rob_set1 hw hil (by omega) rfl (r:={ s.r i with phase:=3 }) rfl] at t2
    refine stepR t111 ?_
    exact ⟨10 - (i + 1),by omega,i + 1,rfl,by omega,kb.set t2,by rw [hstep,hid];exact t2.self,(Sw t0),Sd0⟩
   ·rw [decide_eq_false hc] at hid
    simp only [Bool.and_false,Bool.false_eq_true,if_false] at hid
    refine stepR (An hc t111) ?_
    exact ⟨10 - (i + 1),by omega,i + 1,rfl,by omega,kb,by rw [hstep,hid];exact hg,(Sw t0),Sd0⟩
  ·obtain rfl:i=10:=by omega
   have hil':¬ (((10:Nat):Nat):Int) < 10:=by omega
   refine stepR (An t111 hil') ?_
   exact fin0n ⟨rfl,kb,hg⟩
end Go.Proofs.YtoejdgoicoaomaaGreatDoor
namespace Go.Proofs.YtoejdgoicoaomaaGreatDoor
open Go.Mini
open Go.Proofs.YtoejdgoicoaomaaGreatDoor.Code
attribute [local irreducible] mx ml mld mstep MCalls Ex.thn Ex.inb
variable {E:World→Prop}
set_option maxHeartbeats 4000000 in
theorem clApart_c {σ:H} {wv nv:Value} {was now:List Int} {oid:Option Nat} (hw:Rd σ wv (ints was)) (hn:Own σ 1 nv oid (ints now)) (hl:now.length≤1000):MCalls E Tryz.prog 21 [wv,nv] σ (fun r τ=>r=.bool (apartB was now)∧τ=σ):=by
 refine mcalls_of fn21 (by simp) ?_
 unfold c21 r21
 refine stepR0 ?_
 refine ml_len Sd0 hn.rd Sd0 ?_
 rw [ints_len]
 refine stepR0 ?_
 refine mx_loop (fun n ts τ=>∃ i:Nat,n=now.length - i∧i≤now.length∧τ=σ∧(∀ j,j < i→∀ k,k < j→clash was now j k=false)∧ts 0=wv∧ts 1=nv∧ts 11=nv∧ts 12=.int .i64 ((now.length:Nat):Int)∧ts 13=.int .i64 ((i:Nat):Int)) now.length ?_ ?_
 ·exact ⟨0,rfl,Nat.zero_le _,rfl,fun j hj=>(by omega),Sd0,Sd0,Sd0,Sd0,Sd0⟩
 rintro _ ts τ ⟨i,rfl,hi,rfl,hall,t0,t1,t11,t12,t13⟩
 rcases Nat.lt_or_ge i now.length with hil | hig
 ·have hil':((i:Nat):Int) < ((now.length:Nat):Int):=by omega
  obtain ⟨id,rfl,hg⟩:∃ id,nv=.slice (some ⟨id,0,none⟩) now.length now.length∧τ.get id=.cells 1 (ints now):=by
   rcases hn.inv with ⟨_,_,h⟩ | ⟨id,m,h1,_,h2,h3⟩
   ·have:now=[]:=by simpa [ints] using h
    rw [this] at hil;simp at hil
   ·rw [ints_len,Nat.mul_one] at h3
    exact ⟨id,by rw [h1,h3],h2⟩
  refine stepR (An t11 (An t12 (An t13 hil'))) ?_
  refine ml_op Sd0 (o_load1q (off:=i) (v:=.int .i64 (now.getD i 0)) Sd0 hg (ints_at hil)) ?_
  refine stepR t1 ?_
  refine ml_op Sd0 (o_slc_hi (q:=(i:Int)) (Sw t1) Sd0 (by omega) (by omega) hg) ?_
  refine stepR0 ?_
  refine mx_loop (fun n ts' τ'=>∃ k:Nat,n=i - k∧k≤i∧τ'=τ∧(∀ j,j < k→clash was now i j=false)∧ts' 0=wv∧ts' 1=.slice (some ⟨id,0,none⟩) now.length now.length∧ts' 11=.slice (some ⟨id,0,none⟩) now.length now.length∧ts' 12=.int .i64 ((now.length:Nat):Int)∧ts' 13=.int .i64 ((i:Nat):Int)∧
   ts' 5=.int .i64 ((i:Nat):Int)∧ts' 6=.int .i64 (now.getD i 0)∧ts' 20=.slice (some ⟨id,0,none⟩) i now.length∧ts' 21=.int .i64 ((i:Nat):Int)∧ts' 22=.int .i64 ((k:Nat):Int)) i ?_ ?_
  ·exact ⟨0,rfl,Nat.zero_le _,rfl,fun j hj=>(by omega),(Sw t0),(Sw t1),(Sw t11),(Sw t12),(Sw t13),(Sw t13),Sd0,Sd0,Sd0,Sd0⟩
  rintro _ ts τ' ⟨k,rfl,hk,rfl,hin,t0,t1,t11,t12,t13,t5,t6,t20,t21,t22⟩
  rcases Nat.lt_or_ge k i with hki | hkg
  ·have hki':((k:Nat):Int) < ((i:Nat):Int):=by omega
   refine stepR (An t20 (An t21 (An t22 hki'))) ?_
   refine ml_op Sd0 (o_load1q (off:=k) (v:=.int .i64 (now.getD k 0)) Sd0 hg (ints_at (by omega))) ?_
   refine stepR (An t0 t5) ?_
   refine ml_call Sd0 (Sw (An t0 t5)) (clPlace_c hw i) ?_
   rintro _ τ2 ⟨rfl,rfl⟩
   refine stepR t0 ?_
   refine ml_call Sd0 (Sw (An t0 t22)) (clPlace_c hw k) ?_
   rintro _ τ2 ⟨rfl,rfl⟩
   refine stepR t6 ?_
   have hcl:clash was now i k=((now.getD i 0 != -1 && now.getD i 0 == now.getD k 0) || (now.getD i 0 != -1 && now.getD k 0 != -1 && now.getD i 0 == was.getD k (-1) && now.getD k 0 == was.getD i (-1) && now.getD i 0 != was.getD i (-1))):=rfl
   have hgi:now.getD i 0=now.getD i 0:=rfl
   generalize now.getD i 0=a at *
   generalize now.getD k 0=b at *
   generalize was.getD i (-1)=x at *
   generalize was.getD k (-1)=y at *
   refine ml_mid (fun ts' τ'=>τ'=τ2∧ts' 62=.bool (clash was now i k)∧ts' 0=wv∧ts' 1=.slice (some ⟨id,0,none⟩) now.length now.length∧ts' 11=.slice (some ⟨id,0,none⟩) now.length now.length∧ts' 12=.int .i64 ((now.length:Nat):Int)∧ts' 13=.int .i64 ((i:Nat):Int)∧
    ts' 5=.int .i64 ((i:Nat):Int)∧ts' 6=.int .i64 a∧ts' 20=.slice (some ⟨id,0,none⟩) i now.length∧ts' 21=.int .i64 ((i:Nat):Int)∧ts' 22=.int .i64 ((k:Nat):Int)) ?_ ?_
   ·rcases Bool.eq_false_or_eq_true (a != -1) with h1 | h1
    ·rcases Bool.eq_false_or_eq_true (a == b) with h2 | h2
     ·have hc:clash was now i k=true:=by rw [hcl];simp [h1,h2]
      rw [hc]
      refine stepR (An t6 (An h1 h2)) ?_
      exact ⟨rfl,Sd0,(Sw t0),(Sw t1),(Sw t11),(Sw t12),(Sw t13),(Sw t5),(Sw t6),(Sw t20),(Sw t21),(Sw t22)⟩
     ·rcases Bool.eq_false_or_eq_true (b != -1) with h3 | h3
      ·rcases Bool.eq_false_or_eq_true (a == y) with h4 | h4
       ·rcases Bool.eq_false_or_eq_true (b == x) with h5 | h5
        ·rcases Bool.eq_false_or_eq_true (a != x) with h6 | h6
         ·have hc:clash was now i k=true:=by rw [hcl];simp [h1,h2,h3,h4,h5,h6]
          rw [hc]
          refine stepR (An t6 (An h1 (An h2 (An h3 (An h4 (An h5 h6)))))) ?_
          exact ⟨rfl,Sd0,(Sw t0),(Sw t1),(Sw t11),(Sw t12),(Sw t13),(Sw t5),(Sw t6),(Sw t20),(Sw t21),(Sw t22)⟩
         ·have hc:clash was now i k=false:=by rw [hcl];simp [h1,h2,h3,h4,h5,h6]
          rw [hc]
          refine stepR (An t6 (An h1 (An h2 (An h3 (An h4 (An h5 h6)))))) ?_
          exact ⟨rfl,Sd0,(Sw t0),(Sw t1),(Sw t11),(Sw t12),(Sw t13),(Sw t5),(Sw t6),(Sw t20),(Sw t21),(Sw t22)⟩
        ·have hc:clash was now i k=false:=by rw [hcl];simp [h1,h2,h3,h4,h5]
         rw [hc]
         refine stepR (An t6 (An h1 (An h2 (An h3 (An h4 h5))))) ?_
         exact ⟨rfl,Sd0,(Sw t0),(Sw t1),(Sw t11),(Sw t12),(Sw t13),(Sw t5),(Sw t6),(Sw t20),(Sw t21),(Sw t22)⟩
       ·have hc:clash was now i k=false:=by rw [hcl];simp [h1,h2,h3,h4]
        rw [hc]
        refine stepR (An t6 (An h1 (An h2 (An h3 h4)))) ?_
        exact ⟨rfl,Sd0,(Sw t0),(Sw t1),(Sw t11),(Sw t12),(Sw t13),(Sw t5),(Sw t6),(Sw t20),(Sw t21),(Sw t22)⟩
      ·have hc:clash was now i k=false:=by rw [hcl];simp [h1,h2,h3]
       rw [hc]
       refine stepR (An t6 (An h1 (An h2 h3))) ?_
       exact ⟨rfl,Sd0,(Sw t0),(Sw t1),(Sw t11),(Sw t12),(Sw t13),(Sw t5),(Sw t6),(Sw t20),(Sw t21),(Sw t22)⟩
    ·have hc:clash was now i k=false:=by rw [hcl];simp [h1]
     rw [hc]
     refine stepR (An t6 h1) ?_
     exact ⟨rfl,Sd0,(Sw t0),(Sw t1),(Sw t11),(Sw t12),(Sw t13),(Sw t5),(Sw t6),(Sw t20),(Sw t21),(Sw t22)⟩
   ·rintro ts3 _ ⟨rfl,t62,t0,t1,t11,t12,t13,t5,t6,t20,t21,t22⟩
    cases hc:clash was now i k
    ·rw [hc] at t62
     refine stepR (An t62 t22) ?_
     refine ⟨i - (k + 1),by omega,k + 1,rfl,by omega,rfl,fun j hj=>?_,(Sw t0),(Sw t1),(Sw t11),(Sw t12),(Sw t13),(Sw t5),(Sw t6),(Sw t20),(Sw t21),Sd0⟩
     by_cases hjk:j=k
     ·rw [hjk];exact hc
     ·exact hin j (by omega)
    ·rw [hc] at t62
     refine stepR t62 ?_
     refine fin1 ⟨?_,rfl⟩
     have:apartB was now=false:=by
      unfold apartB
      rw [Bool.eq_false_iff]
      intro h
      have h1:=range_all.1 h i hil
      have h2:=range_all.1 h1 k hki
      rw [hc] at h2;cases h2
     rw [this];exact Sd0
  ·obtain rfl:k=i:=by omega
   have hki':¬ ((k:Nat):Int) < ((k:Nat):Int):=by omega
   refine stepR (An t21 (An t22 (An t13 hki'))) ?_
   refine ⟨now.length - (k + 1),by omega,k + 1,rfl,by omega,rfl,fun j hj m hm=>?_,(Sw t0),(Sw t1),(Sw t11),(Sw t12),Sd0⟩
   by_cases hjk:j=k
   ·rw [hjk] at hm ⊢;exact hin m hm
   ·exact hall j (by omega) m hm
 ·obtain rfl:i=now.length:=by omega
  have hil':¬ ((now.length:Nat):Int) < ((now.length:Nat):Int):=by omega
  have:apartB was now=true:=by
   unfold apartB
   refine range_all.2 fun i hi=>range_all.2 fun k hk=>?_
   rw [hall i hi k hk];rfl
  refine stepR (An t12 (An t13 hil')) ?_
  refine fin1 ⟨?_,rfl⟩
  rw [this];exact Sd0
end Go.Proofs.YtoejdgoicoaomaaGreatDoor
namespace Go.Proofs.YtoejdgoicoaomaaGreatDoor
open Go.Mini
open Go.Proofs.YtoejdgoicoaomaaGreatDoor.Code
attribute [local irreducible] mx ml mld mstep MCalls Ex.thn Ex.inb
variable {E:World→Prop}
set_option maxRecDepth 100000 in
set_option maxHeartbeats 4000000 in
theorem mSuits_c (s:St) (hw:s.WF) (r:Rob) (hr:r.task≠-1→0≤r.task∧r.task < 20) (σ:H):MCalls E Tryz.prog 60 [stV s,.agg (robC r).toArray] σ (fun v τ=>v=.bool (suits s r)∧Ext σ τ):=by
 refine mcalls_of fn60 (by simp) ?_
 unfold c60 r60 stV
 have g0:=H.get_push_self σ (.cells 0 (stC s))
 have e0:=Ext.push σ (.cells 0 (stC s))
 refine mx_seq (mx_ops (ml_op Sd0 (o_box Sd0) ?_))
 have hlt:=H.lt_of_cells g0
 generalize σ.push (.cells 0 (stC s))=τa at *
 refine ml_op Sd0 (o_box (cs:=robC r) Sd0) ?_
 have g1:=H.get_push_self τa (.cells 0 (robC r))
 have e1:=Ext.push τa (.cells 0 (robC r))
 have g0:=e1.cells g0
 have e:=e0.trans e1
 generalize τa.push (.cells 0 (robC r))=τ at *
 clear e0 e1
 refine stepR0 ?_
 refine ml_op Sd0 (o_load1q (off:=3) (v:=.int .i64 r.task) Sd0 g1 rfl) ?_
 by_cases ht:r.task=-1
 ·have ht':(r.task == -1)=true:=by rw [ht];rfl
  have hs:suits s r=(r.phase != 1 && r.phase != 2):=by unfold suits;rw [if_pos ht]
  refine stepR ht' ?_
  refine ml_op Sd0 (o_load1q (off:=2) (v:=.int .i64 r.phase) Sd0 g1 rfl) ?_
  rcases Bool.eq_false_or_eq_true (r.phase != 1) with h1 | h1
  ·refine stepR h1 ?_
   refine ml_op Sd0 (o_load1q (off:=2) (v:=.int .i64 r.phase) Sd0 g1 rfl) ?_
   refine stepR h1 ?_
   refine fin1 ⟨?_,e⟩
   rw [hs,h1,Bool.true_and];exact Sd0
  ·refine stepR h1 ?_
   refine fin1 ⟨?_,e⟩
   rw [hs,h1,Bool.false_and];exact Sd0
 ·have ht':(r.task == -1)=false:=by simpa using ht
  obtain ⟨h0,h20⟩:=hr ht
  have hk:r.task.toNat < 20:=by omega
  refine stepR ht' ?_
  refine ml_op Sd0 (o_load1q (off:=3) (v:=.int .i64 r.task) Sd0 g1 rfl) ?_
  refine stepR0 ?_
  refine ml_op Sd0 (o_load1q (off:=92 + r.task.toNat * 3 + 2) (v:=.int .i64 (s.t r.task.toNat).st) Sd0 g0 (hw.tsk_at hk (by omega))) ?_
  refine stepR0 ?_
  refine ml_op Sd0 (o_load1q (off:=2) (v:=.int .i64 r.phase) Sd0 g1 rfl) ?_
  have hs:suits s r=(if r.phase=1 then s.i r.task.toNat && (s.t r.task.toNat).st == 1 else if r.phase=2 then s.i r.task.toNat && (s.t r.task.toNat).st == 2 else if r.phase=4 then s.i r.task.toNat && ((s.t r.task.toNat).st == 1 || (s.t r.task.toNat).st == 2) else false):=by unfold suits;rw [if_neg ht];rfl
  by_cases p1:r.phase=1
  ·have p1':(r.phase == 1)=true:=by rw [p1];rfl
   rw [if_pos p1] at hs
   refine stepR p1' ?_
   refine ml_op Sd0 (o_load1q (off:=3) (v:=.int .i64 r.task) Sd0 g1 rfl) ?_
   refine stepR0 ?_
   refine ml_op Sd0 (o_load1q (off:=152 + r.task.toNat) Sd0 g0 (hw.is_at hk)) ?_
   cases hi:s.i r.task.toNat
   ·refine stepR0 ?_
    refine fin1 ⟨?_,e⟩
    rw [hs,hi];exact Sd0
   ·refine stepR0 ?_
    refine fin1 ⟨?_,e⟩
    rw [hs,hi,Bool.true_and];exact Sd0
  have p1':(r.phase == 1)=false:=by simpa using p1
  rw [if_neg p1] at hs
  by_cases p2:r.phase=2
  ·have p2':(r.phase == 2)=true:=by rw [p2];rfl
   rw [if_pos p2] at hs
   refine stepR (An p1' p2') ?_
   refine ml_op Sd0 (o_load1q (off:=3) (v:=.int .i64 r.task) Sd0 g1 rfl) ?_
   refine stepR0 ?_
   refine ml_op Sd0 (o_load1q (off:=152 + r.task.toNat) Sd0 g0 (hw.is_at hk)) ?_
   cases hi:s.i r.task.toNat
   ·refine stepR0 ?_
    refine fin1 ⟨?_,e⟩
    rw [hs,hi];exact Sd0
   ·refine stepR0 ?_
    refine fin1 ⟨?_,e⟩
    rw [hs,hi,Bool.true_and];exact Sd0
  have p2':(r.phase == 2)=false:=by simpa using p2
  rw [if_neg p2] at hs
  by_cases p4:r.phase=4
  ·have p4':(r.phase == 4)=true:=by rw [p4];rfl
   rw [if_pos p4] at hs
   refine stepR (An p1' (An p2' p4')) ?_
   refine ml_op Sd0 (o_load1q (off:=3) (v:=.int .i64 r.task) Sd0 g1 rfl) ?_
   refine stepR0 ?_
   refine ml_op Sd0 (o_load1q (off:=152 + r.task.toNat) Sd0 g0 (hw.is_at hk)) ?_
   cases hi:s.i r.task.toNat
   ·refine stepR0 ?_
    refine fin1 ⟨?_,e⟩
    rw [hs,hi];exact Sd0
   ·rcases Bool.eq_false_or_eq_true ((s.t r.task.toNat).st == 1) with h1 | h1
    ·refine stepR h1 ?_
     refine fin1 ⟨?_,e⟩
     rw [hs,hi,h1];exact Sd0
    ·refine stepR h1 ?_
     refine fin1 ⟨?_,e⟩
     rw [hs,hi,h1,Bool.true_and,Bool.false_or];exact Sd0
  ·have p4':(r.phase == 4)=false:=by simpa using p4
   rw [if_neg p4] at hs
   refine stepR (An p1' (An p2' p4')) ?_
   refine fin1 ⟨?_,e⟩
   rw [hs];exact Sd0
end Go.Proofs.YtoejdgoicoaomaaGreatDoor
namespace Go.Proofs.YtoejdgoicoaomaaGreatDoor
open Go.Mini
open Go.Proofs.YtoejdgoicoaomaaGreatDoor.Code
attribute [local irreducible] mx ml mld mstep MCalls Ex.thn Ex.inb
variable {E:World→Prop}
theorem all_succ (n:Nat) (p:Nat→Bool):(List.range (n + 1)).all p=((List.range n).all p && p n):=by
 rw [List.range_succ,List.all_append];simp
theorem o_errEq {ts:Fr} {σ τ:H} {x:Opd} {ok neg:Bool} {e:Value} (h:ErrR τ ok e) (hx:mev ts x=e):mop ts σ (.eqN .iface neg x (.c .nilIface))=some (.bool (if neg then !ok else ok),σ):=by
 unfold ErrR at h
 cases ok
 ·simp only [Bool.false_eq_true,if_false] at h
  obtain ⟨nm,id,rfl,_⟩:=h
  show (eqNil .iface (mev ts x) .nilIface).map (fun b=>(Value.bool (if neg then !b else b),σ))=_
  rw [hx]
  cases neg<;>rfl
 ·simp only [if_true] at h
  subst h
  show (eqNil .iface (mev ts x) .nilIface).map (fun b=>(Value.bool (if neg then !b else b),σ))=_
  rw [hx]
  cases neg<;>rfl
def robB (s:St) (i:Nat):Bool:=if s.o i then robOK (s.r i) else (s.r i).is0
def tskB (s:St) (k:Nat):Bool:=if s.i k then tskOK (s.t k) else (s.t k).is0
theorem recd_eq (s:St):recd s=((tickOK s.tick && (List.range 10).all (robB s)) && (List.range 20).all (tskB s)):=rfl
set_option maxRecDepth 100000 in
set_option maxHeartbeats 8000000 in
theorem mRecorded_c (s:St) (hw:s.WF) (σ:H):MCalls E Tryz.prog 36 [stV s] σ (fun v τ=>v=.bool (recd s)∧Ext σ τ):=by
 refine mcalls_of fn36 (by simp) ?_
 unfold c36 r36 stV
 have g0:=H.get_push_self σ (.cells 0 (stC s))
 have e0:=Ext.push σ (.cells 0 (stC s))
 refine mx_seq (mx_ops (ml_op Sd0 (o_box Sd0) ?_))
 generalize σ.push (.cells 0 (stC s))=τ0 at *
 refine stepR0 ?_
 refine ml_loadN Sd0 Sd0 (row_of g0 hw.all_row) ?_
 refine ml_call Sd0 Sd0 (rcLayAll_c s.tick s.off hw.off hw.byte τ0) ?_
 rintro _ τa ⟨e00,B0,ev0,rfl,herr0⟩
 refine stepR0 ?_
 refine ml_op Sd0 (o_errEq herr0 Sd0) ?_
 refine stepR0 ?_
 refine ml_loadN Sd0 Sd0 (row_of (e00.cells g0) hw.robs_row) ?_
 have hpre1:∀ b:Bool,(b && (List.range 0).all (robB s))=b:=fun b=>by simp
 refine stepR0 ?_
 refine mx_loop (fun n ts τ=>∃ i:Nat,n=10 - i∧i≤10∧Ext τ0 τ∧ts 1=.pointer (some ⟨σ.size,0,none⟩)∧ts 5=.bool (tickOK s.tick && (List.range i).all (robB s))∧ts 23=.agg (s.rob.flatMap robC).toArray∧ts 24=.int .i64 ((i:Nat):Int)) 10 ?_ ?_
 ·exact ⟨0,rfl,Nat.zero_le _,e00,Sd0,(by rw [hpre1];exact Sd0),Sd0,Sd0⟩
 rintro _ ts τ1 ⟨i,rfl,hi,e1,t1,t5,tA,tI⟩
 rcases Nat.lt_or_ge i 10 with hil | hig
 ·have hil':((i:Nat):Int) < 10:=by omega
  generalize hbb:(tickOK s.tick && (List.range i).all (robB s))=b at t5
  refine stepR (An t1 (An t5 (An tA (An tI hil')))) ?_
  refine ml_op Sd0 (o_idxRob hw (Sw tA) (Sw tI) hil) ?_
  refine stepR (An t1 (An t5 (An tA tI))) ?_
  refine ml_init (vs:=robC (s.r i)) Sd0 Sd0 Sd0 rfl rfl rfl fun τ2 e2 g2=>?_
  refine stepR (An t1 (An t5 (An tA tI))) ?_
  refine ml_loadN Sd0 Sd0 (row_of g2 (rowAll rfl)) ?_
  refine ml_call Sd0 Sd0 (rcLayRobot_c _ _) ?_
  rintro _ τ3 ⟨e3,B,ev,rfl,herr⟩
  refine stepR (An t1 (An t5 (An tA tI))) ?_
  have g3:=e3.cells g2
  have gs:=((e1.trans e2).trans e3).cells g0
  have e13:=(e1.trans e2).trans e3
  have hb:(tickOK s.tick && (List.range (i + 1)).all (robB s))=(b && robB s i):=by rw [all_succ i,← Bool.and_assoc,hbb]
  refine ml_mid (fun ts' τ'=>Ext τ0 τ'∧ts' 1=.pointer (some ⟨σ.size,0,none⟩)∧ts' 5=.bool (tickOK s.tick && (List.range (i + 1)).all (robB s))∧ts' 23=.agg (s.rob.flatMap robC).toArray∧ts' 24=.int .i64 ((i:Nat):Int)) ?_ ?_
  ·rw [hb]
   clear hbb hb
   cases b
   ·refine stepR t5 ?_
    exact ⟨e13,(Sw t1),Sd0,(Sw tA),(Sw tI)⟩
   ·refine stepR (An t5 (An t1 (An tI hil'))) ?_
    refine ml_op Sd0 (o_load1q (off:=82 + i) (Sw t1) gs (hw.on_at hil)) ?_
    cases ho:s.o i
    ·have hB:robB s i=(s.r i).is0:=by unfold robB;rw [ho];rfl
     rw [hB]
     refine stepR (An t1 (An tI hil')) ?_
     refine ml_op Sd0 (o_load1q (off:=82 + i) (Sw t1) gs (by rw [hw.on_at hil,ho])) ?_
     refine stepR0 ?_
     refine ml_loadN Sd0 Sd0 (row_of g3 (rowAll rfl)) ?_
     refine stepR0 ?_
     refine ml_op Sd0 (o_eqRob0 (r:=s.r i) Sd0 Sd0) ?_
     refine stepR0 ?_
     exact ⟨e13,(Sw t1),Sd0,(Sw tA),(Sw tI)⟩
    ·have hB:robB s i=robOK (s.r i):=by unfold robB;rw [ho];rfl
     rw [hB]
     refine stepR0 ?_
     refine ml_op Sd0 (o_errEq herr Sd0) ?_
     cases hk:robOK (s.r i)
     ·refine stepR (An t1 (An tI hil')) ?_
      refine ml_op Sd0 (o_load1q (off:=82 + i) (Sw t1) gs (by rw [hw.on_at hil,ho])) ?_
      refine stepR0 ?_
      exact ⟨e13,(Sw t1),Sd0,(Sw tA),(Sw tI)⟩
     ·refine stepR0 ?_
      exact ⟨e13,(Sw t1),Sd0,(Sw tA),(Sw tI)⟩
  ·rintro ts3 τ4 ⟨e4,t1,t5,tA,tI⟩
   refine stepR tI ?_
   exact ⟨10 - (i + 1),by omega,i + 1,rfl,by omega,e4,(Sw t1),(Sw t5),(Sw tA),Sd0⟩
 obtain rfl:i=10:=by omega
 have hil':¬ (((10:Nat):Nat):Int) < 10:=by omega
 have hpre0:∀ b:Bool,(b && (List.range 0).all (tskB s))=b:=fun b=>by simp
 refine stepR (An t1 (An tI hil')) ?_
 refine ml_loadN Sd0 (Sw t1) (row_of (e1.cells g0) hw.tsks_row) ?_
 refine stepR0 ?_
 refine mx_loop (fun n ts τ=>∃ i:Nat,n=20 - i∧i≤20∧Ext τ0 τ∧ts 1=.pointer (some ⟨σ.size,0,none⟩)∧ts 5=.bool ((tickOK s.tick && (List.range 10).all (robB s)) && (List.range i).all (tskB s))∧ts 58=.agg (s.tsk.flatMap tskC).toArray∧ts 59=.int .i64 ((i:Nat):Int)) 20 ?_ ?_
 ·exact ⟨0,rfl,Nat.zero_le _,e1,(Sw t1),(by rw [hpre0];exact (Sw t5)),Sd0,Sd0⟩
 rintro _ ts τ1 ⟨i,rfl,hi,e1,t1,t5,tA,tI⟩
 rcases Nat.lt_or_ge i 20 with hil | hig
 ·have hil':((i:Nat):Int) < 20:=by omega
  generalize hbb:((tickOK s.tick && (List.range 10).all (robB s)) && (List.range i).all (tskB s))=b at t5
  refine stepR (An t1 (An t5 (An tA (An tI hil')))) ?_
  refine ml_op Sd0 (o_idxTsk hw (Sw tA) (Sw tI) hil) ?_
  refine stepR (An t1 (An t5 (An tA tI))) ?_
  refine ml_init (vs:=tskC (s.t i)) Sd0 Sd0 Sd0 rfl rfl rfl fun τ2 e2 g2=>?_
  refine stepR (An t1 (An t5 (An tA tI))) ?_
  refine ml_loadN Sd0 Sd0 (row_of g2 (rowAll rfl)) ?_
  refine ml_call Sd0 Sd0 (rcLayTask_c _ _) ?_
  rintro _ τ3 ⟨e3,B,ev,rfl,herr⟩
  refine stepR (An t1 (An t5 (An tA tI))) ?_
  have g3:=e3.cells g2
  have gs:=((e1.trans e2).trans e3).cells g0
  have e13:=(e1.trans e2).trans e3
  have hb:((tickOK s.tick && (List.range 10).all (robB s)) && (List.range (i + 1)).all (tskB s))=(b && tskB s i):=by rw [all_succ i,← Bool.and_assoc,hbb]
  refine ml_mid (fun ts' τ'=>Ext τ0 τ'∧ts' 1=.pointer (some ⟨σ.size,0,none⟩)∧ts' 5=.bool ((tickOK s.tick && (List.range 10).all (robB s)) && (List.range (i + 1)).all (tskB s))∧ts' 58=.agg (s.tsk.flatMap tskC).toArray∧ts' 59=.int .i64 ((i:Nat):Int)) ?_ ?_
  ·rw [hb]
   clear hbb hb
   cases b
   ·refine stepR t5 ?_
    exact ⟨e13,(Sw t1),Sd0,(Sw tA),(Sw tI)⟩
   ·refine stepR (An t5 (An t1 (An tI hil'))) ?_
    refine ml_op Sd0 (o_load1q (off:=152 + i) (Sw t1) gs (hw.is_at hil)) ?_
    cases ho:s.i i
    ·have hB:tskB s i=(s.t i).is0:=by unfold tskB;rw [ho];rfl
     rw [hB]
     refine stepR (An t1 (An tI hil')) ?_
     refine ml_op Sd0 (o_load1q (off:=152 + i) (Sw t1) gs (by rw [hw.is_at hil,ho])) ?_
     refine stepR0 ?_
     refine ml_loadN Sd0 Sd0 (row_of g3 (rowAll rfl)) ?_
     refine stepR0 ?_
     refine ml_op Sd0 (o_eqTsk0 (t:=s.t i) Sd0 Sd0) ?_
     refine stepR0 ?_
     exact ⟨e13,(Sw t1),Sd0,(Sw tA),(Sw tI)⟩
    ·have hB:tskB s i=tskOK (s.t i):=by unfold tskB;rw [ho];rfl
     rw [hB]
     refine stepR0 ?_
     refine ml_op Sd0 (o_errEq herr Sd0) ?_
     cases hk:tskOK (s.t i)
     ·refine stepR (An t1 (An tI hil')) ?_
      refine ml_op Sd0 (o_load1q (off:=152 + i) (Sw t1) gs (by rw [hw.is_at hil,ho])) ?_
      refine stepR0 ?_
      exact ⟨e13,(Sw t1),Sd0,(Sw tA),(Sw tI)⟩
     ·refine stepR0 ?_
      exact ⟨e13,(Sw t1),Sd0,(Sw tA),(Sw tI)⟩
  ·rintro ts3 τ4 ⟨e4,t1,t5,tA,tI⟩
   refine stepR tI ?_
   exact ⟨20 - (i + 1),by omega,i + 1,rfl,by omega,e4,(Sw t1),(Sw t5),(Sw tA),Sd0⟩
 obtain rfl:i=20:=by omega
 have hil':¬ (((20:Nat):Nat):Int) < 20:=by omega
 refine stepR (An tI (An hil' t5)) ?_
 refine fin1 ⟨?_,e0.trans e1⟩
 rw [recd_eq];exact (Sw t5)
end Go.Proofs.YtoejdgoicoaomaaGreatDoor
