/- model: robots and tasks suit one another; what is right. -/
import Derived.Test.YtoejdgoicoaomaaGreatDoorG13
import Derived.Test.YtoejdgoicoaomaaGreatDoorG6
import Derived.Test.YtoejdgoicoaomaaGreatDoorCode
set_option linter.unusedVariables false
set_option linter.unusedSimpArgs false
namespace Go.Proofs.YtoejdgoicoaomaaGreatDoor
open Go.Mini
open Go.Proofs.YtoejdgoicoaomaaGreatDoor.Code
attribute [local irreducible] mx ml mld mstep MCalls Ex.thn Ex.inb
variable {E:World→Prop}
theorem ownN_succ (s:St) (n k:Nat):ownN s (n + 1) k=ownN s n k + if s.o n && (s.r n).task == (k:Int) then 1 else 0:=by
 unfold ownN
 rw [List.range_succ,List.countP_append,List.countP_singleton]
theorem owned_no {s:St} {i:Nat} (hi:i < 10) (h:robGood s i=false):owned s=false:=by
 unfold owned
 rw [Bool.and_eq_false_iff];left
 rw [Bool.eq_false_iff]
 intro h2
 rw [range_all.1 h2 i hi] at h;cases h
theorem owned_not {s:St} {k:Nat} (hk:k < 20) (h:tskGood s k=false):owned s=false:=by
 unfold owned
 rw [Bool.and_eq_false_iff];right
 rw [Bool.eq_false_iff]
 intro h2
 rw [range_all.1 h2 k hk] at h;cases h
theorem own_set {own:List Int} {s:St} {i:Nat} {t:Nat} (hl:own.length=20) (h:∀ k,k < 20→own.getD k 0=(ownN s i k:Nat)) (ho:s.o i=true) (ht:(s.r i).task=(t:Int)) (ht2:t < 20):∀ k,k < 20→(own.set t (own.getD t 0 + 1)).getD k 0=(ownN s (i + 1) k:Nat):=fun k hk=>by
 rw [getDset (by omega),ownN_succ,ho,ht]
 by_cases hkt:k=t
 ·subst hkt;rw [if_pos rfl,h k hk];simp
 ·rw [if_neg hkt,h k hk]
  have:((t:Int) == (k:Int))=false:=by simp;omega
  rw [this];simp
set_option maxRecDepth 100000 in
set_option maxHeartbeats 8000000 in
theorem mOwned_c (s:St) (hw:s.WF) (hr:∀ i,i < 10→s.o i=true→(s.r i).task≠-1→0≤(s.r i).task∧(s.r i).task < 20) (σ:H):MCalls E Tryz.prog 37 [stV s] σ (fun v τ=>v=.bool (owned s)∧Ext σ τ):=by
 refine mcalls_of fn37 (by simp) ?_
 unfold c37 r37 stV
 have g0:=H.get_push_self σ (.cells 0 (stC s))
 have e0:=Ext.push σ (.cells 0 (stC s))
 refine mx_seq (mx_ops (ml_op Sd0 (o_box Sd0) ?_))
 generalize σ.push (.cells 0 (stC s))=τ0 at *
 refine stepR0 ?_
 have e1:=Ext.push τ0 (.cells 0 (List.replicate 20 (.int .i64 0)))
 have gow:(τ0.push (.cells 0 (List.replicate 20 (.int .i64 0)))).get τ0.size=.cells 0 (ints (List.replicate 20 0)):=H.get_push_self τ0 _
 have gs:=e1.cells g0
 have es:=e0.trans e1
 have hlt:=H.lt_of_cells g0
 have hne:σ.size≠τ0.size:=by omega
 have hle:σ.size≤τ0.size:=by omega
 generalize τ0.push (.cells 0 (List.replicate 20 (.int .i64 0)))=τ1 at *
 generalize τ0.size=ow at *
 refine ml_loadN Sd0 Sd0 (row_of gs hw.robs_row) ?_
 refine stepR0 ?_
 refine mx_loop (fun n ts τ=>∃ (i:Nat) (own:List Int),n=10 - i∧i≤10∧Ext σ τ∧τ.get σ.size=.cells 0 (stC s)∧τ.get ow=.cells 0 (ints own)∧own.length=20∧(∀ k,k < 20→own.getD k 0=(ownN s i k:Nat))∧(∀ j,j < i→robGood s j=true)∧
  ts 1=.pointer (some ⟨σ.size,0,none⟩)∧ts 3=.pointer (some ⟨ow,0,none⟩)∧ts 10=.agg (s.rob.flatMap robC).toArray∧ts 11=.int .i64 ((i:Nat):Int)) 10 ?_ ?_
 ·refine ⟨0,_,rfl,Nat.zero_le _,es,gs,gow,rfl,fun k hk=>?_,fun j hj=>(by omega),Sd0,Sd0,Sd0,Sd0⟩
  show (List.replicate 20 (0:Int)).getD k 0=((ownN s 0 k:Nat):Int)
  rw [List.getD_eq_getElem?_getD,List.getElem?_replicate];split<;>rfl
 clear es gs gow g0 e0 e1
 rintro _ ts τ2 ⟨i,own,rfl,hi,es,gs,gow,hol,hown,hgood,t1,t3,t10,t11⟩
 rcases Nat.lt_or_ge i 10 with hil | hig
 ·have hil':((i:Nat):Int) < 10:=by omega
  refine stepR (An t1 (An t3 (An t10 (An t11 hil')))) ?_
  refine ml_op Sd0 (o_idxRob hw (Sw t10) (Sw t11) hil) ?_
  refine stepR (An t1 (An t3 (An t10 (An t11 hil')))) ?_
  refine ml_init (vs:=robC (s.r i)) Sd0 Sd0 Sd0 rfl rfl rfl fun τ3 e3 g3=>?_
  have gs3:=e3.cells gs
  have gow3:=e3.cells gow
  have es3:=es.trans e3
  refine stepR (An t1 (An t11 hil')) ?_
  refine ml_op Sd0 (o_load1q (off:=82 + i) (Sw t1) gs3 (hw.on_at hil)) ?_
  cases ho:s.o i
  ·have hg:robGood s i=true:=by unfold robGood;rw [ho];rfl
   refine stepR t11 ?_
   refine ⟨10 - (i + 1),by omega,i + 1,own,rfl,by omega,es3,gs3,gow3,hol,fun k hk=>?_,fun j hj=>?_,(Sw t1),(Sw t3),(Sw t10),Sd0⟩
   ·rw [ownN_succ,ho];simpa using hown k hk
   ·by_cases hji:j=i
    ·rw [hji];exact hg
    ·exact hgood j (by omega)
  ·have hge:robGood s i=(opnG s (s.r i).cell && suits s (s.r i)):=by unfold robGood;rw [ho];rfl
   refine stepR t1 ?_
   refine ml_loadN Sd0 (Sw t1) (row_of gs3 hw.map_row) ?_
   refine stepR0 ?_
   refine ml_op Sd0 (o_load1q (off:=0) (v:=.int .i64 (s.r i).cell) Sd0 g3 rfl) ?_
   refine ml_call Sd0 Sd0 (gopen_c s.W s.H s.S (s.r i).cell τ3) ?_
   rintro _ τ4 ⟨rfl,e4⟩
   have hop:(gr s.W s.H s.S && opn s.S (s.r i).cell)=opnG s (s.r i).cell:=rfl
   rw [hop]
   cases hg:opnG s (s.r i).cell
   ·rw [hg,Bool.false_and] at hge
    refine stepR0 ?_
    refine fin1 ⟨?_,es3.trans e4⟩
    rw [owned_no hil hge];exact Sd0
   ·rw [hg,Bool.true_and] at hge
    refine stepR t1 ?_
    refine ml_loadN Sd0 (Sw t1) (row_of (e4.cells gs3) (rowAll hw.len)) ?_
    refine stepR0 ?_
    refine ml_loadN Sd0 Sd0 (row_of (e4.cells g3) (rowAll rfl)) ?_
    refine ml_call Sd0 (by unfold stV;exact Sd0) (mSuits_c s hw (s.r i) (hr i hil ho) τ4) ?_
    rintro _ τ5 ⟨rfl,e5⟩
    have es5:=(es3.trans e4).trans e5
    have gs5:=e5.cells (e4.cells gs3)
    have gow5:=e5.cells (e4.cells gow3)
    have g5:=e5.cells (e4.cells g3)
    cases hs:suits s (s.r i)
    ·rw [hs] at hge
     refine stepR0 ?_
     refine fin1 ⟨?_,es5⟩
     rw [owned_no hil hge];exact Sd0
    ·rw [hs] at hge
     have hgd:∀ j,j < i + 1→robGood s j=true:=fun j hj=>by
      by_cases hji:j=i
      ·rw [hji];exact hge
      ·exact hgood j (by omega)
     refine stepR0 ?_
     refine ml_op Sd0 (o_load1q (off:=3) (v:=.int .i64 (s.r i).task) Sd0 g5 rfl) ?_
     by_cases ht:(s.r i).task=-1
     ·have ht':((s.r i).task != -1)=false:=by rw [ht];rfl
      refine stepR (An ht' t11) ?_
      refine ⟨10 - (i + 1),by omega,i + 1,own,rfl,by omega,es5,gs5,gow5,hol,fun k hk=>?_,hgd,(Sw t1),(Sw t3),(Sw t10),Sd0⟩
      have:((s.r i).task == (k:Int))=false:=by rw [ht,beq_eq_false_iff_ne];omega
      rw [ownN_succ,this];simpa using hown k hk
     ·have ht':((s.r i).task != -1)=true:=by simpa using ht
      obtain ⟨q0,q1⟩:=hr i hil ho ht
      obtain ⟨t,htt⟩:=Int.eq_ofNat_of_zero_le q0
      have ht20:t < 20:=by omega
      have ht20':((t:Nat):Int) < 20:=by omega
      refine stepR ht' ?_
      refine ml_op Sd0 (o_load1q (off:=3) (v:=.int .i64 (s.r i).task) Sd0 g5 rfl) ?_
      rw [htt]
      refine stepR t3 ?_
      refine ml_op Sd0 (o_load1q (off:=t) (v:=.int .i64 (own.getD t 0)) Sd0 gow5 (ints_at (by omega))) ?_
      have hob:own.getD t 0≤10∧0≤own.getD t 0:=by
       rw [hown t ht20]
       have:ownN s i t≤i:=by
        unfold ownN
        exact Nat.le_trans List.countP_le_length (Nat.le_of_eq List.length_range)
       omega
      refine stepR t3 ?_
      refine ml_store1 (off:=t) (v:=.int .i64 (own.getD t 0 + 1)) Sd0 Sd0 Sd0 rfl rfl gow5 (by rw [ints_len];omega) ?_
      have gow6:(τ5.set ow (.cells 0 (ints (own.set t (own.getD t 0 + 1))))).get ow=.cells 0 (ints (own.set t (own.getD t 0 + 1))):=H.get_set_self (H.lt_of_cells gow5)
      have es6:Ext σ (τ5.set ow (.cells 0 (ints (own.set t (own.getD t 0 + 1))))):=(SetTo.mk' (H.lt_of_cells gow5)).ext es5 hle
      have gs6:(τ5.set ow (.cells 0 (ints (own.set t (own.getD t 0 + 1))))).get σ.size=.cells 0 (stC s):=by rw [H.get_set_ne hne];exact gs5
      rw [ints_set]
      generalize τ5.set ow _=τ6 at *
      refine stepR t11 ?_
      exact ⟨10 - (i + 1),by omega,i + 1,_,rfl,by omega,es6,gs6,gow6,by rw [List.length_set];exact hol,own_set hol hown ho htt ht20,hgd,(Sw t1),(Sw t3),(Sw t10),Sd0⟩
 ·obtain rfl:i=10:=by omega
  have hil':¬ (((10:Nat):Nat):Int) < 10:=by omega
  refine stepR (An t1 (An t11 hil')) ?_
  refine ml_loadN Sd0 (Sw t1) (row_of gs hw.tsks_row) ?_
  refine stepR0 ?_
  refine mx_loop (fun n ts τ=>∃ k:Nat,n=20 - k∧k≤20∧Ext σ τ∧τ.get σ.size=.cells 0 (stC s)∧τ.get ow=.cells 0 (ints own)∧(∀ j,j < k→tskGood s j=true)∧
   ts 1=.pointer (some ⟨σ.size,0,none⟩)∧ts 3=.pointer (some ⟨ow,0,none⟩)∧ts 46=.agg (s.tsk.flatMap tskC).toArray∧ts 47=.int .i64 ((k:Nat):Int)) 20 ?_ ?_
  ·exact ⟨0,rfl,Nat.zero_le _,es,gs,gow,fun j hj=>(by omega),(Sw t1),(Sw t3),Sd0,Sd0⟩
  clear es gs gow
  rintro _ ts τ2 ⟨k,rfl,hk,es,gs,gow,htg,t1,t3,t46,t47⟩
  rcases Nat.lt_or_ge k 20 with hkl | hkg
  ·have hkl':((k:Nat):Int) < 20:=by omega
   refine stepR (An t1 (An t46 (An t47 hkl'))) ?_
   refine ml_op Sd0 (o_idxTsk hw (Sw t46) (Sw t47) hkl) ?_
   refine stepR (An t1 (An t46 (An t47 hkl'))) ?_
   refine ml_init (vs:=tskC (s.t k)) Sd0 Sd0 Sd0 rfl rfl rfl fun τ3 e3 g3=>?_
   have gs3:=e3.cells gs
   have gow3:=e3.cells gow
   have es3:=es.trans e3
   have hok:=hown k hkl
   refine stepR0 ?_
   refine ml_op Sd0 (o_load1q (off:=2) (v:=.int .i64 (s.t k).st) Sd0 g3 rfl) ?_
   refine ml_cut (fun ts' τ'=>τ'=τ3∧ts' 8=.int .i64 ((wantN (s.t k):Nat):Int)∧ts' 6=.int .i64 ((k:Nat):Int)∧ts' 7=.pointer (some ⟨τ2.size,0,none⟩)∧ts' 1=.pointer (some ⟨σ.size,0,none⟩)∧ts' 3=.pointer (some ⟨ow,0,none⟩)∧ts' 46=.agg (s.tsk.flatMap tskC).toArray∧ts' 47=.int .i64 ((k:Nat):Int)) ?_ ?_
   ·rcases Bool.eq_false_or_eq_true ((s.t k).st == 1) with h1 | h1
    ·have hwn:((wantN (s.t k):Nat):Int)=1:=by rw [wantN_eq.1.2 (.inl (eq_of_beq h1))];rfl
     rw [hwn]
     refine stepR h1 ?_
     exact ⟨rfl,Sd0,Sd0,Sd0,(Sw t1),(Sw t3),(Sw t46),(Sw t47)⟩
    ·refine stepR h1 ?_
     refine ml_op Sd0 (o_load1q (off:=2) (v:=.int .i64 (s.t k).st) Sd0 g3 rfl) ?_
     rcases Bool.eq_false_or_eq_true ((s.t k).st == 2) with h2 | h2
     ·have hwn:((wantN (s.t k):Nat):Int)=1:=by rw [wantN_eq.1.2 (.inr (eq_of_beq h2))];rfl
      rw [hwn]
      refine stepR (An h1 h2) ?_
      exact ⟨rfl,Sd0,Sd0,Sd0,(Sw t1),(Sw t3),(Sw t46),(Sw t47)⟩
     ·have hwn:((wantN (s.t k):Nat):Int)=0:=by rw [wantN_eq.2.2 (by simp at h1 h2;omega)];rfl
      rw [hwn]
      refine stepR (An h1 h2) ?_
      exact ⟨rfl,Sd0,Sd0,Sd0,(Sw t1),(Sw t3),(Sw t46),(Sw t47)⟩
   ·clear t1 t3 t46 t47
    rintro ts3 _ ⟨rfl,t8,t6,t7,t1,t3,t46,t47⟩
    refine stepR (An t6 (An t1 hkl')) ?_
    refine ml_op Sd0 (o_load1q (off:=152 + k) Sd0 gs3 (hw.is_at hkl)) ?_
    cases hi:s.i k
    ·have hg:tskGood s k=true:=by unfold tskGood;rw [hi];rfl
     refine stepR t47 ?_
     refine ⟨20 - (k + 1),by omega,k + 1,rfl,by omega,es3,gs3,gow3,fun j hj=>?_,(Sw t1),(Sw t3),(Sw t46),Sd0⟩
     by_cases hjk:j=k
     ·rw [hjk];exact hg
     ·exact htg j (by omega)
    ·have hge:tskGood s k=(decide (ownN s 10 k=wantN (s.t k)) && opnG s (s.t k).fr && opnG s (s.t k).dst):=by unfold tskGood;rw [hi];rfl
     refine stepR (An t3 (An t6 hkl')) ?_
     refine ml_op Sd0 (o_load1q (off:=k) (v:=.int .i64 (own.getD k 0)) Sd0 gow3 (ints_at (by omega))) ?_
     rw [hok]
     by_cases hd:ownN s 10 k=wantN (s.t k)
     ·have hd':(((ownN s 10 k:Nat):Int) != ((wantN (s.t k):Nat):Int))=false:=by rw [hd];simp
      rw [decide_eq_true hd,Bool.true_and] at hge
      refine stepR (An t8 (An hd' t1)) ?_
      refine ml_loadN Sd0 (Sw t1) (row_of gs3 hw.map_row) ?_
      refine stepR t7 ?_
      refine ml_op Sd0 (o_load1q (off:=0) (v:=.int .i64 (s.t k).fr) Sd0 g3 rfl) ?_
      refine ml_call Sd0 Sd0 (gopen_c s.W s.H s.S (s.t k).fr _) ?_
      rintro _ τ4 ⟨rfl,e4⟩
      have hop:(gr s.W s.H s.S && opn s.S (s.t k).fr)=opnG s (s.t k).fr:=rfl
      rw [hop]
      cases hg:opnG s (s.t k).fr
      ·rw [hg,Bool.false_and] at hge
       refine stepR0 ?_
       refine fin1 ⟨?_,es3.trans e4⟩
       rw [owned_not hkl hge];exact Sd0
      ·rw [hg,Bool.true_and] at hge
       refine stepR t1 ?_
       refine ml_loadN Sd0 (Sw t1) (row_of (e4.cells gs3) hw.map_row) ?_
       refine stepR t7 ?_
       refine ml_op Sd0 (o_load1q (off:=1) (v:=.int .i64 (s.t k).dst) Sd0 (e4.cells g3) rfl) ?_
       refine ml_call Sd0 Sd0 (gopen_c s.W s.H s.S (s.t k).dst _) ?_
       rintro _ τ5 ⟨rfl,e5⟩
       have hop:(gr s.W s.H s.S && opn s.S (s.t k).dst)=opnG s (s.t k).dst:=rfl
       rw [hop]
       cases hg2:opnG s (s.t k).dst
       ·rw [hg2] at hge
        refine stepR0 ?_
        refine fin1 ⟨?_,(es3.trans e4).trans e5⟩
        rw [owned_not hkl hge];exact Sd0
       ·rw [hg2] at hge
        refine stepR t47 ?_
        refine ⟨20 - (k + 1),by omega,k + 1,rfl,by omega,(es3.trans e4).trans e5,e5.cells (e4.cells gs3),e5.cells (e4.cells gow3),fun j hj=>?_,(Sw t1),(Sw t3),(Sw t46),Sd0⟩
        by_cases hjk:j=k
        ·rw [hjk];exact hge
        ·exact htg j (by omega)
     ·have hd':(((ownN s 10 k:Nat):Int) != ((wantN (s.t k):Nat):Int))=true:=by simp;omega
      rw [decide_eq_false hd,Bool.false_and,Bool.false_and] at hge
      refine stepR (An t8 hd') ?_
      refine fin1 ⟨?_,es3⟩
      rw [owned_not hkl hge];exact Sd0
  ·obtain rfl:k=20:=by omega
   have hkl':¬ (((20:Nat):Nat):Int) < 20:=by omega
   have hO:owned s=true:=by
    unfold owned
    rw [Bool.and_eq_true];exact ⟨range_all.2 hgood,range_all.2 htg⟩
   refine stepR (An t47 hkl') ?_
   refine fin1 ⟨?_,es⟩
   rw [hO];exact Sd0
theorem recd_tsk {s:St} (h:recd s=true):∀ i,i < 10→s.o i=true→(s.r i).task≠-1→0≤(s.r i).task∧(s.r i).task < 20:=fun i hi o hne=>by
 have:=(recd_iff.1 h).2.1 i hi
 rw [if_pos o] at this
 have:=(robOK_iff.1 this).2.2.2.1
 omega
set_option maxRecDepth 100000 in
set_option maxHeartbeats 8000000 in
theorem mRight_c (s:St) (hw:s.WF) (σ:H):MCalls E Tryz.prog 20 [stV s] σ (fun v τ=>v=.bool (rightS s)∧Ext σ τ):=by
 refine mcalls_of fn20 (by simp) ?_
 unfold c20 r20 stV rightS
 have g0:=H.get_push_self σ (.cells 0 (stC s))
 have e0:=Ext.push σ (.cells 0 (stC s))
 refine mx_seq (mx_ops (ml_op Sd0 (o_box Sd0) ?_))
 generalize σ.push (.cells 0 (stC s))=τ0 at *
 refine stepR0 ?_
 refine ml_loadN Sd0 Sd0 (row_of g0 hw.map_row) ?_
 refine ml_call Sd0 Sd0 (right_c s.W s.H s.S τ0) ?_
 rintro _ τ1 ⟨rfl,e1⟩
 cases hg:gr s.W s.H s.S
 ·refine stepR0 ?_
  refine fin1 ⟨?_,e0.trans e1⟩
  exact Sd0
 refine stepR0 ?_
 refine ml_loadN Sd0 Sd0 (row_of (e1.cells g0) (rowAll hw.len)) ?_
 refine ml_call Sd0 (by unfold stV;exact Sd0) (mRecorded_c s hw τ1) ?_
 rintro _ τ2 ⟨rfl,e2⟩
 cases hr:recd s
 ·refine stepR0 ?_
  refine fin1 ⟨?_,(e0.trans e1).trans e2⟩
  exact Sd0
 refine stepR0 ?_
 refine ml_loadN Sd0 Sd0 (row_of (e2.cells (e1.cells g0)) (rowAll hw.len)) ?_
 refine ml_call Sd0 (by unfold stV;exact Sd0) (mOwned_c s hw (recd_tsk hr) τ2) ?_
 rintro _ τ3 ⟨rfl,e3⟩
 cases ho:owned s
 ·refine stepR0 ?_
  refine fin1 ⟨?_,((e0.trans e1).trans e2).trans e3⟩
  exact Sd0
 refine stepR0 ?_
 refine ml_loadN Sd0 Sd0 (row_of (e3.cells (e2.cells (e1.cells g0))) (rowAll hw.len)) ?_
 refine ml_call Sd0 (by unfold stV;exact Sd0) (mPlaces_c s hw τ3) ?_
 rintro v τ4 ⟨e4,oid,own,hid⟩
 refine ml_call Sd0 Sd0 (clApart_c (was:=[]) .nil own (by rw [placeL_len];omega)) ?_
 rintro _ τ5 ⟨rfl,rfl⟩
 refine stepR0 ?_
 refine fin1 ⟨?_,(((e0.trans e1).trans e2).trans e3).trans e4⟩
 simp only [Bool.true_and]
 exact Sd0
end Go.Proofs.YtoejdgoicoaomaaGreatDoor
namespace Go.Proofs.YtoejdgoicoaomaaGreatDoor
open Go.Mini
open Go.Proofs.YtoejdgoicoaomaaGreatDoor.Code
attribute [local irreducible] mx ml mld mstep MCalls Ex.thn Ex.inb
variable {E:World→Prop}
theorem o_bsl2 {ts:Fr} {σ:H} {x y:Opd} {z a b:Value} (hx:mev ts x=a) (hy:mev ts y=b) (ha:a.cells=#[a]) (hb:b.cells=#[b]):mop ts σ (.bsl 1 2 [z] [(0,x),(1,y)])=some (.slice (some ⟨σ.size,0,none⟩) 2 2,σ.push (.cells 1 [a,b])):=by
 simp [mop,hx,hy,fillL,repZ,ha,hb,spl]
theorem spend_eq (r:Rob) (k:Int):spendA r.charge r.moved r.gained r.adj k=(spend r k).map fun r'=>(r'.charge,r'.moved,r'.gained,r'.adj):=by
 unfold spendA spend
 split<;>rfl
theorem find_next {t:List Bool} {l:List Int} {v:Value} (h:nextR t l v):v=.tuple #[.int .i64 ((l.find? (freeT t)).getD 0),.bool (l.find? (freeT t)).isSome]:=by
 rcases h with ⟨rfl,h⟩ | ⟨i,hi,rfl,h1,h2⟩
 ·rw [List.find?_eq_none.2 (fun x hx=>by rw [h x hx];simp)];rfl
 ·have:l.find? (freeT t)=some (l.getD i 0):=by
   rw [List.find?_eq_some_iff_append]
   refine ⟨h1,l.take i,l.drop (i + 1),?_,fun x hx=>by rw [h2 x hx];rfl⟩
   have hg:l.getD i 0=l[i]:=by rw [List.getD_eq_getElem?_getD,List.getElem?_eq_getElem hi];rfl
   rw [hg,List.getElem_cons_drop,List.take_append_drop]
  rw [this];rfl
theorem setR_two (s:St) (i:Nat) (a b:Rob):(s.setR i a).setR i b=s.setR i b:=by
 unfold St.setR;simp
set_option maxRecDepth 100000 in
set_option maxHeartbeats 16000000 in
theorem mGoes_c {σ:H} {id:Nat} (s:St) (h:Inv s) (hg:σ.get id=.cells 0 (stC s)) {i:Nat} (hi:i < 10) (oi:s.o i=true) {dv ov wv:Value} {dst on was:List Int} (hd:Rd σ dv (ints dst)) (ho:Rd σ ov (ints on)) (hwa:Rd σ wv (ints was)) (hwl:was.length≤1000):
 MCalls E Tryz.prog 125 [.pointer (some ⟨id,0,none⟩),.int .i64 ((i:Nat):Int),dv,ov,wv] σ (fun v τ=>v=.tuple #[]∧KeepBut (some id) σ τ∧τ.get id=.cells 0 (stC (goes s i dst on was))):=by
 refine mcalls_of fn125 (by simp) ?_
 unfold c125 r125
 have hw:=h.wf
 have hi':((i:Nat):Int) < 10:=by omega
 have hch:=h.chg i hi oi
 have hS:=gr_size h.g
 have hk2:=stepS_two s (s.r i)
 refine stepR hi' ?_
 refine mld_loadN Sd0 Sd0 (row_of hg (rowAll hw.len)) ?_
 refine stepR0 ?_
 refine mld_loadN (off:=12 + i * 7) Sd0 Sd0 (row_of hg (hw.rob_row hi rfl)) ?_
 refine mld_callW Sd0 Sd0 (mStep_c s hw (s.r i) (h.task hi oi) σ) ?_
 rintro _ τ1 ⟨rfl,e1⟩
 have hg1:=e1.cells hg
 refine stepR0 ?_
 refine ml_loadN Sd0 Sd0 (row_of hg1 hw.map_row) ?_
 refine stepR0 ?_
 refine ml_call Sd0 Sd0 (costs_c s.W s.H s.S dst (stepS s (s.r i)) dv τ1 (hd.of_ext e1)) ?_
 rintro v2 τ2 hc
 have hgo:goes s i dst on was=(if costOK s.W s.H s.S dst (stepS s (s.r i)) then
  match nextO s.W s.H s.S (costL s.W s.S dst (stepS s (s.r i))) (s.r i).cell (takenL (was ++ placeL s) s.S.size) with
  | some n=>if mayB s.W s.H s.S on (stepS s (s.r i)) (s.r i).cell n (s.r i).charge then
     match spend (s.r i) (stepS s (s.r i)) with
     | some r'=>s.setR i { r' with cell:=n }
     | none=>s
    else s
  | none=>s
 else s):=rfl
 generalize stepS s (s.r i)=k at *
 cases hok:costOK s.W s.H s.S dst k
 ·obtain ⟨ev,rfl,he,e2⟩:=cost_bad hc hok
  rw [hok,if_neg (by simp)] at hgo
  refine stepR0 ?_
  refine ml_op Sd0 (he.neq Sd0 true) ?_
  refine stepR0 ?_
  exact fin0 ⟨rfl,.of_ext (e1.trans e2),by rw [hgo];exact e2.cells hg1⟩
 rw [hok,if_pos rfl] at hgo
 obtain ⟨vo,f,rfl,hcst,e2,fo,fown,fid⟩:=cost_ok hc hok
 obtain rfl:=hcst.uniq (cst_costL s.W s.S dst k)
 have hg2:=e2.cells hg1
 refine stepR0 ?_
 refine mld_loadN Sd0 Sd0 (row_of hg2 hw.map_row) ?_
 refine stepR0 ?_
 refine mld_op Sd0 (o_load1q (off:=12 + i * 7 + 0) (v:=.int .i64 (s.r i).cell) Sd0 hg2 (hw.rob_at hi (by omega))) ?_
 refine stepR0 ?_
 refine mld_loadN Sd0 Sd0 (row_of hg2 (rowAll hw.len)) ?_
 refine stepR0 ?_
 have hcell2:(stC s)[2]?=some (.string s.S):=by rw [st_all];rfl
 refine mld_op Sd0 (o_load1q (off:=2) (v:=.string s.S) Sd0 hg2 hcell2) ?_
 refine stepR0 ?_
 refine mld_call Sd0 Sd0 (mPlaces_c s hw τ2) (fun _ _ h=>h.1) ?_
 rintro pv τ3 ⟨e3,po,pown,_⟩
 have e23:=e2.trans e3
 have e13:=e1.trans e23
 refine mld_stepE Sd0 (o_bsl2 (a:=wv) (b:=pv) Sd0 Sd0 hwa.cells1 pown.cells1) (Ext.push _ _) ?_
 have g4:=H.get_push_self τ3 (.cells 1 [wv,pv])
 have e4:=Ext.push τ3 (.cells 1 [wv,pv])
 generalize τ3.push (.cells 1 [wv,pv])=τ4 at *
 refine mld_call Sd0 Sd0 (slConcat_c (ls:=[was,placeL s]) g4 rfl (fun j hj=>?_) (by simp) (fun l hl=>?_)) (fun _ _ h=>h.1) ?_
 ·have:j=0∨j=1:=by simp at hj;omega
  rcases this with rfl | rfl
  ·exact ⟨wv,rfl,hwa.of_ext (e13.trans e4)⟩
  ·exact ⟨pv,rfl,(pown.of_ext e4).rd⟩
 ·simp only [List.mem_cons,List.not_mem_nil,or_false] at hl
  rcases hl with rfl | rfl
  ·exact hwl
  ·rw [placeL_len];omega
 rintro cv τ5 ⟨e5,co,cown,_⟩
 have hfl:[was,placeL s].flatten=was ++ placeL s:=by simp
 rw [hfl] at cown
 refine stepR0 ?_
 refine mld_call Sd0 Sd0 (clTaken_c cown.rd (by rw [List.length_append,placeL_len];omega) s.S.size (by omega)) (fun _ _ h=>h.1) ?_
 rintro tv τ6 ⟨e6,to,town,_⟩
 have e36:=(e4.trans e5).trans e6
 refine mld_callW Sd0 Sd0 (oNext_c s.W s.H s.S ((fown.of_ext e3).of_ext e36).rd town.rd (s.r i).cell) ?_
 rintro nv τ7 ⟨l,hdn,hnx,e7⟩
 have e17:=(e23.trans e36).trans e7
 have hg7:=e17.cells hg1
 have hsz:=find_next hnx
 have hno:nextO s.W s.H s.S (costL s.W s.S dst k) (s.r i).cell (takenL (was ++ placeL s) s.S.size)=l.find? (freeT (takenL (was ++ placeL s) s.S.size)):=by unfold nextO;rw [downX_eq hdn]
 rw [hno] at hgo
 generalize l.find? (freeT (takenL (was ++ placeL s) s.S.size))=o at *
 subst hsz
 cases o with
 | none=>
   simp only at hgo
   refine stepR0 ?_
   exact fin0 ⟨rfl,.of_ext (e1.trans e17),by rw [hgo];exact hg7⟩
 | some n=>
   simp only at hgo
   refine stepR0 ?_
   refine mld_loadN Sd0 Sd0 (row_of hg7 hw.map_row) ?_
   refine stepR0 ?_
   refine mld_op Sd0 (o_load1q (off:=12 + i * 7 + 0) (v:=.int .i64 (s.r i).cell) Sd0 hg7 (hw.rob_at hi (by omega))) ?_
   refine stepR0 ?_
   refine mld_op Sd0 (o_load1q (off:=12 + i * 7 + 1) (v:=.int .i64 (s.r i).charge) Sd0 hg7 (hw.rob_at hi (by omega))) ?_
   refine stepR0 ?_
   refine mld_callW Sd0 Sd0 (may_c s.W s.H s.S (ho.of_ext (e1.trans e17)) (s.r i).cell n (s.r i).charge k (by omega) (by omega) (by omega) (by omega)) ?_
   rintro _ τ8 ⟨rfl,e8⟩
   have e18:=e17.trans e8
   have hg8:=e8.cells hg7
   cases hm:mayB s.W s.H s.S on k (s.r i).cell n (s.r i).charge
   ·rw [hm,if_neg (by simp)] at hgo
    refine stepR0 ?_
    exact fin0 ⟨rfl,.of_ext (e1.trans e18),by rw [hgo];exact hg8⟩
   rw [hm,if_pos rfl] at hgo
   refine stepR0 ?_
   refine ml_loadN (off:=12 + i * 7) Sd0 Sd0 (row_of hg8 (hw.rob_row hi rfl)) ?_
   refine ml_call Sd0 Sd0 (mAccount_c (s.r i) τ8) ?_
   rintro _ τ9 ⟨rfl,e9⟩
   refine stepR0 ?_
   refine ml_call Sd0 Sd0 (vSpend_c (s.r i).charge (s.r i).moved (s.r i).gained (s.r i).adj k (by omega) τ9) ?_
   rintro av τ10 ⟨ha,e10⟩
   rw [spend_eq] at ha
   have e1a:=(e18.trans e9).trans e10
   have hga:=e10.cells (e9.cells hg8)
   cases hsp:spend (s.r i) k with
   | none=>
     rw [hsp] at hgo ha
     simp only at hgo
     obtain ⟨ev,nm,en,rfl,he⟩:=ha
     obtain ⟨eid,rfl,heid⟩:=he
     refine stepR0 ?_
     refine ml_init (vs:=[.int .i64 0,.int .i64 0,.int .i64 0,.int .i64 0]) Sd0 Sd0 Sd0 rfl rfl rfl fun τ11 e11 g11=>?_
     refine stepR0 ?_
     exact fin0n ⟨rfl,.of_ext ((e1.trans e1a).trans e11),by rw [hgo];exact e11.cells hga⟩
   | some r'=>
     rw [hsp] at hgo ha
     simp only at hgo
     have ha:av=.tuple #[accV r'.charge r'.moved r'.gained r'.adj,.nilIface]:=ha
     subst ha
     have hr':=(spend_some hsp).1
     refine stepR0 ?_
     refine ml_init (vs:=[.int .i64 r'.charge,.int .i64 r'.moved,.int .i64 r'.gained,.int .i64 r'.adj]) Sd0 Sd0 Sd0 rfl rfl rfl fun τ11 e11 g11=>?_
     have hg11:=e11.cells hga
     refine stepR0 ?_
     refine mld_loadN (off:=12 + i * 7) Sd0 Sd0 (row_of hg11 (hw.rob_row hi rfl)) ?_
     refine stepR0 ?_
     refine mld_loadN Sd0 Sd0 (row_of g11 (rowAll rfl)) ?_
     refine mld_callW Sd0 Sd0 (mWith_c (s.r i) r'.charge r'.moved r'.gained r'.adj τ11) ?_
     rintro _ τ12 ⟨rfl,e12⟩
     have hg12:=e12.cells hg11
     refine stepR0 ?_
     have hwr:({ s.r i with charge:=r'.charge,moved:=r'.moved,gained:=r'.gained,adj:=r'.adj }:Rob)=r':=by rw [hr']
     rw [hwr]
     refine mld_op Sd0 (o_store (off:=12 + i * 7) (vs:=robC r') Sd0 Sd0 hg12 rfl (by rw [hw.len];omega) rfl) ?_
     have t13:=SetTo.mk' (o:=.cells 0 (spl (stC s) (12 + i * 7) (robC r'))) (H.lt_of_cells hg12)
     generalize τ12.set id _=τ13 at *
     rw [hw.rob_spl (n:=12 + i * 7) (r:=r') (j:=0) hi (by rw [robC_len];omega) (by omega) (by rw [spl_all (by rw [robC_len,robC_len])])] at t13
     have t13:SetTo τ12 id (.cells 0 (stC (s.setR i r'))) τ13:=t13
     have hg13:=t13.self
     have hw13:=hw.sR i r'
     refine stepR0 ?_
     refine ml_storeA (off:=12 + i * 7 + 0) (vs:=[.int .i64 n]) Sd0 Sd0 Sd0 hg13 rfl (by rw [hw13.len];simp;omega) rfl fun τ14 t14=>?_
     have hrr:(s.setR i r').r i=r':=by rw [hw.setR_r hi,if_pos rfl]
     rw [rob_set1 hw13 hi (by omega) rfl (r:={ r' with cell:=n }) (by rw [hrr];rfl),setR_two] at t14
     have kb:KeepBut (some id) σ τ12:=.of_ext (((e1.trans e1a).trans e11).trans e12)
     refine stepR0 ?_
     exact fin0n ⟨rfl,(kb.set t13).set t14,by rw [hgo];exact t14.self⟩
end Go.Proofs.YtoejdgoicoaomaaGreatDoor
namespace Go.Proofs.YtoejdgoicoaomaaGreatDoor
open Go.Mini
open Go.Proofs.YtoejdgoicoaomaaGreatDoor.Code
attribute [local irreducible] mx ml mld mstep MCalls Ex.thn Ex.inb
variable {E:World→Prop}
theorem gain_eq (r:Rob) (n:Int):gainA r.charge r.moved r.gained r.adj n=(gainR r n).map fun r'=>(r'.charge,r'.moved,r'.gained,r'.adj):=by
 unfold gainA gainR
 simp only
 split<;>rfl
theorem setR_two2 (s:St) (i:Nat) (a b:Rob):(s.setR i a).setR i b=s.setR i b:=by
 unfold St.setR;simp
theorem setR_self {s:St} (h:s.WF) {i:Nat} (hi:i < 10):s.setR i (s.r i)=s:=by
 unfold St.setR St.r
 have:s.rob.set i (s.rob.getD i zR)=s.rob:=by
  rw [List.getD_eq_getElem?_getD,List.getElem?_eq_getElem (by rw [h.rob];exact hi)]
  exact List.set_getElem_self _
 rw [this]
set_option maxRecDepth 100000 in
set_option maxHeartbeats 16000000 in
theorem mWorks_c {σ:H} {id:Nat} (s:St) (h:Inv s) (hg:σ.get id=.cells 0 (stC s)) {i:Nat} (hi:i < 10) (oi:s.o i=true) (hp0:(s.r i).phase≠0) (hp4:(s.r i).phase≠4) {ov:Value} {on:List Int} (ho:Rd σ ov (ints on)) (hol:on.length≤1000000):
 MCalls E Tryz.prog 124 [.pointer (some ⟨id,0,none⟩),.int .i64 ((i:Nat):Int),ov] σ (fun v τ=>v=.bool (works s i on).isSome∧KeepBut (some id) σ τ∧τ.get id=.cells 0 (stC ((works s i on).getD s))):=by
 refine mcalls_of fn124 (by simp) ?_
 unfold c124 r124
 have hw:=h.wf
 have hi':((i:Nat):Int) < 10:=by omega
 have hch:=h.chg i hi oi
 refine stepR hi' ?_
 refine ml_op Sd0 (o_load1q (off:=12 + i * 7 + 2) (v:=.int .i64 (s.r i).phase) Sd0 hg (hw.rob_at hi (by omega))) ?_
 by_cases p1:(s.r i).phase=1
 ·have p1':((s.r i).phase == 1)=true:=by rw [p1];rfl
  obtain ⟨k,hk,hkt,hik,hc⟩:∃ k:Nat,k < 20∧(s.r i).task=(k:Int)∧s.i k=true∧(s.t k).st=1:=by
   rcases h.tsk i hi oi with ⟨_,h2⟩ | ⟨k,hk,hkt,hik,hc⟩
   ·omega
   ·exact ⟨k,hk,hkt,hik,by omega⟩
  have hk':((k:Nat):Int) < 20:=by omega
  have hwk:works s i on=if (s.r i).cell=(s.t k).fr then (if safeB s.W s.H s.S on 2 (s.r i).cell (s.r i).charge then some ((s.setR i { s.r i with phase:=2 }).setT k { s.t k with st:=2 }) else some s) else none:=by
   unfold works;simp only;rw [if_pos p1,SuitP.tk hkt,show (s.r i).task.toNat=k by omega]
  refine stepR p1' ?_
  refine mld_op Sd0 (o_load1q (off:=12 + i * 7 + 3) (v:=.int .i64 ((k:Nat):Int)) Sd0 hg (by rw [hw.rob_at hi (by omega),← hkt];rfl)) ?_
  refine stepR hk' ?_
  refine mld_op Sd0 (o_load1q (off:=12 + i * 7 + 0) (v:=.int .i64 (s.r i).cell) Sd0 hg (hw.rob_at hi (by omega))) ?_
  refine stepR0 ?_
  refine mld_op Sd0 (o_load1q (off:=92 + k * 3 + 0) (v:=.int .i64 (s.t k).fr) Sd0 hg (hw.tsk_at hk (by omega))) ?_
  by_cases hcell:(s.r i).cell=(s.t k).fr
  ·have hcell':((s.r i).cell == (s.t k).fr)=true:=by simpa using hcell
   rw [if_pos hcell] at hwk
   refine stepR hcell' ?_
   refine mld_loadN Sd0 Sd0 (row_of hg hw.map_row) ?_
   refine stepR0 ?_
   refine mld_op Sd0 (o_load1q (off:=12 + i * 7 + 0) (v:=.int .i64 (s.r i).cell) Sd0 hg (hw.rob_at hi (by omega))) ?_
   refine stepR0 ?_
   refine mld_op Sd0 (o_load1q (off:=12 + i * 7 + 1) (v:=.int .i64 (s.r i).charge) Sd0 hg (hw.rob_at hi (by omega))) ?_
   refine mld_callW Sd0 Sd0 (safe_c s.W s.H s.S ho (s.r i).cell (s.r i).charge 2) ?_
   rintro _ τ1 ⟨rfl,e1⟩
   have hg1:=e1.cells hg
   cases hsf:safeB s.W s.H s.S on 2 (s.r i).cell (s.r i).charge
   ·rw [hsf,if_neg (by simp)] at hwk
    refine stepR0 ?_
    refine mld_op Sd0 (o_load1q (off:=12 + i * 7 + 0) (v:=.int .i64 (s.r i).cell) Sd0 hg1 (hw.rob_at hi (by omega))) ?_
    refine stepR0 ?_
    refine mld_op Sd0 (o_load1q (off:=92 + k * 3 + 0) (v:=.int .i64 (s.t k).fr) Sd0 hg1 (hw.tsk_at hk (by omega))) ?_
    refine stepR hcell' ?_
    rw [hwk]
    exact fin1 ⟨Sd0,.of_ext e1,hg1⟩
   ·rw [hsf,if_pos rfl] at hwk
    refine stepR0 ?_
    refine ml_storeA (off:=12 + i * 7 + 2) (vs:=[.int .i64 2]) Sd0 Sd0 Sd0 hg1 rfl (by rw [hw.len];simp;omega) rfl fun τ2 t2=>?_
    rw [rob_set1 hw hi (by omega) rfl (r:={ s.r i with phase:=2 }) rfl] at t2
    have hw2:=hw.sR i { s.r i with phase:=2 }
    refine stepR0 ?_
    refine ml_storeA (off:=92 + k * 3 + 2) (vs:=[.int .i64 2]) Sd0 Sd0 Sd0 t2.self rfl (by rw [hw2.len];simp;omega) rfl fun τ3 t3=>?_
    rw [tsk_set1 hw2 hk (by omega) rfl (t:={ s.t k with st:=2 }) rfl] at t3
    have kb:KeepBut (some id) σ τ3:=((KeepBut.of_ext e1).set t2).set t3
    have hg3:=t3.self
    have hw3:=hw2.sT k { s.t k with st:=2 }
    have hr3:((s.setR i { s.r i with phase:=2 }).setT k { s.t k with st:=2 }).r i={ s.r i with phase:=2 }:=by rw [setT_r,hw.setR_r hi,if_pos rfl]
    have ht3:((s.setR i { s.r i with phase:=2 }).setT k { s.t k with st:=2 }).t k={ s.t k with st:=2 }:=by rw [hw2.setT_t hk,if_pos rfl]
    refine stepR0 ?_
    refine mld_op Sd0 (o_load1q (off:=12 + i * 7 + 0) (v:=.int .i64 (s.r i).cell) Sd0 hg3 (by rw [hw3.rob_at hi (by omega),hr3];rfl)) ?_
    refine stepR0 ?_
    refine mld_op Sd0 (o_load1q (off:=92 + k * 3 + 0) (v:=.int .i64 (s.t k).fr) Sd0 hg3 (by rw [hw3.tsk_at hk (by omega),ht3];rfl)) ?_
    refine stepR hcell' ?_
    rw [hwk]
    exact fin1 ⟨Sd0,kb,hg3⟩
  ·have hcell':((s.r i).cell == (s.t k).fr)=false:=by simpa using hcell
   rw [if_neg hcell] at hwk
   refine stepR hcell' ?_
   refine mld_op Sd0 (o_load1q (off:=12 + i * 7 + 0) (v:=.int .i64 (s.r i).cell) Sd0 hg (hw.rob_at hi (by omega))) ?_
   refine stepR0 ?_
   refine mld_op Sd0 (o_load1q (off:=92 + k * 3 + 0) (v:=.int .i64 (s.t k).fr) Sd0 hg (hw.tsk_at hk (by omega))) ?_
   refine stepR hcell' ?_
   rw [hwk]
   exact fin1 ⟨Sd0,.of_ext (.refl _),hg⟩
 have p1':((s.r i).phase == 1)=false:=by simpa using p1
 by_cases p2:(s.r i).phase=2
 ·have p2':((s.r i).phase == 2)=true:=by rw [p2];rfl
  obtain ⟨k,hk,hkt,hik,hc⟩:∃ k:Nat,k < 20∧(s.r i).task=(k:Int)∧s.i k=true∧(s.t k).st=2:=by
   rcases h.tsk i hi oi with ⟨_,h2⟩ | ⟨k,hk,hkt,hik,hc⟩
   ·omega
   ·exact ⟨k,hk,hkt,hik,by omega⟩
  have hk':((k:Nat):Int) < 20:=by omega
  have hwk:works s i on=if (s.r i).cell=(s.t k).dst then some ((s.setR i { s.r i with phase:=0,task:=-1 }).setT k { s.t k with st:=3 }) else none:=by
   unfold works;simp only;rw [if_neg p1,if_pos p2,SuitP.tk hkt,show (s.r i).task.toNat=k by omega]
  refine stepR (An p1' p2') ?_
  refine mld_op Sd0 (o_load1q (off:=12 + i * 7 + 3) (v:=.int .i64 ((k:Nat):Int)) Sd0 hg (by rw [hw.rob_at hi (by omega),← hkt];rfl)) ?_
  refine stepR hk' ?_
  refine mld_op Sd0 (o_load1q (off:=12 + i * 7 + 0) (v:=.int .i64 (s.r i).cell) Sd0 hg (hw.rob_at hi (by omega))) ?_
  refine stepR0 ?_
  refine mld_op Sd0 (o_load1q (off:=92 + k * 3 + 1) (v:=.int .i64 (s.t k).dst) Sd0 hg (hw.tsk_at hk (by omega))) ?_
  by_cases hcell:(s.r i).cell=(s.t k).dst
  ·have hcell':((s.r i).cell != (s.t k).dst)=false:=by simpa using hcell
   rw [if_pos hcell] at hwk
   refine stepR hcell' ?_
   refine ml_storeA (off:=12 + i * 7 + 2) (vs:=[.int .i64 0]) Sd0 Sd0 Sd0 hg rfl (by rw [hw.len];simp;omega) rfl fun τ2 t2=>?_
   rw [rob_set1 hw hi (by omega) rfl (r:={ s.r i with phase:=0 }) rfl] at t2
   have hw2:=hw.sR i { s.r i with phase:=0 }
   have hr2:(s.setR i { s.r i with phase:=0 }).r i={ s.r i with phase:=0 }:=by rw [hw.setR_r hi,if_pos rfl]
   refine stepR0 ?_
   refine ml_storeA (off:=12 + i * 7 + 3) (vs:=[.int .i64 (-1)]) Sd0 Sd0 Sd0 t2.self rfl (by rw [hw2.len];simp;omega) rfl fun τ3 t3=>?_
   rw [rob_set1 hw2 hi (by omega) rfl (r:={ s.r i with phase:=0,task:=-1 }) (by rw [hr2];rfl),setR_two2] at t3
   have hw3:=hw.sR i { s.r i with phase:=0,task:=-1 }
   refine stepR0 ?_
   refine ml_storeA (off:=92 + k * 3 + 2) (vs:=[.int .i64 3]) Sd0 Sd0 Sd0 t3.self rfl (by rw [hw3.len];simp;omega) rfl fun τ4 t4=>?_
   rw [tsk_set1 hw3 hk (by omega) rfl (t:={ s.t k with st:=3 }) rfl] at t4
   refine stepR0 ?_
   rw [hwk]
   exact fin1 ⟨Sd0,(((KeepBut.of_ext (.refl _)).set t2).set t3).set t4,t4.self⟩
  ·have hcell':((s.r i).cell != (s.t k).dst)=true:=by simpa using hcell
   rw [if_neg hcell] at hwk
   refine stepR hcell' ?_
   rw [hwk]
   exact fin1 ⟨Sd0,.of_ext (.refl _),hg⟩
 have p2':((s.r i).phase == 2)=false:=by simpa using p2
 have hwk:works s i on=if (s.r i).cell ∈ on then some (s.setR i (if ((gainR (s.r i) 20).getD (s.r i)).charge=200 then { (gainR (s.r i) 20).getD (s.r i) with phase:=0 } else (gainR (s.r i) 20).getD (s.r i))) else none:=by
  unfold works;simp only;rw [if_neg p1,if_neg p2]
 refine stepR (An p1' p2') ?_
 refine ml_op Sd0 (o_load1q (off:=12 + i * 7 + 0) (v:=.int .i64 (s.r i).cell) Sd0 hg (hw.rob_at hi (by omega))) ?_
 refine ml_call Sd0 Sd0 (contains_c ho hol (s.r i).cell) ?_
 rintro _ τ1 ⟨rfl,rfl⟩
 by_cases hin:(s.r i).cell ∈ on
 ·rw [if_pos hin] at hwk
  rw [decide_eq_true hin]
  refine stepR0 ?_
  refine ml_loadN (off:=12 + i * 7) Sd0 Sd0 (row_of hg (hw.rob_row hi rfl)) ?_
  refine ml_call Sd0 Sd0 (mAccount_c (s.r i) τ1) ?_
  rintro _ τ2 ⟨rfl,e2⟩
  refine stepR0 ?_
  refine ml_call Sd0 Sd0 (vGain_c (s.r i).charge (s.r i).moved (s.r i).gained (s.r i).adj 20 (by omega) (by omega) τ2) ?_
  rintro av τ3 ⟨ha,e3⟩
  rw [gain_eq] at ha
  have e13:=e2.trans e3
  have hg3:=e13.cells hg
  refine ml_cut (fun ts τ=>KeepBut (some id) τ1 τ∧τ.get id=.cells 0 (stC (s.setR i ((gainR (s.r i) 20).getD (s.r i))))∧ts 7=.pointer (some ⟨id,12 + i * 7,none⟩)) ?_ ?_
  ·cases hgn:gainR (s.r i) 20 with
   | none=>
     rw [hgn] at ha
     obtain ⟨ev,nm,en,rfl,he⟩:=ha
     obtain ⟨eid,rfl,heid⟩:=he
     rw [Option.getD_none,setR_self hw hi]
     refine stepR0 ?_
     refine ml_init (vs:=[.int .i64 0,.int .i64 0,.int .i64 0,.int .i64 0]) Sd0 Sd0 Sd0 rfl rfl rfl fun τ4 e4 g4=>?_
     refine stepR0 ?_
     exact ⟨.of_ext (e13.trans e4),e4.cells hg3,Sd0⟩
   | some r'=>
     rw [hgn] at ha
     have ha:av=.tuple #[accV r'.charge r'.moved r'.gained r'.adj,.nilIface]:=ha
     subst ha
     obtain ⟨m,hr',_⟩:=gain_some hgn
     rw [Option.getD_some]
     refine stepR0 ?_
     refine ml_init (vs:=[.int .i64 r'.charge,.int .i64 r'.moved,.int .i64 r'.gained,.int .i64 r'.adj]) Sd0 Sd0 Sd0 rfl rfl rfl fun τ4 e4 g4=>?_
     have hg4:=e4.cells hg3
     refine stepR0 ?_
     refine mld_loadN (off:=12 + i * 7) Sd0 Sd0 (row_of hg4 (hw.rob_row hi rfl)) ?_
     refine stepR0 ?_
     refine mld_loadN Sd0 Sd0 (row_of g4 (rowAll rfl)) ?_
     refine mld_callW Sd0 Sd0 (mWith_c (s.r i) r'.charge r'.moved r'.gained r'.adj τ4) ?_
     rintro _ τ5 ⟨rfl,e5⟩
     have hg5:=e5.cells hg4
     refine stepR0 ?_
     have hwr:({ s.r i with charge:=r'.charge,moved:=r'.moved,gained:=r'.gained,adj:=r'.adj }:Rob)=r':=by rw [hr']
     rw [hwr]
     refine mld_op Sd0 (o_store (off:=12 + i * 7) (vs:=robC r') Sd0 Sd0 hg5 rfl (by rw [hw.len];omega) rfl) ?_
     have t6:=SetTo.mk' (o:=.cells 0 (spl (stC s) (12 + i * 7) (robC r'))) (H.lt_of_cells hg5)
     generalize τ5.set id _=τ6 at *
     rw [hw.rob_spl (n:=12 + i * 7) (r:=r') (j:=0) hi (by rw [robC_len];omega) (by omega) (by rw [spl_all (by rw [robC_len,robC_len])])] at t6
     have kb:KeepBut (some id) τ1 τ5:=.of_ext ((e13.trans e4).trans e5)
     refine stepR0 ?_
     exact ⟨kb.set t6,t6.self,Sd0⟩
  ·rintro ts4 τ4 ⟨kb4,hg4,t7⟩
   generalize (gainR (s.r i) 20).getD (s.r i)=r1 at *
   have hw4:=hw.sR i r1
   have hr4:(s.setR i r1).r i=r1:=by rw [hw.setR_r hi,if_pos rfl]
   refine stepR t7 ?_
   refine ml_op Sd0 (o_load1q (off:=12 + i * 7 + 1) (v:=.int .i64 r1.charge) Sd0 hg4 (by rw [hw4.rob_at hi (by omega),hr4];rfl)) ?_
   by_cases hc:r1.charge=200
   ·have hc':(r1.charge == 200)=true:=by rw [hc];rfl
    rw [if_pos hc] at hwk
    refine stepR (An hc' t7) ?_
    refine ml_storeA (off:=12 + i * 7 + 2) (vs:=[.int .i64 0]) Sd0 Sd0 Sd0 hg4 rfl (by rw [hw4.len];simp;omega) rfl fun τ5 t5=>?_
    rw [rob_set1 hw4 hi (by omega) rfl (r:={ r1 with phase:=0 }) (by rw [hr4];rfl),setR_two2] at t5
    refine stepR0 ?_
    rw [hwk]
    exact fin1 ⟨Sd0,kb4.set t5,t5.self⟩
   ·have hc':(r1.charge == 200)=false:=by simpa using hc
    rw [if_neg hc] at hwk
    refine stepR hc' ?_
    rw [hwk]
    exact fin1 ⟨Sd0,kb4,hg4⟩
 ·rw [if_neg hin] at hwk
  rw [decide_eq_false hin]
  refine stepR0 ?_
  rw [hwk]
  exact fin1 ⟨Sd0,.of_ext (.refl _),hg⟩
end Go.Proofs.YtoejdgoicoaomaaGreatDoor
namespace Go.Proofs.YtoejdgoicoaomaaGreatDoor
open Go.Mini
open Go.Proofs.YtoejdgoicoaomaaGreatDoor.Code
attribute [local irreducible] mx ml mld mstep MCalls Ex.thn Ex.inb
variable {E:World→Prop}
theorem one_list {σ:Go.Mini.H} {x:Int}:Rd (σ.push (.cells 1 [.int .i64 x])) (.slice (some ⟨σ.size,0,none⟩) 1 1) (ints [x]):=one_rd (H.get_push_self _ _)
set_option maxRecDepth 100000 in
set_option maxHeartbeats 16000000 in
theorem mAct_c {σ:H} {id:Nat} (s:St) (h:Inv s) (hg:σ.get id=.cells 0 (stC s)) {i:Nat} (hi:i < 10) {ov wv:Value} {on was:List Int} (ho:Rd σ ov (ints on)) (hob:BlkP ov fun j=>j≠id) (hol:on.length≤1000000) (hwa:Rd σ wv (ints was)) (hwb:BlkP wv fun j=>j≠id) (hwl:was.length≤1000):
 MCalls E Tryz.prog 87 [.pointer (some ⟨id,0,none⟩),.int .i64 ((i:Nat):Int),ov,wv] σ (fun v τ=>v=.tuple #[]∧KeepBut (some id) σ τ∧τ.get id=.cells 0 (stC (act1 on was i s))):=by
 refine mcalls_of fn87 (by simp) ?_
 unfold c87 r87
 have hw:=h.wf
 have hi':((i:Nat):Int) < 10:=by omega
 have hlt:=H.lt_of_cells hg
 have hact:act1 on was i s=if (s.o i && (s.r i).phase != 0 && (s.r i).phase != 4)=true then (match works s i on with | some s'=>s' | none=>goes s i (if (s.r i).phase=1 then [(s.tk (s.r i).task).fr] else if (s.r i).phase=2 then [(s.tk (s.r i).task).dst] else on) on was) else s:=rfl
 refine stepR hi' ?_
 refine ml_loadN (off:=12 + i * 7) Sd0 Sd0 (row_of hg (hw.rob_row hi rfl)) ?_
 refine stepR0 ?_
 refine ml_init (vs:=robC (s.r i)) Sd0 Sd0 Sd0 rfl rfl rfl fun τ1 e1 g1=>?_
 have hg1:=e1.cells hg
 have hne:σ.size≠id:=by omega
 refine stepR hi' ?_
 refine ml_op Sd0 (o_load1q (off:=82 + i) Sd0 hg1 (hw.on_at hi)) ?_
 cases oi:s.o i
 ·rw [oi] at hact
  simp only [Bool.false_and,Bool.false_eq_true,if_false] at hact
  refine stepR0 ?_
  exact fin0 ⟨rfl,.of_ext e1,by rw [hact];exact hg1⟩
 rw [oi] at hact
 refine stepR0 ?_
 refine ml_op Sd0 (o_load1q (off:=2) (v:=.int .i64 (s.r i).phase) Sd0 g1 rfl) ?_
 by_cases p0:(s.r i).phase=0
 ·have p0':((s.r i).phase == 0)=true:=by rw [p0];rfl
  rw [p0] at hact
  simp only [Bool.true_and,bne_self_eq_false,Bool.false_and,Bool.false_eq_true,if_false] at hact
  refine stepR p0' ?_
  exact fin0 ⟨rfl,.of_ext e1,by rw [hact];exact hg1⟩
 have p0':((s.r i).phase == 0)=false:=by simpa using p0
 refine stepR p0' ?_
 refine ml_op Sd0 (o_load1q (off:=2) (v:=.int .i64 (s.r i).phase) Sd0 g1 rfl) ?_
 by_cases p4:(s.r i).phase=4
 ·have p4':((s.r i).phase == 4)=true:=by rw [p4];rfl
  rw [p4] at hact
  simp only [Bool.true_and,bne_self_eq_false,Bool.and_false,Bool.false_eq_true,if_false] at hact
  refine stepR p4' ?_
  exact fin0 ⟨rfl,.of_ext e1,by rw [hact];exact hg1⟩
 have p4':((s.r i).phase == 4)=false:=by simpa using p4
 have hcond:(true && (s.r i).phase != 0 && (s.r i).phase != 4)=true:=by simp [p0,p4]
 rw [hcond,if_pos rfl] at hact
 refine stepR p4' ?_
 refine ml_call Sd0 Sd0 (mWorks_c s h hg1 hi oi p0 p4 (ho.of_ext e1) hol) ?_
 rintro _ τ2 ⟨rfl,kb2,hg2⟩
 have kb12:KeepBut (some id) σ τ2:=(KeepBut.of_ext e1).trans kb2
 cases hwk:works s i on with
 | some s'=>
   rw [hwk] at hact hg2
   refine stepR0 ?_
   exact fin0 ⟨rfl,kb12,by rw [hact];exact hg2⟩
 | none=>
   rw [hwk] at hact hg2
   simp only at hact
   simp only [Option.getD_none] at hg2
   have g2:τ2.get σ.size=.cells 0 (robC (s.r i)):=by
    rw [kb2.2 _ (H.lt_of_cells g1) (fun e=>hne (by injection e with e;exact e.symm))];exact g1
   have ho2:=ho.keepBut hob kb12
   have hwa2:=hwa.keepBut hwb kb12
   refine stepR0 ?_
   refine ml_op Sd0 (o_load1q (off:=2) (v:=.int .i64 (s.r i).phase) Sd0 g2 rfl) ?_
   have fin:∀ {τ3:H} {dv:Value} {dst:List Int},Ext τ2 τ3→Rd τ3 dv (ints dst)→goes s i dst on was=act1 on was i s→MCalls E Tryz.prog 125 [.pointer (some ⟨id,0,none⟩),.int .i64 ((i:Nat):Int),dv,ov,wv] τ3 (fun v τ=>v=.tuple #[]∧KeepBut (some id) σ τ∧τ.get id=.cells 0 (stC (act1 on was i s))):=by
    intro τ3 dv dst e3 hd heq
    refine (mGoes_c s h (e3.cells hg2) hi oi hd (ho2.of_ext e3) (hwa2.of_ext e3) hwl).mono fun v τ hh=>?_
    rw [heq] at hh
    exact ⟨hh.1,(kb12.trans (.of_ext e3)).trans hh.2.1,hh.2.2⟩
   by_cases p1:(s.r i).phase=1
   ·have p1':((s.r i).phase == 1)=true:=by rw [p1];rfl
    obtain ⟨k,hk,hkt,hik,hc⟩:∃ k:Nat,k < 20∧(s.r i).task=(k:Int)∧s.i k=true∧(s.t k).st=1:=by
     rcases h.tsk i hi oi with ⟨_,h2⟩ | ⟨k,hk,hkt,hik,hc⟩
     ·omega
     ·exact ⟨k,hk,hkt,hik,by omega⟩
    have hk':((k:Nat):Int) < 20:=by omega
    rw [if_pos p1,SuitP.tk hkt] at hact
    refine stepR p1' ?_
    refine mld_op Sd0 (o_load1q (off:=3) (v:=.int .i64 ((k:Nat):Int)) Sd0 g2 (by rw [← hkt];rfl)) ?_
    refine stepR hk' ?_
    refine mld_op Sd0 (o_load1q (off:=92 + k * 3 + 0) (v:=.int .i64 (s.t k).fr) Sd0 hg2 (hw.tsk_at hk (by omega))) ?_
    refine stepR0 ?_
    refine ml_call Sd0 Sd0 (fin (Ext.push τ2 (.cells 1 [.int .i64 (s.t k).fr])) one_list hact.symm) ?_
    rintro _ τ4 ⟨rfl,kb4,hg4⟩
    refine stepR0 ?_
    exact fin0n ⟨rfl,kb4,hg4⟩
   have p1':((s.r i).phase == 1)=false:=by simpa using p1
   rw [if_neg p1] at hact
   by_cases p2:(s.r i).phase=2
   ·have p2':((s.r i).phase == 2)=true:=by rw [p2];rfl
    obtain ⟨k,hk,hkt,hik,hc⟩:∃ k:Nat,k < 20∧(s.r i).task=(k:Int)∧s.i k=true∧(s.t k).st=2:=by
     rcases h.tsk i hi oi with ⟨_,h2⟩ | ⟨k,hk,hkt,hik,hc⟩
     ·omega
     ·exact ⟨k,hk,hkt,hik,by omega⟩
    have hk':((k:Nat):Int) < 20:=by omega
    rw [if_pos p2,SuitP.tk hkt] at hact
    refine stepR (An p1' p2') ?_
    refine mld_op Sd0 (o_load1q (off:=3) (v:=.int .i64 ((k:Nat):Int)) Sd0 g2 (by rw [← hkt];rfl)) ?_
    refine stepR hk' ?_
    refine mld_op Sd0 (o_load1q (off:=92 + k * 3 + 1) (v:=.int .i64 (s.t k).dst) Sd0 hg2 (hw.tsk_at hk (by omega))) ?_
    refine stepR0 ?_
    refine ml_call Sd0 Sd0 (fin (Ext.push τ2 (.cells 1 [.int .i64 (s.t k).dst])) one_list hact.symm) ?_
    rintro _ τ4 ⟨rfl,kb4,hg4⟩
    refine stepR0 ?_
    exact fin0n ⟨rfl,kb4,hg4⟩
   have p2':((s.r i).phase == 2)=false:=by simpa using p2
   rw [if_neg p2] at hact
   refine stepR (An p1' p2') ?_
   refine ml_call Sd0 Sd0 (fin (.refl _) ho2 hact.symm) ?_
   rintro _ τ4 ⟨rfl,kb4,hg4⟩
   refine stepR0 ?_
   exact fin0n ⟨rfl,kb4,hg4⟩
end Go.Proofs.YtoejdgoicoaomaaGreatDoor
namespace Go.Proofs.YtoejdgoicoaomaaGreatDoor
open Go.Mini
open Go.Proofs.YtoejdgoicoaomaaGreatDoor.Code
attribute [local irreducible] mx ml mld mstep MCalls Ex.thn Ex.inb
variable {E:World→Prop}
theorem actsN_inv {s:St} (h:Inv s) (on was:List Int) {n:Nat} (hn:n≤10):Inv (iter (act1 on was) n s):=
 iter_ind (P:=fun _ s'=>Inv s') h fun i s' hi h1=>(act1_inv h1 on was (by omega)).1
theorem cmds_succ (s:St) (n:Nat):cmdsL s (n + 1)=cmdsL s n ++ if s.o n then [((n:Int),(s.r n).cell)] else []:=by
 unfold cmdsL
 rw [List.range_succ,List.filterMap_append]
 cases h:s.o n<;>simp [h]
theorem cmds_len (s:St) (n:Nat):(cmdsL s n).length≤n:=by
 unfold cmdsL
 exact Nat.le_trans (List.length_filterMap_le _ _) (Nat.le_of_eq List.length_range)
theorem zl_len:(zl0:List Value).length=172:=by kernel_rfl
theorem on_len (S:ByteArray) (o:List Nat) (b:Bool) (hS:S.size≤64):(onL S o b).length≤64:=by
 unfold onL
 exact Nat.le_trans (List.length_filter_le _ _) (Nat.le_trans (gkind_le S 67 b) hS)
set_option maxRecDepth 100000 in
set_option maxHeartbeats 16000000 in
theorem mTick_c (s0:St) (h0:Inv s0) (ht:0≤s0.tick∧s0.tick≤2147483647) (σ:H):
 MCalls E Tryz.prog 56 [stV s0] σ (fun v τ=>∃ cv,v=.tuple #[stV (tickS s0),cv]∧Ext σ τ∧∃ oid,Own τ 2 cv oid (dues (cmdsL (tickS s0) 10))∧∀ j,oid=some j→σ.size≤j):=by
 refine mcalls_of fn56 (by simp) ?_
 unfold c56 r56 stV
 have g0:=H.get_push_self σ (.cells 0 (stC s0))
 have e0:=Ext.push σ (.cells 0 (stC s0))
 refine mx_seq (mx_ops (ml_op Sd0 (o_box Sd0) ?_))
 have hlt:=H.lt_of_cells g0
 generalize σ.push (.cells 0 (stC s0))=τa at *
 have hw0:=h0.wf
 generalize hid:σ.size=id at *
 refine stepR0 ?_
 have gz:=H.get_push_self τa (.cells 0 zl0)
 have ez:=Ext.push τa (.cells 0 zl0)
 have g0:=ez.cells g0
 have e1:=e0.trans ez
 have hrid:id≠τa.size:=by omega
 generalize hrz:τa.size=rid at *
 generalize τa.push (.cells 0 zl0)=τ1 at *
 refine ml_op Sd0 (o_load1q (off:=3) (v:=.int .i64 s0.tick) Sd0 g0 hw0.tick_cell) ?_
 refine stepR0 ?_
 refine ml_storeA (off:=3) (vs:=[.int .i64 (s0.tick + 1)]) Sd0 Sd0 Sd0 g0 rfl (by rw [hw0.len];simp) rfl fun τ2 t2=>?_
 rw [hw0.tick_spl] at t2
 have hI:=h0.tk (s0.tick + 1)
 have g2:=t2.self
 have gz2:=t2.cells gz (by omega)
 have kb2:KeepBut (some id) σ τ2:=(KeepBut.of_ext e1).set t2
 have hsz2:=t2.size
 have hT:tickS s0=(let s2:=assign (onL s0.S s0.off (gr s0.W s0.H s0.S)) (iter (strand1 (onL s0.S s0.off (gr s0.W s0.H s0.S))) 10 { s0 with tick:=s0.tick + 1 });iter (act1 (onL s0.S s0.off (gr s0.W s0.H s0.S)) (placeL s2)) 10 s2):=rfl
 rw [hT]
 have hS:=gr_size h0.g
 have hw:=hI.wf
 refine stepR0 ?_
 refine ml_loadN Sd0 Sd0 (row_of g2 hw.map_row) ?_
 refine stepR0 ?_
 refine ml_loadN (off:=4) Sd0 Sd0 (row_of g2 hw.off_row) ?_
 refine ml_call Sd0 Sd0 (on_c2 s0.W s0.H s0.S hw0.off hw0.byte) ?_
 rintro ov τ3 ⟨ho3,e3,hb3⟩
 have hol:=on_len s0.S s0.off (gr s0.W s0.H s0.S) hS.2.2.2.1.2
 generalize onL s0.S s0.off (gr s0.W s0.H s0.S)=on at *
 have hidlt2:id < τ2.size:=H.lt_of_cells g2
 have hbid:BlkP ov fun j=>j≠id:=fun a n c e=>by have:=hb3 a n c e;omega
 have hbrid:BlkP ov fun j=>j≠rid:=fun a n c e=>by have:=hb3 a n c e;have:=H.lt_of_cells gz2;omega
 have g3:=e3.cells g2
 have gz3:=e3.cells gz2
 have kb3:=kb2.trans (.of_ext e3)
 generalize hs1:({ s0 with tick:=s0.tick + 1 }:St)=s1 at *
 refine stepR0 ?_
 refine ml_call Sd0 Sd0 (mStrand_c s1 hI g3 ho3 hbid) ?_
 rintro _ τ4 ⟨rfl,kb34,g4⟩
 have ho4:=ho3.keepBut hbid kb34
 have gz4:τ4.get rid=.cells 0 zl0:=by rw [kb34.2 _ (H.lt_of_cells gz3) (fun e=>hrid (by injection e))];exact gz3
 have hI4:=strandN_inv hI on (Nat.le_refl 10)
 generalize iter (strand1 on) 10 s1=s2 at *
 refine stepR0 ?_
 refine ml_call Sd0 Sd0 (mAssign_c s2 hI4 g4 ho4 hbid) ?_
 rintro _ τ5 ⟨rfl,kb45,g5⟩
 have ho5:=ho4.keepBut hbid kb45
 have gz5:τ5.get rid=.cells 0 zl0:=by rw [kb45.2 _ (H.lt_of_cells gz4) (fun e=>hrid (by injection e))];exact gz4
 have hI5:=(assign_inv hI4 on).1
 have kb5:=(kb3.trans kb34).trans kb45
 simp only
 generalize assign on s2=s3 at *
 have hw5:=hI5.wf
 refine stepR0 ?_
 refine ml_loadN Sd0 Sd0 (row_of g5 (rowAll hw5.len)) ?_
 refine ml_call Sd0 Sd0 (mPlaces_c s3 hw5 τ5) ?_
 rintro wv τ6 ⟨e6,wo,wown,hwo⟩
 have hwbid:BlkP wv fun j=>j≠id:=fun a n c e=>by
  have:=hwo _ (wown.blk a n c e)
  have:=H.lt_of_cells g5;omega
 have g6:=e6.cells g5
 have gz6:=e6.cells gz5
 have kb6:=kb5.trans (.of_ext e6)
 have ho6:=ho5.of_ext e6
 have hwr:=wown.rd
 refine stepR0 ?_
 refine mx_loop (fun n ts τ=>∃ i:Nat,n=10 - i∧i≤10∧KeepBut (some id) τ6 τ∧τ.get id=.cells 0 (stC (iter (act1 on (placeL s3)) i s3))∧ts 1=.pointer (some ⟨id,0,none⟩)∧ts 2=.pointer (some ⟨rid,0,none⟩)∧ts 4=ov∧ts 5=wv∧ts 28=.int .i64 ((i:Nat):Int)) 10 ?_ ?_
 ·exact ⟨0,rfl,Nat.zero_le _,⟨Nat.le_refl _,fun _ _ _=>rfl⟩,g6,Sd0,Sd0,Sd0,Sd0,Sd0⟩
 rintro _ ts τ ⟨i,rfl,hi,kb,hg,t1,t2,t4,t5,t28⟩
 rcases Nat.lt_or_ge i 10 with hil | hig
 ·have hil':((i:Nat):Int) < 10:=by omega
  have hIi:=actsN_inv hI5 on (placeL s3) hi
  have hstep:iter (act1 on (placeL s3)) (i + 1) s3=act1 on (placeL s3) i (iter (act1 on (placeL s3)) i s3):=rfl
  generalize iter (act1 on (placeL s3)) i s3=s at *
  refine stepR (An t1 (An t4 (An t5 (An t28 hil')))) ?_
  refine ml_call Sd0 (Sw (An t1 (An t4 t5))) (mAct_c s hIi hg hil (ho6.keepBut hbid kb) hbid (by omega) (hwr.keepBut hwbid kb) hwbid (by rw [placeL_len];omega)) ?_
  rintro _ τ7 ⟨rfl,kb7,g7⟩
  refine stepR t28 ?_
  exact ⟨10 - (i + 1),by omega,i + 1,rfl,by omega,kb.trans kb7,by rw [hstep];exact g7,(Sw t1),(Sw t2),(Sw t4),(Sw t5),Sd0⟩
 obtain rfl:i=10:=by omega
 have hil':¬ (((10:Nat):Nat):Int) < 10:=by omega
 have hIt:=actsN_inv hI5 on (placeL s3) hi
 generalize iter (act1 on (placeL s3)) 10 s3=t at *
 have hwt:=hIt.wf
 have kbT:=kb6.trans kb
 have eT:Ext σ τ:=kbT.ext (.refl _) (fun j hj=>by injection hj with hj;omega)
 have gzT:τ.get rid=.cells 0 zl0:=by rw [kb.2 _ (H.lt_of_cells gz6) (fun e=>hrid (by injection e))];exact gz6
 refine stepR (An t1 (An t28 hil')) ?_
 refine ml_loadN Sd0 (Sw t1) (row_of hg hwt.robs_row) ?_
 refine stepR0 ?_
 refine mx_loop (fun n ts τ'=>∃ (i:Nat) (bv:Value) (oj:Option Nat),n=10 - i∧i≤10∧Ext τ τ'∧Own τ' 2 bv oj (dues (cmdsL t i))∧(∀ j,oj=some j→τ.size≤j)∧ts 1=.pointer (some ⟨id,0,none⟩)∧ts 2=.pointer (some ⟨rid,0,none⟩)∧ts 7=bv∧ts 37=.agg (t.rob.flatMap robC).toArray∧ts 38=.int .i64 ((i:Nat):Int)) 10 ?_ ?_
 ·exact ⟨0,_,_,rfl,Nat.zero_le _,.refl _,.nil,fun j h=>(nomatch h),(Sw t1),(Sw t2),Sd0,Sd0,Sd0⟩
 clear t1 t2 t4 t5 t28
 rintro _ ts2 τ' ⟨i,bv,oj,rfl,hi,e,own,hoj,t1,t2,t7,t37,t38⟩
 have hg':=e.cells hg
 rcases Nat.lt_or_ge i 10 with hil | hig
 ·have hil':((i:Nat):Int) < 10:=by omega
  have hcs:=cmds_succ t i
  have hcl:=cmds_len t i
  refine stepR (An t37 (An t38 hil')) ?_
  refine ml_op Sd0 (o_idxRob hwt (Sw t37) (Sw t38) hil) ?_
  refine stepR t38 ?_
  refine ml_init (vs:=robC (t.r i)) Sd0 Sd0 Sd0 rfl rfl rfl fun τ8 e8 g8=>?_
  refine stepR (An t1 hil') ?_
  refine ml_op Sd0 (o_load1q (off:=82 + i) (Sw t1) (e8.cells hg') (hwt.on_at hil)) ?_
  cases oi:t.o i
  ·rw [oi] at hcs
   simp only [Bool.false_eq_true,if_false,List.append_nil] at hcs
   refine stepR t38 ?_
   exact ⟨10 - (i + 1),by omega,i + 1,bv,oj,rfl,by omega,e.trans e8,by rw [hcs];exact own.of_ext e8,hoj,(Sw t1),(Sw t2),(Sw t7),(Sw t37),Sd0⟩
  ·rw [oi,if_pos rfl] at hcs
   refine stepR (An t7 t38) ?_
   refine ml_op Sd0 (o_load1q (off:=0) (v:=.int .i64 (t.r i).cell) Sd0 g8 rfl) ?_
   refine stepR t7 ?_
   refine ml_app1 (vs:=[.int .i64 ((i:Nat):Int),.int .i64 (t.r i).cell]) Sd0 (Sw t7) Sd0 (own.of_ext (e8.trans (Ext.push _ _))) (H.get_push_self _ _) rfl (by omega) (by rw [List.all_append,dues_one];rfl) (by omega) (by rw [dues_len];simp only [appMax];omega) fun v' τ9 own9 hs9 hk9=>?_
   rw [show dues (cmdsL t i) ++ [Value.int .i64 ((i:Nat):Int),Value.int .i64 (t.r i).cell]=dues (cmdsL t (i + 1)) by rw [hcs,dues_app];rfl] at own9
   have ⟨e9,hj9⟩:=app_ext (e.trans (e8.trans (Ext.push _ _))) hoj hs9 hk9
   refine stepR t38 ?_
   exact ⟨10 - (i + 1),by omega,i + 1,v',_,rfl,by omega,e9,own9,hj9,(Sw t1),(Sw t2),Sd0,(Sw t37),Sd0⟩
 ·obtain rfl:i=10:=by omega
  have hil':¬ (((10:Nat):Nat):Int) < 10:=by omega
  have gz':=e.cells gzT
  refine stepR (An t1 (An t38 hil')) ?_
  refine ml_loadN Sd0 (Sw t1) (row_of hg' (rowAll hwt.len)) ?_
  refine stepR t7 ?_
  refine ml_storeA (off:=0) (vs:=stC t) Sd0 (Sw t2) Sd0 gz' hwt.len (by rw [zl_len];simp) (stC_one t) fun τ10 t10=>?_
  rw [spl_all (by rw [zl_len,hwt.len])] at t10
  have e10:Ext σ τ10:=t10.ext (eT.trans e) (by omega)
  refine stepR0 ?_
  refine finC1 (Sw t2) (row_of t10.self (rowAll hwt.len)) ⟨bv,(Sw t7),e10,oj,own.ext fun j hj=>?_,fun j hj=>?_⟩
  ·have:=hoj j hj
   rw [t10.other j (by have:=H.lt_of_cells gzT;omega)]
  ·have:=hoj j hj
   have:=eT.size
   omega
end Go.Proofs.YtoejdgoicoaomaaGreatDoor
namespace Go.Proofs.YtoejdgoicoaomaaGreatDoor
open Go.Mini
open Go.Proofs.YtoejdgoicoaomaaGreatDoor.Code
attribute [local irreducible] mx ml mld mstep MCalls Ex.thn Ex.inb
variable {E:World→Prop}
def actC (nm:ByteArray) (a b c:Int):List Value:=[.string nm,.int .i64 a,.int .i64 b,.int .i64 c]
def I64 (n:Int):Prop:=-9223372036854775808≤n∧n≤9223372036854775807
abbrev Act4:=ByteArray × Int × Int × Int
def acC (p:Act4):List Value:=actC p.1 p.2.1 p.2.2.1 p.2.2.2
def ActOK (p:Act4):Prop:=I64 p.2.1∧I64 p.2.2.1∧I64 p.2.2.2
def smallA (l:List Act4):Bool:=decide (l.length≤60) && l.all fun p=>decide (p.1.size≤50)
set_option maxHeartbeats 1000000 in
theorem rSmall_c {sv:Value} {al:List Act4} {σ:H} (hr:RdN σ 4 sv (al.map acC)):MCalls E Tryz.prog 13 [sv] σ (fun v τ=>τ=σ∧v=.int .i64 (if smallA al then 1 else 0)):=by
 obtain ⟨p,cap,rfl,hp⟩:=hr.len
 rw [List.length_map]
 refine mcalls_of fn13 (by simp) ?_
 unfold c13 r13
 by_cases h60:60 < al.length
 ·have h60':(60:Int) < ((al.length:Nat):Int):=by omega
  have hs:smallA al=false:=by simp [smallA];omega
  refine stepR h60' ?_
  rw [hs]
  exact fin1 ⟨rfl,Sd0⟩
 have h60':¬ (60:Int) < ((al.length:Nat):Int):=by omega
 refine stepR h60' ?_
 refine mx_loop (fun n ts τ=>∃ i,n=al.length - i∧i≤al.length∧τ=σ∧(∀ q ∈ al.take i,q.1.size≤50)∧ts 0=.slice p al.length cap∧ts 3=.int .i64 ((i:Nat):Int)) al.length ?_ ?_
 ·exact ⟨0,rfl,Nat.zero_le _,rfl,by simp,Sd0,Sd0⟩
 rintro _ ts τ ⟨i,rfl,hi,rfl,hq,t0,t3⟩
 rcases Nat.lt_or_ge i al.length with hil | hig
 ·have hil':((i:Nat):Int) < ((al.length:Nat):Int):=by omega
  obtain ⟨id,rfl,hrow,hrows⟩:=hp (fun h=>by have:=congrArg List.length h;simp at this;rw [this] at hil;simp at hil)
  have hrw:=hrows i (by rw [List.length_map];exact hil)
  rw [List.getElem_map] at hrw
  have hc0:=row_cell hrw (q:=0) (by omega)
  refine stepR (An t0 (An t3 hil')) ?_
  refine ml_load1 (v:=.string (al[i]).1) Sd0 Sd0 hc0 ?_
  by_cases h50:50 < (al[i]).1.size
  ·have h50':(50:Int) < ((al[i]).1.size:Int):=by omega
   have hs:smallA al=false:=by
    unfold smallA
    rw [Bool.and_eq_false_iff]
    right
    rw [List.all_eq_false]
    exact ⟨al[i],List.getElem_mem hil,by simp;omega⟩
   refine stepR h50' ?_
   rw [hs]
   exact fin1 ⟨rfl,Sd0⟩
  ·have h50':¬ (50:Int) < ((al[i]).1.size:Int):=by omega
   refine stepR (An h50' t3) ?_
   refine ⟨al.length - (i + 1),by omega,i + 1,rfl,by omega,rfl,fun q hm=>?_,(Sw t0),Sd0⟩
   rw [List.take_add_one,List.getElem?_eq_getElem hil] at hm
   rcases List.mem_append.1 hm with hm | hm
   ·exact hq q hm
   ·simp at hm;subst hm;omega
 ·obtain rfl:i=al.length:=by omega
  have hil':¬ ((al.length:Nat):Int) < ((al.length:Nat):Int):=by omega
  have hs:smallA al=true:=by
   unfold smallA
   rw [List.take_length] at hq
   rw [Bool.and_eq_true,List.all_eq_true]
   exact ⟨by simp;omega,fun q hm=>by simpa using hq q hm⟩
  refine stepR (An t0 (An t3 hil')) ?_
  rw [hs]
  exact fin1 ⟨rfl,Sd0⟩
theorem small_of {l:List Act4} (h:smallA l=true):l.length≤60∧∀ q ∈ l,q.1.size≤50:=by
 unfold smallA at h
 rw [Bool.and_eq_true,List.all_eq_true] at h
 exact ⟨by simpa using h.1,fun q hq=>by simpa using h.2 q hq⟩
end Go.Proofs.YtoejdgoicoaomaaGreatDoor
namespace Go.Proofs.YtoejdgoicoaomaaGreatDoor
open Go.Mini
open Go.Proofs.YtoejdgoicoaomaaGreatDoor.Code
attribute [local irreducible] mx ml mld mstep MCalls Ex.thn Ex.inb
variable {E:World→Prop}
def actW (nm:ByteArray) (a b c:Int):Value:=.agg (actC nm a b c).toArray
def errV (n:Int):Value:=if n=0 then .nilIface else .iface 78 (.int .i64 n)
def StE (σ:H) (s:St) (n:Int) (v:Value) (τ:H):Prop:=v=.tuple #[stV s,errV n]∧Ext σ τ
theorem errV_of {n:Int} (h:n≠0):errV n=.iface 78 (.int .i64 n):=by unfold errV;rw [if_neg h]
theorem errV0:errV 0=.nilIface:=rfl
set_option maxRecDepth 100000 in
set_option maxHeartbeats 16000000 in
theorem mRobot_c (s:St) (hw:s.WF) (nm:ByteArray) (a b c:Int) (σ:H):MCalls E Tryz.prog 52 [stV s,actW nm a b c] σ (fun v τ=>StE σ (robotA s a b c).1 (robotA s a b c).2 v τ):=by
 refine mcalls_of fn52 (by simp) ?_
 unfold c52 r52 stV actW
 have g1:=H.get_push_self σ (.cells 0 (stC s))
 have e1:=Ext.push σ (.cells 0 (stC s))
 refine mx_seq (mx_ops (ml_op Sd0 (o_box Sd0) ?_))
 have hl1:=H.lt_of_cells g1
 generalize σ.push (.cells 0 (stC s))=τa at *
 refine ml_op Sd0 (o_box (cs:=actC nm a b c) Sd0) ?_
 have g2:=H.get_push_self τa (.cells 0 (actC nm a b c))
 have e2:=Ext.push τa (.cells 0 (actC nm a b c))
 have g1:=e2.cells g1
 have hl2:=H.lt_of_cells g2
 generalize τa.push (.cells 0 (actC nm a b c))=τb at *
 refine stepR0 ?_
 have g3:=H.get_push_self τb (.cells 0 zl0)
 have e3:=Ext.push τb (.cells 0 zl0)
 have g1:=e3.cells g1
 have g2:=e3.cells g2
 generalize τb.push (.cells 0 zl0)=τ at *
 generalize hi1:σ.size=i1 at *
 generalize hi2:τa.size=i2 at *
 generalize hi3:τb.size=i3 at *
 have e:Ext σ τ:=(e1.trans e2).trans e3
 clear e1 e2 e3
 have ge:∀ {τ':H} {ts:Fr} {n:Int} {ev:Value},Ext τ τ'→SetTo τ' i3 (.cells 0 (stC s)) τ'∨True:=fun _=>.inr trivial
 have hspec:robotA s a b c=if a < 0∨10≤a∨opnG s b=false∨c < 0∨200 < c then (s,1) else if s.o a.toNat then (s,5) else if freeB s b=false then (s,10) else ({ s.setR a.toNat ⟨b,c,0,-1,0,0,0⟩ with on:=s.on.set a.toNat true },0):=rfl
 obtain ⟨bad,hbad⟩:∃ bad:Bool,bad=(decide (a < 0) || (decide (10≤a) || (!opnG s b || (decide (c < 0) || decide (200 < c))))):=⟨_,rfl⟩
 have hbp:bad=true↔(a < 0∨10≤a∨opnG s b=false∨c < 0∨200 < c):=by rw [hbad];simp [Bool.or_eq_true]
 unfold StE
 refine ml_op Sd0 (o_load1q (off:=1) (v:=.int .i64 a) Sd0 g2 rfl) ?_
 refine ml_mid (fun ts' τ'=>Ext τ τ'∧ts' 6=.bool bad∧ts' 2=.pointer (some ⟨i1,0,none⟩)∧ts' 3=.pointer (some ⟨i2,0,none⟩)∧ts' 4=.pointer (some ⟨i3,0,none⟩)) ?_ ?_
 ·by_cases h1:a < 0
  ·have hb:bad=true:=by rw [hbad,decide_eq_true h1];rfl
   rw [hb]
   refine stepR h1 ?_
   exact ⟨.refl _,Sd0,Sd0,Sd0,Sd0⟩
  refine stepR h1 ?_
  refine ml_op Sd0 (o_load1q (off:=1) (v:=.int .i64 a) Sd0 g2 rfl) ?_
  by_cases h2:10≤a
  ·have h2':a≥10:=h2
   have hb:bad=true:=by rw [hbad,decide_eq_true h2,decide_eq_false h1];rfl
   rw [hb]
   refine stepR h2' ?_
   exact ⟨.refl _,Sd0,Sd0,Sd0,Sd0⟩
  have h2':¬ a≥10:=h2
  rw [decide_eq_false h1,decide_eq_false h2,Bool.false_or,Bool.false_or] at hbad
  refine stepR h2' ?_
  refine ml_loadN Sd0 Sd0 (row_of g1 hw.map_row) ?_
  refine stepR0 ?_
  refine ml_op Sd0 (o_load1q (off:=2) (v:=.int .i64 b) Sd0 g2 rfl) ?_
  refine ml_call Sd0 Sd0 (gopen_c s.W s.H s.S b τ) ?_
  rintro _ τ4 ⟨rfl,e4⟩
  have hop:(gr s.W s.H s.S && opn s.S b)=opnG s b:=rfl
  rw [hop]
  cases hgo:opnG s b
  ·have hb:bad=true:=by rw [hbad,hgo];rfl
   rw [hb]
   refine stepR0 ?_
   exact ⟨e4,Sd0,Sd0,Sd0,Sd0⟩
  rw [hgo,Bool.not_true,Bool.false_or] at hbad
  have g24:=e4.cells g2
  refine stepR0 ?_
  refine ml_op Sd0 (o_load1q (off:=3) (v:=.int .i64 c) Sd0 g24 rfl) ?_
  by_cases h3:c < 0
  ·have hb:bad=true:=by rw [hbad,decide_eq_true h3];rfl
   rw [hb]
   refine stepR h3 ?_
   exact ⟨e4,Sd0,Sd0,Sd0,Sd0⟩
  rw [decide_eq_false h3,Bool.false_or] at hbad
  refine stepR h3 ?_
  refine ml_op Sd0 (o_load1q (off:=3) (v:=.int .i64 c) Sd0 g24 rfl) ?_
  by_cases h4:200 < c
  ·have h4':c > 200:=h4
   have hb:bad=true:=by rw [hbad,decide_eq_true h4]
   rw [hb]
   refine stepR h4' ?_
   exact ⟨e4,Sd0,Sd0,Sd0,Sd0⟩
  ·have h4':¬ c > 200:=h4
   have hb:bad=false:=by rw [hbad,decide_eq_false h4]
   rw [hb]
   refine stepR h4' ?_
   exact ⟨e4,Sd0,Sd0,Sd0,Sd0⟩
 rintro ts τ5 ⟨ee,t6,t2,t3,t4⟩
 cases hb:bad
 rotate_left
 ·have hsp:robotA s a b c=(s,1):=by rw [hspec,if_pos (hbp.1 hb)]
  rw [hsp]
  rw [hb] at t6
  refine stepR (An t6 t2) ?_
  refine ml_loadN Sd0 (Sw t2) (row_of (ee.cells g1) (rowAll hw.len)) ?_
  refine stepR t4 ?_
  refine ml_storeA (off:=0) (vs:=stC s) Sd0 (Sw t4) Sd0 (ee.cells g3) hw.len (by rw [zl_len];simp) (stC_one s) fun τ8 t8=>?_
  rw [spl_all (by rw [zl_len,hw.len])] at t8
  refine stepR t4 ?_
  refine finC1 (Sw t4) (row_of t8.self (rowAll hw.len)) ⟨?_,t8.ext (e.trans ee) (by omega)⟩
  rw [errV_of (by omega)]
  rfl
 rw [hb] at t6
 have hnb:¬ (a < 0∨10≤a∨opnG s b=false∨c < 0∨200 < c):=fun h=>by have:=hbp.2 h;rw [hb] at this;cases this
 rw [if_neg hnb] at hspec
 obtain ⟨i,rfl⟩:=Int.eq_ofNat_of_zero_le (show 0≤a by omega)
 have hi:i < 10:=by omega
 have hi':((i:Nat):Int) < 10:=by omega
 simp only [Int.toNat_natCast] at hspec
 have g25:=ee.cells g2
 have g15:=ee.cells g1
 refine stepR (An t6 t3) ?_
 refine ml_op Sd0 (o_load1q (off:=1) (v:=.int .i64 ((i:Nat):Int)) Sd0 g25 rfl) ?_
 refine stepR (An t2 hi') ?_
 refine ml_op Sd0 (o_load1q (off:=82 + i) (Sw t2) g15 (hw.on_at hi)) ?_
 cases ho:s.o i
 rotate_left
 ·have hsp:robotA s ((i:Nat):Int) b c=(s,5):=by rw [hspec,if_pos ho]
  rw [hsp]
  refine stepR t2 ?_
  refine ml_loadN Sd0 (Sw t2) (row_of (ee.cells g1) (rowAll hw.len)) ?_
  refine stepR t4 ?_
  refine ml_storeA (off:=0) (vs:=stC s) Sd0 (Sw t4) Sd0 (ee.cells g3) hw.len (by rw [zl_len];simp) (stC_one s) fun τ8 t8=>?_
  rw [spl_all (by rw [zl_len,hw.len])] at t8
  refine stepR t4 ?_
  refine finC1 (Sw t4) (row_of t8.self (rowAll hw.len)) ⟨?_,t8.ext (e.trans ee) (by omega)⟩
  rw [errV_of (by omega)]
  rfl
 rw [if_neg (by rw [ho];simp)] at hspec
 refine stepR t2 ?_
 refine mld_loadN Sd0 (Sw t2) (row_of g15 (rowAll hw.len)) ?_
 refine stepR t3 ?_
 refine mld_op Sd0 (o_load1q (off:=2) (v:=.int .i64 b) (Sw t3) g25 rfl) ?_
 refine mld_call Sd0 Sd0 (mPlaces_c s hw τ5) (fun _ _ h=>h.1) ?_
 rintro pv τ6 ⟨e6,po,pown,_⟩
 refine stepR0 ?_
 refine mld_callW Sd0 Sd0 (clFree_c pown.rd (by rw [placeL_len];omega) b) ?_
 rintro _ τ7 ⟨rfl,rfl⟩
 have hfr:(decide (b=-1) || !decide (b ∈ placeL s))=freeB s b:=rfl
 rw [hfr]
 have g27:=e6.cells g25
 have g17:=e6.cells g15
 have ee':=ee
 have ee:=ee.trans e6
 cases hf:freeB s b
 ·have hsp:robotA s ((i:Nat):Int) b c=(s,10):=by rw [hspec,if_pos hf]
  rw [hsp]
  refine stepR t2 ?_
  refine ml_loadN Sd0 (Sw t2) (row_of (ee.cells g1) (rowAll hw.len)) ?_
  refine stepR t4 ?_
  refine ml_storeA (off:=0) (vs:=stC s) Sd0 (Sw t4) Sd0 (ee.cells g3) hw.len (by rw [zl_len];simp) (stC_one s) fun τ8 t8=>?_
  rw [spl_all (by rw [zl_len,hw.len])] at t8
  refine stepR t4 ?_
  refine finC1 (Sw t4) (row_of t8.self (rowAll hw.len)) ⟨?_,t8.ext (e.trans ee) (by omega)⟩
  rw [errV_of (by omega)]
  rfl
 rw [if_neg (by rw [hf];simp)] at hspec
 rw [hspec]
 refine stepR t3 ?_
 refine mld_op Sd0 (o_load1q (off:=1) (v:=.int .i64 ((i:Nat):Int)) (Sw t3) g27 rfl) ?_
 refine stepR t3 ?_
 refine mld_op Sd0 (o_load1q (off:=1) (v:=.int .i64 ((i:Nat):Int)) (Sw t3) g27 rfl) ?_
 refine stepR t3 ?_
 refine mld_op Sd0 (o_load1q (off:=2) (v:=.int .i64 b) (Sw t3) g27 rfl) ?_
 refine stepR t3 ?_
 refine mld_op Sd0 (o_load1q (off:=3) (v:=.int .i64 c) (Sw t3) g27 rfl) ?_
 refine stepR (An t2 hi') ?_
 refine mld_storeL (off:=82 + i) (vs:=[.bool true]) Sd0 (Sw t2) Sd0 g17 rfl (by rw [hw.len];simp;omega) rfl ?_ fun τ8 t8=>?_
 ·intro m hm
  simp only [dI,pI,qI,iI,vI,sI,jI,uI,pendOf,List.takeWhile,bne_iff_ne,ne_eq,Nat.reduceBNe,pureM,List.filter,List.map,Bool.not_false,Bool.not_true,Bool.and_true,Bool.and_false,Bool.true_and,Bool.false_and,List.mem_cons,List.not_mem_nil,or_false] at hm
  rcases hm with rfl | rfl | rfl | rfl
  ·exact ⟨_,.inl rfl,ne_of_ptr (j:=i2) (o:=1) (Sw t3) (by omega)⟩
  ·exact ⟨_,.inl rfl,ne_of_ptr (j:=i2) (o:=1) (Sw t3) (by omega)⟩
  ·exact ⟨_,.inl rfl,ne_of_ptr (j:=i2) (o:=2) (Sw t3) (by omega)⟩
  ·exact ⟨_,.inl rfl,ne_of_ptr (j:=i2) (o:=3) (Sw t3) (by omega)⟩
 rw [hw.on_spl hi rfl] at t8
 have hw8:St.WF { s with on:=s.on.set i true }:=⟨hw.off,hw.byte,hw.rob,by simpa using hw.on,hw.tsk,hw.is⟩
 refine stepR (An t2 hi') ?_
 refine mld_op Sd0 (o_store (off:=12 + i * 7) (vs:=robC ⟨b,c,0,-1,0,0,0⟩) (Sw t2) Sd0 t8.self rfl (by rw [hw8.len];omega) rfl) ?_
 have t9:=SetTo.mk' (o:=.cells 0 (spl (stC { s with on:=s.on.set i true }) (12 + i * 7) (robC ⟨b,c,0,-1,0,0,0⟩))) (H.lt_of_cells t8.self)
 generalize τ8.set i1 _=τ9 at *
 rw [hw8.rob_spl (n:=12 + i * 7) (r:=⟨b,c,0,-1,0,0,0⟩) (j:=0) hi (by rw [robC_len];omega) (by omega) (by rw [spl_all (by rw [robC_len,robC_len])])] at t9
 have hw9:St.WF { s with rob:=s.rob.set i ⟨b,c,0,-1,0,0,0⟩,on:=s.on.set i true }:=hw8.setR i _
 have g9:=t9.self
 have g39:=t9.cells (t8.cells (ee.cells g3) (by omega)) (by omega)
 have e9:=t9.ext (t8.ext (e.trans ee) (by omega)) (by omega)
 refine stepR t2 ?_
 refine ml_loadN Sd0 (Sw t2) (row_of g9 (rowAll hw9.len)) ?_
 refine stepR t4 ?_
 refine ml_storeA (off:=0) (vs:=stC { s with rob:=s.rob.set i ⟨b,c,0,-1,0,0,0⟩,on:=s.on.set i true }) Sd0 (Sw t4) Sd0 g39 hw9.len (by rw [zl_len];simp) (stC_one _) fun τ10 t10=>?_
 rw [spl_all (by rw [zl_len,hw9.len])] at t10
 refine stepR t4 ?_
 refine finC1 (Sw t4) (row_of t10.self (rowAll hw9.len)) ⟨?_,t10.ext e9 (by omega)⟩
 rw [errV0]
 rfl
end Go.Proofs.YtoejdgoicoaomaaGreatDoor
namespace Go.Proofs.YtoejdgoicoaomaaGreatDoor
open Go.Mini
open Go.Proofs.YtoejdgoicoaomaaGreatDoor.Code
attribute [local irreducible] mx ml mld mstep MCalls Ex.thn Ex.inb
variable {E:World→Prop}
set_option maxRecDepth 100000 in
set_option maxHeartbeats 16000000 in
theorem mTask_c (s:St) (hw:s.WF) (nm:ByteArray) (a b c:Int) (σ:H):MCalls E Tryz.prog 53 [stV s,actW nm a b c] σ (fun v τ=>StE σ (taskA s a b c).1 (taskA s a b c).2 v τ):=by
 refine mcalls_of fn53 (by simp) ?_
 unfold c53 r53 stV actW
 have g1:=H.get_push_self σ (.cells 0 (stC s))
 have e1:=Ext.push σ (.cells 0 (stC s))
 refine mx_seq (mx_ops (ml_op Sd0 (o_box Sd0) ?_))
 have hl1:=H.lt_of_cells g1
 generalize σ.push (.cells 0 (stC s))=τa at *
 refine ml_op Sd0 (o_box (cs:=actC nm a b c) Sd0) ?_
 have g2:=H.get_push_self τa (.cells 0 (actC nm a b c))
 have e2:=Ext.push τa (.cells 0 (actC nm a b c))
 have g1:=e2.cells g1
 have hl2:=H.lt_of_cells g2
 generalize τa.push (.cells 0 (actC nm a b c))=τb at *
 refine stepR0 ?_
 have g3:=H.get_push_self τb (.cells 0 zl0)
 have e3:=Ext.push τb (.cells 0 zl0)
 have g1:=e3.cells g1
 have g2:=e3.cells g2
 generalize τb.push (.cells 0 zl0)=τ at *
 generalize hi1:σ.size=i1 at *
 generalize hi2:τa.size=i2 at *
 generalize hi3:τb.size=i3 at *
 have e:Ext σ τ:=(e1.trans e2).trans e3
 clear e1 e2 e3
 have ge:∀ {τ':H} {ts:Fr} {n:Int} {ev:Value},Ext τ τ'→SetTo τ' i3 (.cells 0 (stC s)) τ'∨True:=fun _=>.inr trivial
 have hspec:taskA s a b c=if a < 0∨20≤a∨opnG s b=false∨opnG s c=false then (s,1) else if s.i a.toNat then (s,5) else ({ s.setT a.toNat ⟨b,c,0⟩ with is:=s.is.set a.toNat true },0):=rfl
 obtain ⟨bad,hbad⟩:∃ bad:Bool,bad=(decide (a < 0) || (decide (20≤a) || (!opnG s b || !opnG s c))):=⟨_,rfl⟩
 have hbp:bad=true↔(a < 0∨20≤a∨opnG s b=false∨opnG s c=false):=by rw [hbad];simp [Bool.or_eq_true]
 unfold StE
 refine ml_op Sd0 (o_load1q (off:=1) (v:=.int .i64 a) Sd0 g2 rfl) ?_
 refine ml_mid (fun ts' τ'=>Ext τ τ'∧ts' 6=.bool bad∧ts' 2=.pointer (some ⟨i1,0,none⟩)∧ts' 3=.pointer (some ⟨i2,0,none⟩)∧ts' 4=.pointer (some ⟨i3,0,none⟩)) ?_ ?_
 ·by_cases h1:a < 0
  ·have hb:bad=true:=by rw [hbad,decide_eq_true h1];rfl
   rw [hb]
   refine stepR h1 ?_
   exact ⟨.refl _,Sd0,Sd0,Sd0,Sd0⟩
  refine stepR h1 ?_
  refine ml_op Sd0 (o_load1q (off:=1) (v:=.int .i64 a) Sd0 g2 rfl) ?_
  by_cases h2:20≤a
  ·have h2':a≥20:=h2
   have hb:bad=true:=by rw [hbad,decide_eq_true h2,decide_eq_false h1];rfl
   rw [hb]
   refine stepR h2' ?_
   exact ⟨.refl _,Sd0,Sd0,Sd0,Sd0⟩
  have h2':¬ a≥20:=h2
  rw [decide_eq_false h1,decide_eq_false h2,Bool.false_or,Bool.false_or] at hbad
  refine stepR h2' ?_
  refine ml_loadN Sd0 Sd0 (row_of g1 hw.map_row) ?_
  refine stepR0 ?_
  refine ml_op Sd0 (o_load1q (off:=2) (v:=.int .i64 b) Sd0 g2 rfl) ?_
  refine ml_call Sd0 Sd0 (gopen_c s.W s.H s.S b τ) ?_
  rintro _ τ4 ⟨rfl,e4⟩
  have hop:(gr s.W s.H s.S && opn s.S b)=opnG s b:=rfl
  rw [hop]
  cases hgo:opnG s b
  ·have hb:bad=true:=by rw [hbad,hgo];rfl
   rw [hb]
   refine stepR0 ?_
   exact ⟨e4,Sd0,Sd0,Sd0,Sd0⟩
  rw [hgo,Bool.not_true,Bool.false_or] at hbad
  have g24:=e4.cells g2
  refine stepR0 ?_
  refine ml_loadN Sd0 Sd0 (row_of (e4.cells g1) hw.map_row) ?_
  refine stepR0 ?_
  refine ml_op Sd0 (o_load1q (off:=3) (v:=.int .i64 c) Sd0 g24 rfl) ?_
  refine ml_call Sd0 Sd0 (gopen_c s.W s.H s.S c τ4) ?_
  rintro _ τ5 ⟨rfl,e5⟩
  have hop2:(gr s.W s.H s.S && opn s.S c)=opnG s c:=rfl
  rw [hop2]
  have hb:bad=!opnG s c:=hbad
  rw [hb]
  cases hgo2:opnG s c
  ·refine stepR0 ?_
   exact ⟨e4.trans e5,Sd0,Sd0,Sd0,Sd0⟩
  ·refine stepR0 ?_
   exact ⟨e4.trans e5,Sd0,Sd0,Sd0,Sd0⟩
 rintro ts τ5 ⟨ee,t6,t2,t3,t4⟩
 cases hb:bad
 rotate_left
 ·have hsp:taskA s a b c=(s,1):=by rw [hspec,if_pos (hbp.1 hb)]
  rw [hsp]
  rw [hb] at t6
  refine stepR (An t6 t2) ?_
  refine ml_loadN Sd0 (Sw t2) (row_of (ee.cells g1) (rowAll hw.len)) ?_
  refine stepR t4 ?_
  refine ml_storeA (off:=0) (vs:=stC s) Sd0 (Sw t4) Sd0 (ee.cells g3) hw.len (by rw [zl_len];simp) (stC_one s) fun τ8 t8=>?_
  rw [spl_all (by rw [zl_len,hw.len])] at t8
  refine stepR t4 ?_
  refine finC1 (Sw t4) (row_of t8.self (rowAll hw.len)) ⟨?_,t8.ext (e.trans ee) (by omega)⟩
  rw [errV_of (by omega)]
  rfl
 rw [hb] at t6
 have hnb:¬ (a < 0∨20≤a∨opnG s b=false∨opnG s c=false):=fun h=>by have:=hbp.2 h;rw [hb] at this;cases this
 rw [if_neg hnb] at hspec
 obtain ⟨i,rfl⟩:=Int.eq_ofNat_of_zero_le (show 0≤a by omega)
 have hi:i < 20:=by omega
 have hi':((i:Nat):Int) < 20:=by omega
 simp only [Int.toNat_natCast] at hspec
 have g27:=ee.cells g2
 have g17:=ee.cells g1
 refine stepR (An t6 t3) ?_
 refine ml_op Sd0 (o_load1q (off:=1) (v:=.int .i64 ((i:Nat):Int)) Sd0 g27 rfl) ?_
 refine stepR (An t2 hi') ?_
 refine ml_op Sd0 (o_load1q (off:=152 + i) (Sw t2) g17 (hw.is_at hi)) ?_
 cases ho:s.i i
 rotate_left
 ·have hsp:taskA s ((i:Nat):Int) b c=(s,5):=by rw [hspec,if_pos ho]
  rw [hsp]
  refine stepR t2 ?_
  refine ml_loadN Sd0 (Sw t2) (row_of (ee.cells g1) (rowAll hw.len)) ?_
  refine stepR t4 ?_
  refine ml_storeA (off:=0) (vs:=stC s) Sd0 (Sw t4) Sd0 (ee.cells g3) hw.len (by rw [zl_len];simp) (stC_one s) fun τ8 t8=>?_
  rw [spl_all (by rw [zl_len,hw.len])] at t8
  refine stepR t4 ?_
  refine finC1 (Sw t4) (row_of t8.self (rowAll hw.len)) ⟨?_,t8.ext (e.trans ee) (by omega)⟩
  rw [errV_of (by omega)]
  rfl
 rw [if_neg (by rw [ho];simp)] at hspec
 rw [hspec]
 refine stepR t3 ?_
 refine mld_op Sd0 (o_load1q (off:=1) (v:=.int .i64 ((i:Nat):Int)) (Sw t3) g27 rfl) ?_
 refine stepR t3 ?_
 refine mld_op Sd0 (o_load1q (off:=1) (v:=.int .i64 ((i:Nat):Int)) (Sw t3) g27 rfl) ?_
 refine stepR t3 ?_
 refine mld_op Sd0 (o_load1q (off:=2) (v:=.int .i64 b) (Sw t3) g27 rfl) ?_
 refine stepR t3 ?_
 refine mld_op Sd0 (o_load1q (off:=3) (v:=.int .i64 c) (Sw t3) g27 rfl) ?_
 refine stepR (An t2 hi') ?_
 refine mld_storeL (off:=152 + i) (vs:=[.bool true]) Sd0 (Sw t2) Sd0 g17 rfl (by rw [hw.len];simp;omega) rfl ?_ fun τ8 t8=>?_
 ·intro m hm
  simp only [dI,pI,qI,iI,vI,sI,jI,uI,pendOf,List.takeWhile,bne_iff_ne,ne_eq,Nat.reduceBNe,pureM,List.filter,List.map,Bool.not_false,Bool.not_true,Bool.and_true,Bool.and_false,Bool.true_and,Bool.false_and,List.mem_cons,List.not_mem_nil,or_false] at hm
  rcases hm with rfl | rfl | rfl | rfl
  ·exact ⟨_,.inl rfl,ne_of_ptr (j:=i2) (o:=1) (Sw t3) (by omega)⟩
  ·exact ⟨_,.inl rfl,ne_of_ptr (j:=i2) (o:=1) (Sw t3) (by omega)⟩
  ·exact ⟨_,.inl rfl,ne_of_ptr (j:=i2) (o:=2) (Sw t3) (by omega)⟩
  ·exact ⟨_,.inl rfl,ne_of_ptr (j:=i2) (o:=3) (Sw t3) (by omega)⟩
 rw [hw.is_spl hi rfl] at t8
 have hw8:St.WF { s with is:=s.is.set i true }:=⟨hw.off,hw.byte,hw.rob,hw.on,hw.tsk,by simpa using hw.is⟩
 refine stepR (An t2 hi') ?_
 refine mld_op Sd0 (o_store (off:=92 + i * 3) (vs:=tskC ⟨b,c,0⟩) (Sw t2) Sd0 t8.self rfl (by rw [hw8.len];omega) rfl) ?_
 have t9:=SetTo.mk' (o:=.cells 0 (spl (stC { s with is:=s.is.set i true }) (92 + i * 3) (tskC ⟨b,c,0⟩))) (H.lt_of_cells t8.self)
 generalize τ8.set i1 _=τ9 at *
 rw [hw8.tsk_spl (n:=92 + i * 3) (t:=⟨b,c,0⟩) (j:=0) hi (by rw [tskC_len];omega) (by omega) (by rw [spl_all (by rw [tskC_len,tskC_len])])] at t9
 have hw9:St.WF { s with tsk:=s.tsk.set i ⟨b,c,0⟩,is:=s.is.set i true }:=hw8.setT i _
 have g9:=t9.self
 have g39:=t9.cells (t8.cells (ee.cells g3) (by omega)) (by omega)
 have e9:=t9.ext (t8.ext (e.trans ee) (by omega)) (by omega)
 refine stepR t2 ?_
 refine ml_loadN Sd0 (Sw t2) (row_of g9 (rowAll hw9.len)) ?_
 refine stepR t4 ?_
 refine ml_storeA (off:=0) (vs:=stC { s with tsk:=s.tsk.set i ⟨b,c,0⟩,is:=s.is.set i true }) Sd0 (Sw t4) Sd0 g39 hw9.len (by rw [zl_len];simp) (stC_one _) fun τ10 t10=>?_
 rw [spl_all (by rw [zl_len,hw9.len])] at t10
 refine stepR t4 ?_
 refine finC1 (Sw t4) (row_of t10.self (rowAll hw9.len)) ⟨?_,t10.ext e9 (by omega)⟩
 rw [errV0]
 rfl
end Go.Proofs.YtoejdgoicoaomaaGreatDoor
namespace Go.Proofs.YtoejdgoicoaomaaGreatDoor
open Go.Mini
open Go.Proofs.YtoejdgoicoaomaaGreatDoor.Code
attribute [local irreducible] mx ml mld mstep MCalls Ex.thn Ex.inb
variable {E:World→Prop}
theorem set_good {r:Rob} {b:Int} (hr:robOK r=true) (h0:0≤b) (h2:b≤200):setA r.charge r.moved r.gained r.adj b=some (b,r.moved,r.gained,r.adj + (b - r.charge)):=by
 unfold setA
 obtain ⟨_,h3,_,_,h4,h5,h6⟩:=robOK_iff.1 hr
 rw [if_pos]
 simp only [Bool.and_eq_true,accOK_iff,inB_iff,great]
 refine ⟨⟨⟨by omega,by omega,by omega,by omega⟩,by omega⟩,by omega,by omega,by omega,by omega⟩
set_option maxRecDepth 100000 in
set_option maxHeartbeats 16000000 in
theorem mTell_c (s:St) (hw:s.WF) (hrok:∀ i,i < 10→s.o i=true→robOK (s.r i)=true) (nm:ByteArray) (a b c:Int) (σ:H):MCalls E Tryz.prog 54 [stV s,actW nm a b c] σ (fun v τ=>StE σ (tellA s a b).1 (tellA s a b).2 v τ):=by
 refine mcalls_of fn54 (by simp) ?_
 unfold c54 r54 stV actW
 have g1:=H.get_push_self σ (.cells 0 (stC s))
 have e1:=Ext.push σ (.cells 0 (stC s))
 refine mx_seq (mx_ops (ml_op Sd0 (o_box Sd0) ?_))
 have hl1:=H.lt_of_cells g1
 generalize σ.push (.cells 0 (stC s))=τa at *
 refine ml_op Sd0 (o_box (cs:=actC nm a b c) Sd0) ?_
 have g2:=H.get_push_self τa (.cells 0 (actC nm a b c))
 have e2:=Ext.push τa (.cells 0 (actC nm a b c))
 have g1:=e2.cells g1
 have hl2:=H.lt_of_cells g2
 generalize τa.push (.cells 0 (actC nm a b c))=τb at *
 refine stepR0 ?_
 have g3:=H.get_push_self τb (.cells 0 zl0)
 have e3:=Ext.push τb (.cells 0 zl0)
 have g1:=e3.cells g1
 have g2:=e3.cells g2
 generalize τb.push (.cells 0 zl0)=τ at *
 generalize hi1:σ.size=i1 at *
 generalize hi2:τa.size=i2 at *
 generalize hi3:τb.size=i3 at *
 have e:Ext σ τ:=(e1.trans e2).trans e3
 clear e1 e2 e3
 have ge:∀ {τ':H} {ts:Fr} {n:Int} {ev:Value},Ext τ τ'→SetTo τ' i3 (.cells 0 (stC s)) τ'∨True:=fun _=>.inr trivial
 have hspec:tellA s a b=if a < 0∨10≤a∨b < 0∨200 < b then (s,1) else if s.o a.toNat=false then (s,4) else (s.setR a.toNat ((setR (s.r a.toNat) b).getD (s.r a.toNat)),0):=rfl
 obtain ⟨bad,hbad⟩:∃ bad:Bool,bad=(decide (a < 0) || (decide (10≤a) || (decide (b < 0) || decide (200 < b)))):=⟨_,rfl⟩
 have hbp:bad=true↔(a < 0∨10≤a∨b < 0∨200 < b):=by rw [hbad];simp [Bool.or_eq_true]
 unfold StE
 refine ml_op Sd0 (o_load1q (off:=1) (v:=.int .i64 a) Sd0 g2 rfl) ?_
 refine ml_mid (fun ts' τ'=>Ext τ τ'∧ts' 8=.bool bad∧ts' 2=.pointer (some ⟨i1,0,none⟩)∧ts' 3=.pointer (some ⟨i2,0,none⟩)∧ts' 4=.pointer (some ⟨i3,0,none⟩)) ?_ ?_
 ·by_cases h1:a < 0
  ·have hb:bad=true:=by rw [hbad,decide_eq_true h1];rfl
   rw [hb]
   refine stepR h1 ?_
   exact ⟨.refl _,Sd0,Sd0,Sd0,Sd0⟩
  refine stepR h1 ?_
  refine ml_op Sd0 (o_load1q (off:=1) (v:=.int .i64 a) Sd0 g2 rfl) ?_
  by_cases h2:10≤a
  ·have h2':a≥10:=h2
   have hb:bad=true:=by rw [hbad,decide_eq_true h2,decide_eq_false h1];rfl
   rw [hb]
   refine stepR h2' ?_
   exact ⟨.refl _,Sd0,Sd0,Sd0,Sd0⟩
  have h2':¬ a≥10:=h2
  rw [decide_eq_false h1,decide_eq_false h2,Bool.false_or,Bool.false_or] at hbad
  refine stepR h2' ?_
  refine ml_op Sd0 (o_load1q (off:=2) (v:=.int .i64 b) Sd0 g2 rfl) ?_
  by_cases h3:b < 0
  ·have hb:bad=true:=by rw [hbad,decide_eq_true h3];rfl
   rw [hb]
   refine stepR h3 ?_
   exact ⟨.refl _,Sd0,Sd0,Sd0,Sd0⟩
  rw [decide_eq_false h3,Bool.false_or] at hbad
  refine stepR h3 ?_
  refine ml_op Sd0 (o_load1q (off:=2) (v:=.int .i64 b) Sd0 g2 rfl) ?_
  by_cases h4:200 < b
  ·have h4':b > 200:=h4
   have hb:bad=true:=by rw [hbad,decide_eq_true h4]
   rw [hb]
   refine stepR h4' ?_
   exact ⟨.refl _,Sd0,Sd0,Sd0,Sd0⟩
  ·have h4':¬ b > 200:=h4
   have hb:bad=false:=by rw [hbad,decide_eq_false h4]
   rw [hb]
   refine stepR h4' ?_
   exact ⟨.refl _,Sd0,Sd0,Sd0,Sd0⟩
 rintro ts τ5 ⟨ee,t6,t2,t3,t4⟩
 cases hb:bad
 rotate_left
 ·have hsp:tellA s a b=(s,1):=by rw [hspec,if_pos (hbp.1 hb)]
  rw [hsp]
  rw [hb] at t6
  refine stepR (An t6 t2) ?_
  refine ml_loadN Sd0 (Sw t2) (row_of (ee.cells g1) (rowAll hw.len)) ?_
  refine stepR t4 ?_
  refine ml_storeA (off:=0) (vs:=stC s) Sd0 (Sw t4) Sd0 (ee.cells g3) hw.len (by rw [zl_len];simp) (stC_one s) fun τ8 t8=>?_
  rw [spl_all (by rw [zl_len,hw.len])] at t8
  refine stepR t4 ?_
  refine finC1 (Sw t4) (row_of t8.self (rowAll hw.len)) ⟨?_,t8.ext (e.trans ee) (by omega)⟩
  rw [errV_of (by omega)]
  rfl
 rw [hb] at t6
 have hnb:¬ (a < 0∨10≤a∨b < 0∨200 < b):=fun h=>by have:=hbp.2 h;rw [hb] at this;cases this
 rw [if_neg hnb] at hspec
 obtain ⟨i,rfl⟩:=Int.eq_ofNat_of_zero_le (show 0≤a by omega)
 have hi:i < 10:=by omega
 have hi':((i:Nat):Int) < 10:=by omega
 simp only [Int.toNat_natCast] at hspec
 have g25:=ee.cells g2
 have g15:=ee.cells g1
 refine stepR (An t6 t3) ?_
 refine ml_op Sd0 (o_load1q (off:=1) (v:=.int .i64 ((i:Nat):Int)) Sd0 g25 rfl) ?_
 refine stepR (An t2 hi') ?_
 refine ml_op Sd0 (o_load1q (off:=82 + i) (Sw t2) g15 (hw.on_at hi)) ?_
 cases ho:s.o i
 ·have hsp:tellA s ((i:Nat):Int) b=(s,4):=by rw [hspec,if_pos ho]
  rw [hsp]
  refine stepR t2 ?_
  refine ml_loadN Sd0 (Sw t2) (row_of (ee.cells g1) (rowAll hw.len)) ?_
  refine stepR t4 ?_
  refine ml_storeA (off:=0) (vs:=stC s) Sd0 (Sw t4) Sd0 (ee.cells g3) hw.len (by rw [zl_len];simp) (stC_one s) fun τ8 t8=>?_
  rw [spl_all (by rw [zl_len,hw.len])] at t8
  refine stepR t4 ?_
  refine finC1 (Sw t4) (row_of t8.self (rowAll hw.len)) ⟨?_,t8.ext (e.trans ee) (by omega)⟩
  rw [errV_of (by omega)]
  rfl
 rw [if_neg (by rw [ho];simp)] at hspec
 have hro:=hrok i hi ho
 rw [setR_good hro (by omega) (by omega),Option.getD_some] at hspec
 rw [hspec]
 refine stepR t3 ?_
 refine mld_op Sd0 (o_load1q (off:=1) (v:=.int .i64 ((i:Nat):Int)) (Sw t3) g25 rfl) ?_
 refine stepR (An t2 hi') ?_
 refine mld_loadN (off:=12 + i * 7) Sd0 (Sw t2) (row_of g15 (hw.rob_row hi rfl)) ?_
 refine stepR t3 ?_
 refine mld_op Sd0 (o_load1q (off:=2) (v:=.int .i64 b) (Sw t3) g25 rfl) ?_
 refine mld_call Sd0 Sd0 (mAccount_c (s.r i) τ5) (fun _ _ h=>h.2) ?_
 rintro _ τ6 ⟨rfl,e6⟩
 refine stepR0 ?_
 refine mld_callW Sd0 Sd0 (vSet_c (s.r i).charge (s.r i).moved (s.r i).gained (s.r i).adj b τ6) ?_
 rintro av τ7 ⟨ha,e7⟩
 rw [set_good hro (by omega) (by omega)] at ha
 have ha:av=.tuple #[accV b (s.r i).moved (s.r i).gained ((s.r i).adj + (b - (s.r i).charge)),.nilIface]:=ha
 subst ha
 have ee7:=(ee.trans e6).trans e7
 refine stepR0 ?_
 have g8:=H.get_push_self τ7 (.cells 0 [.int .i64 0,.int .i64 0,.int .i64 0,.int .i64 0])
 have e8:=Ext.push τ7 (.cells 0 [.int .i64 0,.int .i64 0,.int .i64 0,.int .i64 0])
 refine mld_op Sd0 (o_store (off:=0) (vs:=[.int .i64 b,.int .i64 (s.r i).moved,.int .i64 (s.r i).gained,.int .i64 ((s.r i).adj + (b - (s.r i).charge))]) Sd0 Sd0 g8 rfl (by simp) rfl) ?_
 have t8:=SetTo.mk' (o:=.cells 0 (spl [.int .i64 0,.int .i64 0,.int .i64 0,.int .i64 0] 0 [.int .i64 b,.int .i64 (s.r i).moved,.int .i64 (s.r i).gained,.int .i64 ((s.r i).adj + (b - (s.r i).charge))])) (H.lt_of_cells g8)
 have e78:=t8.ext e8 (Nat.le_refl _)
 generalize H.set _ τ7.size _=τ8 at *
 have g88:τ8.get τ7.size=.cells 0 [.int .i64 b,.int .i64 (s.r i).moved,.int .i64 (s.r i).gained,.int .i64 ((s.r i).adj + (b - (s.r i).charge))]:=t8.self
 have g18:=e78.cells (e7.cells (e6.cells g15))
 have g28:=e78.cells (e7.cells (e6.cells g25))
 have ee8:=ee7.trans e78
 refine stepR t3 ?_
 refine mld_op Sd0 (o_load1q (off:=1) (v:=.int .i64 ((i:Nat):Int)) (Sw t3) g28 rfl) ?_
 refine stepR t3 ?_
 refine mld_op Sd0 (o_load1q (off:=1) (v:=.int .i64 ((i:Nat):Int)) (Sw t3) g28 rfl) ?_
 refine stepR (An t2 hi') ?_
 refine mld_loadN (off:=12 + i * 7) Sd0 (Sw t2) (row_of g18 (hw.rob_row hi rfl)) ?_
 refine stepR0 ?_
 refine mld_loadN Sd0 Sd0 (row_of g88 (rowAll rfl)) ?_
 refine stepR t2 ?_
 refine mld_call Sd0 Sd0 (mWith_c (s.r i) b (s.r i).moved (s.r i).gained ((s.r i).adj + (b - (s.r i).charge)) τ8) (fun _ _ h=>h.2) ?_
 rintro _ τ9 ⟨rfl,e9⟩
 have g19:=e9.cells g18
 refine stepR (An t2 hi') ?_
 generalize hr9:({ s.r i with charge:=b,adj:=(s.r i).adj + (b - (s.r i).charge) }:Rob)=r9 at *
 refine mld_op Sd0 (o_store (off:=12 + i * 7) (vs:=robC r9) (Sw t2) (by rw [← hr9];exact Sd0) g19 rfl (by rw [hw.len];omega) rfl) ?_
 have t10:=SetTo.mk' (o:=.cells 0 (spl (stC s) (12 + i * 7) (robC r9))) (H.lt_of_cells g19)
 generalize τ9.set i1 _=τ10 at *
 rw [hw.rob_spl (n:=12 + i * 7) (r:=r9) (j:=0) hi (by rw [robC_len];omega) (by omega) (by rw [spl_all (by rw [robC_len,robC_len])])] at t10
 have t10:SetTo τ9 i1 (.cells 0 (stC (s.setR i r9))) τ10:=t10
 have hw10:=hw.sR i r9
 have g1x:=t10.self
 have g3x:=t10.cells (e9.cells (ee8.cells g3)) (by omega)
 have ex:=t10.ext (e.trans (ee8.trans e9)) (by omega)
 refine stepR t2 ?_
 refine ml_loadN Sd0 (Sw t2) (row_of g1x (rowAll hw10.len)) ?_
 refine stepR t4 ?_
 refine ml_storeA (off:=0) (vs:=stC (s.setR i r9)) Sd0 (Sw t4) Sd0 g3x hw10.len (by rw [zl_len];simp) (stC_one _) fun τ11 t11=>?_
 rw [spl_all (by rw [zl_len,hw10.len])] at t11
 refine stepR t4 ?_
 refine finC1 (Sw t4) (row_of t11.self (rowAll hw10.len)) ⟨?_,t11.ext ex (by omega)⟩
 rw [errV0]
 rfl
end Go.Proofs.YtoejdgoicoaomaaGreatDoor
namespace Go.Proofs.YtoejdgoicoaomaaGreatDoor
open Go.Mini
open Go.Proofs.YtoejdgoicoaomaaGreatDoor.Code
attribute [local irreducible] mx ml mld mstep MCalls Ex.thn Ex.inb
variable {E:World→Prop}
def nmRobot:ByteArray:=⟨#[114,111,98,111,116]⟩
def nmTask:ByteArray:=⟨#[116,97,115,107]⟩
def nmTell:ByteArray:=⟨#[116,101,108,108]⟩
def nmOff:ByteArray:=⟨#[111,102,102]⟩
def nmOn:ByteArray:=⟨#[111,110]⟩
def nmTick:ByteArray:=⟨#[116,105,99,107]⟩
def kindN (nm:ByteArray):Nat:=if nm=nmRobot then 1 else if nm=nmTask then 2 else if nm=nmTell then 5 else if nm=nmOff then 3 else if nm=nmOn then 4 else if nm=nmTick then 6 else 0
def StCE (σ:H) (s:St) (l:List (Int × Int)) (n:Int) (v:Value) (τ:H):Prop:=∃ cv oid,v=.tuple #[stV s,cv,errV n]∧Ext σ τ∧Own τ 2 cv oid (dues l)∧∀ j,oid=some j→σ.size≤j
theorem fin31 {i j k n id off:Nat} {ts:Fr} {σ:Go.Mini.H} {vs:List Value} {R:Value→Go.Mini.H→Prop} (hi:ts i=.pointer (some ⟨id,off,none⟩)) (hr:σ.row id off n=some vs) (h:R (.tuple #[.agg vs.toArray,ts j,ts k]) σ):mpost [.cell i n true,.t j,.t k] R .ret ts σ:=
 ⟨[.agg vs.toArray,ts j,ts k],by simp only [rvVals,rvVal,hi,if_true,hr,Option.map_some],h⟩
theorem str_eq (x y:ByteArray):(x.toList == y.toList)=decide (x=y):=by
 by_cases h:x=y
 ·subst h;simp
 ·rw [decide_eq_false h,beq_eq_false_iff_ne]
  intro e
  rw [toList_data,toList_data] at e
  apply h
  obtain ⟨⟨a⟩⟩:=x
  obtain ⟨⟨b⟩⟩:=y
  simp only at e
  rw [e]
theorem robotA_wf {s:St} (hw:s.WF) (a b c:Int):(robotA s a b c).1.WF:=by
 unfold robotA
 split
 ·exact hw
 ·split
  ·exact hw
  ·split
   ·exact hw
   ·exact ⟨hw.off,hw.byte,by simpa [St.setR] using hw.rob,by simpa using hw.on,hw.tsk,hw.is⟩
theorem taskA_wf {s:St} (hw:s.WF) (a b c:Int):(taskA s a b c).1.WF:=by
 unfold taskA
 split
 ·exact hw
 ·split
  ·exact hw
  ·exact ⟨hw.off,hw.byte,hw.rob,hw.on,by simpa [St.setT] using hw.tsk,by simpa using hw.is⟩
theorem tellA_wf {s:St} (hw:s.WF) (a b:Int):(tellA s a b).1.WF:=by
 unfold tellA
 split
 ·exact hw
 ·split
  ·exact hw
  ·exact hw.sR _ _
set_option maxRecDepth 100000 in
set_option maxHeartbeats 16000000 in
theorem mMade_c (s:St) (h:Rt s) (nm:ByteArray) (a b c:Int) (σ:H):MCalls E Tryz.prog 35 [stV s,actW nm a b c] σ (fun v τ=>StCE σ (madeS s (kindN nm) a b c).1 (madeS s (kindN nm) a b c).2.1 (madeS s (kindN nm) a b c).2.2 v τ):=by
 have hw:=h.inv.wf
 refine mcalls_of fn35 (by simp) ?_
 unfold c35 r35 stV actW
 have g1:=H.get_push_self σ (.cells 0 (stC s))
 have e1:=Ext.push σ (.cells 0 (stC s))
 refine mx_seq (mx_ops (ml_op Sd0 (o_box Sd0) ?_))
 have hl1:=H.lt_of_cells g1
 generalize σ.push (.cells 0 (stC s))=τa at *
 refine ml_op Sd0 (o_box (cs:=actC nm a b c) Sd0) ?_
 have g2:=H.get_push_self τa (.cells 0 (actC nm a b c))
 have e2:=Ext.push τa (.cells 0 (actC nm a b c))
 have g1:=e2.cells g1
 have hl2:=H.lt_of_cells g2
 generalize τa.push (.cells 0 (actC nm a b c))=τb at *
 refine stepR0 ?_
 have g3:=H.get_push_self τb (.cells 0 zl0)
 have e3:=Ext.push τb (.cells 0 zl0)
 have g1:=e3.cells g1
 have g2:=e3.cells g2
 generalize τb.push (.cells 0 zl0)=τ at *
 generalize hi1:σ.size=i1 at *
 generalize hi2:τa.size=i2 at *
 generalize hi3:τb.size=i3 at *
 have e:Ext σ τ:=(e1.trans e2).trans e3
 clear e1 e2 e3
 refine ml_op Sd0 (o_load1q (off:=0) (v:=.string nm) Sd0 g2 rfl) ?_
 have mk:∀ {τ':H} {s':St} {n:Int},True:=fun {_ _ _}=>trivial
 refine ml_cut (fun ts' τ'=>∃ s' n,madeS s (kindN nm) a b c=(s',[],n)∧s'.WF∧Ext σ τ'∧τ'.get i1=.cells 0 (stC s')∧τ'.get i3=.cells 0 zl0∧ts' 2=.pointer (some ⟨i1,0,none⟩)∧ts' 4=.pointer (some ⟨i3,0,none⟩)∧ts' 7=errV n) ?_ ?_
 rotate_left
 ·rintro ts' τ' ⟨s',n,hm,hw',e',h1,h3,t2,t4,t7⟩
  rw [hm]
  refine stepR (An t2 t7) ?_
  refine ml_loadN Sd0 (Sw t2) (row_of h1 (rowAll hw'.len)) ?_
  refine stepR (An t4 t7) ?_
  refine ml_storeA (off:=0) (vs:=stC s') Sd0 (Sw t4) Sd0 h3 hw'.len (by rw [zl_len];simp) (stC_one _) fun τ11 t11=>?_
  rw [spl_all (by rw [zl_len,hw'.len])] at t11
  refine stepR t4 ?_
  refine fin31 (Sw t4) (row_of t11.self (rowAll hw'.len)) ⟨.slice none 0 0,none,?_,t11.ext e' (by omega),.nil,fun j hj=>nomatch hj⟩
  rfl
 by_cases n1:nm=nmRobot
 ·have q1:(nm.toList == (⟨#[114,111,98,111,116]⟩:ByteArray).toList)=true:=by rw [str_eq];exact decide_eq_true n1
  have hk:kindN nm=1:=by unfold kindN;rw [if_pos n1]
  have hm:madeS s 1 a b c=((robotA s a b c).1,[],(robotA s a b c).2):=by unfold madeS;rw [if_pos rfl]
  rw [hk]
  refine stepR q1 ?_
  refine ml_loadN Sd0 Sd0 (row_of g1 (rowAll hw.len)) ?_
  refine stepR0 ?_
  refine ml_loadN Sd0 Sd0 (row_of g2 (rowAll rfl)) ?_
  refine ml_call Sd0 (by unfold stV actW;exact Sd0) (mRobot_c s hw nm a b c τ) ?_
  rintro _ τ5 ⟨rfl,e5⟩
  have hwr:=robotA_wf hw a b c
  refine stepR0 ?_
  refine ml_storeA (off:=0) (vs:=stC (robotA s a b c).1) Sd0 Sd0 Sd0 (e5.cells g1) hwr.len (by rw [hw.len];simp) (stC_one _) fun τ6 t6=>?_
  rw [spl_all (by rw [hw.len,hwr.len])] at t6
  refine stepR0 ?_
  exact ⟨_,_,hm,hwr,t6.ext (e.trans e5) (by omega),t6.self,t6.cells (e5.cells g3) (by omega),Sd0,Sd0,Sd0⟩
 have q1:(nm.toList == (⟨#[114,111,98,111,116]⟩:ByteArray).toList)=false:=by rw [str_eq];exact decide_eq_false n1
 by_cases n2:nm=nmTask
 ·have q2:(nm.toList == (⟨#[116,97,115,107]⟩:ByteArray).toList)=true:=by rw [str_eq];exact decide_eq_true n2
  have hk:kindN nm=2:=by unfold kindN;rw [if_neg n1,if_pos n2]
  have hm:madeS s 2 a b c=((taskA s a b c).1,[],(taskA s a b c).2):=by unfold madeS;rw [if_neg (by decide),if_pos rfl]
  rw [hk]
  refine stepR (An q1 q2) ?_
  refine ml_loadN Sd0 Sd0 (row_of g1 (rowAll hw.len)) ?_
  refine stepR0 ?_
  refine ml_loadN Sd0 Sd0 (row_of g2 (rowAll rfl)) ?_
  refine ml_call Sd0 (by unfold stV actW;exact Sd0) (mTask_c s hw nm a b c τ) ?_
  rintro _ τ5 ⟨rfl,e5⟩
  have hwr:=taskA_wf hw a b c
  refine stepR0 ?_
  refine ml_storeA (off:=0) (vs:=stC (taskA s a b c).1) Sd0 Sd0 Sd0 (e5.cells g1) hwr.len (by rw [hw.len];simp) (stC_one _) fun τ6 t6=>?_
  rw [spl_all (by rw [hw.len,hwr.len])] at t6
  refine stepR0 ?_
  exact ⟨_,_,hm,hwr,t6.ext (e.trans e5) (by omega),t6.self,t6.cells (e5.cells g3) (by omega),Sd0,Sd0,Sd0⟩
 have q2:(nm.toList == (⟨#[116,97,115,107]⟩:ByteArray).toList)=false:=by rw [str_eq];exact decide_eq_false n2
 by_cases n5:nm=nmTell
 ·have q5:(nm.toList == (⟨#[116,101,108,108]⟩:ByteArray).toList)=true:=by rw [str_eq];exact decide_eq_true n5
  have hk:kindN nm=5:=by unfold kindN;rw [if_neg n1,if_neg n2,if_pos n5]
  have hm:madeS s 5 a b c=((tellA s a b).1,[],(tellA s a b).2):=by unfold madeS;rw [if_neg (by decide),if_neg (by decide),if_pos rfl]
  rw [hk]
  refine stepR (An q1 (An q2 q5)) ?_
  refine ml_loadN Sd0 Sd0 (row_of g1 (rowAll hw.len)) ?_
  refine stepR0 ?_
  refine ml_loadN Sd0 Sd0 (row_of g2 (rowAll rfl)) ?_
  refine ml_call Sd0 (by unfold stV actW;exact Sd0) (mTell_c s hw (fun i hi o=>h.robOK hi o) nm a b c τ) ?_
  rintro _ τ5 ⟨rfl,e5⟩
  have hwr:=tellA_wf hw a b
  refine stepR0 ?_
  refine ml_storeA (off:=0) (vs:=stC (tellA s a b).1) Sd0 Sd0 Sd0 (e5.cells g1) hwr.len (by rw [hw.len];simp) (stC_one _) fun τ6 t6=>?_
  rw [spl_all (by rw [hw.len,hwr.len])] at t6
  refine stepR0 ?_
  exact ⟨_,_,hm,hwr,t6.ext (e.trans e5) (by omega),t6.self,t6.cells (e5.cells g3) (by omega),Sd0,Sd0,Sd0⟩
 have q5:(nm.toList == (⟨#[116,101,108,108]⟩:ByteArray).toList)=false:=by rw [str_eq];exact decide_eq_false n5
 have hS:=gr_size h.inv.g
 by_cases q3n:nm=nmOff
 ·have q3:(nm.toList == (⟨#[111,102,102]⟩:ByteArray).toList)=true:=by rw [str_eq];exact decide_eq_true q3n
  have hk:kindN nm=3:=by unfold kindN;rw [if_neg n1,if_neg n2,if_neg n5,if_pos q3n]
  have hm:madeS s 3 a b c=if isChg s b=true then ({ s with off:=turn s.off b true },[],0) else (s,[],1):=by
   unfold madeS;rw [if_neg (by decide),if_neg (by decide),if_neg (by decide),if_pos (by decide)];rfl
  rw [hk]
  refine stepR (An q1 (An q2 (An q5 q3))) ?_
  refine mld_loadN Sd0 Sd0 (row_of g1 hw.map_row) ?_
  refine stepR0 ?_
  refine mld_op Sd0 (o_load1q (off:=2) (v:=.int .i64 b) Sd0 g2 rfl) ?_
  refine mld_call Sd0 Sd0 (gkind_c s.W s.H s.S 67 τ) (fun _ _ h=>h.1) ?_
  rintro kv τ5 ⟨e5,ko,kown,_⟩
  refine stepR0 ?_
  refine mld_callW Sd0 Sd0 (contains_c kown.rd (Nat.le_trans (gkind_le _ _ _) (by omega)) b) ?_
  rintro _ τ6 ⟨rfl,rfl⟩
  have hic:decide (b ∈ gkind s.S 67 (gr s.W s.H s.S))=isChg s b:=rfl
  rw [hic]
  have ee:=e.trans e5
  have g15:=e5.cells g1
  have g25:=e5.cells g2
  have g35:=e5.cells g3
  cases hc:isChg s b
  ·rw [hc,if_neg (by simp)] at hm
   rw [hm]
   refine stepR0 ?_
   refine ml_loadN Sd0 Sd0 (row_of g15 (rowAll hw.len)) ?_
   refine stepR0 ?_
   refine ml_storeA (off:=0) (vs:=stC s) Sd0 Sd0 Sd0 g35 hw.len (by rw [zl_len];simp) (stC_one _) fun τ11 t11=>?_
   rw [spl_all (by rw [zl_len,hw.len])] at t11
   refine stepR0 ?_
   refine fin31 Sd0 (row_of t11.self (rowAll hw.len)) ⟨.slice none 0 0,none,?_,t11.ext ee (by omega),.nil,fun j hj=>nomatch hj⟩
   rfl
  ·rw [hc,if_pos rfl] at hm
   have hto:(turn s.off b true).length=8:=by rw [turn_len];exact hw.off
   have hw':St.WF { s with off:=turn s.off b true }:=⟨hto,turn_lt hw.byte _ _,hw.rob,hw.on,hw.tsk,hw.is⟩
   refine stepR0 ?_
   refine ml_loadN (off:=4) Sd0 Sd0 (row_of g15 hw.off_row) ?_
   refine stepR0 ?_
   refine ml_op Sd0 (o_load1q (off:=2) (v:=.int .i64 b) Sd0 g25 rfl) ?_
   refine stepR0 ?_
   refine ml_call Sd0 Sd0 (turn_c hw.off hw.byte b true) ?_
   rintro _ τ7 ⟨rfl,e7⟩
   refine stepR0 ?_
   refine ml_storeA (off:=4) (vs:=u8C (turn s.off b true)) Sd0 Sd0 (by unfold offV;exact Sd0) (e7.cells g15) (by simp [u8C,hto]) (by rw [hw.len];omega) (by rw [u8C,List.all_map,List.all_eq_true];intro _ _;rfl) fun τ8 t8=>?_
   rw [hw.off_spl hto] at t8
   refine stepR0 ?_
   exact ⟨_,_,hm,hw',t8.ext (ee.trans e7) (by omega),t8.self,t8.cells (e7.cells g35) (by omega),Sd0,Sd0,Sd0⟩
 have q3:(nm.toList == (⟨#[111,102,102]⟩:ByteArray).toList)=false:=by rw [str_eq];exact decide_eq_false q3n
 by_cases q4n:nm=nmOn
 ·have q4:(nm.toList == (⟨#[111,110]⟩:ByteArray).toList)=true:=by rw [str_eq];exact decide_eq_true q4n
  have hk:kindN nm=4:=by unfold kindN;rw [if_neg n1,if_neg n2,if_neg n5,if_neg q3n,if_pos q4n]
  have hm:madeS s 4 a b c=if isChg s b=true then ({ s with off:=turn s.off b false },[],0) else (s,[],1):=by
   unfold madeS;rw [if_neg (by decide),if_neg (by decide),if_neg (by decide),if_pos (by decide)];rfl
  rw [hk]
  refine stepR (An q1 (An q2 (An q5 (An q3 q4)))) ?_
  refine mld_loadN Sd0 Sd0 (row_of g1 hw.map_row) ?_
  refine stepR0 ?_
  refine mld_op Sd0 (o_load1q (off:=2) (v:=.int .i64 b) Sd0 g2 rfl) ?_
  refine mld_call Sd0 Sd0 (gkind_c s.W s.H s.S 67 τ) (fun _ _ h=>h.1) ?_
  rintro kv τ5 ⟨e5,ko,kown,_⟩
  refine stepR0 ?_
  refine mld_callW Sd0 Sd0 (contains_c kown.rd (Nat.le_trans (gkind_le _ _ _) (by omega)) b) ?_
  rintro _ τ6 ⟨rfl,rfl⟩
  have hic:decide (b ∈ gkind s.S 67 (gr s.W s.H s.S))=isChg s b:=rfl
  rw [hic]
  have ee:=e.trans e5
  have g15:=e5.cells g1
  have g25:=e5.cells g2
  have g35:=e5.cells g3
  cases hc:isChg s b
  ·rw [hc,if_neg (by simp)] at hm
   rw [hm]
   refine stepR0 ?_
   refine ml_loadN Sd0 Sd0 (row_of g15 (rowAll hw.len)) ?_
   refine stepR0 ?_
   refine ml_storeA (off:=0) (vs:=stC s) Sd0 Sd0 Sd0 g35 hw.len (by rw [zl_len];simp) (stC_one _) fun τ11 t11=>?_
   rw [spl_all (by rw [zl_len,hw.len])] at t11
   refine stepR0 ?_
   refine fin31 Sd0 (row_of t11.self (rowAll hw.len)) ⟨.slice none 0 0,none,?_,t11.ext ee (by omega),.nil,fun j hj=>nomatch hj⟩
   rfl
  ·rw [hc,if_pos rfl] at hm
   have hto:(turn s.off b false).length=8:=by rw [turn_len];exact hw.off
   have hw':St.WF { s with off:=turn s.off b false }:=⟨hto,turn_lt hw.byte _ _,hw.rob,hw.on,hw.tsk,hw.is⟩
   refine stepR0 ?_
   refine ml_loadN (off:=4) Sd0 Sd0 (row_of g15 hw.off_row) ?_
   refine stepR0 ?_
   refine ml_op Sd0 (o_load1q (off:=2) (v:=.int .i64 b) Sd0 g25 rfl) ?_
   refine stepR0 ?_
   refine ml_call Sd0 Sd0 (turn_c hw.off hw.byte b false) ?_
   rintro _ τ7 ⟨rfl,e7⟩
   refine stepR0 ?_
   refine ml_storeA (off:=4) (vs:=u8C (turn s.off b false)) Sd0 Sd0 (by unfold offV;exact Sd0) (e7.cells g15) (by simp [u8C,hto]) (by rw [hw.len];omega) (by rw [u8C,List.all_map,List.all_eq_true];intro _ _;rfl) fun τ8 t8=>?_
   rw [hw.off_spl hto] at t8
   refine stepR0 ?_
   exact ⟨_,_,hm,hw',t8.ext (ee.trans e7) (by omega),t8.self,t8.cells (e7.cells g35) (by omega),Sd0,Sd0,Sd0⟩
 have q4:(nm.toList == (⟨#[111,110]⟩:ByteArray).toList)=false:=by rw [str_eq];exact decide_eq_false q4n
 by_cases n6:nm=nmTick
 ·have q6:(nm.toList == (⟨#[116,105,99,107]⟩:ByteArray).toList)=true:=by rw [str_eq];exact decide_eq_true n6
  have hk:kindN nm=6:=by unfold kindN;rw [if_neg n1,if_neg n2,if_neg n5,if_neg q3n,if_neg q4n,if_pos n6]
  have hm:madeS s 6 a b c=(tickS s,cmdsL (tickS s) 10,0):=by unfold madeS;rw [if_neg (by decide),if_neg (by decide),if_neg (by decide),if_neg (by decide),if_pos rfl]
  rw [hk,hm]
  have hwt:=(tick_inv h.inv h.dist).inv.wf
  refine stepR (An q1 (An q2 (An q5 (An q3 (An q4 q6))))) ?_
  refine ml_loadN Sd0 Sd0 (row_of g1 (rowAll hw.len)) ?_
  refine ml_call Sd0 (by unfold stV;exact Sd0) (mTick_c s h.inv (recd_iff.1 h.rcd).1 τ) ?_
  rintro _ τ5 ⟨cv,rfl,e5,co,cown,hco⟩
  generalize tickS s=t at *
  refine stepR0 ?_
  refine ml_init (vs:=stC t) Sd0 Sd0 Sd0 hwt.len zl_len (stC_one t) fun τ6 e6 g6=>?_
  refine stepR0 ?_
  refine ml_loadN Sd0 Sd0 (row_of g6 (rowAll hwt.len)) ?_
  refine stepR0 ?_
  refine ml_storeA (off:=0) (vs:=stC t) Sd0 Sd0 Sd0 (e6.cells (e5.cells g3)) hwt.len (by rw [zl_len];simp) (stC_one _) fun τ11 t11=>?_
  rw [spl_all (by rw [zl_len,hwt.len])] at t11
  refine stepR0 ?_
  refine fin31 Sd0 (row_of t11.self (rowAll hwt.len)) ⟨cv,co,?_,t11.ext ((e.trans e5).trans e6) (by omega),(cown.of_ext e6).ext fun j hj=>?_,fun j hj=>?_⟩
  ·simp only [go_sem,reduceIte,Nat.reduceEqDiff,reduceCtorEq,Nat.reduceAdd,Nat.reduceLeDiff,Int.reduceNeg,Int.reduceToNat,Int.reduceBEq,Int.reduceBNe,Int.reduceLT,Int.reduceLE,Int.reduceAdd,Int.reduceSub]
   rfl
  ·have:=hco j hj
   rw [t11.other j (by have:=H.lt_of_cells g3;omega)]
  ·have:=hco j hj
   have:=e.size
   omega
 have q6:(nm.toList == (⟨#[116,105,99,107]⟩:ByteArray).toList)=false:=by rw [str_eq];exact decide_eq_false n6
 have hk:kindN nm=0:=by unfold kindN;rw [if_neg n1,if_neg n2,if_neg n5,if_neg q3n,if_neg q4n,if_neg n6]
 have hm:madeS s 0 a b c=(s,[],1):=by unfold madeS;rw [if_neg (by decide),if_neg (by decide),if_neg (by decide),if_neg (by decide),if_neg (by decide)]
 rw [hk]
 refine stepR (An q1 (An q2 (An q5 (An q3 (An q4 q6))))) ?_
 exact ⟨_,_,hm,hw,e,g1,g3,Sd0,Sd0,Sd0⟩
end Go.Proofs.YtoejdgoicoaomaaGreatDoor
namespace Go.Proofs.YtoejdgoicoaomaaGreatDoor
open Go.Mini
open Go.Proofs.YtoejdgoicoaomaaGreatDoor.Code
attribute [local irreducible] mx ml mld mstep MCalls Ex.thn Ex.inb
variable {E:World→Prop}
def zS:St:=⟨0,0,⟨#[]⟩,0,List.replicate 8 0,List.replicate 10 zR,List.replicate 10 false,List.replicate 20 zT,List.replicate 20 false⟩
theorem zS_C:stC zS=zl0:=by kernel_rfl
theorem zS_wf:zS.WF:=⟨rfl,fun b hb=>by simp [zS] at hb;omega,rfl,rfl,rfl,rfl⟩
def nmModel:ByteArray:=⟨#[109,111,100,101,108]⟩
def DoR (σ:H) (s:St) (nm:ByteArray) (a b c:Int) (v:Value) (τ:H):Prop:=
 Ext σ τ∧if doE s (kindN nm) a b c=0 then ∃ cv oid,v=.tuple #[stV (madeS s (kindN nm) a b c).1,cv,.nilIface]∧Own τ 2 cv oid (dues (madeS s (kindN nm) a b c).2.1)∧∀ j,oid=some j→σ.size≤j
 else ∃ ev,v=.tuple #[stV zS,.slice none 0 0,ev]∧TagE τ ev nmModel (doE s (kindN nm) a b c)
theorem errV_eqN {ts:Fr} {σ:Go.Mini.H} {x:Opd} {n:Int} {neg:Bool} (hx:mev ts x=errV n):mop ts σ (.eqN .iface neg x (.c .nilIface))=some (.bool (if neg then !(n == 0) else n == 0),σ):=by
 show (eqNil .iface (mev ts x) .nilIface).map (fun b=>(Value.bool (if neg then !b else b),σ))=_
 rw [hx]
 by_cases h:n=0
 ·subst h;cases neg<;>rfl
 ·rw [errV_of h,beq_eq_false_iff_ne.2 h];cases neg<;>rfl
theorem made_wf {s:St} (h:Rt s) (nm:Nat) (a b c:Int):(madeS s nm a b c).1.WF:=by
 have hw:=h.inv.wf
 unfold madeS
 split
 ·exact robotA_wf hw a b c
 split
 ·exact taskA_wf hw a b c
 split
 ·exact tellA_wf hw a b
 split
 ·split
  ·exact ⟨by rw [turn_len];exact hw.off,turn_lt hw.byte _ _,hw.rob,hw.on,hw.tsk,hw.is⟩
  ·exact hw
 split
 ·have k:=tick_inv h.inv h.dist
  generalize tickS s=t at k ⊢
  exact k.inv.wf
 ·exact hw
set_option maxRecDepth 100000 in
set_option maxHeartbeats 16000000 in
theorem mDo_c (s:St) (hw:s.WF) (nm:ByteArray) (a b c:Int) (σ:H):MCalls E Tryz.prog 18 [stV s,actW nm a b c] σ (DoR σ s nm a b c):=by
 refine mcalls_of fn18 (by simp) ?_
 unfold c18 r18 stV actW
 have g1:=H.get_push_self σ (.cells 0 (stC s))
 have e1:=Ext.push σ (.cells 0 (stC s))
 refine mx_seq (mx_ops (ml_op Sd0 (o_box Sd0) ?_))
 have hl1:=H.lt_of_cells g1
 generalize σ.push (.cells 0 (stC s))=τa at *
 refine ml_op Sd0 (o_box (cs:=actC nm a b c) Sd0) ?_
 have g2:=H.get_push_self τa (.cells 0 (actC nm a b c))
 have e2:=Ext.push τa (.cells 0 (actC nm a b c))
 have g1:=e2.cells g1
 have hl2:=H.lt_of_cells g2
 generalize τa.push (.cells 0 (actC nm a b c))=τb at *
 refine stepR0 ?_
 have g3:=H.get_push_self τb (.cells 0 zl0)
 have e3:=Ext.push τb (.cells 0 zl0)
 have g1:=e3.cells g1
 have g2:=e3.cells g2
 generalize τb.push (.cells 0 zl0)=τ at *
 generalize hi1:σ.size=i1 at *
 generalize hi2:τa.size=i2 at *
 generalize hi3:τb.size=i3 at *
 have e:Ext σ τ:=(e1.trans e2).trans e3
 clear e1 e2 e3
 refine ml_loadN Sd0 Sd0 (row_of g1 (rowAll hw.len)) ?_
 refine ml_call Sd0 (by unfold stV;exact Sd0) (mRight_c s hw τ) ?_
 rintro _ τ1 ⟨rfl,e1⟩
 have g11:=e1.cells g1
 have g21:=e1.cells g2
 have g31:=e1.cells g3
 have zf:∀ {ts:Fr} {τ2 τ3:H} {ev:Value} {n:Int},n≠0→doE s (kindN nm) a b c=n→Ext τ1 τ2→TagE τ2 ev nmModel n→SetTo τ2 i3 (.cells 0 zl0) τ3→ts 4=.pointer (some ⟨i3,0,none⟩)→ts 5=.slice none 0 0→ts 6=ev→mpost [.cell 4 172 true,.t 5,.t 6] (DoR σ s nm a b c) .ret ts τ3:=by
  intro ts τ2 τ3 ev n hn hd e12 he t3 h4 h5 h6
  refine fin31 h4 (row_of t3.self (rowAll zl_len)) ⟨t3.ext ((e.trans e1).trans e12) (by omega),?_⟩
  rw [hd,if_neg hn,h5,h6]
  refine ⟨ev,by rw [← zS_C];rfl,?_⟩
  obtain ⟨id,rfl,hid⟩:=he
  refine ⟨id,rfl,t3.cells hid fun e0=>?_⟩
  have hz:=e12.cells g31
  rw [e0,hz] at hid
  exact absurd hid (by simp [zl0])
 cases hr:rightS s
 ·have hd:doE s (kindN nm) a b c=1:=by unfold doE;rw [if_neg (by rw [hr];simp)]
  refine stepR0 ?_
  refine ml_call Sd0 Sd0 (tag_c _ _ _) ?_
  rintro ev τ2 ⟨he,e2⟩
  refine ml_storeA (off:=0) (vs:=zl0) Sd0 Sd0 Sd0 (e2.cells g31) zl_len (by rw [zl_len];simp) (by rw [← zS_C];exact stC_one _) fun τ3 t3=>?_
  rw [spl_all rfl] at t3
  refine stepR0 ?_
  exact zf (by omega) hd e2 he t3 Sd0 Sd0 Sd0
 have hRt:=(right_rt hw).1 hr
 refine stepR0 ?_
 refine ml_loadN Sd0 Sd0 (row_of g11 (rowAll hw.len)) ?_
 refine stepR0 ?_
 refine ml_loadN Sd0 Sd0 (row_of g21 (rowAll rfl)) ?_
 refine ml_call Sd0 (by unfold stV actW;exact Sd0) (mMade_c s hRt nm a b c τ1) ?_
 rintro _ τ2 ⟨cv,oid,rfl,e2,own,hoid⟩
 have hdo:doE s (kindN nm) a b c=if (madeS s (kindN nm) a b c).2.2=0 then if recd (madeS s (kindN nm) a b c).1=true then 0 else 8 else (madeS s (kindN nm) a b c).2.2:=by unfold doE;rw [if_pos hr]
 have hw2:=made_wf hRt (kindN nm) a b c
 unfold DoR at *
 generalize madeS s (kindN nm) a b c=m at *
 obtain ⟨t,l,n⟩:=m
 simp only at *
 refine stepR0 ?_
 refine ml_init (vs:=stC t) Sd0 Sd0 Sd0 hw2.len zl_len (stC_one t) fun τ3 e3 g43=>?_
 have e13:=e2.trans e3
 refine stepR0 ?_
 refine ml_op Sd0 (errV_eqN (n:=n) Sd0) ?_
 by_cases hn:n=0
 ·subst hn
  have hb:((0:Int) == 0)=true:=rfl
  rw [if_pos rfl] at hdo
  refine stepR hb ?_
  refine ml_loadN Sd0 Sd0 (row_of g43 (rowAll hw2.len)) ?_
  refine ml_call Sd0 (by unfold stV;exact Sd0) (mRecorded_c t hw2 τ3) ?_
  rintro _ τ4 ⟨rfl,e4⟩
  have e14:=e13.trans e4
  cases hrc:recd t
  ·rw [hrc,if_neg (by simp)] at hdo
   refine stepR0 ?_
   refine ml_call Sd0 Sd0 (tag_c _ _ _) ?_
   rintro ev τ5 ⟨he,e5⟩
   refine ml_storeA (off:=0) (vs:=zl0) Sd0 Sd0 Sd0 (e5.cells (e14.cells g31)) zl_len (by rw [zl_len];simp) (by rw [← zS_C];exact stC_one _) fun τ6 t6=>?_
   rw [spl_all rfl] at t6
   refine stepR0 ?_
   exact zf (by omega) hdo (e14.trans e5) he t6 Sd0 Sd0 Sd0
  ·rw [hrc,if_pos rfl] at hdo
   refine stepR0 ?_
   refine ml_op Sd0 (errV_eqN (n:=0) Sd0) ?_
   refine stepR hb ?_
   refine ml_loadN Sd0 Sd0 (row_of (e4.cells g43) (rowAll hw2.len)) ?_
   refine stepR0 ?_
   refine ml_storeA (off:=0) (vs:=stC t) Sd0 Sd0 Sd0 (e14.cells g31) hw2.len (by rw [zl_len];simp) (stC_one _) fun τ6 t6=>?_
   rw [spl_all (by rw [zl_len,hw2.len])] at t6
   refine stepR0 ?_
   refine fin31 Sd0 (row_of t6.self (rowAll hw2.len)) ⟨t6.ext ((e.trans e1).trans e14) (by omega),?_⟩
   rw [hdo,if_pos rfl]
   refine ⟨cv,oid,?_,((own.of_ext (e3.trans e4)).ext fun j hj=>?_),fun j hj=>?_⟩
   ·simp only [go_sem,reduceIte,Nat.reduceEqDiff,reduceCtorEq,Nat.reduceAdd,Nat.reduceLeDiff,Int.reduceNeg,Int.reduceToNat,Int.reduceBEq,Int.reduceBNe,Int.reduceLT,Int.reduceLE,Int.reduceAdd,Int.reduceSub]
   ·have:=hoid j hj
    rw [t6.other j (by have:=H.lt_of_cells g31;omega)]
   ·have:=hoid j hj
    have:=(e.trans e1).size
    omega
 ·have hb:(n == 0)=false:=by simpa using hn
  rw [if_neg hn] at hdo
  refine stepR hb ?_
  refine ml_op Sd0 (errV_eqN (n:=n) Sd0) ?_
  rw [errV_of hn]
  refine stepR hb ?_
  refine ml_call Sd0 Sd0 (tag_c _ _ _) ?_
  rintro ev τ5 ⟨he,e5⟩
  refine ml_storeA (off:=0) (vs:=zl0) Sd0 Sd0 Sd0 (e5.cells (e13.cells g31)) zl_len (by rw [zl_len];simp) (by rw [← zS_C];exact stC_one _) fun τ6 t6=>?_
  rw [spl_all rfl] at t6
  refine stepR0 ?_
  exact zf hn hdo (e13.trans e5) he t6 Sd0 Sd0 Sd0
theorem newC (W Hh:Int) (S:ByteArray):stC (newS W Hh S)=spl zl0 0 (mapC W Hh S):=by kernel_rfl
end Go.Proofs.YtoejdgoicoaomaaGreatDoor
