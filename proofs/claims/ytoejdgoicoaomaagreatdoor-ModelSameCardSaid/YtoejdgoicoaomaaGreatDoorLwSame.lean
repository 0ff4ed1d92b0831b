/- ModelSame: an act done again comes to the same. -/
import Derived.Test.YtoejdgoicoaomaaGreatDoorCL10
import Derived.Test.YtoejdgoicoaomaaGreatDoorLwA
import Derived.Test.YtoejdgoicoaomaaGreatDoorKindA
set_option linter.unusedVariables false
set_option linter.unusedSimpArgs false
namespace Go.Proofs.YtoejdgoicoaomaaGreatDoor
open Go.Mini
open Go.Proofs.YtoejdgoicoaomaaGreatDoor.Code
attribute [local irreducible] mx ml mld mstep MCalls Ex.thn Ex.inb
variable {E:World→Prop}
def actV (nm:ByteArray) (a b c:Int):Value:=.agg (actC nm a b c).toArray
theorem same_len {s:St} {nm:Nat} {a b c:Int} (h:nm≠6):doL s nm a b c=[]:=by
 unfold doL
 split
 ·unfold madeS
  split
  ·rfl
  split
  ·rfl
  split
  ·rfl
  split
  ·split<;>rfl
  ·rfl
 ·rfl
theorem same_few (s:St) (nm:Nat) (a b c:Int):(doL s nm a b c).length≤10:=by
 by_cases h:nm=6
 ·subst h
  unfold doL
  split
  ·have hm:(madeS s 6 a b c).2.1=cmdsL (tickS s) 10:=by unfold madeS;rw [if_neg (by decide),if_neg (by decide),if_neg (by decide),if_neg (by decide),if_pos rfl]
   rw [hm];exact cmds_len _ _
  ·exact Nat.zero_le _
 ·rw [same_len h];exact Nat.zero_le _
theorem same_tick {s:St} (h:Rt s) {a b c:Int} (h0:doE s 6 a b c=0):(doT s 6 a b c).tick=s.tick + 1:=by
 unfold doT
 rw [if_pos h0]
 have hm:(madeS s 6 a b c).1=tickS s:=by unfold madeS;rw [if_neg (by decide),if_neg (by decide),if_neg (by decide),if_neg (by decide),if_pos rfl]
 rw [hm]
 exact (tick_inv h.inv h.dist).tick
theorem o_neCmd {ts:Fr} {σ:Go.Mini.H} {x y:Opd} {a b:Int} (hx:mev ts x=.agg #[.int .i64 a,.int .i64 b]) (hy:mev ts y=.agg #[.int .i64 a,.int .i64 b]):mop ts σ (.eqA true [.int,.int] x y)=some (.bool false,σ):=by
 simp only [mop,hx,hy,List.length_cons,List.length_nil,and_self,if_true,eqCells,eqCell,beq_self_eq_true]
 rfl
set_option maxRecDepth 100000 in
set_option maxHeartbeats 16000000 in
theorem modelSame_c (hE:∀ w,E w→ErrType w) (W Hh:Int) (S:ByteArray) {sv:Value} {al:List Act4} {σ:H} (hr:RdN σ 4 sv (al.map acC)) (nm:ByteArray) (a b c:Int):MCalls E Tryz.prog 10 [mapV W Hh S,sv,actV nm a b c] σ (fun v τ=>v=.bool true):=by
 refine mcalls_of fn10 (by simp) ?_
 unfold c10 r10 mapV actV
 have g1:=H.get_push_self σ (.cells 0 (mapC W Hh S))
 have e1:=Ext.push σ (.cells 0 (mapC W Hh S))
 refine mx_seq (mx_ops (ml_op Sd0 (o_box (cs:=mapC W Hh S) Sd0) ?_))
 have hlm:=H.lt_of_cells g1
 generalize σ.push (.cells 0 (mapC W Hh S))=τ at *
 refine ml_op Sd0 (o_box (cs:=actC nm a b c) Sd0) ?_
 have ga1:=H.get_push_self τ (.cells 0 (actC nm a b c))
 have ea:=Ext.push τ (.cells 0 (actC nm a b c))
 have g1:=ea.cells g1
 have e1:=e1.trans ea
 generalize τ.push (.cells 0 (actC nm a b c))=τa at *
 generalize hia:τ.size=ia at *
 generalize him:σ.size=im at *
 refine stepR0 ?_
 refine ml_call Sd0 Sd0 (mAwake_c hE τa) ?_
 rintro _ τ1 ⟨rfl,e2⟩
 have g2:=e2.cells g1
 refine stepR0 ?_
 refine ml_loadN Sd0 Sd0 (row_of g2 (rowAll rfl)) ?_
 refine stepR0 ?_
 refine ml_call Sd0 Sd0 (rRight_c W Hh S τ1) ?_
 rintro _ τ2 ⟨rfl,e3⟩
 have g3:=e3.cells g2
 have e13:=(e1.trans e2).trans e3
 have ga3:=(e2.trans e3).cells ga1
 rcases Bool.eq_false_or_eq_true (gr W Hh S) with hgr | hgr
 case inr=>
  refine stepR hgr ?_
  refine ml_call Sd0 Sd0 (mAwake_c hE τ2) ?_
  rintro _ τ3 ⟨rfl,e4⟩
  refine stepR0 ?_
  exact fin1 Sd0
 refine stepR hgr ?_
 refine ml_call Sd0 Sd0 (rSmall_c (hr.of_ext e13)) ?_
 rintro _ τ2 ⟨rfl,rfl⟩
 rcases Bool.eq_false_or_eq_true (smallA al) with hs | hs
 case inr=>
  rw [hs]
  refine stepR0 ?_
  refine ml_call Sd0 Sd0 (mAwake_c hE τ2) ?_
  rintro _ τ3 ⟨rfl,e4⟩
  refine stepR0 ?_
  exact fin1 Sd0
 rw [hs]
 refine stepR0 ?_
 refine ml_op Sd0 (o_load1q (off:=0) (v:=.string nm) Sd0 ga3 rfl) ?_
 by_cases h50:(50:Int) < (nm.size:Int)
 ·refine stepR h50 ?_
  refine ml_call Sd0 Sd0 (mAwake_c hE τ2) ?_
  rintro _ τ3 ⟨rfl,e4⟩
  refine stepR0 ?_
  exact fin1 Sd0
 refine stepR h50 ?_
 refine ml_loadN Sd0 Sd0 (row_of g3 (rowAll rfl)) ?_
 refine stepR0 ?_
 refine ml_call Sd0 Sd0 (gOf_c W Hh S τ2) ?_
 rintro _ τ3 ⟨rfl,e4⟩
 refine stepR0 ?_
 refine ml_call Sd0 Sd0 (mNew_c W Hh S τ3) ?_
 rintro _ τ4 ⟨e5,hv⟩
 rw [if_pos hgr] at hv
 subst hv
 obtain ⟨hrt,hbd,hW,hH,hS⟩:=rnew_all hgr hs
 have hlen:=(small_of hs).1
 refine stepR0 ?_
 refine ml_init (vs:=stC (newS W Hh S)) Sd0 Sd0 Sd0 newS_wf.len zl_len (stC_one _) fun τ5 e6 g5=>?_
 generalize hid:τ4.size=id at *
 have e15:=((e13.trans e4).trans e5).trans e6
 have g45:=((e4.trans e5).trans e6).cells g3
 have ga5:=((e4.trans e5).trans e6).cells ga3
 refine stepR0 ?_
 refine ml_loadN Sd0 Sd0 (row_of g5 (rowAll newS_wf.len)) ?_
 refine stepR0 ?_
 refine ml_call Sd0 Sd0 (lRun_c hE (newS W Hh S) newS_wf (hr.of_ext e15) (by omega)) ?_
 rintro _ τ6 ⟨rfl,e7⟩
 have hws:=hrt.inv.wf
 generalize runS (newS W Hh S) al=s at *
 refine stepR0 ?_
 refine ml_storeA (off:=0) (vs:=stC s) Sd0 Sd0 Sd0 (e7.cells g5) hws.len (by rw [newS_wf.len];simp) (stC_one _) fun τ7 t7=>?_
 rw [spl_all (by rw [newS_wf.len,hws.len])] at t7
 have hz:σ.size≤id:=by have:=e6.size;have:=e15.size;have:=e7.size;have:=e5.size;have:=e4.size;have:=e13.size;omega
 have hl3:=H.lt_of_cells g3
 have hlt:im < id:=by have:=e5.size;have:=e4.size;omega
 have gm7:=t7.cells (e7.cells g45) (by omega)
 have hla3:=H.lt_of_cells ga3
 have hlta:ia < id:=by have:=e5.size;have:=e4.size;omega
 have ga7:=t7.cells (e7.cells ga5) (by omega)
 have e17:Ext σ τ7:=t7.ext (e15.trans e7) (by omega)
 have g7:=t7.self
 clear t7 e7 e15 g45 e6 e5 e4 g5 g3 g2 g1 e3 e2 e1 hlen
 have hwt:=doT_wf hws (kindN nm) a b c
 refine stepR0 ?_
 refine mld_loadN Sd0 Sd0 (row_of g7 (rowAll hws.len)) ?_
 refine stepR0 ?_
 refine mld_loadN (off:=0) (vs:=actC nm a b c) Sd0 Sd0 (row_of ga7 (rowAll rfl)) ?_
 refine mld_call Sd0 (by unfold actW;exact Sd0) (aOf_c nm a b c τ7) (fun _ _ h=>h.2) ?_
 rintro _ τa1 ⟨rfl,ea1⟩
 refine stepR0 ?_
 refine mld_callW Sd0 (by unfold stV;exact Sd0) (mDo_c s hws nm a b c τa1) ?_
 rintro _ τb1 hv
 obtain ⟨cv1,ev1,rfl,eb1,hcv1,hev1⟩:=hv.out
 clear hv
 refine stepR0 ?_
 have gx1:=H.get_push_self τb1 (.cells 0 zl0)
 have ex1:=Ext.push τb1 (.cells 0 zl0)
 refine mld_op Sd0 (o_store (off:=0) (vs:=stC (doT s (kindN nm) a b c)) Sd0 Sd0 gx1 hwt.len (by rw [zl_len];simp) (stC_one _)) ?_
 have tx1:=SetTo.mk' (o:=.cells 0 (spl zl0 0 (stC (doT s (kindN nm) a b c)))) (H.lt_of_cells gx1)
 have ey1:=tx1.ext ex1 (Nat.le_refl _)
 generalize H.set _ τb1.size _=τ8 at *
 have gx1:τ8.get τb1.size=.cells 0 (stC (doT s (kindN nm) a b c)):=by have:=tx1.self;rwa [spl_all (by rw [zl_len,hwt.len])] at this
 generalize τb1.size=ix1 at *
 have hcv1:=hcv1.of_ext ey1
 have hev1:=hev1.of_ext ey1
 have ez1:=(ea1.trans eb1).trans ey1
 have g71:=ez1.cells g7
 have ga71:=ez1.cells ga7
 clear tx1 ex1 ea1 eb1
 refine stepR0 ?_
 refine mld_loadN Sd0 Sd0 (row_of g71 (rowAll hws.len)) ?_
 refine stepR0 ?_
 refine mld_loadN (off:=0) (vs:=actC nm a b c) Sd0 Sd0 (row_of ga71 (rowAll rfl)) ?_
 refine mld_call Sd0 (by unfold actW;exact Sd0) (aOf_c nm a b c τ8) (fun _ _ h=>h.2) ?_
 rintro _ τa2 ⟨rfl,ea2⟩
 refine stepR0 ?_
 refine mld_callW Sd0 (by unfold stV;exact Sd0) (mDo_c s hws nm a b c τa2) ?_
 rintro _ τb2 hv
 obtain ⟨cv2,ev2,rfl,eb2,hcv2,hev2⟩:=hv.out
 clear hv
 refine stepR0 ?_
 have gx2:=H.get_push_self τb2 (.cells 0 zl0)
 have ex2:=Ext.push τb2 (.cells 0 zl0)
 refine mld_op Sd0 (o_store (off:=0) (vs:=stC (doT s (kindN nm) a b c)) Sd0 Sd0 gx2 hwt.len (by rw [zl_len];simp) (stC_one _)) ?_
 have tx2:=SetTo.mk' (o:=.cells 0 (spl zl0 0 (stC (doT s (kindN nm) a b c)))) (H.lt_of_cells gx2)
 have ey2:=tx2.ext ex2 (Nat.le_refl _)
 generalize H.set _ τb2.size _=τ9 at *
 have gx2:τ9.get τb2.size=.cells 0 (stC (doT s (kindN nm) a b c)):=by have:=tx2.self;rwa [spl_all (by rw [zl_len,hwt.len])] at this
 generalize τb2.size=ix2 at *
 have hcv2:=hcv2.of_ext ey2
 have hev2:=hev2.of_ext ey2
 have ez2:=(ea2.trans eb2).trans ey2
 have g712:=ez2.cells g71
 have ga712:=ez2.cells ga71
 clear tx2 ex2 ea2 eb2
 refine stepR0 ?_
 have gx1:=ez2.cells gx1
 have hcv1:=hcv1.of_ext ez2
 have hev1:=hev1.of_ext ez2
 have hl6:kindN nm≠6→doL s (kindN nm) a b c=[]:=same_len
 have ht6:kindN nm=6→doE s (kindN nm) a b c=0→(doT s (kindN nm) a b c).tick=s.tick + 1:=fun h h0=>by rw [h] at h0 ⊢;exact same_tick hrt h0
 have hfew:=same_few s (kindN nm) a b c
 generalize doT s (kindN nm) a b c=t at *
 generalize doE s (kindN nm) a b c=n at *
 generalize doL s (kindN nm) a b c=l at *
 clear ez1 ez2 ey1 ey2 g7 g71 ga7 ga71
 obtain ⟨p1,rfl,hc1⟩:=hcv1
 obtain ⟨p2,rfl,hc2⟩:=hcv2
 refine mx_loop (fun n ts τ=>∃ i,n=l.length - i∧i≤l.length∧τ=τ9∧ts 5=.pointer (some ⟨ia,0,none⟩)∧ts 7=.pointer (some ⟨id,0,none⟩)∧ts 9=.pointer (some ⟨ix1,0,none⟩)∧ts 10=.slice p1 l.length l.length∧ts 11=ev1∧ts 12=.pointer (some ⟨ix2,0,none⟩)∧ts 13=.slice p2 l.length l.length∧ts 14=ev2∧ts 15=.int .i64 ((i:Nat):Int)) l.length ?_ ?_
 ·exact ⟨0,rfl,Nat.zero_le _,rfl,Sd0,Sd0,Sd0,Sd0,Sd0,Sd0,Sd0,Sd0,Sd0⟩
 have hne:(((l.length:Nat):Int) != ((l.length:Nat):Int))=false:=by simp
 have hll:(((l.length:Nat):Int) == ((l.length:Nat):Int))=true:=by simp
 rintro _ ts τ ⟨i,rfl,hi,rfl,t5,t7,t9,t10,t11,t12,t13,t14,t15⟩
 rcases Nat.lt_or_ge i l.length with hil | hig
 ·have hil':((i:Nat):Int) < ((l.length:Nat):Int):=by omega
  obtain ⟨id1,rfl,hr1⟩:=hc1 i hil
  obtain ⟨id2,rfl,hr2⟩:=hc2 i hil
  refine stepR (An t10 (An t15 hil')) ?_
  refine stepR (An t10 (An t13 (An t15 hne))) ?_
  refine mld_loadN (off:=i * 2) Sd0 Sd0 hr1 ?_
  refine stepR (An t13 t15) ?_
  refine mld_loadN (off:=i * 2) Sd0 Sd0 hr2 ?_
  refine stepR0 ?_
  refine mld_op Sd0 (o_neCmd Sd0 Sd0) ?_
  refine stepR t15 ?_
  exact ⟨l.length - (i + 1),by omega,i + 1,rfl,by omega,rfl,(Sw t5),(Sw t7),(Sw t9),(Sw t10),(Sw t11),(Sw t12),(Sw t13),(Sw t14),Sd0⟩
 ·obtain rfl:i=l.length:=by omega
  have hil':¬ ((l.length:Nat):Int) < ((l.length:Nat):Int):=by omega
  dsimp only
  refine stepR (An t10 (An t15 hil')) ?_
  refine ml_loadN Sd0 (Sw t9) (row_of gx1 (rowAll hwt.len)) ?_
  refine stepR t12 ?_
  refine ml_loadN Sd0 (Sw t12) (row_of gx2 (rowAll hwt.len)) ?_
  refine stepR0 ?_
  refine ml_op Sd0 (o_eqSelf hwt (by kernel_rfl) Sd0 Sd0) ?_
  refine stepR t11 ?_
  refine ml_call Sd0 (Sw t11) (tNumE_c hE hev1) ?_
  rintro _ τc ⟨rfl,e1⟩
  refine stepR t14 ?_
  refine ml_call Sd0 (Sw t14) (tNumE_c hE (hev2.of_ext e1)) ?_
  rintro _ τd ⟨rfl,e2⟩
  have ga:=(e1.trans e2).cells ga712
  have gx:=(e1.trans e2).cells gx1
  have g:=(e1.trans e2).cells g712
  refine stepR (An t10 (An t13 (An hll t5))) ?_
  refine ml_op Sd0 (o_load1q (off:=0) (v:=.string nm) (Sw t5) ga rfl) ?_
  refine stepR0 ?_
  refine ml_call Sd0 Sd0 (rKindN_c nm τd) ?_
  rintro _ τe ⟨e3,rfl⟩
  have ga:=e3.cells ga
  have gx:=e3.cells gx
  have g:=e3.cells g
  by_cases h6:kindN nm=6
  ·have h6':((kindN nm:Nat):Int)=6:=by omega
   refine stepR (An h6' t11) ?_
   refine ml_call Sd0 (Sw t11) (tNumE_c hE (hev1.of_ext (e1.trans (e2.trans e3)))) ?_
   rintro _ τf ⟨rfl,e4⟩
   have ga:=e4.cells ga
   have gx:=e4.cells gx
   have g:=e4.cells g
   by_cases h0:n=0
   ·have h0':n=0:=h0
    have ht:=ht6 h6 h0
    refine stepR (An h0' t5) ?_
    refine ml_op Sd0 (o_load1q (off:=0) (v:=.string nm) (Sw t5) ga rfl) ?_
    refine stepR0 ?_
    refine ml_call Sd0 Sd0 (rKindN_c nm τf) ?_
    rintro _ τg ⟨e5,rfl⟩
    have gx:=e5.cells gx
    have g:=e5.cells g
    refine stepR (An h6' t9) ?_
    refine ml_op Sd0 (o_load1q (off:=3) (v:=.int .i64 t.tick) (Sw t9) gx hwt.tick_cell) ?_
    refine stepR t7 ?_
    refine ml_op Sd0 (o_load1q (off:=3) (v:=.int .i64 s.tick) (Sw t7) g hws.tick_cell) ?_
    rw [ht]
    have hwr:IntKind.i64.wrap (s.tick + 1)=s.tick + 1:=i64wrap (by have:=(recd_iff.1 hrt.rcd).1;omega) (by have:=(recd_iff.1 hrt.rcd).1;omega)
    refine stepR hwr ?_
    exact fin1 Sd0
   ·have h0':(n != 0)=true:=by simpa using h0
    refine stepR h0' ?_
    exact fin1 Sd0
  ·have h6':(((kindN nm:Nat):Int) == 6)=false:=by rw [beq_eq_false_iff_ne];omega
   have h6n:(((kindN nm:Nat):Int) != 6)=true:=by rw [bne_iff_ne];omega
   have hl:((l.length:Nat):Int)=0:=by rw [hl6 h6];rfl
   refine stepR (An h6' (An t10 (An hl t11))) ?_
   refine ml_call Sd0 (Sw t11) (tNumE_c hE (hev1.of_ext (e1.trans (e2.trans e3)))) ?_
   rintro _ τf ⟨rfl,e4⟩
   have ga:=e4.cells ga
   by_cases h0:n=0
   ·have h0':n=0:=h0
    refine stepR (An h0' t5) ?_
    refine ml_op Sd0 (o_load1q (off:=0) (v:=.string nm) (Sw t5) ga rfl) ?_
    refine stepR0 ?_
    refine ml_call Sd0 Sd0 (rKindN_c nm τf) ?_
    rintro _ τg ⟨e5,rfl⟩
    refine stepR h6n ?_
    exact fin1 Sd0
   ·have h0':(n != 0)=true:=by simpa using h0
    refine stepR h0' ?_
    exact fin1 Sd0
end Go.Proofs.YtoejdgoicoaomaaGreatDoor
