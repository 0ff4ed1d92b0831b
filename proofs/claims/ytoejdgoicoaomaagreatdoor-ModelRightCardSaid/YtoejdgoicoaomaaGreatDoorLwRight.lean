/- ModelRight: a right state stays right; nobody meets another. -/
import Derived.Test.YtoejdgoicoaomaaGreatDoorCL3
import Derived.Test.YtoejdgoicoaomaaGreatDoorLwA
import Derived.Test.YtoejdgoicoaomaaGreatDoorKindA
set_option linter.unusedVariables false
set_option linter.unusedSimpArgs false
namespace Go.Proofs.YtoejdgoicoaomaaGreatDoor
open Go.Mini
open Go.Proofs.YtoejdgoicoaomaaGreatDoor.Code
attribute [local irreducible] mx ml mld mstep MCalls Ex.thn Ex.inb
variable {E:World→Prop}
theorem o_neSelfL {ts:Fr} {σ:Go.Mini.H} {l:List Value} (hl:l.all kdIs=true) {x y:Opd} {ks:List KD} (hk:ks=l.map kdOf) (hx:mev ts x=.agg l.toArray) (hy:mev ts y=.agg l.toArray):mop ts σ (.eqA true ks x y)=some (.bool false,σ):=by
 subst hk
 simp only [mop,hx,hy]
 rw [if_pos ⟨by rw [List.length_map],by rw [List.length_map]⟩]
 show (eqCells _ l l).map _=_
 rw [eqCells_self _ hl]
 rfl
set_option maxRecDepth 100000 in
set_option maxHeartbeats 16000000 in
theorem modelRight_c (hE:∀ w,E w→ErrType w) (W Hh:Int) (S:ByteArray) {sv:Value} {al:List Act4} {σ:H} (hr:RdN σ 4 sv (al.map acC)):MCalls E Tryz.prog 3 [mapV W Hh S,sv] σ (fun v τ=>v=.bool true):=by
 obtain ⟨p,cap,rfl,hp⟩:=hr.len
 rw [List.length_map] at hr ⊢
 refine mcalls_of fn3 (by simp) ?_
 unfold c3 r3 mapV
 have g1:=H.get_push_self σ (.cells 0 (mapC W Hh S))
 have e1:=Ext.push σ (.cells 0 (mapC W Hh S))
 refine mx_seq (mx_ops (ml_op Sd0 (o_box (cs:=mapC W Hh S) Sd0) ?_))
 generalize σ.push (.cells 0 (mapC W Hh S))=τa at *
 generalize him:σ.size=im at *
 refine stepR0 ?_
 refine ml_call Sd0 Sd0 (mAwake_c hE τa) ?_
 rintro _ τ2 ⟨rfl,e2⟩
 have g2:=e2.cells g1
 have e13:=e1.trans e2
 by_cases h200:(200:Int) < (S.size:Int)
 ·refine stepR (An g2 h200) ?_
  refine ml_call Sd0 Sd0 (mAwake_c hE τ2) ?_
  rintro _ τ3 ⟨rfl,e4⟩
  refine stepR0 ?_
  exact fin1 Sd0
 refine stepR (An g2 h200) ?_
 refine ml_call Sd0 Sd0 (rSmall_c (hr.of_ext e13)) ?_
 rintro _ τ2 ⟨rfl,rfl⟩
 rcases Bool.eq_false_or_eq_true (smallA al) with hs | hs
 case inr=>
  rw [hs]
  refine stepR0 ?_
  refine ml_call Sd0 Sd0 (mAwake_c hE τ2) ?_
  rintro _ τ3 ⟨rfl,e4⟩
  refine stepR0 ?_
  exact fin1 Sd0
 rw [hs]
 refine stepR0 ?_
 refine ml_loadN Sd0 Sd0 (row_of g2 (rowAll rfl)) ?_
 refine stepR0 ?_
 refine ml_call Sd0 Sd0 (gOf_c W Hh S τ2) ?_
 rintro _ τ3 ⟨rfl,e4⟩
 refine stepR0 ?_
 refine ml_call Sd0 Sd0 (mNew_c W Hh S τ3) ?_
 rintro _ τ4 ⟨e5,hv⟩
 have hlen:=(small_of hs).1
 have g4:=(e4.trans e5).cells g2
 have e14:=(e13.trans e4).trans e5
 rcases Bool.eq_false_or_eq_true (gr W Hh S) with hgr | hgr
 case inr=>
  rw [if_neg (by rw [hgr];simp)] at hv
  obtain ⟨ev,rfl,hev⟩:=hv
  refine stepR0 ?_
  refine ml_init (vs:=stC zS) Sd0 Sd0 Sd0 zS_wf.len zl_len (stC_one _) fun τ5 e6 g5=>?_
  refine stepR0 ?_
  refine ml_loadN Sd0 Sd0 (row_of (e6.cells g4) (rowAll rfl)) ?_
  refine stepR0 ?_
  refine ml_call Sd0 Sd0 (rRight_c W Hh S τ5) ?_
  rintro _ τ6 ⟨rfl,e7⟩
  rw [hgr]
  refine stepR0 ?_
  refine ml_call Sd0 Sd0 (tNum_c hE ((hev.of_ext (e6.trans e7)).chain)) ?_
  rintro _ τ7 ⟨rfl,e8⟩
  refine stepR0 ?_
  refine ml_loadN Sd0 Sd0 (row_of ((e7.trans e8).cells g5) (rowAll zS_wf.len)) ?_
  refine stepR0 ?_
  refine ml_op Sd0 (o_eqSelf zS_wf (by kernel_rfl) Sd0 (by rw [zS_C];exact Sd0)) ?_
  refine stepR0 ?_
  exact fin1 Sd0
 rw [if_pos hgr] at hv
 subst hv
 refine stepR0 ?_
 refine ml_init (vs:=stC (newS W Hh S)) Sd0 Sd0 Sd0 newS_wf.len zl_len (stC_one _) fun τ5 e6 g5=>?_
 generalize hid:τ4.size=id at *
 refine stepR0 ?_
 refine ml_loadN Sd0 Sd0 (row_of (e6.cells g4) (rowAll rfl)) ?_
 refine stepR0 ?_
 refine ml_call Sd0 Sd0 (rRight_c W Hh S τ5) ?_
 rintro _ τ6 ⟨rfl,e7⟩
 rw [hgr]
 have hz:im≤id:=by have:=e14.size;omega
 have g5:=e7.cells g5
 have e15:=(e14.trans e6).trans e7
 have hN:=newS_rt hgr
 have hNb:Bnd 0 (newS W Hh S):=newS_bnd
 have hNS:(newS W Hh S).S=S:=rfl
 have hNW:(newS W Hh S).W=W:=rfl
 have hNH:(newS W Hh S).H=Hh:=rfl
 clear e14 e13 e7 e6 e5 e4 g4 g2 g1 e2 e1
 generalize newS W Hh S=s0 at *
 have hself:∀ x:Int,(x != x)=false:=fun x=>by simp
 refine stepR0 ?_
 refine mx_loop (fun n ts τ'=>∃ (i:Nat) (s:St),n=al.length - i∧i≤al.length∧Ext σ τ'∧Rt s∧Bnd (i:Int) s∧s.W=W∧s.H=Hh∧s.S=S∧τ'.get id=.cells 0 (stC s)∧ts 1=.slice p al.length cap∧ts 5=.pointer (some ⟨id,0,none⟩)∧ts 7=.int .i64 ((i:Nat):Int)) al.length ?_ ?_
 ·exact ⟨0,s0,rfl,Nat.zero_le _,e15,hN,hNb,hNW,hNH,hNS,g5,Sd0,Sd0,Sd0⟩
 clear e15 g5 hN hNb hNS hNW hNH
 rintro _ ts τ' ⟨i,s,rfl,hi,e,hrt,hbd,hsW,hsH,hsS,g,t1,t5,t7⟩
 rcases Nat.lt_or_ge i al.length with hil | hig
 ·have hil':((i:Nat):Int) < ((al.length:Nat):Int):=by omega
  obtain ⟨pid,rfl,hrow,hrows⟩:=hp (fun h=>by rw [List.map_eq_nil_iff] at h;rw [h] at hil;simp at hil)
  have hrw:=hrows i (by rw [List.length_map];exact hil)
  rw [List.getElem_map] at hrw
  generalize al[i]=q at *
  obtain ⟨nm,a,b,c⟩:=q
  have hws:=hrt.inv.wf
  have hwt:=doT_wf hws (kindN nm) a b c
  refine stepR (An t1 (An t5 (An t7 hil'))) ?_
  refine mld_loadN Sd0 (Sw t5) (row_of g (rowAll hws.len)) ?_
  refine stepR (An t1 (An t7 hil')) ?_
  refine mld_loadN (off:=i * 4) (vs:=actC nm a b c) Sd0 Sd0 (rowE e hrw) ?_
  refine mld_call Sd0 (by unfold actW;exact Sd0) (aOf_c nm a b c τ') (fun _ _ h=>h.2) ?_
  rintro _ τa ⟨rfl,ea⟩
  refine stepR0 ?_
  refine mld_callW Sd0 (by unfold stV;exact Sd0) (mDo_c s hws nm a b c τa) ?_
  rintro _ τb hv
  obtain ⟨cv,ev,rfl,eb,hcv,hev⟩:=hv.out
  clear hv
  refine stepR0 ?_
  have gx:=H.get_push_self τb (.cells 0 zl0)
  have ex:=Ext.push τb (.cells 0 zl0)
  refine mld_op Sd0 (o_store (off:=0) (vs:=stC (doT s (kindN nm) a b c)) Sd0 Sd0 gx hwt.len (by rw [zl_len];simp) (stC_one _)) ?_
  have tx:=SetTo.mk' (o:=.cells 0 (spl zl0 0 (stC (doT s (kindN nm) a b c)))) (H.lt_of_cells gx)
  have ey:=tx.ext ex (Nat.le_refl _)
  generalize H.set _ τb.size _=τc at *
  have gx:τc.get τb.size=.cells 0 (stC (doT s (kindN nm) a b c)):=by have:=tx.self;rwa [spl_all (by rw [zl_len,hwt.len])] at this
  have hixid:id < τb.size:=H.lt_of_cells ((ea.trans eb).cells g)
  generalize τb.size=ix at *
  have hcv:=hcv.of_ext ey
  have hev:=hev.of_ext ey
  have ez:=(ea.trans eb).trans ey
  have g:=ez.cells g
  have e:=e.trans ez
  clear tx ex ea eb ey ez
  refine stepR0 ?_
  refine ml_call Sd0 Sd0 (tNumE_c hE hev) ?_
  rintro _ τd ⟨rfl,ed⟩
  have g:=ed.cells g
  have gx:=ed.cells gx
  have e:=e.trans ed
  have hcv:=hcv.of_ext ed
  clear hev ed
  by_cases hd:doE s (kindN nm) a b c=0
  case neg=>
   have hd':(doE s (kindN nm) a b c != 0)=true:=by rw [bne_iff_ne];exact hd
   refine stepR (An hd' t7) ?_
   have hz0:doT s (kindN nm) a b c=zS:=by unfold doT;rw [if_neg hd]
   have hl0:doL s (kindN nm) a b c=[]:=by unfold doL;rw [if_neg hd]
   rw [hz0] at gx
   rw [hl0] at hcv
   obtain ⟨pc,rfl,_⟩:=hcv
   have hlz:((([]:List (Int × Int)).length:Nat):Int)=0:=rfl
   refine ml_loadN Sd0 Sd0 (row_of gx (rowAll zS_wf.len)) ?_
   refine stepR0 ?_
   refine ml_op Sd0 (o_neSelfL (stC_is zS) (by kernel_rfl) Sd0 (by rw [zS_C];exact Sd0)) ?_
   refine stepR (An hlz (An hself t7)) ?_
   exact ⟨al.length - (i + 1),by omega,i + 1,s,rfl,by omega,e,hrt,hbd.mono (by omega),hsW,hsH,hsS,g,(Sw t1),(Sw t5),Sd0⟩
  have hd':(doE s (kindN nm) a b c != 0)=false:=by rw [hd];rfl
  obtain ⟨htm,hm0,hrt2,hbd2,hW2,hH2,hS2,hap2⟩:=do_step hrt hbd (by omega) (by omega) hd
  rw [hsW] at hW2
  rw [hsH] at hH2
  rw [hsS] at hS2
  clear htm hm0 hd hcv
  generalize doT s (kindN nm) a b c=t at *
  have hrr:=(right_rt hwt).2 hrt2
  have hpl:(placeL t).length≤1000:=by rw [placeL_len];omega
  refine stepR (An hd' (An t1 (An t5 t7))) ?_
  refine mld_loadN Sd0 Sd0 (row_of gx (rowAll hwt.len)) ?_
  refine stepR0 ?_
  refine mld_callW Sd0 (by unfold stV;exact Sd0) (mRight_c t hwt τd) ?_
  rintro _ τe ⟨rfl,ee⟩
  rw [hrr]
  have g:=ee.cells g
  have gx:=ee.cells gx
  have e:=e.trans ee
  clear ee
  refine stepR t5 ?_
  refine mld_loadN Sd0 (Sw t5) (row_of g (rowAll hws.len)) ?_
  refine stepR0 ?_
  refine mld_loadN Sd0 Sd0 (row_of gx (rowAll hwt.len)) ?_
  refine stepR0 ?_
  refine mld_call Sd0 (by unfold stV;exact Sd0) (mPlaces_c s hws τe) (fun _ _ h=>h.1) ?_
  rintro wv τf hw
  refine stepR0 ?_
  refine mld_callW Sd0 (by unfold stV;exact Sd0) (mPlaces_c t hwt τf) ?_
  rintro nv τg ⟨eg,oid,own,_⟩
  have ef:=hw.1.trans eg
  have g:=ef.cells g
  have gx:=ef.cells gx
  have e:=e.trans ef
  have rw1:=(hw.rd).of_ext eg
  clear hw ef eg
  refine stepR0 ?_
  refine mld_callW Sd0 Sd0 (clApart_c rw1 own hpl) ?_
  rintro _ τh ⟨rfl,rfl⟩
  rw [apart_iff.2 hap2]
  refine stepR t5 ?_
  refine mld_loadN (off:=0) (vs:=mapC t.W t.H t.S) Sd0 Sd0 (row_of gx hwt.map_row) ?_
  rw [hW2,hH2,hS2]
  refine stepR t5 ?_
  refine mld_loadN (off:=0) (vs:=mapC s.W s.H s.S) Sd0 (Sw t5) (row_of g hws.map_row) ?_
  rw [hsW,hsH,hsS]
  refine stepR0 ?_
  refine mld_op Sd0 (o_neSelfL (l:=mapC W Hh S) rfl rfl Sd0 Sd0) ?_
  refine stepR0 ?_
  refine ml_loadN Sd0 Sd0 (row_of gx (rowAll hwt.len)) ?_
  refine stepR t5 ?_
  refine ml_storeA (off:=0) (vs:=stC t) Sd0 (Sw t5) Sd0 g hwt.len (by rw [hws.len];simp) (stC_one _) fun τ8 t8=>?_
  rw [spl_all (by rw [hws.len,hwt.len])] at t8
  refine stepR t7 ?_
  exact ⟨al.length - (i + 1),by omega,i + 1,t,rfl,by omega,t8.ext e (by omega),hrt2,hbd2.mono (by omega),hW2,hH2,hS2,t8.self,(Sw t1),(Sw t5),Sd0⟩
 ·obtain rfl:i=al.length:=by omega
  have hil':¬ ((al.length:Nat):Int) < ((al.length:Nat):Int):=by omega
  have hws:=hrt.inv.wf
  refine stepR (An t1 (An t7 (An hil' t5))) ?_
  refine ml_loadN Sd0 (Sw t5) (row_of g (rowAll hws.len)) ?_
  refine stepR0 ?_
  refine ml_call Sd0 (by unfold stV;exact Sd0) (mRight_c s hws τ') ?_
  rintro _ τe ⟨rfl,ee⟩
  rw [(right_rt hws).2 hrt]
  refine stepR0 ?_
  exact fin1 Sd0
end Go.Proofs.YtoejdgoicoaomaaGreatDoor
