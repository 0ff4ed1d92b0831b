/- ModelTasks: what is done stays done. -/
import Derived.Test.YtoejdgoicoaomaaGreatDoorCL6
import Derived.Test.YtoejdgoicoaomaaGreatDoorLwA
import Derived.Test.YtoejdgoicoaomaaGreatDoorKindA
set_option linter.unusedVariables false
set_option linter.unusedSimpArgs false
namespace Go.Proofs.YtoejdgoicoaomaaGreatDoor
open Go.Mini
open Go.Proofs.YtoejdgoicoaomaaGreatDoor.Code
attribute [local irreducible] mx ml mld mstep MCalls Ex.thn Ex.inb
variable {E:World→Prop}
theorem Rt.st {s:St} (h:Rt s) {k:Nat} (hk:k < 20):0≤(s.t k).st∧(s.t k).st≤3:=by
 cases ik:s.i k
 ·have h1:=(recd_iff.1 h.rcd).2.2 k hk
  rw [ik] at h1
  have h2:(s.t k).is0=true:=h1
  unfold Tsk.is0 at h2
  rw [Bool.and_eq_true,Bool.and_eq_true,beq_iff_eq,beq_iff_eq,beq_iff_eq] at h2
  omega
 ·exact (tskOK_iff.1 (h.tskOK hk ik)).2.2
set_option maxRecDepth 100000 in
set_option maxHeartbeats 16000000 in
theorem modelTasks_c (hE:∀ w,E w→ErrType w) (W Hh:Int) (S:ByteArray) {sv:Value} {al:List Act4} {σ:H} (hr:RdN σ 4 sv (al.map acC)):MCalls E Tryz.prog 6 [mapV W Hh S,sv] σ (fun v τ=>v=.bool true):=by
 obtain ⟨p,cap,rfl,hp⟩:=hr.len
 rw [List.length_map] at hr ⊢
 refine mcalls_of fn6 (by simp) ?_
 unfold c6 r6 mapV
 have g1:=H.get_push_self σ (.cells 0 (mapC W Hh S))
 have e1:=Ext.push σ (.cells 0 (mapC W Hh S))
 refine mx_seq (mx_ops (ml_op Sd0 (o_box (cs:=mapC W Hh S) Sd0) ?_))
 have hlm:=H.lt_of_cells g1
 generalize σ.push (.cells 0 (mapC W Hh S))=τ at *
 generalize hτ:τ=τa at *
 generalize him:σ.size=im at *
 refine stepR0 ?_
 refine ml_call Sd0 Sd0 (mAwake_c hE τa) ?_
 rintro _ τ1 ⟨rfl,e2⟩
 have g2:=e2.cells g1
 refine stepR0 ?_
 refine ml_loadN Sd0 Sd0 (row_of g2 (rowAll rfl)) ?_
 refine stepR0 ?_
 refine ml_call Sd0 Sd0 (rRight_c W Hh S τ1) ?_
 rintro _ τ2 ⟨rfl,e3⟩
 have g3:=e3.cells g2
 have e13:=(e1.trans e2).trans e3
 rcases Bool.eq_false_or_eq_true (gr W Hh S) with hgr | hgr
 case inr=>
  refine stepR hgr ?_
  refine ml_call Sd0 Sd0 (mAwake_c hE τ2) ?_
  rintro _ τ3 ⟨rfl,e4⟩
  refine stepR0 ?_
  exact fin1 Sd0
 refine stepR hgr ?_
 refine ml_call Sd0 Sd0 (rSmall_c (hr.of_ext e13)) ?_
 rintro _ τ2 ⟨rfl,rfl⟩
 rcases Bool.eq_false_or_eq_true (smallA al) with hs | hs
 case inr=>
  rw [hs]
  refine stepR0 ?_
  refine ml_call Sd0 Sd0 (mAwake_c hE τ2) ?_
  rintro _ τ3 ⟨rfl,e4⟩
  refine stepR0 ?_
  exact fin1 Sd0
 rw [hs]
 refine stepR0 ?_
 refine ml_loadN Sd0 Sd0 (row_of g3 (rowAll rfl)) ?_
 refine stepR0 ?_
 refine ml_call Sd0 Sd0 (gOf_c W Hh S τ2) ?_
 rintro _ τ3 ⟨rfl,e4⟩
 refine stepR0 ?_
 refine ml_call Sd0 Sd0 (mNew_c W Hh S τ3) ?_
 rintro _ τ4 ⟨e5,hv⟩
 rw [if_pos hgr] at hv
 subst hv
 obtain ⟨hrt,hbd,hW,hH,hS⟩:=rnew_all hgr hs
 have hlen:=(small_of hs).1
 refine stepR0 ?_
 refine ml_init (vs:=stC (newS W Hh S)) Sd0 Sd0 Sd0 newS_wf.len zl_len (stC_one _) fun τ5 e6 g5=>?_
 generalize hid:τ4.size=id at *
 have e15:=((e13.trans e4).trans e5).trans e6
 have g45:=((e4.trans e5).trans e6).cells g3
 have hz:σ.size≤id:=by have:=e6.size;have:=e15.size;have:=e5.size;have:=e4.size;have:=e13.size;omega
 have hN:=newS_rt hgr
 have hNb:Bnd 0 (newS W Hh S):=newS_bnd
 have hNS:(newS W Hh S).S=S:=rfl
 have hNW:(newS W Hh S).W=W:=rfl
 have hNH:(newS W Hh S).H=Hh:=rfl
 have hNw:(newS W Hh S).WF:=newS_wf
 clear e6 e5 e4 g3 g2 g1 e3 e2 e1 hrt hbd hW hH hS
 generalize newS W Hh S=s0 at *
 have hself:∀ x:Int,(x != x)=false:=fun x=>by simp
 refine stepR0 ?_
 refine mx_loop (fun n ts τ'=>∃ (i:Nat) (s:St),n=al.length - i∧i≤al.length∧Ext σ τ'∧Rt s∧Bnd (i:Int) s∧τ'.get id=.cells 0 (stC s)∧ts 1=.slice p al.length cap∧ts 5=.pointer (some ⟨id,0,none⟩)∧ts 7=.int .i64 ((i:Nat):Int)) al.length ?_ ?_
 ·exact ⟨0,s0,rfl,Nat.zero_le _,e15,hN,hNb,g5,Sd0,Sd0,Sd0⟩
 clear e15 g5 g45 hN hNb hNS hNW hNH hNw
 rintro _ ts τ' ⟨i,s,rfl,hi,e,hrt,hbd,g,t1,t5,t7⟩
 rcases Nat.lt_or_ge i al.length with hil | hig
 ·have hil':((i:Nat):Int) < ((al.length:Nat):Int):=by omega
  obtain ⟨pid,rfl,hrow,hrows⟩:=hp (fun h=>by rw [List.map_eq_nil_iff] at h;rw [h] at hil;simp at hil)
  have hrw:=hrows i (by rw [List.length_map];exact hil)
  rw [List.getElem_map] at hrw
  generalize al[i]=q at *
  obtain ⟨nm,a,b,c⟩:=q
  have hws:=hrt.inv.wf
  have hwt:=doT_wf hws (kindN nm) a b c
  refine stepR (An t1 (An t5 (An t7 hil'))) ?_
  refine mld_loadN Sd0 (Sw t5) (row_of g (rowAll hws.len)) ?_
  refine stepR (An t1 (An t7 hil')) ?_
  refine mld_loadN (off:=i * 4) (vs:=actC nm a b c) Sd0 Sd0 (rowE e hrw) ?_
  refine mld_call Sd0 (by unfold actW;exact Sd0) (aOf_c nm a b c τ') (fun _ _ h=>h.2) ?_
  rintro _ τa ⟨rfl,ea⟩
  refine stepR0 ?_
  refine mld_callW Sd0 (by unfold stV;exact Sd0) (mDo_c s hws nm a b c τa) ?_
  rintro _ τb hv
  obtain ⟨cv,ev,rfl,eb,hcv,hev⟩:=hv.out
  clear hv
  refine stepR0 ?_
  have gx:=H.get_push_self τb (.cells 0 zl0)
  have ex:=Ext.push τb (.cells 0 zl0)
  refine mld_op Sd0 (o_store (off:=0) (vs:=stC (doT s (kindN nm) a b c)) Sd0 Sd0 gx hwt.len (by rw [zl_len];simp) (stC_one _)) ?_
  have tx:=SetTo.mk' (o:=.cells 0 (spl zl0 0 (stC (doT s (kindN nm) a b c)))) (H.lt_of_cells gx)
  have ey:=tx.ext ex (Nat.le_refl _)
  generalize H.set _ τb.size _=τc at *
  have gx:τc.get τb.size=.cells 0 (stC (doT s (kindN nm) a b c)):=by have:=tx.self;rwa [spl_all (by rw [zl_len,hwt.len])] at this
  have hixid:id < τb.size:=H.lt_of_cells ((ea.trans eb).cells g)
  generalize τb.size=ix at *
  have hcv:=hcv.of_ext ey
  have hev:=hev.of_ext ey
  have ez:=(ea.trans eb).trans ey
  have g:=ez.cells g
  have e:=e.trans ez
  clear tx ex ea eb ey ez
  refine stepR0 ?_
  refine ml_call Sd0 Sd0 (tNumE_c hE hev) ?_
  rintro _ τd ⟨rfl,ed⟩
  have g:=ed.cells g
  have gx:=ed.cells gx
  have e:=e.trans ed
  have hcv:=hcv.of_ext ed
  clear hev ed
  by_cases hd:doE s (kindN nm) a b c=0
  case neg=>
   have hd':(doE s (kindN nm) a b c != 0)=true:=by rw [bne_iff_ne];exact hd
   refine stepR (An hd' t7) ?_
   exact ⟨al.length - (i + 1),by omega,i + 1,s,rfl,by omega,e,hrt,hbd.mono (by omega),g,(Sw t1),(Sw t5),Sd0⟩
  have hd':(doE s (kindN nm) a b c != 0)=false:=by rw [hd];rfl
  obtain ⟨htm,hm0,hrt2,hbd2,hW2,hH2,hS2,hap2⟩:=do_step hrt hbd (by omega) (by omega) hd
  have hmt:=made_tsk hrt hm0
  rw [← htm] at hmt
  generalize doT s (kindN nm) a b c=t at *
  refine stepR (An hd' (An t1 (An t5 t7))) ?_
  refine mx_loop (fun n ts τ'=>∃ k:Nat,n=20 - k∧k≤20∧τ'=τd∧ts 1=.slice (some ⟨pid,0,none⟩) al.length cap∧ts 5=.pointer (some ⟨id,0,none⟩)∧ts 7=.int .i64 ((i:Nat):Int)∧ts 8=.pointer (some ⟨ix,0,none⟩)∧ts 11=.int .i64 ((k:Nat):Int)) 20 ?_ ?_
  ·exact ⟨0,rfl,by omega,rfl,(Sw t1),(Sw t5),(Sw t7),Sd0,Sd0⟩
  rintro _ ts2 τ2 ⟨k,rfl,hk,rfl,u1,u5,u7,u8,u11⟩
  rcases Nat.lt_or_ge k 20 with hkl | hkg
  ·have hk':((k:Nat):Int) < 20:=by omega
   obtain ⟨h1,h2⟩:=hmt k hkl
   dsimp only
   refine stepR (An u11 hk') ?_
   refine mld_cut (fun ts3 τ3=>τ3=τ2∧ts3 1=.slice (some ⟨pid,0,none⟩) al.length cap∧ts3 5=.pointer (some ⟨id,0,none⟩)∧ts3 7=.int .i64 ((i:Nat):Int)∧ts3 8=.pointer (some ⟨ix,0,none⟩)∧ts3 11=.int .i64 ((k:Nat):Int)) ?_ ?_
   ·refine stepR (An u11 (An u5 hk')) ?_
    refine mld_op Sd0 (o_load1q (off:=152 + k) (v:=.bool (s.i k)) (Sw (An u5 u11)) g (hws.is_at hkl)) ?_
    rcases Bool.eq_false_or_eq_true (s.i k) with hsi | hsi
    case inr=>
     rw [hsi]
     refine stepR0 ?_
     exact ⟨rfl,(Sw u1),(Sw u5),(Sw u7),(Sw u8),(Sw u11)⟩
    obtain ⟨h3,h4,h5⟩:=h1 hsi
    rw [hsi]
    refine stepR (An u11 (An u8 hk')) ?_
    refine mld_op Sd0 (o_load1q (off:=152 + k) (v:=.bool (t.i k)) (Sw (An u8 u11)) gx (hwt.is_at hkl)) ?_
    rw [h3]
    refine stepR (An u11 (An u8 hk')) ?_
    refine mld_op Sd0 (o_load1q (off:=92 + k * 3 + 0) (v:=.int .i64 (t.t k).fr) (Sw (An u8 u11)) gx (hwt.tsk_at hkl (by omega))) ?_
    refine stepR (An u11 (An u5 hk')) ?_
    refine mld_op Sd0 (o_load1q (off:=92 + k * 3 + 0) (v:=.int .i64 (s.t k).fr) (Sw (An u5 u11)) g (hws.tsk_at hkl (by omega))) ?_
    rw [h4]
    refine stepR (An hself (An u11 (An u8 hk'))) ?_
    refine mld_op Sd0 (o_load1q (off:=92 + k * 3 + 1) (v:=.int .i64 (t.t k).dst) (Sw (An u8 u11)) gx (hwt.tsk_at hkl (by omega))) ?_
    refine stepR (An u11 (An u5 hk')) ?_
    refine mld_op Sd0 (o_load1q (off:=92 + k * 3 + 1) (v:=.int .i64 (s.t k).dst) (Sw (An u5 u11)) g (hws.tsk_at hkl (by omega))) ?_
    rw [h5]
    refine stepR hself ?_
    exact ⟨rfl,(Sw u1),(Sw u5),(Sw u7),(Sw u8),(Sw u11)⟩
   ·clear u1 u5 u7 u8 u11
    rintro ts3 τ2 ⟨rfl,u1,u5,u7,u8,u11⟩
    refine stepR (An u11 (An u8 hk')) ?_
    refine mld_op Sd0 (o_load1q (off:=92 + k * 3 + 2) (v:=.int .i64 (t.t k).st) (Sw (An u8 u11)) gx (hwt.tsk_at hkl (by omega))) ?_
    refine stepR (An u11 (An u5 hk')) ?_
    refine mld_op Sd0 (o_load1q (off:=92 + k * 3 + 2) (v:=.int .i64 (s.t k).st) (Sw (An u5 u11)) g (hws.tsk_at hkl (by omega))) ?_
    have b1:=hrt.st hkl
    have b2:=hrt2.st hkl
    generalize hy:(s.t k).st=y at *
    generalize hx:(t.t k).st=x at *
    have hwr:IntKind.i64.wrap (x - y)=x - y:=i64wrap (by omega) (by omega)
    rcases h2 with rfl | ⟨h6,h2⟩
    ·have hd0:x - x=0:=by omega
     refine stepR (An hwr (An hd0 u11)) ?_
     exact ⟨20 - (k + 1),by omega,k + 1,rfl,by omega,rfl,(Sw u1),(Sw u5),(Sw u7),(Sw u8),Sd0⟩
    have hnm:nm=⟨#[116,105,99,107]⟩:=kind_tick h6
    have hc0:=row_cell (rowE e hrw) (q:=0) (by omega)
    rw [show (acC (nm,a,b,c))[0]?=some (.string nm) from rfl] at hc0
    rw [hnm] at hc0
    rcases h2 with rfl | ⟨rfl,rfl⟩
    ·have hd0:y + 1 - y=1:=by omega
     refine stepR (An hwr (An hd0 (An u1 (An u7 hil')))) ?_
     refine ml_load1 (v:=.string ⟨#[116,105,99,107]⟩) Sd0 Sd0 hc0 ?_
     refine stepR u11 ?_
     exact ⟨20 - (k + 1),by omega,k + 1,rfl,by omega,rfl,(Sw u1),(Sw u5),(Sw u7),(Sw u8),Sd0⟩
    ·refine stepR (An hwr (An u1 (An u7 hil'))) ?_
     refine ml_load1 (v:=.string ⟨#[116,105,99,107]⟩) Sd0 Sd0 hc0 ?_
     refine stepR (An u11 (An u5 hk')) ?_
     refine ml_op Sd0 (o_load1q (off:=92 + k * 3 + 2) (v:=.int .i64 0) (Sw (An u5 u11)) g ((hws.tsk_at hkl (by omega)).trans (by rw [show (tskC (s.t k))[2]?=some (.int .i64 (s.t k).st) from rfl,hy]))) ?_
     refine stepR u11 ?_
     exact ⟨20 - (k + 1),by omega,k + 1,rfl,by omega,rfl,(Sw u1),(Sw u5),(Sw u7),(Sw u8),Sd0⟩
  ·obtain rfl:k=20:=by omega
   have hk':¬ (((20:Nat):Nat):Int) < 20:=by omega
   refine stepR (An u11 hk') ?_
   refine ml_loadN Sd0 (Sw u8) (row_of gx (rowAll hwt.len)) ?_
   refine stepR u5 ?_
   refine ml_storeA (off:=0) (vs:=stC t) Sd0 (Sw u5) Sd0 g hwt.len (by rw [hws.len];simp) (stC_one _) fun τ8 t8=>?_
   rw [spl_all (by rw [hws.len,hwt.len])] at t8
   refine stepR u7 ?_
   exact ⟨al.length - (i + 1),by omega,i + 1,t,rfl,by omega,t8.ext e hz,hrt2,hbd2.mono (by omega),t8.self,(Sw u1),(Sw u5),Sd0⟩
 ·obtain rfl:i=al.length:=by omega
  have hil':¬ ((al.length:Nat):Int) < ((al.length:Nat):Int):=by omega
  refine stepR (An t1 (An t7 hil')) ?_
  exact fin1 Sd0
end Go.Proofs.YtoejdgoicoaomaaGreatDoor
