/- ModelSums: charges and sums. -/
import Derived.Test.YtoejdgoicoaomaaGreatDoorCL5
import Derived.Test.YtoejdgoicoaomaaGreatDoorLwA
import Derived.Test.YtoejdgoicoaomaaGreatDoorKindA
set_option linter.unusedVariables false
set_option linter.unusedSimpArgs false
namespace Go.Proofs.YtoejdgoicoaomaaGreatDoor
open Go.Mini
open Go.Proofs.YtoejdgoicoaomaaGreatDoor.Code
attribute [local irreducible] mx ml mld mstep MCalls Ex.thn Ex.inb
variable {E:World→Prop}
theorem set_getD {F:List Int} {k:Nat} (hk:k < F.length) (v:Int) (q:Nat):(F.set k v).getD q 0=if q=k then v else F.getD q 0:=getDset hk
set_option maxRecDepth 100000 in
set_option maxHeartbeats 16000000 in
theorem modelSums_c (hE:∀ w,E w→ErrType w) (W Hh:Int) (S:ByteArray) {sv:Value} {al:List Act4} {σ:H} (hr:RdN σ 4 sv (al.map acC)):MCalls E Tryz.prog 5 [mapV W Hh S,sv] σ (fun v τ=>v=.bool true):=by
 obtain ⟨p,cap,rfl,hp⟩:=hr.len
 rw [List.length_map] at hr ⊢
 refine mcalls_of fn5 (by simp) ?_
 unfold c5 r5 mapV
 have g1:=H.get_push_self σ (.cells 0 (mapC W Hh S))
 have e1:=Ext.push σ (.cells 0 (mapC W Hh S))
 refine mx_seq (mx_ops (ml_op Sd0 (o_box (cs:=mapC W Hh S) Sd0) ?_))
 have hlm:=H.lt_of_cells g1
 generalize σ.push (.cells 0 (mapC W Hh S))=τ at *
 generalize hτ:τ=τa at *
 generalize him:σ.size=im at *
 refine stepR0 ?_
 refine ml_call Sd0 Sd0 (mAwake_c hE τa) ?_
 rintro _ τ1 ⟨rfl,e2⟩
 have g2:=e2.cells g1
 refine stepR0 ?_
 refine ml_loadN Sd0 Sd0 (row_of g2 (rowAll rfl)) ?_
 refine stepR0 ?_
 refine ml_call Sd0 Sd0 (rRight_c W Hh S τ1) ?_
 rintro _ τ2 ⟨rfl,e3⟩
 have g3:=e3.cells g2
 have e13:=(e1.trans e2).trans e3
 rcases Bool.eq_false_or_eq_true (gr W Hh S) with hgr | hgr
 case inr=>
  refine stepR hgr ?_
  refine ml_call Sd0 Sd0 (mAwake_c hE τ2) ?_
  rintro _ τ3 ⟨rfl,e4⟩
  refine stepR0 ?_
  exact fin1 Sd0
 refine stepR hgr ?_
 refine ml_call Sd0 Sd0 (rSmall_c (hr.of_ext e13)) ?_
 rintro _ τ2 ⟨rfl,rfl⟩
 rcases Bool.eq_false_or_eq_true (smallA al) with hs | hs
 case inr=>
  rw [hs]
  refine stepR0 ?_
  refine ml_call Sd0 Sd0 (mAwake_c hE τ2) ?_
  rintro _ τ3 ⟨rfl,e4⟩
  refine stepR0 ?_
  exact fin1 Sd0
 rw [hs]
 refine stepR0 ?_
 refine ml_loadN Sd0 Sd0 (row_of g3 (rowAll rfl)) ?_
 refine stepR0 ?_
 refine ml_call Sd0 Sd0 (gOf_c W Hh S τ2) ?_
 rintro _ τ3 ⟨rfl,e4⟩
 refine stepR0 ?_
 refine ml_call Sd0 Sd0 (mNew_c W Hh S τ3) ?_
 rintro _ τ4 ⟨e5,hv⟩
 rw [if_pos hgr] at hv
 subst hv
 obtain ⟨hrt,hbd,hW,hH,hS⟩:=rnew_all hgr hs
 have hlen:=(small_of hs).1
 refine stepR0 ?_
 refine ml_init (vs:=stC (newS W Hh S)) Sd0 Sd0 Sd0 newS_wf.len zl_len (stC_one _) fun τ5 e6 g5=>?_
 generalize hid:τ4.size=id at *
 have e15:=((e13.trans e4).trans e5).trans e6
 have g45:=((e4.trans e5).trans e6).cells g3
 have hz:σ.size≤id:=by have:=e6.size;have:=e15.size;have:=e5.size;have:=e4.size;have:=e13.size;omega
 have hN:=newS_rt hgr
 have hN0:∀ k,(newS W Hh S).o k=false:=newS_o
 have hNb:Bnd 0 (newS W Hh S):=newS_bnd
 have hNS:(newS W Hh S).S=S:=rfl
 have hNW:(newS W Hh S).W=W:=rfl
 have hNH:(newS W Hh S).H=Hh:=rfl
 have hNw:(newS W Hh S).WF:=newS_wf
 clear e6 e5 e4 g3 g2 g1 e3 e2 e1 hrt hbd hW hH hS
 generalize newS W Hh S=s0 at *
 refine stepR0 ?_
 have hidj:id < τ5.size:=H.lt_of_cells g5
 generalize hτj:H.push τ5 _=τj
 have gj:τj.get τ5.size=.cells 0 (ints (List.replicate 10 0)):=by rw [← hτj];exact H.get_push_self _ _
 have ej:Ext τ5 τj:=hτj ▸ Ext.push _ _
 have g5:=ej.cells g5
 have e15:=e15.trans ej
 have hzj:σ.size≤τ5.size:=by omega
 clear hτj ej g45
 generalize τ5.size=jd at *
 refine mx_loop (fun n ts τ'=>∃ (i:Nat) (s:St) (F:List Int),n=al.length - i∧i≤al.length∧Ext σ τ'∧Rt s∧Bnd (i:Int) s∧τ'.get id=.cells 0 (stC s)∧τ'.get jd=.cells 0 (ints F)∧F.length=10∧(∀ k,k < 10→s.o k=true→(s.r k).sum=F.getD k 0)∧ts 1=.slice p al.length cap∧ts 5=.pointer (some ⟨id,0,none⟩)∧ts 7=.pointer (some ⟨jd,0,none⟩)∧ts 8=.int .i64 ((i:Nat):Int)) al.length ?_ ?_
 ·exact ⟨0,s0,_,rfl,Nat.zero_le _,e15,hN,hNb,g5,gj,rfl,fun k hk ho=>(by rw [hN0 k] at ho;cases ho),Sd0,Sd0,Sd0,Sd0⟩
 clear e15 g5 gj hN hNb hNS hNW hNH hNw
 rintro _ ts τ' ⟨i,s,F,rfl,hi,e,hrt,hbd,g,gj,hF,hFs,t1,t5,t7,t8⟩
 rcases Nat.lt_or_ge i al.length with hil | hig
 ·have hil':((i:Nat):Int) < ((al.length:Nat):Int):=by omega
  obtain ⟨pid,rfl,hrow,hrows⟩:=hp (fun h=>by rw [List.map_eq_nil_iff] at h;rw [h] at hil;simp at hil)
  have hrw:=hrows i (by rw [List.length_map];exact hil)
  rw [List.getElem_map] at hrw
  generalize al[i]=q at *
  obtain ⟨nm,a,b,c⟩:=q
  have hws:=hrt.inv.wf
  have hwt:=doT_wf hws (kindN nm) a b c
  refine stepR (An t1 (An t5 (An t8 hil'))) ?_
  refine mld_loadN Sd0 (Sw t5) (row_of g (rowAll hws.len)) ?_
  refine stepR (An t1 (An t8 hil')) ?_
  refine mld_loadN (off:=i * 4) (vs:=actC nm a b c) Sd0 Sd0 (rowE e hrw) ?_
  refine mld_call Sd0 (by unfold actW;exact Sd0) (aOf_c nm a b c τ') (fun _ _ h=>h.2) ?_
  rintro _ τa ⟨rfl,ea⟩
  refine stepR0 ?_
  refine mld_callW Sd0 (by unfold stV;exact Sd0) (mDo_c s hws nm a b c τa) ?_
  rintro _ τb hv
  obtain ⟨cv,ev,rfl,eb,hcv,hev⟩:=hv.out
  clear hv
  refine stepR0 ?_
  have gx:=H.get_push_self τb (.cells 0 zl0)
  have ex:=Ext.push τb (.cells 0 zl0)
  refine mld_op Sd0 (o_store (off:=0) (vs:=stC (doT s (kindN nm) a b c)) Sd0 Sd0 gx hwt.len (by rw [zl_len];simp) (stC_one _)) ?_
  have tx:=SetTo.mk' (o:=.cells 0 (spl zl0 0 (stC (doT s (kindN nm) a b c)))) (H.lt_of_cells gx)
  have ey:=tx.ext ex (Nat.le_refl _)
  generalize H.set _ τb.size _=τc at *
  have gx:τc.get τb.size=.cells 0 (stC (doT s (kindN nm) a b c)):=by have:=tx.self;rwa [spl_all (by rw [zl_len,hwt.len])] at this
  have hixid:id < τb.size:=H.lt_of_cells ((ea.trans eb).cells g)
  have hixj:jd < τb.size:=H.lt_of_cells ((ea.trans eb).cells gj)
  generalize τb.size=ix at *
  have hcv:=hcv.of_ext ey
  have hev:=hev.of_ext ey
  have ez:=(ea.trans eb).trans ey
  have g:=ez.cells g
  have gj:=ez.cells gj
  have e:=e.trans ez
  clear tx ex ea eb ey ez
  refine stepR0 ?_
  refine ml_call Sd0 Sd0 (tNumE_c hE hev) ?_
  rintro _ τd ⟨rfl,ed⟩
  have g:=ed.cells g
  have gj:=ed.cells gj
  have gx:=ed.cells gx
  have e:=e.trans ed
  have hcv:=hcv.of_ext ed
  clear hev ed
  by_cases hd:doE s (kindN nm) a b c=0
  case neg=>
   have hd':(doE s (kindN nm) a b c != 0)=true:=by rw [bne_iff_ne];exact hd
   refine stepR (An hd' t8) ?_
   exact ⟨al.length - (i + 1),by omega,i + 1,s,F,rfl,by omega,e,hrt,hbd.mono (by omega),g,gj,hF,hFs,(Sw t1),(Sw t5),(Sw t7),Sd0⟩
  have hd':(doE s (kindN nm) a b c != 0)=false:=by rw [hd];rfl
  obtain ⟨htm,hm0,hrt2,hbd2,hW2,hH2,hS2,hap2⟩:=do_step hrt hbd (by omega) (by omega) hd
  have hsum:∀ k,k < 10→(doT s (kindN nm) a b c).o k=true→(s.o k=true∧((doT s (kindN nm) a b c).r k).sum=(s.r k).sum)∨(s.o k=false∧((doT s (kindN nm) a b c).r k).sum=((doT s (kindN nm) a b c).r k).charge):=fun k hk ho=>by
   have hx:=hrt2.rcd
   rw [htm] at ho hx ⊢
   exact made_sum hrt hm0 hx hk ho
  clear htm hm0 hap2 hW2 hH2 hS2 hcv hd
  generalize doT s (kindN nm) a b c=t at *
  refine stepR hd' ?_
  refine mx_loop (fun n ts τ3=>∃ (k:Nat) (F2:List Int),n=10 - k∧k≤10∧Ext σ τ3∧τ3.get id=.cells 0 (stC s)∧τ3.get ix=.cells 0 (stC t)∧τ3.get jd=.cells 0 (ints F2)∧F2.length=10∧(∀ q,q < 10→q < k→t.o q=true→(t.r q).sum=F2.getD q 0)∧(∀ q,k≤q→F2.getD q 0=F.getD q 0)∧ts 1=.slice (some ⟨pid,0,none⟩) al.length cap∧ts 5=.pointer (some ⟨id,0,none⟩)∧ts 7=.pointer (some ⟨jd,0,none⟩)∧ts 8=.int .i64 ((i:Nat):Int)∧ts 9=.pointer (some ⟨ix,0,none⟩)∧ts 12=.int .i64 ((k:Nat):Int)) 10 ?_ ?_
  ·exact ⟨0,F,rfl,by omega,e,g,gx,gj,hF,fun q _ h=>absurd h (Nat.not_lt_zero _),fun q _=>rfl,(Sw t1),(Sw t5),(Sw t7),(Sw t8),Sd0,Sd0⟩
  clear g gx gj e
  rintro _ ts2 τ2 ⟨k,F1,rfl,hk,e,g,gx,gj,hF1,hlo,hhi,u1,u5,u7,u8,u9,u12⟩
  rcases Nat.lt_or_ge k 10 with hkl | hkg
  ·have hk':((k:Nat):Int) < 10:=by omega
   refine stepR (An u12 (An u9 hk')) ?_
   refine ml_op Sd0 (o_load1q (off:=82 + k) (v:=.bool (t.o k)) (Sw (An u9 u12)) gx (hwt.on_at hkl)) ?_
   rcases Bool.eq_false_or_eq_true (t.o k) with hto | hto
   case inr=>
    rw [hto]
    refine stepR u12 ?_
    exact ⟨10 - (k + 1),by omega,k + 1,F1,rfl,by omega,e,g,gx,gj,hF1,fun q hq hqk ho=>(by
     rcases Nat.lt_or_ge q k with h | h
     ·exact hlo q hq h ho
     ·obtain rfl:q=k:=by omega
      rw [hto] at ho;cases ho),fun q hq=>hhi q (by omega),(Sw u1),(Sw u5),(Sw u7),(Sw u8),(Sw u9),Sd0⟩
   rw [hto]
   refine stepR (An u12 (An u9 hk')) ?_
   refine ml_loadN (vs:=robC (t.r k)) Sd0 (Sw (An u9 u12)) (row_of gx (hwt.rob_row hkl rfl)) ?_
   refine stepR0 ?_
   refine ml_init (vs:=robC (t.r k)) Sd0 Sd0 Sd0 rfl rfl rfl fun τ4 e4 g4=>?_
   have hl4:=H.lt_of_cells gj
   have e:=e.trans e4
   have g:=e4.cells g
   have gx:=e4.cells gx
   have gj:=e4.cells gj
   clear e4
   generalize τ2.size=jr at *
   obtain ⟨b1,b2,b3,b4,b5,b6,b7⟩:=robOK_iff.1 (hrt2.robOK hkl hto)
   have hsk:=hsum k hkl hto
   have hfk:=hhi k (Nat.le_refl _)
   refine stepR (An u12 (An u5 hk')) ?_
   refine ml_op Sd0 (o_load1q (off:=82 + k) (v:=.bool (s.o k)) (Sw (An u5 u12)) g (hws.on_at hkl)) ?_
   refine ml_cut (fun ts3 τ3=>∃ F2:List Int,Ext σ τ3∧τ3.get id=.cells 0 (stC s)∧τ3.get ix=.cells 0 (stC t)∧τ3.get jd=.cells 0 (ints F2)∧τ3.get jr=.cells 0 (robC (t.r k))∧F2.length=10∧(∀ q,q≠k→F2.getD q 0=F1.getD q 0)∧F2.getD k 0=(t.r k).sum∧ts3 1=.slice (some ⟨pid,0,none⟩) al.length cap∧ts3 5=.pointer (some ⟨id,0,none⟩)∧ts3 7=.pointer (some ⟨jd,0,none⟩)∧ts3 8=.int .i64 ((i:Nat):Int)∧ts3 9=.pointer (some ⟨ix,0,none⟩)∧ts3 12=.int .i64 ((k:Nat):Int)∧ts3 13=.pointer (some ⟨jr,0,none⟩)) ?_ ?_
   ·rcases Bool.eq_false_or_eq_true (s.o k) with hso | hso
    ·rw [hso]
     refine stepR0 ?_
     have hs1:(t.r k).sum=(s.r k).sum:=by
      rcases hsk with h | h
      ·exact h.2
      ·rw [hso] at h;cases h.1
     exact ⟨F1,e,g,gx,gj,g4,hF1,fun q _=>rfl,by rw [hfk,hs1,hFs k hkl hso],(Sw u1),(Sw u5),(Sw u7),(Sw u8),(Sw u9),(Sw u12),Sd0⟩
    ·rw [hso]
     have g4':=g4
     unfold robC at g4'
     refine stepR (An g4' (An u12 (An u7 hk'))) ?_
     have hs1:(t.r k).sum=(t.r k).charge:=by
      rcases hsk with h | h
      ·rw [hso] at h;cases h.1
      ·exact h.2
     refine ml_storeA (off:=k) (vs:=[.int .i64 (t.r k).charge]) Sd0 (Sw (An u7 u12)) Sd0 gj rfl (by rw [ints,List.length_map,hF1];omega) rfl fun τ6 t6=>?_
     have hsp:spl (ints F1) k [.int .i64 (t.r k).charge]=ints (F1.set k (t.r k).charge):=map_spl (by rw [hF1];exact hkl)
     rw [hsp] at t6
     refine stepR0 ?_
     exact ⟨F1.set k (t.r k).charge,t6.ext e hzj,t6.cells g (by omega),t6.cells gx (by omega),t6.self,t6.cells g4 (by omega),by simpa using hF1,fun q hq=>by rw [set_getD (by rw [hF1];exact hkl),if_neg hq],by rw [set_getD (by rw [hF1];exact hkl),if_pos rfl,hs1],(Sw u1),(Sw u5),(Sw u7),(Sw u8),(Sw u9),(Sw u12),Sd0⟩
   clear u1 u5 u7 u8 u9 u12 e g gx gj g4
   rintro ts3 τ3 ⟨F2,e,g,gx,gj,g4,hF2,hne,hFk,u1,u5,u7,u8,u9,u12,u13⟩
   have g4':=g4
   unfold robC at g4'
   unfold Rob.sum at hFk
   refine stepR (An g4' (An u12 (An u7 (An u13 hk')))) ?_
   refine mld_op Sd0 (o_load1q (off:=k) (v:=.int .i64 (F2.getD k 0)) (Sw (An u7 u12)) gj (ints_at (by rw [hF2];exact hkl))) ?_
   have w1:IntKind.i64.wrap (F2.getD k 0 + (t.r k).gained)=F2.getD k 0 + (t.r k).gained:=i64wrap (by omega) (by omega)
   have w2:IntKind.i64.wrap (F2.getD k 0 + (t.r k).gained + (t.r k).adj)=F2.getD k 0 + (t.r k).gained + (t.r k).adj:=i64wrap (by omega) (by omega)
   have w3:IntKind.i64.wrap (F2.getD k 0 + (t.r k).gained + (t.r k).adj - (t.r k).moved)=(t.r k).charge:=by rw [i64wrap (by omega) (by omega)];omega
   have hself:((t.r k).charge != (t.r k).charge)=false:=by simp
   have hc0:¬ (t.r k).charge < 0:=by omega
   have hc2:¬ 200 < (t.r k).charge:=by omega
   refine stepR (An g4' (An u12 (An u13 (An w1 (An w2 (An w3 (An hself (An hc0 hc2)))))))) ?_
   exact ⟨10 - (k + 1),by omega,k + 1,F2,rfl,by omega,e,g,gx,gj,hF2,fun q hq hqk ho=>(by
    by_cases h:q=k
    ·subst h;unfold Rob.sum;exact hFk.symm
    ·rw [hne q h];exact hlo q hq (by omega) ho),fun q hq=>by rw [hne q (by omega)];exact hhi q (by omega),(Sw u1),(Sw u5),(Sw u7),(Sw u8),(Sw u9),Sd0⟩
  ·obtain rfl:k=10:=by omega
   have hk':¬ (((10:Nat):Nat):Int) < 10:=by omega
   refine stepR (An u12 hk') ?_
   refine ml_loadN Sd0 (Sw u9) (row_of gx (rowAll hwt.len)) ?_
   refine stepR u5 ?_
   refine ml_storeA (off:=0) (vs:=stC t) Sd0 (Sw u5) Sd0 g hwt.len (by rw [hws.len];simp) (stC_one _) fun τ8 t8=>?_
   rw [spl_all (by rw [hws.len,hwt.len])] at t8
   refine stepR u8 ?_
   exact ⟨al.length - (i + 1),by omega,i + 1,t,F1,rfl,by omega,t8.ext e hz,hrt2,hbd2.mono (by omega),t8.self,t8.cells gj (by omega),hF1,fun q hq ho=>hlo q hq (by omega) ho,(Sw u1),(Sw u5),(Sw u7),Sd0⟩
 ·obtain rfl:i=al.length:=by omega
  have hil':¬ ((al.length:Nat):Int) < ((al.length:Nat):Int):=by omega
  refine stepR (An t1 (An t8 hil')) ?_
  exact fin1 Sd0
end Go.Proofs.YtoejdgoicoaomaaGreatDoor
