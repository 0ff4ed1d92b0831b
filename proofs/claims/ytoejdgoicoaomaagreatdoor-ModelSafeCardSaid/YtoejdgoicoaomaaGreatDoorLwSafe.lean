/- ModelSafe: who goes, goes to a neighbour, and is safe there. -/
import Derived.Test.YtoejdgoicoaomaaGreatDoorCL4
import Derived.Test.YtoejdgoicoaomaaGreatDoorLwA
import Derived.Test.YtoejdgoicoaomaaGreatDoorKindA
import Derived.Test.YtoejdgoicoaomaaGreatDoorG39
set_option linter.unusedVariables false
set_option linter.unusedSimpArgs false
namespace Go.Proofs.YtoejdgoicoaomaaGreatDoor
open Go.Mini
open Go.Proofs.YtoejdgoicoaomaaGreatDoor.Code
attribute [local irreducible] mx ml mld mstep MCalls Ex.thn Ex.inb
variable {E:World→Prop}
theorem doL_zero {s:St} {nm:Nat} {a b c:Int} (h:doE s nm a b c=0):doL s nm a b c=if nm=6 then cmdsL (doT s nm a b c) 10 else []:=by
 unfold doL doT
 rw [if_pos h,if_pos h,made_cmds]
theorem str_ne {x y:ByteArray} (h:x≠y):(x.toList == y.toList)=false:=by
 rw [beq_eq_false_iff_ne,toList_data,toList_data]
 exact fun e=>h (ba_extM e)
theorem safe_need {W Hh:Int} {S:ByteArray} {on:List Int} {st c ch:Int} (h:safeB W Hh S on st c ch=true):∃ n:Int,needO W Hh S on st c=some n∧0≤n∧n≤ch:=by
 unfold safeB at h
 cases hn:needO W Hh S on st c with
 | none=>rw [hn] at h;cases h
 | some n=>
   rw [hn] at h
   exact ⟨n,rfl,(need_nonneg hn).1,of_decide_eq_true h⟩
theorem cmds_off {s:St} {n:Nat} (o:s.o n=false):cmdsL s (n + 1)=cmdsL s n:=by rw [cmdsL_succ,o];simp
theorem cmds_on {s:St} {n:Nat} (o:s.o n=true):(cmdsL s (n + 1)).length=(cmdsL s n).length + 1:=by rw [cmdsL_succ,o];simp
theorem cmdsL_le (s:St):∀ n:Nat,(cmdsL s n).length≤n
 | 0=>Nat.le_refl _
 | n + 1=>by
   rw [cmdsL_succ,List.length_append]
   have:=cmdsL_le s n
   split<;>simp<;>omega
set_option maxRecDepth 100000 in
set_option maxHeartbeats 16000000 in
theorem modelSafe_c (hE:∀ w,E w→ErrType w) (W Hh:Int) (S:ByteArray) {sv:Value} {al:List Act4} {σ:H} (hr:RdN σ 4 sv (al.map acC)):MCalls E Tryz.prog 4 [mapV W Hh S,sv] σ (fun v τ=>v=.bool true):=by
 obtain ⟨p,cap,rfl,hp⟩:=hr.len
 rw [List.length_map] at hr ⊢
 refine mcalls_of fn4 (by simp) ?_
 unfold c4 r4 mapV
 have g1:=H.get_push_self σ (.cells 0 (mapC W Hh S))
 have e1:=Ext.push σ (.cells 0 (mapC W Hh S))
 refine mx_seq (mx_ops (ml_op Sd0 (o_box (cs:=mapC W Hh S) Sd0) ?_))
 have hlm:=H.lt_of_cells g1
 generalize σ.push (.cells 0 (mapC W Hh S))=τ at *
 generalize hτ:τ=τa at *
 generalize him:σ.size=im at *
 refine stepR0 ?_
 refine ml_call Sd0 Sd0 (mAwake_c hE τa) ?_
 rintro _ τ1 ⟨rfl,e2⟩
 have g2:=e2.cells g1
 refine stepR0 ?_
 refine ml_loadN Sd0 Sd0 (row_of g2 (rowAll rfl)) ?_
 refine stepR0 ?_
 refine ml_call Sd0 Sd0 (rRight_c W Hh S τ1) ?_
 rintro _ τ2 ⟨rfl,e3⟩
 have g3:=e3.cells g2
 have e13:=(e1.trans e2).trans e3
 rcases Bool.eq_false_or_eq_true (gr W Hh S) with hgr | hgr
 case inr=>
  refine stepR hgr ?_
  refine ml_call Sd0 Sd0 (mAwake_c hE τ2) ?_
  rintro _ τ3 ⟨rfl,e4⟩
  refine stepR0 ?_
  exact fin1 Sd0
 refine stepR hgr ?_
 refine ml_call Sd0 Sd0 (rSmall_c (hr.of_ext e13)) ?_
 rintro _ τ2 ⟨rfl,rfl⟩
 rcases Bool.eq_false_or_eq_true (smallA al) with hs | hs
 case inr=>
  rw [hs]
  refine stepR0 ?_
  refine ml_call Sd0 Sd0 (mAwake_c hE τ2) ?_
  rintro _ τ3 ⟨rfl,e4⟩
  refine stepR0 ?_
  exact fin1 Sd0
 rw [hs]
 refine stepR0 ?_
 refine ml_loadN Sd0 Sd0 (row_of g3 (rowAll rfl)) ?_
 refine stepR0 ?_
 refine ml_call Sd0 Sd0 (gOf_c W Hh S τ2) ?_
 rintro _ τ3 ⟨rfl,e4⟩
 refine stepR0 ?_
 refine ml_call Sd0 Sd0 (mNew_c W Hh S τ3) ?_
 rintro _ τ4 ⟨e5,hv⟩
 rw [if_pos hgr] at hv
 subst hv
 obtain ⟨hrt,hbd,hW,hH,hS⟩:=rnew_all hgr hs
 have hlen:=(small_of hs).1
 refine stepR0 ?_
 refine ml_init (vs:=stC (newS W Hh S)) Sd0 Sd0 Sd0 newS_wf.len zl_len (stC_one _) fun τ5 e6 g5=>?_
 generalize hid:τ4.size=id at *
 have e15:=((e13.trans e4).trans e5).trans e6
 have g45:=((e4.trans e5).trans e6).cells g3
 have hz:σ.size≤id:=by have:=e6.size;have:=e15.size;have:=e5.size;have:=e4.size;have:=e13.size;omega
 have hmi:im < id:=by have:=H.lt_of_cells g3;have:=e5.size;have:=e4.size;omega
 have hN:=newS_rt hgr
 have hNb:Bnd 0 (newS W Hh S):=newS_bnd
 have hNS:(newS W Hh S).S=S:=rfl
 have hNW:(newS W Hh S).W=W:=rfl
 have hNH:(newS W Hh S).H=Hh:=rfl
 have hNw:(newS W Hh S).WF:=newS_wf
 clear e6 e5 e4 g3 g2 g1 e3 e2 e1 hrt hbd hW hH hS
 generalize newS W Hh S=s0 at *
 have hself:∀ x:Int,(x != x)=false:=fun x=>by simp
 have hWb:=(gr_size hgr).1
 have hS64:=(gr_size hgr).2.2.2.1
 refine stepR0 ?_
 refine mx_loop (fun n ts τ'=>∃ (i:Nat) (s:St),n=al.length - i∧i≤al.length∧Ext σ τ'∧Rt s∧Bnd (i:Int) s∧s.W=W∧s.H=Hh∧s.S=S∧τ'.get id=.cells 0 (stC s)∧τ'.get im=.cells 0 (mapC W Hh S)∧ts 1=.slice p al.length cap∧ts 2=.pointer (some ⟨im,0,none⟩)∧ts 5=.pointer (some ⟨id,0,none⟩)∧ts 7=.int .i64 ((i:Nat):Int)) al.length ?_ ?_
 ·exact ⟨0,s0,rfl,Nat.zero_le _,e15,hN,hNb,hNW,hNH,hNS,g5,g45,Sd0,Sd0,Sd0,Sd0⟩
 clear e15 g5 g45 hN hNb hNS hNW hNH hNw
 rintro _ ts τ' ⟨i,s,rfl,hi,e,hrt,hbd,hsW,hsH,hsS,g,gm,t1,t2,t5,t7⟩
 rcases Nat.lt_or_ge i al.length with hil | hig
 ·have hil':((i:Nat):Int) < ((al.length:Nat):Int):=by omega
  obtain ⟨pid,rfl,hrow,hrows⟩:=hp (fun h=>by rw [List.map_eq_nil_iff] at h;rw [h] at hil;simp at hil)
  have hrw:=hrows i (by rw [List.length_map];exact hil)
  rw [List.getElem_map] at hrw
  generalize al[i]=q at *
  obtain ⟨nm,a,b,c⟩:=q
  have hws:=hrt.inv.wf
  have hwt:=doT_wf hws (kindN nm) a b c
  refine stepR (An t1 (An t5 (An t7 hil'))) ?_
  refine mld_loadN Sd0 (Sw t5) (row_of g (rowAll hws.len)) ?_
  refine stepR (An t1 (An t7 hil')) ?_
  refine mld_loadN (off:=i * 4) (vs:=actC nm a b c) Sd0 Sd0 (rowE e hrw) ?_
  refine mld_call Sd0 (by unfold actW;exact Sd0) (aOf_c nm a b c τ') (fun _ _ h=>h.2) ?_
  rintro _ τa ⟨rfl,ea⟩
  refine stepR0 ?_
  refine mld_callW Sd0 (by unfold stV;exact Sd0) (mDo_c s hws nm a b c τa) ?_
  rintro _ τb hv
  obtain ⟨cv,ev,rfl,eb,hcv,hev⟩:=hv.out
  clear hv
  refine stepR0 ?_
  have gx:=H.get_push_self τb (.cells 0 zl0)
  have ex:=Ext.push τb (.cells 0 zl0)
  refine mld_op Sd0 (o_store (off:=0) (vs:=stC (doT s (kindN nm) a b c)) Sd0 Sd0 gx hwt.len (by rw [zl_len];simp) (stC_one _)) ?_
  have tx:=SetTo.mk' (o:=.cells 0 (spl zl0 0 (stC (doT s (kindN nm) a b c)))) (H.lt_of_cells gx)
  have ey:=tx.ext ex (Nat.le_refl _)
  generalize H.set _ τb.size _=τc at *
  have gx:τc.get τb.size=.cells 0 (stC (doT s (kindN nm) a b c)):=by have:=tx.self;rwa [spl_all (by rw [zl_len,hwt.len])] at this
  have hixid:id < τb.size:=H.lt_of_cells ((ea.trans eb).cells g)
  generalize τb.size=ix at *
  have hcv:=hcv.of_ext ey
  have hev:=hev.of_ext ey
  have ez:=(ea.trans eb).trans ey
  have g:=ez.cells g
  have gm:=ez.cells gm
  have e:=e.trans ez
  clear tx ex ea eb ey ez
  refine stepR0 ?_
  refine ml_call Sd0 Sd0 (tNumE_c hE hev) ?_
  rintro _ τd ⟨rfl,ed⟩
  have g:=ed.cells g
  have gm:=ed.cells gm
  have gx:=ed.cells gx
  have e:=e.trans ed
  have hcv:=hcv.of_ext ed
  clear hev ed
  by_cases hd:doE s (kindN nm) a b c=0
  case neg=>
   have hd':(doE s (kindN nm) a b c != 0)=true:=by rw [bne_iff_ne];exact hd
   refine stepR (An hd' t7) ?_
   exact ⟨al.length - (i + 1),by omega,i + 1,s,rfl,by omega,e,hrt,hbd.mono (by omega),hsW,hsH,hsS,g,gm,(Sw t1),(Sw t2),(Sw t5),Sd0⟩
  have hd':(doE s (kindN nm) a b c != 0)=false:=by rw [hd];rfl
  obtain ⟨htm,hm0,hrt2,hbd2,hW2,hH2,hS2,hap2⟩:=do_step hrt hbd (by omega) (by omega) hd
  have hmf:∀ k,k < 10→s.o k=true→_:=fun k hk os=>made_safe hrt hm0 hk os
  rw [← htm,hsW,hsH,hsS,hgr] at hmf
  rw [doL_zero hd] at hcv
  rw [hsW] at hW2
  rw [hsH] at hH2
  rw [hsS] at hS2
  clear htm hm0 hap2 hd
  generalize doT s (kindN nm) a b c=t at *
  generalize hl:(if kindN nm=6 then cmdsL t 10 else [])=l at *
  obtain ⟨pc,rfl,hcl⟩:=hcv
  obtain ⟨cnt,hcnt⟩:∃ cnt:Nat→Nat,cnt=fun k=>if kindN nm=6 then (cmdsL t k).length else 0:=⟨_,rfl⟩
  have hc0:cnt 0=0:=by rw [hcnt];simp [cmdsL]
  have hc10:cnt 10=l.length:=by rw [hcnt,← hl];simp only;split<;>rfl
  have hcle:∀ k,cnt k≤k:=fun k=>by rw [hcnt];simp only;have:=cmdsL_le t k;split<;>omega
  have hcf:∀ k,t.o k=false→cnt (k + 1)=cnt k:=fun k ho=>by rw [hcnt];simp only;rw [cmds_off ho]
  have hct:∀ k,k < 10→t.o k=true→kindN nm=6→cnt (k + 1)=cnt k + 1∧cnt k < l.length∧l.getD (cnt k) (0,0)=((k:Int),(t.r k).cell):=fun k hk ho h6=>by
   rw [hcnt,← hl];simp only;rw [if_pos h6,if_pos h6,if_pos h6]
   exact ⟨cmds_on ho,cmdsL_at hk ho⟩
  have hcn:kindN nm≠6→∀ k,cnt k=0:=fun h6 k=>by rw [hcnt];simp only;rw [if_neg h6]
  clear hcnt hl
  refine stepR (An t2 hd') ?_
  refine ml_loadN Sd0 (Sw t2) (row_of gm (rowAll rfl)) ?_
  refine stepR0 ?_
  refine ml_loadN (vs:=offC t.off) Sd0 Sd0 (row_of gx hwt.off_row) ?_
  refine stepR0 ?_
  refine ml_call Sd0 Sd0 (rOn_c hgr hwt.off hwt.byte) ?_
  rintro ov τ9 ⟨e9,oid,own,hoid⟩
  have rd:=own.rd
  have hl64:(onL S t.off true).length≤1000:=by
   have:=onN_len S t.off S.size
   rw [onL_onN];omega
  generalize onL S t.off true=on at *
  have g:=e9.cells g
  have gm:=e9.cells gm
  have gx:=e9.cells gx
  have hcl:∀ q,q < l.length→∃ cid,pc=some ⟨cid,0,none⟩∧τ9.row cid (q * 2) 2=some [.int .i64 (l.getD q (0,0)).1,.int .i64 (l.getD q (0,0)).2]:=fun q hq=>by
   obtain ⟨cid,h1,h2⟩:=hcl q hq
   exact ⟨cid,h1,rowE e9 h2⟩
  have hrw2:=rowE (e.trans e9) hrw
  have e:=e.trans e9
  clear own hoid e9 hcv
  generalize hcvv:Value.slice pc l.length l.length=cv at *
  refine stepR0 ?_
  refine mx_loop (fun n ts τ3=>∃ k:Nat,n=10 - k∧k≤10∧Ext τ9 τ3∧ts 1=.slice (some ⟨pid,0,none⟩) al.length cap∧ts 2=.pointer (some ⟨im,0,none⟩)∧ts 5=.pointer (some ⟨id,0,none⟩)∧ts 7=.int .i64 ((i:Nat):Int)∧ts 8=.pointer (some ⟨ix,0,none⟩)∧ts 9=cv∧ts 11=ov∧ts 12=.int .i64 ((cnt k:Nat):Int)∧ts 13=.int .i64 ((k:Nat):Int)) 10 ?_ ?_
  ·exact ⟨0,rfl,by omega,Ext.refl _,(Sw t1),(Sw t2),(Sw t5),(Sw t7),Sd0,Sd0,Sd0,by rw [hc0];exact Sd0,Sd0⟩
  rintro _ ts2 τ2 ⟨k,rfl,hk,e2,u1,u2,u5,u7,u8,u9,u11,u12,u13⟩
  have g2:=e2.cells g
  rcases Nat.lt_or_ge k 10 with hkl | hkg
  ·have hk':((k:Nat):Int) < 10:=by omega
   have gx:=e2.cells gx
   have gm:=e2.cells gm
   have g:=g2
   have hkc:=hcle k
   refine stepR (An u13 (An u8 hk')) ?_
   refine ml_op Sd0 (o_load1q (off:=82 + k) (v:=.bool (t.o k)) (Sw (An u8 u13)) gx (hwt.on_at hkl)) ?_
   rcases Bool.eq_false_or_eq_true (t.o k) with hto | hto
   case inr=>
    rw [hto]
    refine stepR u13 ?_
    exact ⟨10 - (k + 1),by omega,k + 1,rfl,by omega,e2,(Sw u1),(Sw u2),(Sw u5),(Sw u7),(Sw u8),(Sw u9),(Sw u11),by rw [hcf k hto];exact (Sw u12),Sd0⟩
   rw [hto]
   refine stepR (An u1 (An u7 hil')) ?_
   refine ml_cut (fun ts3 τ3=>τ3=τ2∧ts3 1=.slice (some ⟨pid,0,none⟩) al.length cap∧ts3 2=.pointer (some ⟨im,0,none⟩)∧ts3 5=.pointer (some ⟨id,0,none⟩)∧ts3 7=.int .i64 ((i:Nat):Int)∧ts3 8=.pointer (some ⟨ix,0,none⟩)∧ts3 9=cv∧ts3 11=ov∧ts3 12=.int .i64 ((cnt (k + 1):Nat):Int)∧ts3 13=.int .i64 ((k:Nat):Int)) ?_ ?_
   ·refine ml_load1 (v:=.string nm) Sd0 Sd0 (row_cell (rowE e2 hrw2) (q:=0) (by omega)) ?_
    by_cases h6:nm=nmTick
    ·have hb:(nm.toList == nmTick.toList)=true:=by rw [h6];simp
     unfold nmTick at hb
     obtain ⟨hq1,hq2,hq3⟩:=hct k hkl hto (by rw [h6];decide)
     have hq':((cnt k:Nat):Int) < ((l.length:Nat):Int):=by omega
     have hqn:¬ ((l.length:Nat):Int)≤((cnt k:Nat):Int):=by omega
     obtain ⟨cid,rfl,hrc⟩:=hcl _ hq2
     rw [hq3] at hrc
     have hrc:=rowE e2 hrc
     rw [← hcvv] at u9
     generalize hqq:cnt k=q at *
     have c0:=row_cell hrc (q:=0) (by omega)
     have c1:=row_cell hrc (q:=1) (by omega)
     refine stepR (An hb (An u12 (An u9 hqn))) ?_
     refine mld_load1 (v:=.int .i64 ((k:Nat):Int)) Sd0 Sd0 c0 ?_
     refine stepR (An u13 (An u12 (An u9 hself))) ?_
     refine mld_load1 (v:=.int .i64 (t.r k).cell) Sd0 Sd0 c1 ?_
     refine stepR (An u13 (An u8 hk')) ?_
     refine mld_op Sd0 (o_load1q (off:=12 + k * 7 + 0) (v:=.int .i64 (t.r k).cell) (Sw (An u8 u13)) gx (hwt.rob_at hkl (by omega))) ?_
     refine stepR (An hself u12) ?_
     exact ⟨rfl,(Sw u1),(Sw u2),(Sw u5),(Sw u7),(Sw u8),by rw [← hcvv];exact (Sw u9),(Sw u11),by rw [hq1,Int.natCast_add];exact Sd0,(Sw u13)⟩
    ·have hb:(nm.toList == nmTick.toList)=false:=str_ne h6
     unfold nmTick at hb
     have h6':kindN nm≠6:=fun h=>h6 (kind_tick h)
     refine stepR hb ?_
     exact ⟨rfl,(Sw u1),(Sw u2),(Sw u5),(Sw u7),(Sw u8),(Sw u9),(Sw u11),by rw [hcn h6' (k + 1),← hcn h6' k];exact (Sw u12),(Sw u13)⟩
   clear u1 u2 u5 u7 u8 u9 u11 u12 u13
   rintro ts3 τ2 ⟨rfl,u1,u2,u5,u7,u8,u9,u11,u12,u13⟩
   refine stepR (An u13 (An u5 hk')) ?_
   refine mld_op Sd0 (o_load1q (off:=82 + k) (v:=.bool (s.o k)) (Sw (An u5 u13)) g (hws.on_at hkl)) ?_
   rcases Bool.eq_false_or_eq_true (s.o k) with hso | hso
   case inr=>
    rw [hso]
    refine stepR u13 ?_
    exact ⟨10 - (k + 1),by omega,k + 1,rfl,by omega,e2,(Sw u1),(Sw u2),(Sw u5),(Sw u7),(Sw u8),(Sw u9),(Sw u11),(Sw u12),Sd0⟩
   rw [hso]
   refine stepR (An u13 (An u5 hk')) ?_
   refine mld_op Sd0 (o_load1q (off:=12 + k * 7 + 0) (v:=.int .i64 (s.r k).cell) (Sw (An u5 u13)) g (hws.rob_at hkl (by omega))) ?_
   refine stepR (An u13 (An u8 hk')) ?_
   refine mld_op Sd0 (o_load1q (off:=12 + k * 7 + 0) (v:=.int .i64 (t.r k).cell) (Sw (An u8 u13)) gx (hwt.rob_at hkl (by omega))) ?_
   by_cases hce:(t.r k).cell=(s.r k).cell
   ·have hb:((s.r k).cell == (t.r k).cell)=true:=by rw [hce];simp
    refine stepR (An hb u13) ?_
    exact ⟨10 - (k + 1),by omega,k + 1,rfl,by omega,e2,(Sw u1),(Sw u2),(Sw u5),(Sw u7),(Sw u8),(Sw u9),(Sw u11),(Sw u12),Sd0⟩
   have hb:((s.r k).cell == (t.r k).cell)=false:=by rw [beq_eq_false_iff_ne];exact fun h=>hce h.symm
   rcases hmf k hkl hso with hx | ⟨q,hq,hch,hmv,hop,hnr,hsf⟩
   ·exact absurd hx hce
   obtain ⟨nn,hnd,hn0,hnc⟩:=safe_need hsf
   obtain ⟨b1,b2,b3,b4,b5,b6,b7⟩:=robOK_iff.1 (hrt2.robOK hkl hto)
   obtain ⟨a1,a2,a3,a4,a5,a6,a7⟩:=robOK_iff.1 (hrt.robOK hkl hso)
   have hos:=hrt.inv.cell k hkl hso
   rw [hsS] at hos
   have hbs:beside W (s.r k).cell (t.r k).cell=true:=((near_iff hWb hos).1 hnr).2
   have w0:IntKind.i64.wrap ((t.r k).moved - (s.r k).moved)=q:=by rw [i64wrap (by omega) (by omega)];omega
   have w1:IntKind.i64.wrap ((s.r k).charge - q)=(t.r k).charge:=by rw [i64wrap (by omega) (by omega)];omega
   have q1:¬ q < 1:=by omega
   have q2:¬ 2 < q:=by omega
   have hnl:¬ nn < 0:=by omega
   have hnl2:¬ (t.r k).charge < nn:=by omega
   refine stepR (An hb (An u13 (An u8 hk'))) ?_
   refine mld_op Sd0 (o_load1q (off:=12 + k * 7 + 4) (v:=.int .i64 (t.r k).moved) (Sw (An u8 u13)) gx (hwt.rob_at hkl (by omega))) ?_
   refine stepR (An u13 (An u5 hk')) ?_
   refine mld_op Sd0 (o_load1q (off:=12 + k * 7 + 4) (v:=.int .i64 (s.r k).moved) (Sw (An u5 u13)) g (hws.rob_at hkl (by omega))) ?_
   refine stepR (An w0 (An q1 (An q2 (An u13 (An u8 hk'))))) ?_
   refine mld_op Sd0 (o_load1q (off:=12 + k * 7 + 1) (v:=.int .i64 (t.r k).charge) (Sw (An u8 u13)) gx (hwt.rob_at hkl (by omega))) ?_
   refine stepR (An u13 (An u5 hk')) ?_
   refine mld_op Sd0 (o_load1q (off:=12 + k * 7 + 1) (v:=.int .i64 (s.r k).charge) (Sw (An u5 u13)) g (hws.rob_at hkl (by omega))) ?_
   refine stepR (An w1 (An hself (An u2 (An gm (An u13 (An u5 hk')))))) ?_
   refine mld_op Sd0 (o_load1q (off:=12 + k * 7 + 0) (v:=.int .i64 (s.r k).cell) (Sw (An u5 u13)) g (hws.rob_at hkl (by omega))) ?_
   refine stepR (An u13 (An u8 hk')) ?_
   refine mld_op Sd0 (o_load1q (off:=12 + k * 7 + 0) (v:=.int .i64 (t.r k).cell) (Sw (An u8 u13)) gx (hwt.rob_at hkl (by omega))) ?_
   refine mld_callW Sd0 Sd0 (rBeside_c W _ _ _ hWb ⟨a1.1,by omega⟩ ⟨b1.1,by omega⟩) ?_
   rintro _ τ2 ⟨rfl,rfl⟩
   rw [hbs]
   refine stepR u2 ?_
   refine mld_loadN Sd0 (Sw u2) (row_of gm (rowAll rfl)) ?_
   refine stepR (An u13 (An u8 hk')) ?_
   refine mld_op Sd0 (o_load1q (off:=12 + k * 7 + 0) (v:=.int .i64 (t.r k).cell) (Sw (An u8 u13)) gx (hwt.rob_at hkl (by omega))) ?_
   refine stepR0 ?_
   refine mld_callW Sd0 (Sw u11) (rNeed_c W Hh S (rd.of_ext e2) hl64 _ _) ?_
   rintro _ τ4 ⟨rfl,e4⟩
   rw [hnd]
   have gx:=e4.cells gx
   refine stepR (An hnl (An u13 (An u8 hk'))) ?_
   refine ml_op Sd0 (o_load1q (off:=12 + k * 7 + 1) (v:=.int .i64 (t.r k).charge) (Sw (An u8 u13)) gx (hwt.rob_at hkl (by omega))) ?_
   refine stepR (An hnl2 u13) ?_
   exact ⟨10 - (k + 1),by omega,k + 1,rfl,by omega,e2.trans e4,(Sw u1),(Sw u2),(Sw u5),(Sw u7),(Sw u8),(Sw u9),(Sw u11),(Sw u12),Sd0⟩
  ·obtain rfl:k=10:=by omega
   have hk':¬ (((10:Nat):Nat):Int) < 10:=by omega
   rw [hc10] at u12
   rw [← hcvv] at u9
   have gx:=e2.cells gx
   have gm:=e2.cells gm
   refine stepR (An u13 (An hk' (An u12 (An u9 hself)))) ?_
   refine ml_loadN Sd0 (Sw u8) (row_of gx (rowAll hwt.len)) ?_
   refine stepR u5 ?_
   refine ml_storeA (off:=0) (vs:=stC t) Sd0 (Sw u5) Sd0 g2 hwt.len (by rw [hws.len];simp) (stC_one _) fun τ8 t8=>?_
   rw [spl_all (by rw [hws.len,hwt.len])] at t8
   refine stepR u7 ?_
   exact ⟨al.length - (i + 1),by omega,i + 1,t,rfl,by omega,t8.ext (e.trans e2) hz,hrt2,hbd2.mono (by omega),hW2,hH2,hS2,t8.self,t8.cells gm (by omega),(Sw u1),(Sw u2),(Sw u5),Sd0⟩
 ·obtain rfl:i=al.length:=by omega
  have hil':¬ ((al.length:Nat):Int) < ((al.length:Nat):Int):=by omega
  refine stepR (An t1 (An t7 hil')) ?_
  exact fin1 Sd0
end Go.Proofs.YtoejdgoicoaomaaGreatDoor
