/- ModelStrands: with all chargers off all are stranded, and hold. -/
import Derived.Test.YtoejdgoicoaomaaGreatDoorCL9
import Derived.Test.YtoejdgoicoaomaaGreatDoorLwA
import Derived.Test.YtoejdgoicoaomaaGreatDoorKindA
import Derived.Test.YtoejdgoicoaomaaGreatDoorModSt
set_option linter.unusedVariables false
set_option linter.unusedSimpArgs false
namespace Go.Proofs.YtoejdgoicoaomaaGreatDoor
open Go.Mini
open Go.Proofs.YtoejdgoicoaomaaGreatDoor.Code
attribute [local irreducible] mx ml mld mstep MCalls Ex.thn Ex.inb
variable {E:World→Prop}
theorem off_zero {s:St} (h:Rt s) {n:Int} (hb:Bnd n s) (hn:n + 1≤150) {b:Int} (hc:isChg s b=true):doE s 3 0 b 0=0∧doT s 3 0 b 0={ s with off:=turn s.off b true }:=by
 have hm:madeS s 3 0 b 0=({ s with off:=turn s.off b true },[],0):=by
  unfold madeS
  rw [if_neg (by omega),if_neg (by omega),if_neg (by omega),if_pos (.inl rfl),if_pos hc]
  rfl
 have h0:doE s 3 0 b 0=0:=by rw [doE_few h hb hn,hm]
 exact ⟨h0,by unfold doT;rw [if_pos h0,hm]⟩
theorem tick_zero {s:St} (h:Rt s) {n:Int} (hb:Bnd n s) (hn:n + 1≤150):doE s 6 0 0 0=0∧doT s 6 0 0 0=tickS s:=by
 have hm:madeS s 6 0 0 0=(tickS s,cmdsL (tickS s) 10,0):=by
  unfold madeS
  rw [if_neg (by omega),if_neg (by omega),if_neg (by omega),if_neg (by omega),if_pos rfl]
 have h0:doE s 6 0 0 0=0:=by rw [doE_few h hb hn,hm]
 exact ⟨h0,by unfold doT;rw [if_pos h0,hm]⟩
theorem kind_off:kindN nmOff=3:=by decide
theorem kind_tk:kindN nmTick=6:=by decide
set_option maxRecDepth 100000 in
set_option maxHeartbeats 16000000 in
theorem modelStrands_c (hE:∀ w,E w→ErrType w) (W Hh:Int) (S:ByteArray) {sv:Value} {al:List Act4} {σ:H} (hr:RdN σ 4 sv (al.map acC)) (n:Nat) (hn:n < 256):MCalls E Tryz.prog 9 [mapV W Hh S,sv,.int .u8 ((n:Nat):Int)] σ (fun v τ=>v=.bool true):=by
 refine mcalls_of fn9 (by simp) ?_
 unfold c9 r9 mapV
 have g1:=H.get_push_self σ (.cells 0 (mapC W Hh S))
 have e1:=Ext.push σ (.cells 0 (mapC W Hh S))
 refine mx_seq (mx_ops (ml_op Sd0 (o_box (cs:=mapC W Hh S) Sd0) ?_))
 have hlm:=H.lt_of_cells g1
 generalize σ.push (.cells 0 (mapC W Hh S))=τ at *
 generalize hτ:τ=τa at *
 generalize him:σ.size=im at *
 refine stepR0 ?_
 refine ml_call Sd0 Sd0 (mAwake_c hE τa) ?_
 rintro _ τ1 ⟨rfl,e2⟩
 have g2:=e2.cells g1
 refine stepR0 ?_
 refine ml_loadN Sd0 Sd0 (row_of g2 (rowAll rfl)) ?_
 refine stepR0 ?_
 refine ml_call Sd0 Sd0 (rRight_c W Hh S τ1) ?_
 rintro _ τ2 ⟨rfl,e3⟩
 have g3:=e3.cells g2
 have e13:=(e1.trans e2).trans e3
 rcases Bool.eq_false_or_eq_true (gr W Hh S) with hgr | hgr
 case inr=>
  refine stepR hgr ?_
  refine ml_call Sd0 Sd0 (mAwake_c hE τ2) ?_
  rintro _ τ3 ⟨rfl,e4⟩
  refine stepR0 ?_
  exact fin1 Sd0
 refine stepR hgr ?_
 refine ml_call Sd0 Sd0 (rSmall_c (hr.of_ext e13)) ?_
 rintro _ τ2 ⟨rfl,rfl⟩
 rcases Bool.eq_false_or_eq_true (smallA al) with hs | hs
 case inr=>
  rw [hs]
  refine stepR0 ?_
  refine ml_call Sd0 Sd0 (mAwake_c hE τ2) ?_
  rintro _ τ3 ⟨rfl,e4⟩
  refine stepR0 ?_
  exact fin1 Sd0
 rw [hs]
 refine stepR0 ?_
 refine ml_loadN Sd0 Sd0 (row_of g3 (rowAll rfl)) ?_
 refine stepR0 ?_
 refine ml_call Sd0 Sd0 (gOf_c W Hh S τ2) ?_
 rintro _ τ3 ⟨rfl,e4⟩
 refine stepR0 ?_
 refine ml_call Sd0 Sd0 (mNew_c W Hh S τ3) ?_
 rintro _ τ4 ⟨e5,hv⟩
 rw [if_pos hgr] at hv
 subst hv
 obtain ⟨hrt,hbd,hW,hH,hS⟩:=rnew_all hgr hs
 have hlen:=(small_of hs).1
 refine stepR0 ?_
 refine ml_init (vs:=stC (newS W Hh S)) Sd0 Sd0 Sd0 newS_wf.len zl_len (stC_one _) fun τ5 e6 g5=>?_
 generalize hid:τ4.size=id at *
 have e15:=((e13.trans e4).trans e5).trans e6
 have g45:=((e4.trans e5).trans e6).cells g3
 refine stepR0 ?_
 refine ml_loadN Sd0 Sd0 (row_of g5 (rowAll newS_wf.len)) ?_
 refine stepR0 ?_
 refine ml_call Sd0 Sd0 (lRun_c hE (newS W Hh S) newS_wf (hr.of_ext e15) (by omega)) ?_
 rintro _ τ6 ⟨rfl,e7⟩
 have hws:=hrt.inv.wf
 generalize runS (newS W Hh S) al=s at *
 refine stepR0 ?_
 refine ml_storeA (off:=0) (vs:=stC s) Sd0 Sd0 Sd0 (e7.cells g5) hws.len (by rw [newS_wf.len];simp) (stC_one _) fun τ7 t7=>?_
 rw [spl_all (by rw [newS_wf.len,hws.len])] at t7
 have hz:σ.size≤id:=by have:=e6.size;have:=e15.size;have:=e7.size;have:=e5.size;have:=e4.size;have:=e13.size;omega
 have hl3:=H.lt_of_cells g3
 have hlt:im < id:=by have:=e5.size;have:=e4.size;omega
 have gm7:=t7.cells (e7.cells g45) (by omega)
 have e17:Ext σ τ7:=t7.ext (e15.trans e7) (by omega)
 have g7:=t7.self
 clear t7 e7 e15 g45 e6 e5 e4 g5 g3 g2 g1 e3 e2 e1 hlen
 obtain ⟨m,hm5,hkm⟩:∃ m:Nat,m < 5∧(((n:Nat):Int).tmod 5)=(m:Int):=⟨n % 5,Nat.mod_lt _ (by omega),by rw [Int.tmod_eq_emod_of_nonneg (by omega)];rfl⟩
 have hwn:IntKind.i64.wrap ((n:Nat):Int)=((n:Nat):Int):=i64wrap (by omega) (by omega)
 refine stepR0 ?_
 refine ml_loadN Sd0 Sd0 (row_of gm7 (rowAll rfl)) ?_
 refine stepR0 ?_
 refine ml_call Sd0 Sd0 (gOf_c W Hh S τ7) ?_
 rintro _ τ8 ⟨rfl,e8⟩
 refine stepR0 ?_
 refine ml_call Sd0 Sd0 (gkind_c W Hh S 67 τ8) ?_
 rintro cv τ9 ⟨e9,oid,own,hoid⟩
 rw [hgr] at own
 have g9:=(e8.trans e9).cells g7
 have hne:∀ i,oid=some i→i≠id:=fun i hi=>by have:=hoid i hi;have:=e8.size;have:=H.lt_of_cells g7;omega
 have e29:=(e17.trans e8).trans e9
 have hC:∀ x ∈ gkind S 67 true,isChg s x=true:=fun x hx=>by unfold isChg;rw [hW,hH,hS,hgr];exact decide_eq_true hx
 have hl64:(gkind S 67 true).length≤64:=by
  have h1:=gkindN_len S 67 S.size
  have h2:=(gr_size hgr).2.2.2.1
  have h3:gkind S 67 true=gkindN S 67 S.size:=rfl
  rw [h3];omega
 have hlt:∀ x ∈ gkind S 67 true,0≤x∧x < 64:=fun x hx=>by
  obtain ⟨_,i,rfl,hi,_⟩:=gkind_mem.1 hx
  have h2:=(gr_size hgr).2.2.2.1
  omega
 have hdk:∀ t:St,t.S=S→t.W=W→t.H=Hh→(∀ x ∈ gkind S 67 true,isOff t.off x.toNat=true)→onL t.S t.off (gr t.W t.H t.S)=[]:=fun t h1 h2 h3 h=>by
  rw [h1,h2,h3,hgr];exact all_dark h
 generalize gkind S 67 true=L at *
 clear gm7 g7 e8 e9 e17 hoid
 refine ml_stepN (v:=cv) (τ:=τ9) Sd0 ?_
 refine ml_nil (thn_nor (mx_seq (mx_cut (fun ts τ=>∃ s2:St,Ext σ τ∧Rt s2∧Bnd 124 s2∧τ.get id=.cells 0 (stC s2)∧onL s2.S s2.off (gr s2.W s2.H s2.S)=[]∧ts 2=.int .u8 ((n:Nat):Int)∧ts 7=.pointer (some ⟨id,0,none⟩)) ?_ ?_)))
 ·refine stepR0 ?_
  refine mx_loop (fun q ts τ=>∃ (j:Nat) (s2:St),q=L.length - j∧j≤L.length∧Ext σ τ∧Rt s2∧Bnd (60 + (j:Int)) s2∧s2.W=W∧s2.H=Hh∧s2.S=S∧τ.get id=.cells 0 (stC s2)∧Own τ 1 cv oid (ints L)∧(∀ x ∈ L.take j,isOff s2.off x.toNat=true)∧ts 2=.int .u8 ((n:Nat):Int)∧ts 7=.pointer (some ⟨id,0,none⟩)∧ts 9=cv∧ts 10=.int .i64 ((j:Nat):Int)) L.length ?_ ?_
  ·exact ⟨0,s,rfl,Nat.zero_le _,e29,hrt,hbd.mono (by omega),hW,hH,hS,g9,own,fun x hx=>(by simp at hx),Sd0,Sd0,Sd0,Sd0⟩
  have hCC:∀ t:St,t.W=W→t.H=Hh→t.S=S→∀ x ∈ L,isChg t x=true:=fun t h1 h2 h3 x hx=>by
   have h:=hC x hx
   unfold isChg at h ⊢
   rw [hW,hH,hS] at h
   rw [h1,h2,h3];exact h
  clear hrt hbd hW hH hS g9 own hws hC e29
  rintro _ ts τ ⟨j,s2,rfl,hj,e,hrt,hbd,hW,hH,hS,g,own,hoff,t2,t7,t9,t10⟩
  have hln:(ints L).length=L.length:=by unfold ints;rw [List.length_map]
  rcases Nat.lt_or_ge j L.length with hjl | hjg
  ·have hjl':((j:Nat):Int) < ((L.length:Nat):Int):=by omega
   have hws:=hrt.inv.wf
   have hmem:L.getD j 0 ∈ L:=by rw [List.getD_eq_getElem?_getD,List.getElem?_eq_getElem hjl];exact List.getElem_mem hjl
   have hcj:=hCC s2 hW hH hS _ hmem
   have hxj:=hlt _ hmem
   obtain ⟨hd0,hdT⟩:=off_zero hrt hbd (by omega) hcj
   obtain ⟨_,_,hrt3,hbd3,_,_,_,_⟩:=do_step hrt hbd (by omega) (by omega) hd0
   rw [hdT] at hrt3 hbd3
   refine mx_seq (mx_seq (mx_ops ?_))
   refine stepR (An t9 t10) ?_
   refine ml_op Sd0 (own.rd.len (Sw t9)) ?_
   rw [hln]
   refine stepR (An t9 (An t10 hjl')) ?_
   refine mld_loadN Sd0 (Sw t7) (row_of g (rowAll hws.len)) ?_
   refine stepR (An t9 t10) ?_
   refine mld_getS Sd0 own.rd (Sw t9) (Sw t10) (by omega) (by rw [Int.toNat_natCast];exact ints_at hjl) (fun p=>Sd0) fun p=>?_
   refine stepR0 ?_
   refine mld_callW Sd0 (by unfold stV actW actC;exact Sd0) (mDo_c s2 hws nmOff 0 (L.getD j 0) 0 τ) ?_
   rintro _ τb hv
   obtain ⟨dv,ev,rfl,eb,hcv,hev⟩:=hv.out
   rw [kind_off] at hcv hev ⊢
   rw [hd0] at hev
   rw [hdT]
   clear hv
   refine stepR0 ?_
   have gx:=H.get_push_self τb (.cells 0 zl0)
   have ex:=Ext.push τb (.cells 0 zl0)
   have hwt:=hrt3.inv.wf
   generalize hs3:({ s2 with off:=turn s2.off (L.getD j 0) true }:St)=s3 at *
   have ho3:s3.off=turn s2.off (L.getD j 0) true:=by rw [← hs3]
   have hW3:s3.W=W:=by rw [← hs3];exact hW
   have hH3:s3.H=Hh:=by rw [← hs3];exact hH
   have hS3:s3.S=S:=by rw [← hs3];exact hS
   refine mld_op Sd0 (o_store (off:=0) (vs:=stC s3) Sd0 Sd0 gx hwt.len (by rw [zl_len];simp) (stC_one _)) ?_
   have tx:=SetTo.mk' (o:=.cells 0 (spl zl0 0 (stC s3))) (H.lt_of_cells gx)
   have ey:=tx.ext ex (Nat.le_refl _)
   generalize H.set _ τb.size _=τc at *
   have gx:τc.get τb.size=.cells 0 (stC s3):=by have:=tx.self;rwa [spl_all (by rw [zl_len,hwt.len])] at this
   have hixid:id < τb.size:=H.lt_of_cells (eb.cells g)
   generalize τb.size=ix at *
   have hev:=hev.of_ext ey
   have ez:=eb.trans ey
   have g:=ez.cells g
   have own:=own.of_ext ez
   have e:=e.trans ez
   clear tx ex eb ey ez hcv
   refine stepR0 ?_
   refine ml_call Sd0 Sd0 (tNumE_c hE hev) ?_
   rintro _ τd ⟨rfl,ed⟩
   have g:=ed.cells g
   have gx:=ed.cells gx
   have own:=own.of_ext ed
   have e:=e.trans ed
   clear hev ed
   refine stepR (An t7 t10) ?_
   refine ml_loadN Sd0 Sd0 (row_of gx (rowAll hwt.len)) ?_
   refine stepR t7 ?_
   refine ml_storeA (off:=0) (vs:=stC s3) Sd0 (Sw t7) Sd0 g hwt.len (by rw [hws.len];simp) (stC_one _) fun τ8 t8=>?_
   rw [spl_all (by rw [hws.len,hwt.len])] at t8
   refine stepR t10 ?_
   refine ⟨L.length - (j + 1),by omega,j + 1,s3,rfl,by omega,t8.ext e hz,hrt3,hbd3.mono (by omega),hW3,hH3,hS3,t8.self,own.ext (fun i hi=>t8.other i (hne i hi)),fun x hx=>?_,(Sw t2),(Sw t7),(Sw t9),Sd0⟩
   have hxL:=hlt x (List.mem_of_mem_take hx)
   rw [ho3,turn_nat' hws.off hxj hxL]
   rw [List.take_add_one,List.mem_append] at hx
   split
   ·rfl
   ·rename_i hnx
    rcases hx with hx | hx
    ·exact hoff x hx
    ·rw [List.getElem?_eq_getElem hjl] at hx
     have:x=L[j]:=by simpa using hx
     rw [List.getD_eq_getElem?_getD,List.getElem?_eq_getElem hjl] at hnx
     exact absurd this hnx
  ·obtain rfl:j=L.length:=by omega
   have hjl':¬ ((L.length:Nat):Int) < ((L.length:Nat):Int):=by omega
   refine mx_seq (mx_seq (mx_ops ?_))
   refine stepR (An t9 t10) ?_
   refine ml_op Sd0 (own.rd.len (Sw t9)) ?_
   rw [hln]
   refine stepR (An t9 (An t10 hjl')) ?_
   rw [List.take_length] at hoff
   exact ⟨s2,e,hrt,hbd.mono (by omega),g,hdk s2 hS hW hH hoff,(Sw t2),(Sw t7)⟩
 clear hrt hbd hW hH hS g9 own hws hC e29 hne hl64 hlt hdk
 rintro ts τ ⟨s2,e,hrt,hbd,g,hon,t2,t7⟩
 refine stepR t7 ?_
 refine mx_loop (fun q ts τ=>∃ (j:Nat) (s2:St),q=6 - j∧j≤m + 1∧Ext σ τ∧Rt s2∧Bnd (124 + (j:Int)) s2∧τ.get id=.cells 0 (stC s2)∧onL s2.S s2.off (gr s2.W s2.H s2.S)=[]∧ts 2=.int .u8 ((n:Nat):Int)∧ts 7=.pointer (some ⟨id,0,none⟩)∧ts 14=.int .i64 ((j:Nat):Int)) 6 ?_ ?_
 ·exact ⟨0,s2,rfl,Nat.zero_le _,e,hrt,hbd.mono (by omega),g,hon,(Sw t2),(Sw t7),Sd0⟩
 clear hrt hbd g e hon t2 t7 s2
 rintro _ ts τ ⟨j,s2,rfl,hj,e,hrt,hbd,g,hon,t2,t7,t14⟩
 have hws:=hrt.inv.wf
 rcases Nat.lt_or_ge m j with hjm | hjm
 ·have hjm':¬ ((j:Nat):Int)≤((m:Nat):Int):=by omega
  refine stepR (An t14 (An t2 (An hwn (An hkm hjm')))) ?_
  exact fin1 Sd0
 have hjm':((j:Nat):Int)≤((m:Nat):Int):=by omega
 refine stepR (An t14 (An t2 (An hwn (An hkm (An hjm' t7))))) ?_
 refine ml_loadN Sd0 (Sw t7) (row_of g (rowAll hws.len)) ?_
 obtain ⟨hd0,hdT⟩:=tick_zero hrt hbd (by omega)
 obtain ⟨_,_,hrt3,hbd3,_,_,_,_⟩:=do_step hrt hbd (by omega) (by omega) hd0
 rw [hdT] at hrt3 hbd3
 refine stepR0 ?_
 refine ml_call Sd0 (by unfold stV actW actC;exact Sd0) (mDo_c s2 hws nmTick 0 0 0 τ) ?_
 rintro _ τb hv
 obtain ⟨dv,ev,rfl,eb,hcv,hev⟩:=hv.out
 rw [kind_tk] at hcv hev ⊢
 rw [hd0] at hev
 rw [hdT]
 clear hv hcv
 have hdark:=tick_dark hrt hon
 have kq:=tick_inv hrt.inv hrt.dist
 have hon3:onL (tickS s2).S (tickS s2).off (gr (tickS s2).W (tickS s2).H (tickS s2).S)=[]:=by
  rw [kq.keep.S,kq.keep.off,kq.keep.W,kq.keep.H];exact hon
 have hwt:=hrt3.inv.wf
 clear kq hon
 generalize tickS s2=s3 at *
 refine stepR0 ?_
 refine ml_init (vs:=stC s3) Sd0 Sd0 Sd0 hwt.len zl_len (stC_one _) fun τ5 e6 gx=>?_
 have hixid:id < τb.size:=H.lt_of_cells (eb.cells g)
 generalize τb.size=ix at *
 have g:=(eb.trans e6).cells g
 have hev:=hev.of_ext e6
 have e:=e.trans (eb.trans e6)
 clear eb e6
 refine stepR0 ?_
 refine ml_call Sd0 Sd0 (tNumE_c hE hev) ?_
 rintro _ τd ⟨rfl,ed⟩
 have g:=ed.cells g
 have gx:=ed.cells gx
 have e:=e.trans ed
 clear hev ed
 refine stepR0 ?_
 refine mx_loop (fun q ts τ3=>∃ k:Nat,q=10 - k∧k≤10∧τ3=τd∧ts 2=.int .u8 ((n:Nat):Int)∧ts 7=.pointer (some ⟨id,0,none⟩)∧ts 14=.int .i64 ((j:Nat):Int)∧ts 15=.pointer (some ⟨ix,0,none⟩)∧ts 18=.int .i64 ((k:Nat):Int)) 10 ?_ ?_
 ·exact ⟨0,rfl,by omega,rfl,(Sw t2),(Sw t7),(Sw t14),Sd0,Sd0⟩
 rintro _ ts2 τ2 ⟨k,rfl,hk,rfl,u2,u7,u14,u15,u18⟩
 rcases Nat.lt_or_ge k 10 with hkl | hkg
 ·have hk':((k:Nat):Int) < 10:=by omega
  dsimp only
  refine stepR (An u18 (An u15 hk')) ?_
  refine mld_op Sd0 (o_load1q (off:=82 + k) (v:=.bool (s3.o k)) (Sw (An u15 u18)) gx (hwt.on_at hkl)) ?_
  rcases Bool.eq_false_or_eq_true (s3.o k) with hto | hto
  case inr=>
   rw [hto]
   refine stepR u18 ?_
   exact ⟨10 - (k + 1),by omega,k + 1,rfl,by omega,rfl,(Sw u2),(Sw u7),(Sw u14),(Sw u15),Sd0⟩
  rw [hto]
  obtain ⟨d1,d2,d3⟩:=hdark k hkl hto
  have hn1:((4:Int) != 4)=false:=by decide
  have hn2:((s2.r k).cell != (s2.r k).cell)=false:=by simp
  have hn3:((s2.r k).charge != (s2.r k).charge)=false:=by simp
  refine stepR (An u18 (An u15 hk')) ?_
  refine mld_op Sd0 (o_load1q (off:=12 + k * 7 + 2) (v:=.int .i64 (s3.r k).phase) (Sw (An u15 u18)) gx (hwt.rob_at hkl (by omega))) ?_
  rw [d1]
  refine stepR (An u18 (An u15 (An hk' hn1))) ?_
  refine mld_op Sd0 (o_load1q (off:=12 + k * 7 + 0) (v:=.int .i64 (s3.r k).cell) (Sw (An u15 u18)) gx (hwt.rob_at hkl (by omega))) ?_
  rw [d2]
  refine stepR (An u18 (An u7 hk')) ?_
  refine mld_op Sd0 (o_load1q (off:=12 + k * 7 + 0) (v:=.int .i64 (s2.r k).cell) (Sw (An u7 u18)) g (hws.rob_at hkl (by omega))) ?_
  refine stepR (An u18 (An u15 (An hk' hn2))) ?_
  refine mld_op Sd0 (o_load1q (off:=12 + k * 7 + 1) (v:=.int .i64 (s3.r k).charge) (Sw (An u15 u18)) gx (hwt.rob_at hkl (by omega))) ?_
  rw [d3]
  refine stepR (An u18 (An u7 hk')) ?_
  refine mld_op Sd0 (o_load1q (off:=12 + k * 7 + 1) (v:=.int .i64 (s2.r k).charge) (Sw (An u7 u18)) g (hws.rob_at hkl (by omega))) ?_
  refine stepR (An u18 hn3) ?_
  exact ⟨10 - (k + 1),by omega,k + 1,rfl,by omega,rfl,(Sw u2),(Sw u7),(Sw u14),(Sw u15),Sd0⟩
 ·obtain rfl:k=10:=by omega
  have hk':¬ (((10:Nat):Nat):Int) < 10:=by omega
  refine stepR (An u18 hk') ?_
  refine ml_loadN Sd0 (Sw u15) (row_of gx (rowAll hwt.len)) ?_
  refine stepR u7 ?_
  refine ml_storeA (off:=0) (vs:=stC s3) Sd0 (Sw u7) Sd0 g hwt.len (by rw [hws.len];simp) (stC_one _) fun τ8 t8=>?_
  rw [spl_all (by rw [hws.len,hwt.len])] at t8
  refine stepR u14 ?_
  exact ⟨6 - (j + 1),by omega,j + 1,s3,rfl,by omega,t8.ext e hz,hrt3,hbd3.mono (by omega),t8.self,hon3,(Sw u2),(Sw u7),Sd0⟩
end Go.Proofs.YtoejdgoicoaomaaGreatDoor
