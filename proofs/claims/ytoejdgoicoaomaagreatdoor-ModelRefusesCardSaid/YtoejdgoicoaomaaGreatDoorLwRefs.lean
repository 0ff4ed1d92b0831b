/- ModelRefuses: what may not be is refused. -/
import Derived.Test.YtoejdgoicoaomaaGreatDoorCL8
import Derived.Test.YtoejdgoicoaomaaGreatDoorLwA
import Derived.Test.YtoejdgoicoaomaaGreatDoorKindA
set_option linter.unusedVariables false
set_option linter.unusedSimpArgs false
namespace Go.Proofs.YtoejdgoicoaomaaGreatDoor
open Go.Mini
open Go.Proofs.YtoejdgoicoaomaaGreatDoor.Code
attribute [local irreducible] mx ml mld mstep MCalls Ex.thn Ex.inb
variable {E:World→Prop}
def actV (nm:ByteArray) (a b c:Int):Value:=.agg (actC nm a b c).toArray
theorem opn_int {S:ByteArray} {c:Int} (h0:0≤c) (h1:c < S.size):(((S.data.toList.getD c.toNat 0).toNat:Int) != 35)=opn S c:=by
 have h:=opn_nat (S:=S) (i:=c.toNat) (by omega)
 rw [Int.toNat_of_nonneg h0] at h;exact h
theorem opn_out {S:ByteArray} {c:Int} (h:¬ (0≤c∧c < S.size)):opn S c=false:=by
 rw [← Bool.not_eq_true];exact fun h2=>h (opn_lt h2)
theorem refuses1_c {W Hh:Int} {S:ByteArray} (c:Int) {σ:H} {im:Nat} (hg:σ.get im=.cells 0 (mapC W Hh S)):MCalls E Tryz.prog 29 [.int .i64 c,.pointer (some ⟨im,0,none⟩)] σ (fun v τ=>v=.bool (opn S c)∧τ=σ):=by
 refine mcalls_of fn29 (by simp) ?_
 unfold c29 r29
 by_cases h0:0≤c
 ·refine stepR h0 ?_
  refine ml_op Sd0 (o_load1q (off:=2) (v:=.string S) Sd0 hg rfl) ?_
  by_cases h1:c < (S.size:Int)
  ·refine stepR h1 ?_
   refine ml_op Sd0 (o_load1q (off:=2) (v:=.string S) Sd0 hg rfl) ?_
   refine ml_op Sd0 rfl ?_
   refine ml_idxS Sd0 Sd0 Sd0 h0 h1 ?_
   refine stepR0 ?_
   refine fin1 ⟨?_,rfl⟩
   rw [← opn_int h0 h1]
   exact Sd0
  ·refine stepR h1 ?_
   rw [opn_out (fun h=>h1 h.2)]
   exact fin1 ⟨Sd0,rfl⟩
 ·refine stepR h0 ?_
  rw [opn_out (fun h=>h0 h.1)]
  exact fin1 ⟨Sd0,rfl⟩
theorem isC_iff {s:St} (h:gr s.W s.H s.S=true) {b:Int}:isChg s b=true↔(opn s.S b=true∧s.S.data.toList.getD b.toNat 0=67):=by
 unfold isChg gkind
 rw [h,if_pos rfl,decide_eq_true_eq,List.mem_map]
 constructor
 ·rintro ⟨i,hi,rfl⟩
  rw [List.mem_filter,List.mem_range] at hi
  have h67:s.S.data.toList.getD i 0=67:=by simpa using hi.2
  have e:(Int.ofNat i).toNat=i:=rfl
  rw [e]
  refine ⟨?_,h67⟩
  rw [← opn_int (c:=Int.ofNat i) (Int.natCast_nonneg i) (by have:=hi.1;show ((i:Nat):Int) < _;omega),e,h67];rfl
 ·rintro ⟨h1,h2⟩
  have hl:=opn_lt h1
  refine ⟨b.toNat,?_,?_⟩
  ·rw [List.mem_filter,List.mem_range]
   exact ⟨by omega,by rw [h2];rfl⟩
  ·show ((b.toNat:Nat):Int)=b;omega
theorem zS_not:rightS zS=false:=by
 unfold rightS
 have:gr zS.W zS.H zS.S=false:=by
  rw [Bool.eq_false_iff]
  intro h
  have:=(gr_size h).1.1
  exact absurd this (by show ¬ (1:Int)≤0;omega)
 rw [this];rfl
set_option maxRecDepth 100000 in
set_option maxHeartbeats 16000000 in
theorem modelRefuses_c (hE:∀ w,E w→ErrType w) (W Hh:Int) (S:ByteArray) {sv:Value} {al:List Act4} {σ:H} (hr:RdN σ 4 sv (al.map acC)) (nm:ByteArray) (a b c:Int):MCalls E Tryz.prog 8 [mapV W Hh S,sv,actV nm a b c] σ (fun v τ=>v=.bool true):=by
 refine mcalls_of fn8 (by simp) ?_
 unfold c8 r8 mapV actV
 have g1:=H.get_push_self σ (.cells 0 (mapC W Hh S))
 have e1:=Ext.push σ (.cells 0 (mapC W Hh S))
 refine mx_seq (mx_ops (ml_op Sd0 (o_box (cs:=mapC W Hh S) Sd0) ?_))
 have hlm:=H.lt_of_cells g1
 generalize σ.push (.cells 0 (mapC W Hh S))=τ at *
 refine ml_op Sd0 (o_box (cs:=actC nm a b c) Sd0) ?_
 have ga1:=H.get_push_self τ (.cells 0 (actC nm a b c))
 have ea:=Ext.push τ (.cells 0 (actC nm a b c))
 have g1:=ea.cells g1
 have e1:=e1.trans ea
 generalize τ.push (.cells 0 (actC nm a b c))=τa at *
 generalize hia:τ.size=ia at *
 generalize him:σ.size=im at *
 refine stepR0 ?_
 refine ml_call Sd0 Sd0 (mAwake_c hE τa) ?_
 rintro _ τ1 ⟨rfl,e2⟩
 have g2:=e2.cells g1
 refine stepR0 ?_
 refine ml_loadN Sd0 Sd0 (row_of g2 (rowAll rfl)) ?_
 refine stepR0 ?_
 refine ml_call Sd0 Sd0 (rRight_c W Hh S τ1) ?_
 rintro _ τ2 ⟨rfl,e3⟩
 have g3:=e3.cells g2
 have e13:=(e1.trans e2).trans e3
 have ga3:=(e2.trans e3).cells ga1
 rcases Bool.eq_false_or_eq_true (gr W Hh S) with hgr | hgr
 case inr=>
  refine stepR hgr ?_
  refine ml_call Sd0 Sd0 (mAwake_c hE τ2) ?_
  rintro _ τ3 ⟨rfl,e4⟩
  refine stepR0 ?_
  exact fin1 Sd0
 refine stepR hgr ?_
 refine ml_call Sd0 Sd0 (rSmall_c (hr.of_ext e13)) ?_
 rintro _ τ2 ⟨rfl,rfl⟩
 rcases Bool.eq_false_or_eq_true (smallA al) with hs | hs
 case inr=>
  rw [hs]
  refine stepR0 ?_
  refine ml_call Sd0 Sd0 (mAwake_c hE τ2) ?_
  rintro _ τ3 ⟨rfl,e4⟩
  refine stepR0 ?_
  exact fin1 Sd0
 rw [hs]
 refine stepR0 ?_
 refine ml_op Sd0 (o_load1q (off:=0) (v:=.string nm) Sd0 ga3 rfl) ?_
 by_cases h50:(50:Int) < (nm.size:Int)
 ·refine stepR h50 ?_
  refine ml_call Sd0 Sd0 (mAwake_c hE τ2) ?_
  rintro _ τ3 ⟨rfl,e4⟩
  refine stepR0 ?_
  exact fin1 Sd0
 refine stepR h50 ?_
 refine ml_loadN Sd0 Sd0 (row_of g3 (rowAll rfl)) ?_
 refine stepR0 ?_
 refine ml_call Sd0 Sd0 (gOf_c W Hh S τ2) ?_
 rintro _ τ3 ⟨rfl,e4⟩
 refine stepR0 ?_
 refine ml_call Sd0 Sd0 (mNew_c W Hh S τ3) ?_
 rintro _ τ4 ⟨e5,hv⟩
 rw [if_pos hgr] at hv
 subst hv
 obtain ⟨hrt,hbd,hW,hH,hS⟩:=rnew_all hgr hs
 have hlen:=(small_of hs).1
 refine stepR0 ?_
 refine ml_init (vs:=stC (newS W Hh S)) Sd0 Sd0 Sd0 newS_wf.len zl_len (stC_one _) fun τ5 e6 g5=>?_
 generalize hid:τ4.size=id at *
 have e15:=((e13.trans e4).trans e5).trans e6
 have g45:=((e4.trans e5).trans e6).cells g3
 have ga5:=((e4.trans e5).trans e6).cells ga3
 refine stepR0 ?_
 refine ml_loadN Sd0 Sd0 (row_of g5 (rowAll newS_wf.len)) ?_
 refine stepR0 ?_
 refine ml_call Sd0 Sd0 (lRun_c hE (newS W Hh S) newS_wf (hr.of_ext e15) (by omega)) ?_
 rintro _ τ6 ⟨rfl,e7⟩
 have hws:=hrt.inv.wf
 generalize runS (newS W Hh S) al=s at *
 refine stepR0 ?_
 refine ml_storeA (off:=0) (vs:=stC s) Sd0 Sd0 Sd0 (e7.cells g5) hws.len (by rw [newS_wf.len];simp) (stC_one _) fun τ7 t7=>?_
 rw [spl_all (by rw [newS_wf.len,hws.len])] at t7
 have hz:σ.size≤id:=by have:=e6.size;have:=e15.size;have:=e7.size;have:=e5.size;have:=e4.size;have:=e13.size;omega
 have hl3:=H.lt_of_cells g3
 have hlt:im < id:=by have:=e5.size;have:=e4.size;omega
 have gm7:=t7.cells (e7.cells g45) (by omega)
 have hla3:=H.lt_of_cells ga3
 have hlta:ia < id:=by have:=e5.size;have:=e4.size;omega
 have ga7:=t7.cells (e7.cells ga5) (by omega)
 have e17:Ext σ τ7:=t7.ext (e15.trans e7) (by omega)
 have g7:=t7.self
 clear t7 e7 e15 g45 e6 e5 e4 g5 g3 g2 g1 e3 e2 e1 hlen
 have hwt:=doT_wf hws (kindN nm) a b c
 have hde:=doE_few hrt hbd (by omega) (kindN nm) a b c
 refine stepR0 ?_
 refine mld_loadN Sd0 Sd0 (row_of g7 (rowAll hws.len)) ?_
 refine stepR0 ?_
 refine mld_loadN (off:=0) (vs:=actC nm a b c) Sd0 Sd0 (row_of ga7 (rowAll rfl)) ?_
 refine mld_call Sd0 (by unfold actW;exact Sd0) (aOf_c nm a b c τ7) (fun _ _ h=>h.2) ?_
 rintro _ τa1 ⟨rfl,ea1⟩
 refine stepR0 ?_
 refine mld_callW Sd0 (by unfold stV;exact Sd0) (mDo_c s hws nm a b c τa1) ?_
 rintro _ τb1 hv
 obtain ⟨cv1,ev1,rfl,eb1,hcv1,hev1⟩:=hv.out
 clear hv
 refine stepR0 ?_
 have gx1:=H.get_push_self τb1 (.cells 0 zl0)
 have ex1:=Ext.push τb1 (.cells 0 zl0)
 refine mld_op Sd0 (o_store (off:=0) (vs:=stC (doT s (kindN nm) a b c)) Sd0 Sd0 gx1 hwt.len (by rw [zl_len];simp) (stC_one _)) ?_
 have tx1:=SetTo.mk' (o:=.cells 0 (spl zl0 0 (stC (doT s (kindN nm) a b c)))) (H.lt_of_cells gx1)
 have ey1:=tx1.ext ex1 (Nat.le_refl _)
 generalize H.set _ τb1.size _=τ8 at *
 have gx1:τ8.get τb1.size=.cells 0 (stC (doT s (kindN nm) a b c)):=by have:=tx1.self;rwa [spl_all (by rw [zl_len,hwt.len])] at this
 generalize τb1.size=ix1 at *
 have hcv1:=hcv1.of_ext ey1
 have hev1:=hev1.of_ext ey1
 have ez1:=(ea1.trans eb1).trans ey1
 have g71:=ez1.cells g7
 have ga71:=ez1.cells ga7
 clear tx1 ex1 ea1 eb1
 refine stepR0 ?_
 clear ey1 gx1 hcv1
 generalize hn:doE s (kindN nm) a b c=n at *
 have gm8:=ez1.cells gm7
 clear ez1 e17 gm7 ga7 g7
 refine ml_op Sd0 (o_load1q (off:=0) (v:=.string nm) Sd0 ga71 rfl) ?_
 refine ml_call Sd0 Sd0 (rKindN_c nm τ8) ?_
 rintro _ τ9 ⟨e9,rfl⟩
 have hev1:=hev1.of_ext e9
 have ga:=e9.cells ga71
 have gm:=e9.cells gm8
 have g:=e9.cells g71
 clear ga71 gm8 g71 e9
 refine ml_cut (fun ts' τ'=>Ext τ9 τ'∧ts' 5=.pointer (some ⟨ia,0,none⟩)∧ts' 11=ev1∧ts' 13=.int .i64 n) ?_ ?_
 rotate_left
 ·rintro ts τ' ⟨e10,t5,t11,t13⟩
  have ga:=e10.cells ga
  have hev1:=hev1.of_ext e10
  refine stepR t5 ?_
  refine ml_loadN (off:=0) (vs:=actC nm a b c) Sd0 (Sw t5) (row_of ga (rowAll rfl)) ?_
  refine ml_call Sd0 (by unfold actW;exact Sd0) (aOf_c nm a b c τ') ?_
  rintro _ τa ⟨rfl,ea⟩
  refine ml_call Sd0 (by unfold stV actW;rw [zS_C];exact Sd0) (mDo_c zS zS_wf nm a b c τa) ?_
  rintro _ τb hv
  obtain ⟨cv2,ev2,rfl,eb,hcv2,hev2⟩:=hv.out
  clear hv hcv2
  have hz1:doE zS (kindN nm) a b c=1:=by unfold doE;rw [zS_not];rfl
  have hz2:doT zS (kindN nm) a b c=zS:=by unfold doT;rw [hz1];rfl
  rw [hz1] at hev2
  rw [hz2]
  refine stepR0 ?_
  refine ml_init (vs:=stC zS) Sd0 Sd0 Sd0 zS_wf.len zl_len (stC_one _) fun τd ed gd=>?_
  refine stepR t11 ?_
  refine ml_call Sd0 (Sw t11) (tNumE_c hE (hev1.of_ext ((ea.trans eb).trans ed))) ?_
  rintro _ τf ⟨rfl,ef⟩
  have hbn:(n == n)=true:=by simp
  refine stepR (An t13 hbn) ?_
  refine ml_call Sd0 Sd0 (tNumE_c hE (hev2.of_ext (ed.trans ef))) ?_
  rintro _ τh ⟨rfl,eh⟩
  refine stepR0 ?_
  exact fin1 Sd0
 have hop:∀ x,opnG s x=opn S x:=fun x=>by unfold opnG;rw [hrt.inv.g,hS];rfl
 have hisC:isChg s b=true↔(opn S b=true∧S.data.toList.getD b.toNat 0=67):=by rw [← hS];exact isC_iff hrt.inv.g
 generalize hk:kindN nm=k at *
 have hk6:k=1∨k=2∨k=3∨k=4∨k=5∨k=6∨k=0:=by rw [← hk];unfold kindN;(repeat' split)<;>omega
 rcases hk6 with rfl | rfl | rfl | rfl | rfl | rfl | rfl
 ·have hspec:n=(robotA s a b c).2:=hde
  unfold robotA at hspec
  rw [hop] at hspec
  refine stepR0 ?_
  refine ml_op Sd0 (o_load1q (off:=1) (v:=.int .i64 a) Sd0 ga rfl) ?_
  by_cases h1:a < 0
  ·rw [if_pos (.inl h1)] at hspec
   rw [hspec]
   refine stepR h1 ?_
   exact ⟨.refl _,Sd0,Sd0,Sd0⟩
  refine stepR h1 ?_
  refine ml_op Sd0 (o_load1q (off:=1) (v:=.int .i64 a) Sd0 ga rfl) ?_
  by_cases h2:a > 9
  ·rw [if_pos (.inr (.inl (by omega)))] at hspec
   rw [hspec]
   refine stepR h2 ?_
   exact ⟨.refl _,Sd0,Sd0,Sd0⟩
  refine stepR h2 ?_
  refine ml_op Sd0 (o_load1q (off:=2) (v:=.int .i64 b) Sd0 ga rfl) ?_
  refine ml_callv Sd0 Sd0 Sd0 (refuses1_c b gm) ?_
  rintro _ τ9 ⟨rfl,rfl⟩
  rcases Bool.eq_false_or_eq_true (opn S b) with hb | hb
  case inr=>
   rw [if_pos (.inr (.inr (.inl hb)))] at hspec
   rw [hspec,hb]
   refine stepR0 ?_
   exact ⟨.refl _,Sd0,Sd0,Sd0⟩
  rw [hb]
  refine stepR0 ?_
  refine ml_op Sd0 (o_load1q (off:=3) (v:=.int .i64 c) Sd0 ga rfl) ?_
  by_cases h3:c < 0
  ·rw [if_pos (.inr (.inr (.inr (.inl h3))))] at hspec
   rw [hspec]
   refine stepR h3 ?_
   exact ⟨.refl _,Sd0,Sd0,Sd0⟩
  refine stepR h3 ?_
  refine ml_op Sd0 (o_load1q (off:=3) (v:=.int .i64 c) Sd0 ga rfl) ?_
  by_cases h4:c > 200
  ·rw [if_pos (.inr (.inr (.inr (.inr (by omega)))))] at hspec
   rw [hspec]
   refine stepR h4 ?_
   exact ⟨.refl _,Sd0,Sd0,Sd0⟩
  rw [if_neg (by rw [hb];simp;omega)] at hspec
  refine stepR h4 ?_
  refine ml_op Sd0 (o_load1q (off:=1) (v:=.int .i64 a) Sd0 ga rfl) ?_
  obtain ⟨i,rfl⟩:=Int.eq_ofNat_of_zero_le (show 0≤a by omega)
  have hi:i < 10:=by omega
  have hi':((i:Nat):Int) < 10:=by omega
  simp only [Int.toNat_natCast] at hspec
  refine stepR hi' ?_
  refine ml_op Sd0 (o_load1q (off:=82 + i) Sd0 g (hws.on_at hi)) ?_
  rcases Bool.eq_false_or_eq_true (s.o i) with ho | ho
  ·rw [if_pos ho] at hspec
   rw [hspec,ho]
   refine stepR0 ?_
   exact ⟨.refl _,Sd0,Sd0,Sd0⟩
  rw [if_neg (by rw [ho];simp)] at hspec
  rw [ho]
  refine stepR0 ?_
  refine mld_loadN Sd0 Sd0 (row_of g (rowAll hws.len)) ?_
  refine stepR0 ?_
  refine mld_op Sd0 (o_load1q (off:=2) (v:=.int .i64 b) Sd0 ga rfl) ?_
  refine mld_call Sd0 (by unfold stV;exact Sd0) (mPlaces_c s hws τ9) (fun _ _ h=>h.1) ?_
  rintro pv τ10 ⟨e10,po,pown,_⟩
  refine stepR0 ?_
  refine mld_callW Sd0 Sd0 (clFree_c pown.rd (by rw [placeL_len];omega) b) ?_
  rintro _ τ10 ⟨rfl,rfl⟩
  have hfr:(decide (b=-1) || !decide (b ∈ placeL s))=freeB s b:=rfl
  rw [hfr]
  rcases Bool.eq_false_or_eq_true (freeB s b) with hf | hf
  ·rw [if_neg (by rw [hf];simp)] at hspec
   rw [hspec,hf]
   refine stepR0 ?_
   exact ⟨e10,Sd0,Sd0,Sd0⟩
  ·rw [if_pos hf] at hspec
   rw [hspec,hf]
   refine stepR0 ?_
   exact ⟨e10,Sd0,Sd0,Sd0⟩
 ·have hspec:n=(taskA s a b c).2:=hde
  unfold taskA at hspec
  rw [hop,hop] at hspec
  refine stepR0 ?_
  refine ml_op Sd0 (o_load1q (off:=1) (v:=.int .i64 a) Sd0 ga rfl) ?_
  by_cases h1:a < 0
  ·rw [if_pos (.inl h1)] at hspec
   rw [hspec]
   refine stepR h1 ?_
   exact ⟨.refl _,Sd0,Sd0,Sd0⟩
  refine stepR h1 ?_
  refine ml_op Sd0 (o_load1q (off:=1) (v:=.int .i64 a) Sd0 ga rfl) ?_
  by_cases h2:a > 19
  ·rw [if_pos (.inr (.inl (by omega)))] at hspec
   rw [hspec]
   refine stepR h2 ?_
   exact ⟨.refl _,Sd0,Sd0,Sd0⟩
  refine stepR h2 ?_
  refine ml_op Sd0 (o_load1q (off:=2) (v:=.int .i64 b) Sd0 ga rfl) ?_
  refine ml_callv Sd0 Sd0 Sd0 (refuses1_c b gm) ?_
  rintro _ τ9 ⟨rfl,rfl⟩
  rcases Bool.eq_false_or_eq_true (opn S b) with hb | hb
  case inr=>
   rw [if_pos (.inr (.inr (.inl hb)))] at hspec
   rw [hspec,hb]
   refine stepR0 ?_
   exact ⟨.refl _,Sd0,Sd0,Sd0⟩
  rw [hb]
  refine stepR0 ?_
  refine ml_op Sd0 (o_load1q (off:=3) (v:=.int .i64 c) Sd0 ga rfl) ?_
  refine ml_callv Sd0 Sd0 Sd0 (refuses1_c c gm) ?_
  rintro _ τ9 ⟨rfl,rfl⟩
  rcases Bool.eq_false_or_eq_true (opn S c) with hc | hc
  case inr=>
   rw [if_pos (.inr (.inr (.inr hc)))] at hspec
   rw [hspec,hc]
   refine stepR0 ?_
   exact ⟨.refl _,Sd0,Sd0,Sd0⟩
  rw [hc]
  rw [if_neg (by rw [hb,hc];simp;omega)] at hspec
  refine stepR0 ?_
  refine ml_op Sd0 (o_load1q (off:=1) (v:=.int .i64 a) Sd0 ga rfl) ?_
  obtain ⟨i,rfl⟩:=Int.eq_ofNat_of_zero_le (show 0≤a by omega)
  have hi:i < 20:=by omega
  have hi':((i:Nat):Int) < 20:=by omega
  simp only [Int.toNat_natCast] at hspec
  refine stepR hi' ?_
  refine ml_op Sd0 (o_load1q (off:=152 + i) Sd0 g (hws.is_at hi)) ?_
  rcases Bool.eq_false_or_eq_true (s.i i) with ho | ho
  ·rw [if_pos ho] at hspec
   rw [hspec,ho]
   refine stepR0 ?_
   exact ⟨.refl _,Sd0,Sd0,Sd0⟩
  ·rw [if_neg (by rw [ho];simp)] at hspec
   rw [hspec,ho]
   refine stepR0 ?_
   exact ⟨.refl _,Sd0,Sd0,Sd0⟩
 ·have hspec:n=if isChg s b=true then 0 else 1:=by rw [hde];unfold madeS;rw [if_neg (by omega),if_neg (by omega),if_neg (by omega),if_pos (by omega)];split<;>rfl
  refine stepR0 ?_
  refine ml_op Sd0 (o_load1q (off:=2) (v:=.int .i64 b) Sd0 ga rfl) ?_
  refine ml_callv Sd0 Sd0 Sd0 (refuses1_c b gm) ?_
  rintro _ τ9 ⟨rfl,rfl⟩
  rcases Bool.eq_false_or_eq_true (opn S b) with hb | hb
  case inr=>
   rw [if_neg (fun h=>by have:=(hisC.1 h).1;rw [hb] at this;cases this)] at hspec
   rw [hspec,hb]
   refine stepR0 ?_
   exact ⟨.refl _,Sd0,Sd0,Sd0⟩
  rw [hb]
  have hlt:=opn_lt hb
  refine stepR0 ?_
  refine ml_op Sd0 (o_load1q (off:=2) (v:=.string S) Sd0 gm rfl) ?_
  refine stepR0 ?_
  refine ml_op Sd0 (o_load1q (off:=2) (v:=.int .i64 b) Sd0 ga rfl) ?_
  refine ml_idxS Sd0 Sd0 Sd0 hlt.1 hlt.2 ?_
  by_cases h67:S.data.toList.getD b.toNat 0=67
  ·rw [if_pos (hisC.2 ⟨hb,h67⟩)] at hspec
   have hne:(((S.data.toList.getD b.toNat 0).toNat:Int) != 67)=false:=by rw [h67];rfl
   rw [hspec]
   refine stepR hne ?_
   exact ⟨.refl _,Sd0,Sd0,Sd0⟩
  ·rw [if_neg (fun h=>h67 (hisC.1 h).2)] at hspec
   have hne:(((S.data.toList.getD b.toNat 0).toNat:Int) != 67)=true:=by
    rw [bne_iff_ne];intro h;apply h67;apply UInt8.toNat_inj.1;show _=67;omega
   rw [hspec]
   refine stepR hne ?_
   exact ⟨.refl _,Sd0,Sd0,Sd0⟩
 ·have hspec:n=if isChg s b=true then 0 else 1:=by rw [hde];unfold madeS;rw [if_neg (by omega),if_neg (by omega),if_neg (by omega),if_pos (by omega)];split<;>rfl
  refine stepR0 ?_
  refine ml_op Sd0 (o_load1q (off:=2) (v:=.int .i64 b) Sd0 ga rfl) ?_
  refine ml_callv Sd0 Sd0 Sd0 (refuses1_c b gm) ?_
  rintro _ τ9 ⟨rfl,rfl⟩
  rcases Bool.eq_false_or_eq_true (opn S b) with hb | hb
  case inr=>
   rw [if_neg (fun h=>by have:=(hisC.1 h).1;rw [hb] at this;cases this)] at hspec
   rw [hspec,hb]
   refine stepR0 ?_
   exact ⟨.refl _,Sd0,Sd0,Sd0⟩
  rw [hb]
  have hlt:=opn_lt hb
  refine stepR0 ?_
  refine ml_op Sd0 (o_load1q (off:=2) (v:=.string S) Sd0 gm rfl) ?_
  refine stepR0 ?_
  refine ml_op Sd0 (o_load1q (off:=2) (v:=.int .i64 b) Sd0 ga rfl) ?_
  refine ml_idxS Sd0 Sd0 Sd0 hlt.1 hlt.2 ?_
  by_cases h67:S.data.toList.getD b.toNat 0=67
  ·rw [if_pos (hisC.2 ⟨hb,h67⟩)] at hspec
   have hne:(((S.data.toList.getD b.toNat 0).toNat:Int) != 67)=false:=by rw [h67];rfl
   rw [hspec]
   refine stepR hne ?_
   exact ⟨.refl _,Sd0,Sd0,Sd0⟩
  ·rw [if_neg (fun h=>h67 (hisC.1 h).2)] at hspec
   have hne:(((S.data.toList.getD b.toNat 0).toNat:Int) != 67)=true:=by
    rw [bne_iff_ne];intro h;apply h67;apply UInt8.toNat_inj.1;show _=67;omega
   rw [hspec]
   refine stepR hne ?_
   exact ⟨.refl _,Sd0,Sd0,Sd0⟩
 ·have hspec:n=(tellA s a b).2:=hde
  unfold tellA at hspec
  refine stepR0 ?_
  refine ml_op Sd0 (o_load1q (off:=1) (v:=.int .i64 a) Sd0 ga rfl) ?_
  by_cases h1:a < 0
  ·rw [if_pos (.inl h1)] at hspec
   rw [hspec]
   refine stepR h1 ?_
   exact ⟨.refl _,Sd0,Sd0,Sd0⟩
  refine stepR h1 ?_
  refine ml_op Sd0 (o_load1q (off:=1) (v:=.int .i64 a) Sd0 ga rfl) ?_
  by_cases h2:a > 9
  ·rw [if_pos (.inr (.inl (by omega)))] at hspec
   rw [hspec]
   refine stepR h2 ?_
   exact ⟨.refl _,Sd0,Sd0,Sd0⟩
  refine stepR h2 ?_
  refine ml_op Sd0 (o_load1q (off:=2) (v:=.int .i64 b) Sd0 ga rfl) ?_
  by_cases h3:b < 0
  ·rw [if_pos (.inr (.inr (.inl h3)))] at hspec
   rw [hspec]
   refine stepR h3 ?_
   exact ⟨.refl _,Sd0,Sd0,Sd0⟩
  refine stepR h3 ?_
  refine ml_op Sd0 (o_load1q (off:=2) (v:=.int .i64 b) Sd0 ga rfl) ?_
  by_cases h4:b > 200
  ·rw [if_pos (.inr (.inr (.inr (by omega))))] at hspec
   rw [hspec]
   refine stepR h4 ?_
   exact ⟨.refl _,Sd0,Sd0,Sd0⟩
  rw [if_neg (by omega)] at hspec
  refine stepR h4 ?_
  refine ml_op Sd0 (o_load1q (off:=1) (v:=.int .i64 a) Sd0 ga rfl) ?_
  obtain ⟨i,rfl⟩:=Int.eq_ofNat_of_zero_le (show 0≤a by omega)
  have hi:i < 10:=by omega
  have hi':((i:Nat):Int) < 10:=by omega
  simp only [Int.toNat_natCast] at hspec
  refine stepR hi' ?_
  refine ml_op Sd0 (o_load1q (off:=82 + i) Sd0 g (hws.on_at hi)) ?_
  rcases Bool.eq_false_or_eq_true (s.o i) with ho | ho
  ·rw [if_neg (by rw [ho];simp)] at hspec
   rw [hspec,ho]
   refine stepR0 ?_
   exact ⟨.refl _,Sd0,Sd0,Sd0⟩
  ·rw [if_pos ho] at hspec
   rw [hspec,ho]
   refine stepR0 ?_
   exact ⟨.refl _,Sd0,Sd0,Sd0⟩
 ·have hspec:n=0:=hde
  rw [hspec]
  refine stepR0 ?_
  exact ⟨.refl _,Sd0,Sd0,Sd0⟩
 ·have hspec:n=1:=hde
  rw [hspec]
  refine stepR0 ?_
  exact ⟨.refl _,Sd0,Sd0,Sd0⟩
end Go.Proofs.YtoejdgoicoaomaaGreatDoor
