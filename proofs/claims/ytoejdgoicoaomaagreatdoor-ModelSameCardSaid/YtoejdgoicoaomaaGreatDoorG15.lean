/- model: New; acts, and runs of them. -/
import Derived.Test.YtoejdgoicoaomaaGreatDoorG14
import Derived.Test.YtoejdgoicoaomaaGreatDoorG10
import Derived.Test.YtoejdgoicoaomaaGreatDoorG13
set_option linter.unusedVariables false
set_option linter.unusedSimpArgs false
namespace Go.Proofs.YtoejdgoicoaomaaGreatDoor
open Go.Mini
open Go.Proofs.YtoejdgoicoaomaaGreatDoor.Code
attribute [local irreducible] mx ml mld mstep MCalls Ex.thn Ex.inb
variable {E:World→Prop}
theorem o_bldMap {ts:Fr} {σ:H} {x:Opd} {W Hh:Int} {S:ByteArray} (hx:mev ts x=.agg (mapC W Hh S).toArray):mop ts σ (.bld zl0 [(0,3,x)])=some (stV (newS W Hh S),σ):=by
 unfold stV
 rw [newC]
 simp only [mop,List.map_cons,List.map_nil,hx,fillL,Value.cells]
 simp [mapC,zl_len]
set_option maxRecDepth 100000 in
set_option maxHeartbeats 16000000 in
theorem mNew_c (W Hh:Int) (S:ByteArray) (σ:H):MCalls E Tryz.prog 14 [mapV W Hh S] σ (fun v τ=>Ext σ τ∧if gr W Hh S=true then v=.tuple #[stV (newS W Hh S),.nilIface] else ∃ ev,v=.tuple #[stV zS,ev]∧TagE τ ev nmModel 1):=by
 refine mcalls_of fn14 (by simp) ?_
 unfold c14 r14 mapV
 have g1:=H.get_push_self σ (.cells 0 (mapC W Hh S))
 have e1:=Ext.push σ (.cells 0 (mapC W Hh S))
 refine mx_seq (mx_ops (ml_op Sd0 (o_box (cs:=mapC W Hh S) Sd0) ?_))
 have hl1:=H.lt_of_cells g1
 generalize σ.push (.cells 0 (mapC W Hh S))=τa at *
 refine stepR0 ?_
 have g3:=H.get_push_self τa (.cells 0 zl0)
 have e3:=Ext.push τa (.cells 0 zl0)
 have g1:=e3.cells g1
 have e:=e1.trans e3
 generalize τa.push (.cells 0 zl0)=τ at *
 generalize hi3:τa.size=i3 at *
 refine ml_loadN Sd0 Sd0 (row_of g1 (rowAll rfl)) ?_
 refine ml_call Sd0 Sd0 (right_c W Hh S τ) ?_
 rintro _ τ1 ⟨rfl,e1⟩
 cases hg:gr W Hh S
 ·refine stepR0 ?_
  refine ml_call Sd0 Sd0 (tag_c _ _ _) ?_
  rintro ev τ2 ⟨he,e2⟩
  have g32:=e2.cells (e1.cells g3)
  refine ml_storeA (off:=0) (vs:=zl0) Sd0 Sd0 Sd0 g32 zl_len (by rw [zl_len];simp) (by rw [← zS_C];exact stC_one _) fun τ3 t3=>?_
  rw [spl_all rfl] at t3
  refine stepR0 ?_
  refine finC1 Sd0 (row_of t3.self (rowAll zl_len)) ⟨t3.ext ((e.trans e1).trans e2) (by omega),?_⟩
  rw [if_neg (by simp)]
  refine ⟨ev,?_,?_⟩
  ·rw [← zS_C];exact Sd0
  ·obtain ⟨id,rfl,hid⟩:=he
   refine ⟨id,rfl,t3.cells hid fun e0=>?_⟩
   rw [e0,g32] at hid
   exact absurd hid (by simp [zl0])
 ·refine stepR0 ?_
  refine ml_loadN Sd0 Sd0 (row_of (e1.cells g1) (rowAll rfl)) ?_
  refine ml_op Sd0 (o_bldMap Sd0) ?_
  refine stepR0 ?_
  refine ml_storeA (off:=0) (vs:=stC (newS W Hh S)) Sd0 Sd0 Sd0 (e1.cells g3) newS_wf.len (by rw [zl_len];simp) (stC_one _) fun τ3 t3=>?_
  rw [spl_all (by rw [zl_len,newS_wf.len])] at t3
  refine stepR0 ?_
  refine finC1 Sd0 (row_of t3.self (rowAll newS_wf.len)) ⟨t3.ext (e.trans e1) (by omega),?_⟩
  rw [if_pos rfl]
  exact Sd0
theorem aOf_c (nm:ByteArray) (a b c:Int) (σ:H):MCalls E Tryz.prog 19 [actW nm a b c] σ (fun v τ=>v=actW nm a b c∧Ext σ τ):=by
 refine mcalls_of fn19 (by simp) ?_
 unfold c19 r19 actW actC
 refine stepR0 ?_
 generalize hτ:H.push _ _=τ
 have g1:τ.get σ.size=.cells 0 [.string nm,.int .i64 a,.int .i64 b,.int .i64 c]:=by rw [← hτ,H.get_push_ne (by simp),H.get_push_self]
 have g2:τ.get (σ.size + 1)=.cells 0 [.string ⟨#[]⟩,.int .i64 0,.int .i64 0,.int .i64 0]:=by rw [← hτ];exact H.get_push_self (σ.push _) _
 have e1:Ext σ τ:=hτ ▸ (Ext.push _ _).trans (Ext.push _ _)
 clear hτ
 refine stepR g1 ?_
 refine ml_storeA (off:=0) (vs:=[.string nm,.int .i64 a,.int .i64 b,.int .i64 c]) Sd0 Sd0 Sd0 g2 rfl (by simp) rfl fun τ4 t4=>?_
 refine stepR0 ?_
 exact finC Sd0 (row_of t4.self rfl) ⟨rfl,t4.ext e1 (by omega)⟩
end Go.Proofs.YtoejdgoicoaomaaGreatDoor
namespace Go.Proofs.YtoejdgoicoaomaaGreatDoor
open Go.Mini
open Go.Proofs.YtoejdgoicoaomaaGreatDoor.Code
attribute [local irreducible] mx ml mld mstep MCalls Ex.thn Ex.inb
variable {E:World→Prop}
noncomputable def doP (s:St) (p:Act4):Int:=doE s (kindN p.1) p.2.1 p.2.2.1 p.2.2.2
noncomputable def mdP (s:St) (p:Act4):St:=(madeS s (kindN p.1) p.2.1 p.2.2.1 p.2.2.2).1
noncomputable def stepS1 (s:St) (p:Act4):St:=if doP s p=0 then mdP s p else s
noncomputable def runS (s:St) (l:List Act4):St:=l.foldl stepS1 s
theorem doP_rt {s:St} (hw:s.WF) {p:Act4} (h:doP s p=0):Rt s:=(right_rt hw).1 (doE_zero h).1
theorem mdP_wf {s:St} (hw:s.WF) {p:Act4} (h:doP s p=0):(mdP s p).WF:=made_wf (doP_rt hw h) _ _ _ _
theorem stepS1_wf {s:St} (hw:s.WF) (p:Act4):(stepS1 s p).WF:=by
 unfold stepS1;split
 ·rename_i h;exact mdP_wf hw h
 ·exact hw
theorem runS_wf {s:St} (hw:s.WF):∀ (l:List Act4),(runS s l).WF:=fun l=>by
 induction l generalizing s with
 | nil=>exact hw
 | cons p l ih=>exact ih (stepS1_wf hw p)
theorem runS_take (s:St) {l:List Act4} {i:Nat} (hi:i < l.length):runS s (l.take (i + 1))=stepS1 (runS s (l.take i)) l[i]:=by
 unfold runS
 rw [List.take_add_one,List.getElem?_eq_getElem hi,List.foldl_append];rfl
theorem runS_rt {s:St} (h:Rt s) {n:Int} (hb:Bnd n s) (hn:0≤n):∀ (l:List Act4),n + l.length≤140→Rt (runS s l)∧Bnd (n + l.length) (runS s l)∧(runS s l).W=s.W∧(runS s l).H=s.H∧(runS s l).S=s.S:=fun l hl=>by
 induction l generalizing s n with
 | nil=>
   have h0:n + (([]:List Act4).length:Int)=n:=by simp
   rw [h0];exact ⟨h,hb,rfl,rfl,rfl⟩
 | cons p l ih=>
   rw [List.length_cons] at hl
   have key:Rt (stepS1 s p)∧Bnd (n + 1) (stepS1 s p)∧(stepS1 s p).W=s.W∧(stepS1 s p).H=s.H∧(stepS1 s p).S=s.S:=by
    unfold stepS1;split
    ·rename_i h0
     have k:=do_rt h.inv.wf h0
     exact ⟨k.rt,(made_bnd h hb (by omega) (doE_zero h0).2.1).1,k.W,k.H,k.S⟩
    ·exact ⟨h,hb.mono (by omega),rfl,rfl,rfl⟩
   obtain ⟨k1,k2,k3,k4,k5⟩:=ih key.1 key.2.1 (by omega) (by push_cast at hl ⊢;omega)
   refine ⟨k1,?_,k3.trans key.2.2.1,k4.trans key.2.2.2.1,k5.trans key.2.2.2.2⟩
   rw [List.length_cons]
   have:n + 1 + (l.length:Int)=n + ((l.length + 1:Nat):Int):=by push_cast;omega
   rw [← this];exact k2
set_option maxRecDepth 100000 in
set_option maxHeartbeats 16000000 in
theorem lRun_c (hE:∀ w,E w→ErrType w) (s:St) (hw:s.WF) {sv:Value} {al:List Act4} {σ:H} (hr:RdN σ 4 sv (al.map acC)) (hl:al.length≤1000):MCalls E Tryz.prog 28 [stV s,sv] σ (fun v τ=>v=stV (runS s al)∧Ext σ τ):=by
 obtain ⟨p,cap,rfl,hp⟩:=hr.len
 rw [List.length_map]
 refine mcalls_of fn28 (by simp) ?_
 unfold c28 r28 stV
 have g1:=H.get_push_self σ (.cells 0 (stC s))
 have e1:=Ext.push σ (.cells 0 (stC s))
 refine mx_seq (mx_ops (ml_op Sd0 (o_box Sd0) ?_))
 have hl1:=H.lt_of_cells g1
 generalize σ.push (.cells 0 (stC s))=τa at *
 refine stepR0 ?_
 have g3:=H.get_push_self τa (.cells 0 zl0)
 have e3:=Ext.push τa (.cells 0 zl0)
 have g1:=e3.cells g1
 have e:=e1.trans e3
 generalize τa.push (.cells 0 zl0)=τ at *
 generalize hi1:σ.size=i1 at *
 generalize hi3:τa.size=i3 at *
 refine mx_loop (fun n ts τ'=>∃ i,n=al.length - i∧i≤al.length∧Ext σ τ'∧τ'.get i1=.cells 0 (stC (runS s (al.take i)))∧τ'.get i3=.cells 0 zl0∧ts 1=.slice p al.length cap∧ts 2=.pointer (some ⟨i1,0,none⟩)∧ts 4=.pointer (some ⟨i3,0,none⟩)∧ts 5=.int .i64 ((i:Nat):Int)) al.length ?_ ?_
 ·exact ⟨0,rfl,Nat.zero_le _,e,g1,g3,Sd0,Sd0,Sd0,Sd0⟩
 clear e g1 g3 e1 e3
 rintro _ ts τ' ⟨i,rfl,hi,e,g1,g3,t1,t2,t4,t5⟩
 rcases Nat.lt_or_ge i al.length with hil | hig
 ·have hil':((i:Nat):Int) < ((al.length:Nat):Int):=by omega
  obtain ⟨id,rfl,hrow,hrows⟩:=hp (fun h=>by rw [List.map_eq_nil_iff] at h;rw [h] at hil;simp at hil)
  have hrw:=hrows i (by rw [List.length_map];exact hil)
  rw [List.getElem_map] at hrw
  have hstep:=runS_take s hil
  have hws:=runS_wf hw (al.take i)
  generalize runS s (al.take i)=s1 at *
  generalize al[i]=q at *
  obtain ⟨nm,a,b,c⟩:=q
  have hst1:stepS1 s1 (nm,a,b,c)=if doE s1 (kindN nm) a b c=0 then (madeS s1 (kindN nm) a b c).1 else s1:=rfl
  have hmw:doE s1 (kindN nm) a b c=0→(madeS s1 (kindN nm) a b c).1.WF:=fun h=>mdP_wf (p:=(nm,a,b,c)) hws h
  refine stepR (An t1 (An t5 hil')) ?_
  refine mld_loadN Sd0 (Sw t2) (row_of g1 (rowAll hws.len)) ?_
  refine stepR (An t1 (An t5 hil')) ?_
  refine mld_loadN (off:=i * 4) (vs:=actC nm a b c) Sd0 Sd0 (rowE e hrw) ?_
  refine mld_call Sd0 (by unfold actW;exact Sd0) (aOf_c nm a b c τ') (fun _ _ h=>h.2) ?_
  rintro _ τ2 ⟨rfl,e2⟩
  refine stepR0 ?_
  refine mld_callW Sd0 (by unfold stV;exact Sd0) (mDo_c s1 hws nm a b c τ2) ?_
  rintro v3 τ3 ⟨e3,hv⟩
  have g13:=(e2.trans e3).cells g1
  have g33:=(e2.trans e3).cells g3
  have e13:=e.trans (e2.trans e3)
  by_cases hd:doE s1 (kindN nm) a b c=0
  ·rw [if_pos hd] at hv hst1
   have hwm:=hmw hd
   obtain ⟨cv,oid,rfl,own,hoid⟩:=hv
   generalize (madeS s1 (kindN nm) a b c).1=t at *
   refine stepR0 ?_
   have g4:=H.get_push_self τ3 (.cells 0 zl0)
   have e4:=Ext.push τ3 (.cells 0 zl0)
   refine mld_op Sd0 (o_store (off:=0) (vs:=stC t) Sd0 Sd0 g4 hwm.len (by rw [zl_len];simp) (stC_one t)) ?_
   have t5':=SetTo.mk' (o:=.cells 0 (spl zl0 0 (stC t))) (H.lt_of_cells g4)
   have e35:=t5'.ext e4 (Nat.le_refl _)
   generalize H.set _ τ3.size _=τ5 at *
   have g55:τ5.get τ3.size=.cells 0 (stC t):=by have:=t5'.self;rwa [spl_all (by rw [zl_len,hwm.len])] at this
   have g15:=e35.cells g13
   have g35:=e35.cells g33
   refine stepR0 ?_
   refine ml_call Sd0 Sd0 (tNumN_c τ5) ?_
   rintro _ τ6 ⟨rfl,rfl⟩
   refine stepR0 ?_
   refine ml_loadN Sd0 Sd0 (row_of g55 (rowAll hwm.len)) ?_
   refine stepR t2 ?_
   refine ml_storeA (off:=0) (vs:=stC t) Sd0 (Sw t2) Sd0 g15 hwm.len (by rw [hws.len];simp) (stC_one t) fun τ7 t7=>?_
   rw [spl_all (by rw [hws.len,hwm.len])] at t7
   refine stepR t5 ?_
   exact ⟨al.length - (i + 1),by omega,i + 1,rfl,by omega,t7.ext (e13.trans e35) (by omega),by rw [hstep,hst1];exact t7.self,t7.cells g35 (by omega),(Sw t1),(Sw t2),(Sw t4),Sd0⟩
  ·rw [if_neg hd] at hv hst1
   obtain ⟨ev,rfl,he⟩:=hv
   refine stepR0 ?_
   have g4:=H.get_push_self τ3 (.cells 0 zl0)
   have e4:=Ext.push τ3 (.cells 0 zl0)
   refine mld_op Sd0 (o_store (off:=0) (vs:=stC zS) Sd0 Sd0 g4 zS_wf.len (by rw [zl_len];simp) (stC_one zS)) ?_
   have t5':=SetTo.mk' (o:=.cells 0 (spl zl0 0 (stC zS))) (H.lt_of_cells g4)
   have e35:=t5'.ext e4 (Nat.le_refl _)
   generalize H.set _ τ3.size _=τ5 at *
   have g15:=e35.cells g13
   have g35:=e35.cells g33
   refine stepR0 ?_
   refine ml_call Sd0 Sd0 (tNum_c hE (he.of_ext e35).chain) ?_
   rintro _ τ6 ⟨rfl,e6⟩
   have hd':(doE s1 (kindN nm) a b c == 0)=false:=by simpa using hd
   refine stepR (An hd' t5) ?_
   exact ⟨al.length - (i + 1),by omega,i + 1,rfl,by omega,e13.trans (e35.trans e6),by rw [hstep,hst1];exact e6.cells g15,e6.cells g35,(Sw t1),(Sw t2),(Sw t4),Sd0⟩
 ·obtain rfl:i=al.length:=by omega
  have hil':¬ ((al.length:Nat):Int) < ((al.length:Nat):Int):=by omega
  rw [List.take_length] at g1
  have hws:=runS_wf hw al
  generalize runS s al=t at *
  refine stepR (An t1 (An t5 (An hil' t2))) ?_
  refine ml_loadN Sd0 (Sw t2) (row_of g1 (rowAll hws.len)) ?_
  refine stepR t4 ?_
  refine ml_storeA (off:=0) (vs:=stC t) Sd0 (Sw t4) Sd0 g3 hws.len (by rw [zl_len];simp) (stC_one t) fun τ7 t7=>?_
  rw [spl_all (by rw [zl_len,hws.len])] at t7
  refine stepR0 ?_
  exact finC (Sw t4) (row_of t7.self (rowAll hws.len)) ⟨rfl,t7.ext e (by omega)⟩
end Go.Proofs.YtoejdgoicoaomaaGreatDoor
namespace Go.Proofs.YtoejdgoicoaomaaGreatDoor
open Go.Mini
theorem filterMap_one {α:Type} {f:Nat→Option α} {i:Nat} {x:α} (hi:f i=some x):∀ {n:Nat},i < n→(∀ j,j < n→j≠i→f j=none)→(List.range n).filterMap f=[x]
 | 0,h,_=>by omega
 | n + 1,h,hn=>by
   rw [List.range_succ,List.filterMap_append]
   by_cases hin:i=n
   ·subst hin
    have:(List.range i).filterMap f=[]:=by
     rw [List.filterMap_eq_nil_iff]
     intro j hj
     have:=List.mem_range.1 hj
     exact hn j (by omega) (by omega)
    rw [this];simp [hi]
   ·rw [filterMap_one hi (by omega) fun j hj hne=>hn j (by omega) hne]
    have:=hn n (by omega) (fun e=>hin e.symm)
    simp [this]
theorem solo_cands {i k:Nat} {s:St} (h:Solo i k s) {on:List Int} (hp:(s.r i).phase=0) {n:Int} (ht:totO s.W s.H s.S on (s.r i).cell (s.t k).fr (s.t k).dst=some n):cands s on k 10=[((i:Int),n,(s.r i).charge)]:=by
 refine filterMap_one (i:=i) ?_ h.hi fun j hj hne=>?_
 ·unfold cand;rw [ht,h.oi,hp];rfl
 ·unfold cand
  rw [h.only j hj hne]
  cases totO s.W s.H s.S on (s.r j).cell (s.t k).fr (s.t k).dst<;>rfl
theorem bestI_one (c:Int × Int × Int):bestI [c]=if canB c then some c.1 else none:=by
 unfold bestI
 cases h:canB c<;>simp [h,minD]
theorem strand_nop {i:Nat} {s:St} {on:List Int} (ho:s.o i=true) (hs:safeB s.W s.H s.S on (stepS s (s.r i)) (s.r i).cell (s.r i).charge=true) (hp4:(s.r i).phase≠4):strand1 on i s=s:=by
 unfold strand1;rw [if_pos ho,if_pos hs,if_neg hp4]
theorem assign_nop {k:Nat} {s:St} {on:List Int} (hst:(s.t k).st≠0):assign1 on k s=s:=by
 unfold assign1;rw [if_neg (by simp [hst])]
theorem idle_nop {i:Nat} {s:St} (hp0:(s.r i).phase≠0):idle1 i s=s:=by
 unfold idle1;rw [if_neg (by simp [hp0])]
theorem assign_one {i k:Nat} {s:St} (h:Solo i k s) {on:List Int} (hp:(s.r i).phase=0) (hst:(s.t k).st=0) {n:Int} (ht:totO s.W s.H s.S on (s.r i).cell (s.t k).fr (s.t k).dst=some n) (h0:0≤n) (hn:n≤(s.r i).charge):assign1 on k s=(s.setR i { s.r i with phase:=1,task:=(k:Int) }).setT k { s.t k with st:=1 }:=by
 unfold assign1
 rw [if_pos (by rw [h.ik,hst];rfl),solo_cands h hp ht,bestI_one,if_pos (show canB ((i:Int),n,(s.r i).charge)=true by simp [canB,h0,hn])]
 simp only [Int.toNat_natCast]
theorem tick_busy {i k:Nat} {s:St} (h:Solo i k s) {on:List Int} (hon:onL s.S s.off (gr s.W s.H s.S)=on) (hp0:(s.r i).phase≠0) (hp4:(s.r i).phase≠4) (hst:(s.t k).st≠0) (hs:safeB s.W s.H s.S on (stepS s (s.r i)) (s.r i).cell (s.r i).charge=true):
 tickS s=act1 on (placeL { s with tick:=s.tick + 1 }) i { s with tick:=s.tick + 1 }∧Solo i k { s with tick:=s.tick + 1 }:=by
 obtain ⟨h1,h2⟩:=solo_tick h
 rw [hon] at h1 h2
 have e1:strand1 on i { s with tick:=s.tick + 1 }={ s with tick:=s.tick + 1 }:=strand_nop h.oi hs hp4
 have e2:assign1 on k { s with tick:=s.tick + 1 }={ s with tick:=s.tick + 1 }:=assign_nop hst
 have e3:idle1 i { s with tick:=s.tick + 1 }={ s with tick:=s.tick + 1 }:=idle_nop hp0
 simp only [e1,e2,e3] at h1 h2
 exact ⟨h1,h2⟩
theorem tick_take {i k:Nat} {s:St} (h:Solo i k s) {on:List Int} (hon:onL s.S s.off (gr s.W s.H s.S)=on) (hp:(s.r i).phase=0) (hst:(s.t k).st=0) (hs:safeB s.W s.H s.S on 1 (s.r i).cell (s.r i).charge=true) {n:Int} (ht:totO s.W s.H s.S on (s.r i).cell (s.t k).fr (s.t k).dst=some n) (h0:0≤n) (hn:n≤(s.r i).charge):
 let s':=(St.setR { s with tick:=s.tick + 1 } i { s.r i with phase:=1,task:=(k:Int) }).setT k { s.t k with st:=1 }
 tickS s=act1 on (placeL s') i s'∧Solo i k s':=by
 obtain ⟨h1,h2⟩:=solo_tick h
 rw [hon] at h1 h2
 have htk:=(h.inv.tsk i h.hi h.oi).idle (.inl hp)
 have hstep:stepS { s with tick:=s.tick + 1 } (s.r i)=1:=by unfold stepS;rw [if_neg (fun x=>x.1 htk)]
 have e1:strand1 on i { s with tick:=s.tick + 1 }={ s with tick:=s.tick + 1 }:=strand_nop h.oi (show safeB s.W s.H s.S on (stepS { s with tick:=s.tick + 1 } (s.r i)) (s.r i).cell (s.r i).charge=true by rw [hstep];exact hs) (show (s.r i).phase≠4 by omega)
 have hsolo0:Solo i k { s with tick:=s.tick + 1 }:=h.keep ⟨rfl,rfl,rfl,rfl,rfl,rfl⟩ (h.inv.tk _)
 have e2:assign1 on k { s with tick:=s.tick + 1 }=(St.setR { s with tick:=s.tick + 1 } i { s.r i with phase:=1,task:=(k:Int) }).setT k { s.t k with st:=1 }:=assign_one hsolo0 hp hst ht h0 hn
 have hw0:=hsolo0.inv.wf
 have e3:idle1 i ((St.setR { s with tick:=s.tick + 1 } i { s.r i with phase:=1,task:=(k:Int) }).setT k { s.t k with st:=1 })=(St.setR { s with tick:=s.tick + 1 } i { s.r i with phase:=1,task:=(k:Int) }).setT k { s.t k with st:=1 }:=idle_nop (by rw [setT_r,hw0.setR_r h.hi,if_pos rfl];show (1:Int)≠0;omega)
 simp only [e1,e2,e3] at h1 h2
 exact ⟨h1,h2⟩
structure Way (i k:Nat) (s0:St) (on:List Int) (c0 a b:Int):Prop where
 g:gr s0.W s0.H s0.S=true
 hon:onL s0.S s0.off (gr s0.W s0.H s0.S)=on
 len:on.length≤64
 cin:c0 ∈ on
 oc:opn s0.S c0=true
 oa:opn s0.S a=true
 ob:opn s0.S b=true
structure Fet (i k:Nat) (s0:St) (c0 a b:Int) (j:Nat) (x:Int) (s:St):Prop where
 solo:Solo i k s
 keep:Keep s0 s
 r:s.r i=⟨x,200 - (j:Int),1,(k:Int),(j:Int),0,0⟩
 t:s.t k=⟨a,b,1⟩
 wk:Wk s0.W s0.S [c0] j x
structure Car (i k:Nat) (s0:St) (a b:Int) (m:Nat) (x:Int) (s:St):Prop where
 solo:Solo i k s
 keep:Keep s0 s
 r:s.r i=⟨x,200 - (m:Int),2,(k:Int),(m:Int),0,0⟩
 t:s.t k=⟨a,b,2⟩
section
variable {i k:Nat} {s0:St} {on:List Int} {c0 a b:Int}
theorem Keep.onL {s0 s:St} (h:Keep s0 s) {on:List Int} (hon:onL s0.S s0.off (gr s0.W s0.H s0.S)=on):Go.Proofs.YtoejdgoicoaomaaGreatDoor.onL s.S s.off (gr s.W s.H s.S)=on:=by rw [h.S,h.off,h.W,h.H];exact hon
theorem keep_tick (s:St) (n:Int):Keep s { s with tick:=n }:=⟨rfl,rfl,rfl,rfl,rfl,rfl⟩
theorem sz_of {r:Rob} {x c p t m:Int} (h:r=⟨x,c,p,t,m,0,0⟩) (h0:0≤m) (h1:m≤1000):Sz r:=by
 rw [h];exact ⟨⟨h0,by show m≤_;omega⟩,⟨Int.le_refl _,by show (0:Int)≤_;omega⟩,by show (-32768:Int)≤0;omega,by show (0:Int)≤_;omega⟩
theorem fet_act {s:St} {j:Nat} {x:Int} (hw:Way i k s0 on c0 a b) (h:Fet i k s0 c0 a b j x s) (hj:j + dd s0.W s0.S a x≤64) (hne:x≠a):
 ∃ y,Fet i k s0 c0 a b (j + 1) y (act1 on (placeL s) i s)∧dd s0.W s0.S a y + 1=dd s0.W s0.S a x:=by
 have hr:=h.r
 have e1:s.W=s0.W:=h.keep.W
 have e2:s.H=s0.H:=h.keep.H
 have e3:s.S=s0.S:=h.keep.S
 obtain ⟨n,hn1,hn2,hn3,hn4⟩:=act_fetch_go h.solo (sz_of hr (by omega) (by omega)) (on:=on) (by rw [hr]) (by rw [hr]) (by rw [h.t]) (by rw [hr,h.t];exact hne) (by rw [hr];show (1:Int)≤200 - j;omega) fun n hn hd=>by
  rw [hr] at hn ⊢
  rw [e1,e3] at hn
  rw [e1,e2,e3]
  have hw':Wk s0.W s0.S [c0] (j + 1) n:=.step h.wk hn
  have hdx:0 < dd s0.W s0.S a x:=by rw [h.t,hr,e1,e3] at hd;simp only at hd;omega
  exact safe_of hw.g hw.len hw.cin hw' (by omega) (by omega) (by show (1:Int) * ((j + 1:Nat):Int)≤200 - (j:Int) - 1;omega)
 rw [hr,e1,e3] at hn1
 rw [h.t,hr,e1,e3] at hn3
 refine ⟨n,?_,hn3⟩
 rw [hn4]
 have hI:Inv (act1 on (placeL s) i s):=(act1_inv h.solo.inv on (placeL s) h.solo.hi).1
 rw [hn4] at hI
 refine ⟨h.solo.keep (.sR _ _ _) hI,h.keep.trans (.sR _ _ _),?_,h.t,.step h.wk hn1⟩
 rw [h.solo.inv.wf.setR_r h.solo.hi,if_pos rfl,hr]
 simp only [Rob.mk.injEq,true_and,and_true]
 constructor<;>(push_cast;omega)
theorem fet_load {s:St} {j:Nat} (h:Fet i k s0 c0 a b j a s) (hs:safeB s0.W s0.H s0.S on 2 a (200 - (j:Int))=true):Car i k s0 a b j a (act1 on (placeL s) i s):=by
 have hr:=h.r
 have e1:s.W=s0.W:=h.keep.W
 have e2:s.H=s0.H:=h.keep.H
 have e3:s.S=s0.S:=h.keep.S
 have ha:=act_load h.solo (on:=on) (by rw [hr]) (by rw [hr]) (by rw [hr,h.t]) (by rw [hr,e1,e2,e3];exact hs)
 have hI:Inv (act1 on (placeL s) i s):=(act1_inv h.solo.inv on (placeL s) h.solo.hi).1
 rw [ha] at hI ⊢
 refine ⟨h.solo.keep ((Keep.sR _ _ _).trans (.sT _ _ _)) hI,h.keep.trans ((Keep.sR _ _ _).trans (.sT _ _ _)),?_,?_⟩
 ·rw [setT_r,h.solo.inv.wf.setR_r h.solo.hi,if_pos rfl,hr]
 ·rw [(h.solo.inv.wf.sR _ _).setT_t h.solo.hk,if_pos rfl,h.t]
theorem car_act {s:St} {m l:Nat} {x y:Int} (hw:Way i k s0 on c0 a b) (h:Car i k s0 a b m x s) (hy:y ∈ on) (hl:Wk s0.W s0.S [y] l b) (hm:2 * ((l:Int) + dd s0.W s0.S b x)≤200 - (m:Int)) (hne:x≠b):
 ∃ n,Car i k s0 a b (m + 2) n (act1 on (placeL s) i s)∧dd s0.W s0.S b n + 1=dd s0.W s0.S b x∧opn s0.S n=true:=by
 have hr:=h.r
 have e1:s.W=s0.W:=h.keep.W
 have e2:s.H=s0.H:=h.keep.H
 have e3:s.S=s0.S:=h.keep.S
 have hxo:opn s0.S x=true:=by have:=h.solo.inv.cell i h.solo.hi h.solo.oi;rw [hr,e3] at this;exact this
 have hdx:0 < dd s0.W s0.S b x:=by
  rcases Nat.eq_zero_or_pos (dd s0.W s0.S b x) with h0 | h0
  ·exact absurd ((dd_zero hw.g hw.ob hxo).1 h0) hne
  ·exact h0
 obtain ⟨n,hn1,hn2,hn3,hn4⟩:=act_carry_go h.solo (sz_of hr (by omega) (by omega)) (on:=on) (by rw [hr]) (by rw [hr]) (by rw [h.t]) (by rw [hr,h.t];exact hne) (by rw [hr];show (2:Int)≤200 - m;omega) fun n hn hd=>by
  rw [hr] at hn ⊢
  rw [e1,e3] at hn
  rw [h.t,hr,e1,e3] at hd
  simp only at hd
  rw [e1,e2,e3]
  have hno:opn s0.S n=true:=((near_iff (gr_size hw.g).1 hxo).1 hn).1
  have hwn:=wk_trans hl (dd_spec hw.g hw.ob hno).1
  exact safe_of hw.g hw.len hy hwn (by omega) (by omega) (by show (2:Int) * ((l + dd s0.W s0.S b n:Nat):Int)≤200 - (m:Int) - 2;push_cast;omega)
 rw [h.t,hr,e1,e3] at hn3
 rw [e3] at hn2
 refine ⟨n,?_,hn3,hn2⟩
 rw [hn4]
 have hI:Inv (act1 on (placeL s) i s):=(act1_inv h.solo.inv on (placeL s) h.solo.hi).1
 rw [hn4] at hI
 refine ⟨h.solo.keep (.sR _ _ _) hI,h.keep.trans (.sR _ _ _),?_,h.t⟩
 rw [h.solo.inv.wf.setR_r h.solo.hi,if_pos rfl,hr]
 simp only [Rob.mk.injEq,true_and,and_true]
 constructor<;>(push_cast;omega)
theorem car_done {s:St} {m:Nat} (h:Car i k s0 a b m b s):Solo i k (act1 on (placeL s) i s)∧Keep s0 (act1 on (placeL s) i s)∧((act1 on (placeL s) i s).r i).moved=m∧((act1 on (placeL s) i s).t k).st=3:=by
 have hr:=h.r
 have ha:=act_done h.solo (on:=on) (by rw [hr]) (by rw [hr]) (by rw [hr,h.t])
 have hI:Inv (act1 on (placeL s) i s):=(act1_inv h.solo.inv on (placeL s) h.solo.hi).1
 rw [ha] at hI ⊢
 refine ⟨h.solo.keep ((Keep.sR _ _ _).trans (.sT _ _ _)) hI,h.keep.trans ((Keep.sR _ _ _).trans (.sT _ _ _)),?_,?_⟩
 ·rw [setT_r,h.solo.inv.wf.setR_r h.solo.hi,if_pos rfl,hr]
 ·rw [(h.solo.inv.wf.sR _ _).setT_t h.solo.hk,if_pos rfl]
theorem Fet.tk {s:St} {j:Nat} {x:Int} (h:Fet i k s0 c0 a b j x s) (n:Int):Fet i k s0 c0 a b j x { s with tick:=n }:=⟨h.solo.keep (keep_tick s n) (h.solo.inv.tk n),h.keep.trans (keep_tick s n),h.r,h.t,h.wk⟩
theorem Car.tk {s:St} {m:Nat} {x:Int} (h:Car i k s0 a b m x s) (n:Int):Car i k s0 a b m x { s with tick:=n }:=⟨h.solo.keep (keep_tick s n) (h.solo.inv.tk n),h.keep.trans (keep_tick s n),h.r,h.t⟩
theorem fet_busy {s:St} {j:Nat} {x:Int} (hw:Way i k s0 on c0 a b) (h:Fet i k s0 c0 a b j x s) (hj:j≤64):tickS s=act1 on (placeL { s with tick:=s.tick + 1 }) i { s with tick:=s.tick + 1 }:=by
 have hr:=h.r
 refine (tick_busy h.solo (h.keep.onL hw.hon) (by rw [hr];show (1:Int)≠0;omega) (by rw [hr];show (1:Int)≠4;omega) (by rw [h.t];show (1:Int)≠0;omega) ?_).1
 have hstep:stepS s (s.r i)=1:=by unfold stepS;rw [SuitP.tk (k:=k) (by rw [hr]),h.t,if_neg (fun x=>by have:=x.2;simp at this)]
 rw [hstep,hr,h.keep.W,h.keep.H,h.keep.S]
 exact safe_of hw.g hw.len hw.cin h.wk (by omega) (by omega) (by show (1:Int) * (j:Int)≤200 - (j:Int);omega)
theorem car_busy {s:St} {m l:Nat} {x y:Int} (hw:Way i k s0 on c0 a b) (h:Car i k s0 a b m x s) (hy:y ∈ on) (hl:Wk s0.W s0.S [y] l b) (hm:2 * ((l:Int) + dd s0.W s0.S b x)≤200 - (m:Int)):tickS s=act1 on (placeL { s with tick:=s.tick + 1 }) i { s with tick:=s.tick + 1 }:=by
 have hr:=h.r
 have hxo:opn s0.S x=true:=by have:=h.solo.inv.cell i h.solo.hi h.solo.oi;rw [hr,h.keep.S] at this;exact this
 refine (tick_busy h.solo (h.keep.onL hw.hon) (by rw [hr];show (2:Int)≠0;omega) (by rw [hr];show (2:Int)≠4;omega) (by rw [h.t];show (2:Int)≠0;omega) ?_).1
 have hstep:stepS s (s.r i)=2:=by unfold stepS;rw [SuitP.tk (k:=k) (by rw [hr]),h.t,if_pos ⟨by rw [hr];show (k:Int)≠-1;omega,rfl⟩]
 rw [hstep,hr,h.keep.W,h.keep.H,h.keep.S]
 have hwx:=wk_trans hl (dd_spec hw.g hw.ob hxo).1
 exact safe_of hw.g hw.len hy hwx (by omega) (by omega) (by show (2:Int) * ((l + dd s0.W s0.S b x:Nat):Int)≤200 - (m:Int);push_cast;omega)
noncomputable def tickN:Nat→St→St
 | 0,s=>s
 | n + 1,s=>tickN n (tickS s)
theorem fet_all (hw:Way i k s0 on c0 a b):∀ (d:Nat) {j:Nat} {x:Int} {s:St},Fet i k s0 c0 a b j x s→dd s0.W s0.S a x=d→j + d≤64→Fet i k s0 c0 a b (j + d) a (tickN d s)
 | 0,j,x,s,h,hd,hj=>by
   have hxo:opn s0.S x=true:=h.wk.opn
   obtain rfl:=(dd_zero hw.g hw.oa hxo).1 hd
   exact h
 | d + 1,j,x,s,h,hd,hj=>by
   have hne:x≠a:=fun e=>by subst e;rw [(dd_zero hw.g hw.oa h.wk.opn).2 rfl] at hd;omega
   obtain ⟨y,h1,h2⟩:=fet_act hw (h.tk (s.tick + 1)) (by omega) hne
   rw [← fet_busy hw h (by omega)] at h1
   have:=fet_all hw d h1 (by omega) (by omega)
   rw [show j + (d + 1)=j + 1 + d by omega]
   exact this
theorem car_all (hw:Way i k s0 on c0 a b) {l:Nat} {y:Int} (hy:y ∈ on) (hl:Wk s0.W s0.S [y] l b):∀ (d:Nat) {m:Nat} {x:Int} {s:St},Car i k s0 a b m x s→opn s0.S x=true→dd s0.W s0.S b x=d→2 * ((l:Int) + d)≤200 - (m:Int)→Car i k s0 a b (m + 2 * d) b (tickN d s)
 | 0,m,x,s,h,hxo,hd,hm=>by
   obtain rfl:=(dd_zero hw.g hw.ob hxo).1 hd
   exact h
 | d + 1,m,x,s,h,hxo,hd,hm=>by
   have hne:x≠b:=fun e=>by subst e;rw [(dd_zero hw.g hw.ob hxo).2 rfl] at hd;omega
   obtain ⟨n,h1,h2,h3⟩:=car_act hw (h.tk (s.tick + 1)) hy hl (by rw [hd];exact hm) hne
   rw [← car_busy hw h hy hl (by rw [hd];exact hm)] at h1
   have:=car_all hw hy hl d h1 h3 (by omega) (by omega)
   rw [show m + 2 * (d + 1)=m + 2 + 2 * d by omega]
   exact this
end
end Go.Proofs.YtoejdgoicoaomaaGreatDoor
namespace Go.Proofs.YtoejdgoicoaomaaGreatDoor
open Go.Mini
theorem tickN_add:∀ (p q:Nat) (s:St),tickN (p + q) s=tickN q (tickN p s)
 | 0,q,s=>by rw [Nat.zero_add];rfl
 | p + 1,q,s=>by
   rw [show p + 1 + q=(p + q) + 1 by omega]
   exact tickN_add p q (tickS s)
theorem tickN_succ (p:Nat) (s:St):tickN (p + 1) s=tickS (tickN p s):=tickN_add p 1 s
section
variable {i k:Nat} {s0:St} {on:List Int} {c0 a b:Int}
theorem alone_all (hw:Way i k s0 on c0 a b) (h:Solo i k s0) (hr:s0.r i=⟨c0,200,0,-1,0,0,0⟩) (ht:s0.t k=⟨a,b,0⟩) {N:Int} (hN:totO s0.W s0.H s0.S on c0 a b=some N) (hN0:0≤N) (hN2:N≤200)
 {n K l:Nat} {y:Int} (hn:dd s0.W s0.S a c0=n) (hK:dd s0.W s0.S b a=K) (hy:y ∈ on) (hl:Wk s0.W s0.S [y] l b) (hback:safeB s0.W s0.H s0.S on 2 a (200 - (n:Int))=true) (hlast:2 * ((l:Int) + K)≤200 - (n:Int)):
 Solo i k (tickN (n + K + 2) s0)∧Keep s0 (tickN (n + K + 2) s0)∧((tickN (n + K + 2) s0).r i).moved=(n:Int) + 2 * K∧((tickN (n + K + 2) s0).t k).st=3:=by
 have hsz:n < 64:=by have:=(dd_spec hw.g hw.oa hw.oc).2.2;have:=gr_size hw.g;omega
 obtain ⟨h1,h2⟩:=tick_take h hw.hon (by rw [hr]) (by rw [ht]) (by rw [hr];exact safe_of hw.g hw.len hw.cin (.src (by simp) hw.oc) (by omega) (by omega) (by show (1:Int) * ((0:Nat):Int)≤200;omega)) (by rw [hr,ht];exact hN) hN0 (by rw [hr];exact hN2)
 have hw0:St.WF { s0 with tick:=s0.tick + 1 }:=(h.inv.tk _).wf
 have hf:Fet i k s0 c0 a b 0 c0 ((St.setR { s0 with tick:=s0.tick + 1 } i { s0.r i with phase:=1,task:=(k:Int) }).setT k { s0.t k with st:=1 }):=by
  refine ⟨h2,(keep_tick s0 _).trans ((Keep.sR _ _ _).trans (.sT _ _ _)),?_,?_,.src (by simp) hw.oc⟩
  ·rw [setT_r,hw0.setR_r h.hi,if_pos rfl,hr];rfl
  ·rw [(hw0.sR _ _).setT_t h.hk,if_pos rfl,ht]
 have hcar:∃ s1,Car i k s0 a b n a s1∧s1=tickN (n + 1) s0:=by
  cases n with
  | zero=>
    have hca:c0=a:=(dd_zero hw.g hw.oa hw.oc).1 hn
    subst hca
    exact ⟨_,fet_load hf hback,h1.symm⟩
  | succ m=>
    have hne:c0≠a:=fun e=>by have:=(dd_zero hw.g hw.oa hw.oc).2 e;omega
    obtain ⟨y1,f1,hd1⟩:=fet_act hw hf (by omega) hne
    rw [← h1] at f1
    have f2:=fet_all hw m f1 (by omega) (by omega)
    rw [show 0 + 1 + m=m + 1 by omega] at f2
    refine ⟨_,fet_load (f2.tk ((tickN m (tickS s0)).tick + 1)) hback,?_⟩
    rw [← fet_busy hw f2 (by omega)]
    rw [show m + 1 + 1=(m + 1) + 1 from rfl,tickN_succ];rfl
 obtain ⟨s1,hc1,hs1⟩:=hcar
 have hc2:=car_all hw hy hl K hc1 hw.oa hK hlast
 have hbz:dd s0.W s0.S b b=0:=(dd_zero hw.g hw.ob hw.ob).2 rfl
 have hb:=car_busy hw hc2 hy hl (by rw [hbz];push_cast;omega)
 obtain ⟨k1,k2,k3,k4⟩:=car_done (on:=on) (hc2.tk (( tickN K s1).tick + 1))
 rw [← hb] at k1 k2 k3 k4
 have he:tickN (n + K + 2) s0=tickS (tickN K s1):=by
  rw [show n + K + 2=(n + 1) + K + 1 by omega,tickN_succ,tickN_add,hs1]
 rw [he]
 refine ⟨k1,k2,?_,k4⟩
 rw [k3];push_cast;omega
end
theorem gr21B:gr 2 1 exB=true:=gr21
theorem ex_o0:opn exB 0=true:=by decide +kernel
theorem ex_o1:opn exB 1=true:=by decide +kernel
theorem ex_dd {x y:Int} (hx:opn exB x=true) (hy:opn exB y=true) (hne:x≠y):dd 2 exB y x=1:=by
 have h1:=(dd_spec gr21B hy hx).2.2
 have h0:dd 2 exB y x≠0:=fun h=>hne ((dd_zero gr21B hy hx).1 h)
 have:exB.size=2:=rfl
 have h1':dd 2 exB y x < 2:=h1
 omega
theorem exB_on:onL exB (List.replicate 8 0) (gr 2 1 exB)=[1]:=by
 rw [show gr 2 1 exB=true from gr21];decide +kernel
theorem ex_tot:totO 2 1 exB [1] 1 0 1=some 3:=by
 refine totO_good ?_
 have h:=TotR.good (W:=2) (Hh:=1) (S:=exB) (on:=[1]) (c:=1) (a:=0) (b:=1) (by unfold totOK;rw [show gr 2 1 exB=true from gr21B,ex_o0,ex_o1];rfl) (by simp) (cst_costL 2 exB [0] 1) (cst_costL 2 exB [1] 2) (cst_costL 2 exB [1] 1)
  (by rw [dd_cost gr21B ex_o1 ex_o1,(dd_zero gr21B ex_o1 ex_o1).2 rfl];simp)
 rw [dd_cost gr21B ex_o0 ex_o1,dd_cost gr21B ex_o1 ex_o0,dd_cost gr21B ex_o1 ex_o1,ex_dd ex_o1 ex_o0 (by decide),ex_dd ex_o0 ex_o1 (by decide),(dd_zero gr21B ex_o1 ex_o1).2 rfl] at h
 exact h
noncomputable def exA:St:=(robotA (newS 2 1 exB) 3 1 200).1
noncomputable def exT:St:=(taskA exA 5 0 1).1
theorem exA_eq:robotA (newS 2 1 exB) 3 1 200=({ (newS 2 1 exB).setR 3 ⟨1,200,0,-1,0,0,0⟩ with on:=(newS 2 1 exB).on.set 3 true },0):=by
 have h1:opnG (newS 2 1 exB) 1=true:=by rw [opnG_iff];exact ⟨gr21B,ex_o1⟩
 have h2:freeB (newS 2 1 exB) 1=true:=by
  unfold freeB
  rw [Bool.or_eq_true];right
  rw [Bool.not_eq_true',decide_eq_false_iff_not]
  intro hm
  obtain ⟨j,hj,e⟩:=placeL_mem.1 hm
  unfold St.pl at e
  rw [newS_o] at e
  simp at e
 unfold robotA
 rw [if_neg (by rw [h1];simp),if_neg (by rw [newS_o];simp),if_neg (by rw [h2];simp)]
 rfl
theorem ex_rt0:Rt (newS 2 1 exB):=newS_rt gr21B
theorem exA_do:doE (newS 2 1 exB) 1 3 1 200=0∧(madeS (newS 2 1 exB) 1 3 1 200).1=exA∧(madeS (newS 2 1 exB) 1 3 1 200).2.1=[]:=by
 have hm:madeS (newS 2 1 exB) 1 3 1 200=(exA,[],0):=by unfold madeS exA;rw [if_pos rfl,exA_eq]
 refine ⟨?_,by rw [hm],by rw [hm]⟩
 rw [doE_few ex_rt0 newS_bnd (by omega),hm]
theorem exA_rt:Rt exA∧Bnd 1 exA∧exA.W=2∧exA.H=1∧exA.S=exB:=by
 obtain ⟨h1,h2,_⟩:=exA_do
 have k:=do_rt newS_wf h1
 have kb:=made_bnd ex_rt0 newS_bnd (by omega) (doE_zero h1).2.1
 rw [h2] at k kb
 exact ⟨k.rt,kb.1,k.W,k.H,k.S⟩
theorem exA_o (j:Nat):exA.o j=decide (j=3):=by
 have:exA.o j=if j=3 then true else (newS 2 1 exB).o j:=on_set newS_wf (by omega) exA (by unfold exA;rw [exA_eq]) j
 rw [this,newS_o]
 by_cases h:j=3<;>simp [h]
theorem exA_i (j:Nat):exA.i j=false:=by
 have:exA.i j=(newS 2 1 exB).i j:=by unfold exA;rw [exA_eq];rfl
 rw [this,newS_i]
theorem exA_r:exA.r 3=⟨1,200,0,-1,0,0,0⟩:=by
 have:exA.r 3=((newS 2 1 exB).setR 3 ⟨1,200,0,-1,0,0,0⟩).r 3:=by unfold exA;rw [exA_eq];rfl
 rw [this,newS_wf.setR_r (by omega),if_pos rfl]
theorem exA_off:exA.off=List.replicate 8 0:=by unfold exA;rw [exA_eq];rfl
theorem exT_eq:taskA exA 5 0 1=({ exA.setT 5 ⟨0,1,0⟩ with is:=exA.is.set 5 true },0):=by
 obtain ⟨_,_,eW,eH,eS⟩:=exA_rt
 have h0:opnG exA 0=true:=by rw [opnG_iff,eW,eH,eS];exact ⟨gr21B,ex_o0⟩
 have h1:opnG exA 1=true:=by rw [opnG_iff,eW,eH,eS];exact ⟨gr21B,ex_o1⟩
 unfold taskA
 rw [if_neg (by rw [h0,h1];simp),if_neg (by rw [exA_i];simp)]
 rfl
theorem exT_do:doE exA 2 5 0 1=0∧(madeS exA 2 5 0 1).1=exT∧(madeS exA 2 5 0 1).2.1=[]:=by
 have hm:madeS exA 2 5 0 1=(exT,[],0):=by unfold madeS exT;rw [if_neg (by decide),if_pos rfl,exT_eq]
 refine ⟨?_,by rw [hm],by rw [hm]⟩
 rw [doE_few exA_rt.1 exA_rt.2.1 (by omega),hm]
theorem exT_rt:Rt exT∧Bnd 2 exT∧exT.W=2∧exT.H=1∧exT.S=exB:=by
 obtain ⟨h1,h2,_⟩:=exT_do
 obtain ⟨r,bb,eW,eH,eS⟩:=exA_rt
 have k:=do_rt r.inv.wf h1
 have kb:=made_bnd r bb (by omega) (doE_zero h1).2.1
 rw [h2] at k kb
 exact ⟨k.rt,kb.1,k.W.trans eW,k.H.trans eH,k.S.trans eS⟩
theorem exT_solo:Solo 3 5 exT∧exT.r 3=⟨1,200,0,-1,0,0,0⟩∧exT.t 5=⟨0,1,0⟩∧exT.off=List.replicate 8 0:=by
 have hA:=exA_rt.1.inv.wf
 have ei:∀ j,exT.i j=if j=5 then true else exA.i j:=is_set hA (by omega) exT (by unfold exT;rw [exT_eq])
 have eo:∀ j,exT.o j=exA.o j:=fun j=>by unfold exT;rw [exT_eq];rfl
 have er:exT.r 3=exA.r 3:=by unfold exT;rw [exT_eq];rfl
 have et:exT.t 5=(exA.setT 5 ⟨0,1,0⟩).t 5:=by unfold exT;rw [exT_eq];rfl
 refine ⟨⟨exT_rt.1.inv,by omega,by omega,by rw [eo,exA_o];rfl,by rw [ei];rfl,fun j hj hne=>by rw [eo,exA_o];simp [hne],fun j hj hne=>by rw [ei,if_neg hne,exA_i]⟩,by rw [er,exA_r],?_,?_⟩
 ·rw [et,hA.setT_t (by omega),if_pos rfl]
 ·unfold exT;rw [exT_eq];exact exA_off
theorem ex_all:((tickN 4 exT).r 3).moved=3∧((tickN 4 exT).t 5).st=3:=by
 obtain ⟨hs,hr,ht,hoff⟩:=exT_solo
 obtain ⟨_,_,eW,eH,eS⟩:=exT_rt
 have hway:Way 3 5 exT [1] 1 0 1:=⟨by rw [eW,eH,eS];exact gr21B,by rw [hoff,eW,eH,eS];exact exB_on,by simp,by simp,by rw [eS];exact ex_o1,by rw [eS];exact ex_o0,by rw [eS];exact ex_o1⟩
 have h:=alone_all (n:=1) (K:=1) (l:=0) (y:=1) (N:=3) hway hs hr ht (by rw [eW,eH,eS];exact ex_tot) (by omega) (by omega) (by rw [eW,eS];exact ex_dd ex_o1 ex_o0 (by decide)) (by rw [eW,eS];exact ex_dd ex_o0 ex_o1 (by decide)) (by simp) (.src (by simp) (by rw [eS];exact ex_o1))
  (by
    have hwk:Wk exT.W exT.S [1] 1 0:=by
     have:=(dd_spec gr21B ex_o1 ex_o0).1
     rw [ex_dd ex_o0 ex_o1 (by decide)] at this
     rw [eW,eS];exact this
    exact safe_of hway.g hway.len hway.cin hwk (by omega) (by omega) (by show (2:Int) * ((1:Nat):Int)≤200 - ((1:Nat):Int);omega)) (by omega)
 exact ⟨h.2.2.1,h.2.2.2⟩
theorem tick_do {s:St} (h:Rt s) {n:Int} (hb:Bnd n s) (hn:n + 1≤150) (a b c:Int):doE s 6 a b c=0∧(madeS s 6 a b c).1=tickS s∧Rt (tickS s)∧Bnd (n + 1) (tickS s):=by
 have hm:madeS s 6 a b c=(tickS s,cmdsL (tickS s) 10,0):=by unfold madeS;rw [if_neg (by decide),if_neg (by decide),if_neg (by decide),if_neg (by decide),if_pos rfl]
 have h0:doE s 6 a b c=0:=by rw [doE_few h hb hn,hm]
 have k:=do_rt h.inv.wf h0
 have kb:=made_bnd h hb hn (doE_zero h0).2.1
 rw [hm] at k kb ⊢
 have k1:=k.rt
 have k2:=kb.1
 simp only at k1 k2 ⊢
 generalize tickS s=t at k1 k2 ⊢
 exact ⟨h0,trivial,k1,k2⟩
theorem tickN_rt {s:St} (h:Rt s) {n:Int} (hb:Bnd n s):∀ m:Nat,n + m≤150→Rt (tickN m s)∧Bnd (n + m) (tickN m s)
 | 0,_=>⟨h,by have:n + ((0:Nat):Int)=n:=(by simp);rw [this];exact hb⟩
 | m + 1,hm=>by
   obtain ⟨k1,k2⟩:=tickN_rt h hb m (by omega)
   obtain ⟨_,_,k3,k4⟩:=tick_do k1 k2 (by omega) 0 0 0
   rw [tickN_succ]
   have:n + (m:Int) + 1=n + ((m + 1:Nat):Int):=by omega
   rw [← this]
   exact ⟨k3,k4⟩
end Go.Proofs.YtoejdgoicoaomaaGreatDoor
namespace Go.Proofs.YtoejdgoicoaomaaGreatDoor
open Go.Mini
open Go.Proofs.YtoejdgoicoaomaaGreatDoor.Code
attribute [local irreducible] mx ml mld mstep MCalls Ex.thn Ex.inb
variable {E:World→Prop}
theorem mDo_ok (s:St) (hw:s.WF) (nm:ByteArray) (a b c:Int) (σ:H) {t:St} (h:doE s (kindN nm) a b c=0) (ht:(madeS s (kindN nm) a b c).1=t):MCalls E Tryz.prog 18 [stV s,actW nm a b c] σ (fun v τ=>Ext σ τ∧∃ cv oid,v=.tuple #[stV t,cv,.nilIface]∧Own τ 2 cv oid (dues (madeS s (kindN nm) a b c).2.1)):=
 (mDo_c s hw nm a b c σ).mono fun v τ ⟨e,hv⟩=>by
   rw [if_pos h] at hv
   obtain ⟨cv,oid,h1,h2,_⟩:=hv
   rw [ht] at h1
   exact ⟨e,cv,oid,h1,h2⟩
set_option maxRecDepth 100000 in
set_option maxHeartbeats 16000000 in
theorem mAwake_c (hE:∀ w,E w→ErrType w) (σ:H):MCalls E Tryz.prog 12 [] σ (fun v τ=>v=.bool true∧Ext σ τ):=by
 refine mcalls_of fn12 (by simp) ?_
 unfold c12 r12
 refine stepR0 ?_
 refine ml_call Sd0 Sd0 (mNew_c 2 1 exB σ) ?_
 rintro _ τ1 ⟨e1,hv⟩
 rw [if_pos (show gr 2 1 exB=true from gr21B)] at hv
 subst hv
 refine stepR0 ?_
 refine ml_init (vs:=stC (newS 2 1 exB)) Sd0 Sd0 Sd0 newS_wf.len zl_len (stC_one _) fun τ2 e2 g2=>?_
 generalize hid:τ1.size=id at *
 have e12:=e1.trans e2
 refine stepR0 ?_
 refine ml_loadN Sd0 Sd0 (row_of g2 (rowAll newS_wf.len)) ?_
 refine stepR0 ?_
 have hA:=exA_do
 have hwA:=exA_rt.1.inv.wf
 refine ml_call Sd0 (by unfold stV actW actC;exact Sd0) (mDo_ok (newS 2 1 exB) newS_wf nmRobot 3 1 200 τ2 (t:=exA) hA.1 hA.2.1) ?_
 rintro _ τ3 ⟨e3,cv,oid,rfl,own⟩
 refine stepR0 ?_
 refine ml_storeA (off:=0) (vs:=stC exA) Sd0 Sd0 Sd0 (e3.cells g2) hwA.len (by rw [newS_wf.len];simp) (stC_one _) fun τ4 t4=>?_
 rw [spl_all (by rw [newS_wf.len,hwA.len])] at t4
 have e14:Ext σ τ4:=t4.ext (e12.trans e3) (by have:=e1.size;omega)
 have g4:=t4.self
 clear own
 refine stepR0 ?_
 refine ml_loadN Sd0 Sd0 (row_of g4 (rowAll hwA.len)) ?_
 refine stepR0 ?_
 have hT:=exT_do
 have hwT:=exT_rt.1.inv.wf
 refine ml_call Sd0 (by unfold stV actW actC;exact Sd0) (mDo_ok exA hwA nmTask 5 0 1 τ4 (t:=exT) hT.1 hT.2.1) ?_
 rintro _ τ5 ⟨e5,cv2,oid2,rfl,own⟩
 refine stepR0 ?_
 refine ml_storeA (off:=0) (vs:=stC exT) Sd0 Sd0 Sd0 (e5.cells g4) hwT.len (by rw [hwA.len];simp) (stC_one _) fun τ6 t6=>?_
 rw [spl_all (by rw [hwA.len,hwT.len])] at t6
 have e16:Ext σ τ6:=t6.ext (e14.trans e5) (by have:=e1.size;omega)
 have g6:=t6.self
 clear own
 refine stepR0 ?_
 refine mx_loop (fun n ts τ=>∃ i:Nat,n=4 - i∧i≤4∧Ext σ τ∧τ.get id=.cells 0 (stC (tickN i exT))∧ts 1=.pointer (some ⟨id,0,none⟩)∧ts 2=.nilIface∧ts 4=.nilIface∧ts 6=.nilIface∧ts 7=.int .i64 ((i:Nat):Int)) 4 ?_ ?_
 ·exact ⟨0,rfl,Nat.zero_le _,e16,g6,Sd0,Sd0,Sd0,Sd0,Sd0⟩
 rintro _ ts τ ⟨i,rfl,hi,e,g,t1,t2,t4,t6,t7⟩
 obtain ⟨hrt,hbd⟩:=tickN_rt exT_rt.1 exT_rt.2.1 i (by omega)
 have hws:=hrt.inv.wf
 rcases Nat.lt_or_ge i 4 with hil | hig
 ·have hil':((i:Nat):Int) < 4:=by omega
  obtain ⟨hd,hm,hr2,_⟩:=tick_do hrt hbd (by omega) 0 0 0
  have hsucc:=tickN_succ i exT
  have hw2:=hr2.inv.wf
  generalize tickN i exT=s at *
  refine stepR (An t1 (An t7 hil')) ?_
  refine ml_loadN Sd0 (Sw t1) (row_of g (rowAll hws.len)) ?_
  refine stepR0 ?_
  refine ml_call Sd0 (by unfold stV actW actC;exact Sd0) (mDo_ok s hws nmTick 0 0 0 τ (t:=tickS s) hd hm) ?_
  rintro _ τ7 ⟨e7,cv3,oid3,rfl,own⟩
  clear own
  generalize tickS s=t at *
  refine stepR t1 ?_
  refine ml_storeA (off:=0) (vs:=stC t) Sd0 (Sw t1) Sd0 (e7.cells g) hw2.len (by rw [hws.len];simp) (stC_one _) fun τ8 t8=>?_
  rw [spl_all (by rw [hws.len,hw2.len])] at t8
  refine stepR t7 ?_
  exact ⟨4 - (i + 1),by omega,i + 1,rfl,by omega,t8.ext (e.trans e7) (by have:=e1.size;omega),by rw [hsucc];exact t8.self,(Sw t1),(Sw t2),(Sw t4),(Sw t6),Sd0⟩
 ·obtain rfl:i=4:=by omega
  have hil':¬ (((4:Nat):Nat):Int) < 4:=by omega
  obtain ⟨hmv,hst⟩:=ex_all
  generalize tickN 4 exT=s at *
  refine stepR (An t7 (An hil' t2)) ?_
  refine ml_call Sd0 (Sw t2) (tNumN_c τ) ?_
  rintro _ τ9 ⟨rfl,rfl⟩
  refine stepR t4 ?_
  refine ml_call Sd0 (Sw t4) (tNumN_c τ9) ?_
  rintro _ τ10 ⟨rfl,rfl⟩
  refine stepR t6 ?_
  refine ml_call Sd0 (Sw t6) (tNumN_c τ10) ?_
  rintro _ τ11 ⟨rfl,rfl⟩
  refine stepR t1 ?_
  refine ml_op Sd0 (o_load1q (off:=92 + 5 * 3 + 2) (v:=.int .i64 (s.t 5).st) (Sw t1) g (hws.tsk_at (by omega) (by omega))) ?_
  rw [hst]
  refine stepR t1 ?_
  refine ml_op Sd0 (o_load1q (off:=12 + 3 * 7 + 4) (v:=.int .i64 (s.r 3).moved) (Sw t1) g (hws.rob_at (by omega) (by omega))) ?_
  rw [hmv]
  refine stepR0 ?_
  exact fin1 ⟨Sd0,e⟩
end Go.Proofs.YtoejdgoicoaomaaGreatDoor
