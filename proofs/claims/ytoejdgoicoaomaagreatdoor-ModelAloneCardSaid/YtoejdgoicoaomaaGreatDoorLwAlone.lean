/- ModelAlone: a robot alone that has budget for a task does it. -/
import Derived.Test.YtoejdgoicoaomaaGreatDoorCL7
import Derived.Test.YtoejdgoicoaomaaGreatDoorModAp
import Derived.Test.YtoejdgoicoaomaaGreatDoorKindA
set_option linter.unusedVariables false
set_option linter.unusedSimpArgs false
namespace Go.Proofs.YtoejdgoicoaomaaGreatDoor
open Go.Mini
open Go.Proofs.YtoejdgoicoaomaaGreatDoor.Code
attribute [local irreducible] mx ml mld mstep MCalls Ex.thn Ex.inb
variable {E:World→Prop}
theorem alone_byte {S:ByteArray} {a:Nat} (h:a < S.size):((((S.data.toList.getD a 0).toNat:Int) == 35)=true∧opn S (a:Int)=false)∨((((S.data.toList.getD a 0).toNat:Int) == 35)=false∧opn S (a:Int)=true):=by
 have e:=opn_nat (S:=S) (i:=a) h
 rw [← e]
 cases hb:(((S.data.toList.getD a 0).toNat:Int) == 35)
 ·exact .inr ⟨rfl,by rw [bne,hb];rfl⟩
 ·exact .inl ⟨rfl,by rw [bne,hb];rfl⟩
theorem k_robot:kindN nmRobot=1:=by decide
theorem k_task:kindN nmTask=2:=by decide
theorem k_tick:kindN nmTick=6:=by decide
set_option maxRecDepth 100000 in
set_option maxHeartbeats 16000000 in
theorem modelAlone_c (hE:∀ w,E w→ErrType w) (W Hh:Int) (S:ByteArray) (n1:Nat) (hn1:n1 < 256) (n2:Nat) (hn2:n2 < 256) (σ:H):MCalls E Tryz.prog 7 [mapV W Hh S,.int .u8 ((n1:Nat):Int),.int .u8 ((n2:Nat):Int)] σ (fun v τ=>v=.bool true):=by
 refine mcalls_of fn7 (by simp) ?_
 unfold c7 r7 mapV
 have g1:=H.get_push_self σ (.cells 0 (mapC W Hh S))
 refine mx_seq (mx_ops (ml_op Sd0 (o_box (cs:=mapC W Hh S) Sd0) ?_))
 generalize σ.push (.cells 0 (mapC W Hh S))=τa at *
 generalize σ.size=im at *
 refine stepR0 ?_
 refine ml_call Sd0 Sd0 (mAwake_c hE τa) ?_
 rintro _ τ1 ⟨rfl,e2⟩
 have g2:=e2.cells g1
 refine stepR0 ?_
 refine ml_loadN Sd0 Sd0 (row_of g2 (rowAll rfl)) ?_
 refine stepR0 ?_
 refine ml_call Sd0 Sd0 (rRight_c W Hh S τ1) ?_
 rintro _ τ2 ⟨rfl,e3⟩
 have gm:=e3.cells g2
 clear g1 g2 e2 e3
 rcases Bool.eq_false_or_eq_true (gr W Hh S) with hgr | hgr
 case inr=>
  refine stepR hgr ?_
  refine ml_call Sd0 Sd0 (mAwake_c hE τ2) ?_
  rintro _ τ3 ⟨rfl,e4⟩
  refine stepR0 ?_
  exact fin1 Sd0
 refine stepR hgr ?_
 refine ml_loadN Sd0 Sd0 (row_of gm (rowAll rfl)) ?_
 refine stepR0 ?_
 refine ml_call Sd0 Sd0 (gOf_c W Hh S τ2) ?_
 rintro _ τ3 ⟨rfl,e4⟩
 refine stepR0 ?_
 refine ml_init (vs:=mapC W Hh S) Sd0 Sd0 Sd0 rfl rfl rfl fun τ4 e5 gx=>?_
 have gm:=(e4.trans e5).cells gm
 generalize τ3.size=ix at *
 clear e4 e5
 refine stepR0 ?_
 refine ml_loadN Sd0 Sd0 (row_of gx (rowAll rfl)) ?_
 refine stepR0 ?_
 refine ml_call Sd0 Sd0 (gkind_c W Hh S 67 τ4) ?_
 rintro cv τ5 ⟨e6,oid,own,hoid⟩
 rw [hgr] at own
 have gm:=e6.cells gm
 have gx:=e6.cells gx
 clear e6 hoid
 obtain ⟨c0,L0,hL⟩:=ch_ne hgr
 have hc0:c0 ∈ gkind S 67 true:=by rw [hL];simp
 have hl64:=ch_len hgr
 have hoc:=al_opn hc0
 have hAT:=fun a b (ha:opn S a=true) (hb:opn S b=true)=>al_wait hgr hc0 ha hb
 have hAD:=fun a b (ha:opn S a=true) (hb:opn S b=true)=>al_done hgr hc0 ha hb
 have hlen:0 < ((gkind S 67 true).length:Int):=by rw [hL];simp only [List.length_cons];omega
 have hget:(ints (gkind S 67 true))[(0:Int).toNat]?=some (.int .i64 c0):=by rw [hL];rfl
 clear hL
 generalize gkind S 67 true=L at *
 have hln:(ints L).length=L.length:=by unfold ints;rw [List.length_map]
 have hS:=(gr_size hgr).2.2.2.1
 obtain ⟨a,ha,hka⟩:∃ k:Nat,k < S.size∧(((n1:Nat):Int).tmod (S.size:Int))=(k:Int):=⟨n1 % S.size,Nat.mod_lt _ (by omega),by rw [Int.tmod_eq_emod_of_nonneg (by omega)];rfl⟩
 obtain ⟨b,hb,hkb⟩:∃ k:Nat,k < S.size∧(((n2:Nat):Int).tmod (S.size:Int))=(k:Int):=⟨n2 % S.size,Nat.mod_lt _ (by omega),by rw [Int.tmod_eq_emod_of_nonneg (by omega)];rfl⟩
 have hw1:IntKind.i64.wrap ((n1:Nat):Int)=((n1:Nat):Int):=i64wrap (by omega) (by omega)
 have hw2:IntKind.i64.wrap ((n2:Nat):Int)=((n2:Nat):Int):=i64wrap (by omega) (by omega)
 have hS0:((S.size:Nat):Int)≠0:=by omega
 have hla:((a:Nat):Int) < ((S.size:Nat):Int):=by omega
 have hlb:((b:Nat):Int) < ((S.size:Nat):Int):=by omega
 have hl0:¬ ((L.length:Nat):Int)=0:=by omega
 have hl0b:(((L.length:Nat):Int) == 0)=false:=by rw [beq_eq_false_iff_ne];exact hl0
 refine stepR (An gm (An hw1 (An hw2 (An hka hkb)))) ?_
 rcases alone_byte ha with ⟨ba,oa⟩ | ⟨ba,oa⟩
 ·refine stepR (An gm (An ba hla)) ?_
  refine ml_len Sd0 own.rd Sd0 ?_
  rw [hln]
  refine stepR hlen ?_
  exact fin1 Sd0
 refine stepR (An gm (An ba (An hla hlb))) ?_
 rcases alone_byte hb with ⟨bb,ob⟩ | ⟨bb,ob⟩
 ·refine stepR (An gm (An bb hlb)) ?_
  refine ml_len Sd0 own.rd Sd0 ?_
  rw [hln]
  refine stepR hlen ?_
  exact fin1 Sd0
 refine stepR (An gm (An bb hlb)) ?_
 refine ml_op (Sw bb) (own.rd.len (Sw bb)) ?_
 rw [hln]
 refine stepR (An hl0b bb) ?_
 have hn:=need_nd hgr (L:=[(a:Int)]) (st:=1) (by simp) (List.mem_singleton_self _) oa hoc (by omega) (by omega)
 have hK:=need_nd hgr (L:=[(b:Int)]) (st:=1) (by simp) (List.mem_singleton_self _) ob oa (by omega) (by omega)
 have hl:=need_nd hgr hl64 (st:=1) hc0 hoc ob (by omega) (by omega)
 have hbk:=need_nd hgr hl64 (st:=2) hc0 hoc oa (by omega) (by omega)
 have b1:=(nd_spec hgr (List.mem_singleton_self (a:Int)) oa hoc).2.2
 have b2:=(nd_spec hgr (List.mem_singleton_self (b:Int)) ob oa).2.2
 have b3:=(nd_spec hgr hc0 hoc ob).2.2
 have b4:=(nd_spec hgr hc0 hoc oa).2.2
 have hwait:=hAT _ _ oa ob
 have hdone:=hAD _ _ oa ob
 clear hAT hAD gm ba bb
 generalize nd W S [(a:Int)] c0=n at *
 generalize nd W S [(b:Int)] (a:Int)=K at *
 generalize nd W S L (b:Int)=l at *
 generalize nd W S L (a:Int)=l2 at *
 rw [Int.one_mul] at hn hK hl
 obtain ⟨dA,mA,rtA,bdA⟩:=alA_do hgr hoc
 obtain ⟨dT,mT,rtT,bdT⟩:=alT_do hgr hoc oa ob
 have hwN:(newS W Hh S).WF:=newS_wf
 have hwA:=rtA.inv.wf
 have hwT:=rtT.inv.wf
 refine ml_loadN Sd0 Sd0 (row_of gx (rowAll rfl)) ?_
 refine stepR0 ?_
 refine ml_call Sd0 Sd0 (mNew_c W Hh S τ5) ?_
 rintro _ τ6 ⟨e7,hv⟩
 rw [if_pos hgr] at hv
 subst hv
 have gx:=e7.cells gx
 have own:=own.of_ext e7
 clear e7
 refine stepR0 ?_
 refine ml_init (vs:=stC (newS W Hh S)) Sd0 Sd0 Sd0 hwN.len zl_len (stC_one _) fun τ7 e8 g=>?_
 have hxid:ix < τ6.size:=H.lt_of_cells gx
 have hoid:∀ i,oid=some i→i≠τ6.size:=fun i hi=>by
  subst hi;have:=own.lt;omega
 have gx:=e8.cells gx
 have own:=own.of_ext e8
 clear e8
 generalize τ6.size=id at *
 generalize hs0:newS W Hh S=s0 at *
 generalize hsA:alA W Hh S c0=sA at *
 generalize hsT:alT W Hh S c0 (a:Int) (b:Int)=sT at *
 refine stepR0 ?_
 refine mld_loadN Sd0 Sd0 (row_of g (rowAll hwN.len)) ?_
 refine stepR0 ?_
 refine mld_getS Sd0 own.rd Sd0 Sd0 (by omega) hget (fun p=>Sd0) fun p=>?_
 refine stepR0 ?_
 refine mld_callW Sd0 (by unfold stV actW actC;exact Sd0) (mDo_ok s0 hwN nmRobot 0 c0 200 τ7 (t:=sA) (by rw [k_robot];exact dA) (by rw [k_robot];exact mA)) ?_
 rintro _ τ8 ⟨e9,dv,_,rfl,_⟩
 have gx:=e9.cells gx
 have g:=e9.cells g
 have own:=own.of_ext e9
 clear e9
 refine stepR0 ?_
 refine mld_storeA (off:=0) (vs:=stC sA) Sd0 Sd0 Sd0 g hwA.len (by rw [hwN.len];simp) (stC_one _) fun τ9 t9=>?_
 rw [spl_all (by rw [hwN.len,hwA.len])] at t9
 have gx:=t9.cells gx (by omega)
 have own:=own.ext fun i hi=>t9.other i (hoid i hi)
 have g:=t9.self
 clear t9
 refine stepR0 ?_
 refine ml_loadN Sd0 Sd0 (row_of g (rowAll hwA.len)) ?_
 refine stepR0 ?_
 refine ml_call Sd0 (by unfold stV actW actC;exact Sd0) (mDo_ok sA hwA nmTask 0 (a:Int) (b:Int) τ9 (t:=sT) (by rw [k_task];exact dT) (by rw [k_task];exact mT)) ?_
 rintro _ τ10 ⟨e9,dv2,_,rfl,_⟩
 have gx:=e9.cells gx
 have g:=e9.cells g
 have own:=own.of_ext e9
 clear e9
 refine stepR0 ?_
 refine ml_storeA (off:=0) (vs:=stC sT) Sd0 Sd0 Sd0 g hwT.len (by rw [hwA.len];simp) (stC_one _) fun τ11 t9=>?_
 rw [spl_all (by rw [hwA.len,hwT.len])] at t9
 have gx:=t9.cells gx (by omega)
 have own:=own.ext fun i hi=>t9.other i (hoid i hi)
 have g:=t9.self
 clear t9
 refine stepR0 ?_
 refine ml_call Sd0 Sd0 (tNumN_c τ11) ?_
 rintro _ τ12 ⟨rfl,rfl⟩
 refine stepR0 ?_
 refine ml_call Sd0 Sd0 (tNumN_c τ12) ?_
 rintro _ τ12 ⟨rfl,rfl⟩
 refine stepR0 ?_
 refine mld_loadN Sd0 Sd0 (row_of gx (rowAll rfl)) ?_
 refine stepR0 ?_
 refine mld_getS Sd0 own.rd Sd0 Sd0 (by omega) hget (fun p=>Sd0) fun p=>?_
 refine stepR0 ?_
 refine mld_callW Sd0 Sd0 (need_c W Hh S (one_rd (H.get_push_self _ _)) c0 1) ?_
 rintro _ τ13 ⟨rfl,e9⟩
 rw [hn]
 have e9:=(Ext.push _ _).trans e9
 have gx:=e9.cells gx
 have g:=e9.cells g
 have own:=own.of_ext e9
 clear e9
 refine stepR0 ?_
 refine ml_loadN Sd0 Sd0 (row_of gx (rowAll rfl)) ?_
 refine stepR0 ?_
 refine ml_call Sd0 Sd0 (need_c W Hh S (one_rd (H.get_push_self _ _)) (a:Int) 1) ?_
 rintro _ τ14 ⟨rfl,e9⟩
 rw [hK]
 have e9:=(Ext.push _ _).trans e9
 have gx:=e9.cells gx
 have g:=e9.cells g
 have own:=own.of_ext e9
 clear e9
 refine stepR0 ?_
 refine ml_loadN Sd0 Sd0 (row_of gx (rowAll rfl)) ?_
 refine stepR0 ?_
 refine ml_call Sd0 Sd0 (need_c W Hh S own.rd (b:Int) 1) ?_
 rintro _ τ15 ⟨rfl,e9⟩
 rw [hl]
 have gx:=e9.cells gx
 have g:=e9.cells g
 have own:=own.of_ext e9
 clear e9
 obtain ⟨dW,mW,rtW,bdW⟩:=tick_do rtT bdT (by omega) 0 0 0
 have w2:IntKind.i64.wrap (2 * ((K:Nat):Int))=2 * ((K:Nat):Int):=i64wrap (by omega) (by omega)
 have w3:IntKind.i64.wrap (((n:Nat):Int) + 2 * ((K:Nat):Int))=((n:Nat):Int) + 2 * ((K:Nat):Int):=i64wrap (by omega) (by omega)
 have w4:IntKind.i64.wrap (((n:Nat):Int) + 2 * ((K:Nat):Int) + ((l:Nat):Int))=((n:Nat):Int) + 2 * ((K:Nat):Int) + ((l:Nat):Int):=i64wrap (by omega) (by omega)
 by_cases h200:(200:Int) < ((n:Nat):Int) + 2 * ((K:Nat):Int) + ((l:Nat):Int)
 ·have hw0:=hwait h200
  have hwW:=rtW.inv.wf
  refine stepR (An w2 (An w3 (An w4 h200))) ?_
  refine ml_loadN Sd0 Sd0 (row_of g (rowAll hwT.len)) ?_
  refine stepR0 ?_
  refine ml_call Sd0 (by unfold stV actW actC;exact Sd0) (mDo_ok sT hwT nmTick 0 0 0 τ15 (t:=tickS sT) (by rw [k_tick];exact dW) (by rw [k_tick];exact mW)) ?_
  rintro _ τ16 ⟨e9,dv3,_,rfl,_⟩
  have g:=e9.cells g
  generalize tickS sT=sW at *
  refine stepR0 ?_
  refine ml_storeA (off:=0) (vs:=stC sW) Sd0 Sd0 Sd0 g hwW.len (by rw [hwT.len];simp) (stC_one _) fun τ17 t9=>?_
  rw [spl_all (by rw [hwT.len,hwW.len])] at t9
  refine stepR0 ?_
  refine ml_op Sd0 (o_load1q (off:=94) (v:=.int .i64 (sW.t 0).st) Sd0 t9.self (hwW.tsk_at (k:=0) (j:=2) (by omega) (by omega))) ?_
  rw [hw0]
  refine stepR0 ?_
  exact fin1 Sd0
 refine stepR (An w2 (An w3 (An w4 h200))) ?_
 refine ml_loadN Sd0 Sd0 (row_of gx (rowAll rfl)) ?_
 refine stepR0 ?_
 refine ml_call Sd0 Sd0 (need_c W Hh S own.rd (a:Int) 2) ?_
 rintro _ τ16 ⟨rfl,e9⟩
 rw [hbk]
 have g:=e9.cells g
 clear e9 own gx hwait dW mW rtW bdW
 have w5:IntKind.i64.wrap (200 - ((n:Nat):Int))=200 - ((n:Nat):Int):=i64wrap (by omega) (by omega)
 have w6:IntKind.i64.wrap (200 - ((n:Nat):Int) - 2 * ((K:Nat):Int))=200 - ((n:Nat):Int) - 2 * ((K:Nat):Int):=i64wrap (by omega) (by omega)
 have w7:IntKind.i64.wrap (2 * ((l:Nat):Int))=2 * ((l:Nat):Int):=i64wrap (by omega) (by omega)
 by_cases hb1:200 - ((n:Nat):Int) < 2 * ((l2:Nat):Int)
 ·refine stepR (An w5 hb1) ?_
  exact fin1 Sd0
 by_cases hb2:200 - ((n:Nat):Int) - 2 * ((K:Nat):Int) < 2 * ((l:Nat):Int)
 ·refine stepR (An w5 (An w6 (An w2 (An w7 (An hb1 hb2))))) ?_
  exact fin1 Sd0
 have h3:=hdone h200 hb1 hb2
 have w8:IntKind.i64.wrap (((n:Nat):Int) + ((K:Nat):Int))=((n:Nat):Int) + ((K:Nat):Int):=i64wrap (by omega) (by omega)
 have w9:IntKind.i64.wrap (((n:Nat):Int) + ((K:Nat):Int) + 4)=((n:Nat):Int) + ((K:Nat):Int) + 4:=i64wrap (by omega) (by omega)
 refine stepR (An w5 (An w6 (An w2 (An w7 (An hb1 hb2))))) ?_
 refine mx_loop (fun q ts τ'=>∃ j:Nat,q=n + K + 4 - j∧j≤n + K + 4∧τ'.get id=.cells 0 (stC (tickN j sT))∧ts 11=.pointer (some ⟨id,0,none⟩)∧ts 17=.int .i64 ((n:Nat):Int)∧ts 19=.int .i64 ((K:Nat):Int)∧ts 25=.int .i64 ((j:Nat):Int)) (n + K + 4) ?_ ?_
 ·exact ⟨0,rfl,Nat.zero_le _,g,Sd0,Sd0,Sd0,Sd0⟩
 clear g
 rintro _ ts τ ⟨j,rfl,hj,g,t11,t17,t19,t25⟩
 obtain ⟨rt,bd⟩:=tickN_rt rtT bdT j (by omega)
 have hws:=rt.inv.wf
 rcases Nat.lt_or_ge j (n + K + 4) with hjl | hjg
 ·have hj':((j:Nat):Int) < ((n:Nat):Int) + ((K:Nat):Int) + 4:=by omega
  obtain ⟨dW,mW,rtW,bdW⟩:=tick_do rt bd (by omega) 0 0 0
  have hwW:=rtW.inv.wf
  refine stepR (An t11 (An t17 (An t19 (An t25 (An w8 (An w9 hj')))))) ?_
  refine ml_loadN Sd0 (Sw t11) (row_of g (rowAll hws.len)) ?_
  refine stepR0 ?_
  refine ml_call Sd0 (by unfold stV actW actC;exact Sd0) (mDo_ok (tickN j sT) hws nmTick 0 0 0 τ (t:=tickS (tickN j sT)) (by rw [k_tick];exact dW) (by rw [k_tick];exact mW)) ?_
  rintro _ τb ⟨eb,dv3,_,rfl,_⟩
  rw [← tickN_succ] at hwW ⊢
  refine stepR0 ?_
  refine ml_init (vs:=stC (tickN (j + 1) sT)) Sd0 Sd0 Sd0 hwW.len zl_len (stC_one _) fun τ5 e6 g6=>?_
  have g:=(eb.trans e6).cells g
  generalize τb.size=iz at *
  clear eb e6
  refine stepR0 ?_
  refine ml_call Sd0 Sd0 (tNumN_c τ5) ?_
  rintro _ τ5 ⟨rfl,rfl⟩
  refine stepR0 ?_
  refine ml_loadN Sd0 Sd0 (row_of g6 (rowAll hwW.len)) ?_
  refine stepR t11 ?_
  refine ml_storeA (off:=0) (vs:=stC (tickN (j + 1) sT)) Sd0 (Sw t11) Sd0 g hwW.len (by rw [hws.len];simp) (stC_one _) fun τ8 t8=>?_
  rw [spl_all (by rw [hws.len,hwW.len])] at t8
  refine stepR t25 ?_
  exact ⟨n + K + 4 - (j + 1),by omega,j + 1,rfl,by omega,t8.self,(Sw t11),(Sw t17),(Sw t19),Sd0⟩
 ·obtain rfl:j=n + K + 4:=by omega
  have hj':¬ (((n + K + 4:Nat):Nat):Int) < ((n:Nat):Int) + ((K:Nat):Int) + 4:=by omega
  refine stepR (An t11 (An t17 (An t19 (An t25 (An w8 (An w9 hj')))))) ?_
  refine ml_op Sd0 (o_load1q (off:=94) (v:=.int .i64 ((tickN (n + K + 4) sT).t 0).st) (Sw t11) g (hws.tsk_at (k:=0) (j:=2) (by omega) (by omega))) ?_
  rw [h3]
  refine stepR0 ?_
  exact fin1 Sd0
end Go.Proofs.YtoejdgoicoaomaaGreatDoor
