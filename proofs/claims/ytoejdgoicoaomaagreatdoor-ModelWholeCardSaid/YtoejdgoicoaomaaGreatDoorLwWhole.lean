/- ModelWhole: only right states are done anything to. -/
import Derived.Test.YtoejdgoicoaomaaGreatDoorCL11
import Derived.Test.YtoejdgoicoaomaaGreatDoorLwA
set_option linter.unusedVariables false
set_option linter.unusedSimpArgs false
namespace Go.Proofs.YtoejdgoicoaomaaGreatDoor
open Go.Mini
open Go.Proofs.YtoejdgoicoaomaaGreatDoor.Code
attribute [local irreducible] mx ml mld mstep MCalls Ex.thn Ex.inb
variable {E:World→Prop}
theorem whole_no {t:St} (h:recd t=false):rightS t=false:=by unfold rightS;rw [h];simp
theorem gr_dot {W Hh:Int} {S:ByteArray} (h:gr W Hh S=true):gr W Hh (S ++ ⟨#[46]⟩)=false:=by
 rw [Bool.eq_false_iff]
 intro h2
 have a:=(gr_size h).2.2.1
 have b:=(gr_size h2).2.2.1
 have c:(S ++ ⟨#[46]⟩:ByteArray).size=S.size + 1:=ByteArray.size_append
 omega
theorem whole_gr {s:St} (h:gr s.W s.H s.S=true):rightS { s with S:=s.S ++ ⟨#[46]⟩ }=false:=by
 unfold rightS
 rw [show gr (St.W { s with S:=s.S ++ ⟨#[46]⟩ }) (St.H { s with S:=s.S ++ ⟨#[46]⟩ }) (St.S { s with S:=s.S ++ ⟨#[46]⟩ })=false from gr_dot h];rfl
theorem str_spl {s:St} {x:ByteArray}:spl (stC s) 2 [.string x]=stC { s with S:=x }:=by rfl
theorem recd_no_r {t:St} {i:Nat} (hi:i < 10) (h:(if t.o i then robOK (t.r i) else (t.r i).is0)=false):recd t=false:=by
 rw [Bool.eq_false_iff]
 intro hr
 have:=(recd_iff.1 hr).2.1 i hi
 cases ho:t.o i
 ·rw [ho] at h this;simp at h this;rw [h] at this;cases this
 ·rw [ho] at h this;simp at h this;rw [h] at this;cases this
theorem recd_no_t {t:St} {k:Nat} (hk:k < 20) (h:(if t.i k then tskOK (t.t k) else (t.t k).is0)=false):recd t=false:=by
 rw [Bool.eq_false_iff]
 intro hr
 have:=(recd_iff.1 hr).2.2 k hk
 cases ho:t.i k
 ·rw [ho] at h this;simp at h this;rw [h] at this;cases this
 ·rw [ho] at h this;simp at h this;rw [h] at this;cases this
theorem recd_no_tick {t:St} (h:t.tick < 0):recd t=false:=by
 rw [Bool.eq_false_iff]
 intro hr
 have:=(recd_iff.1 hr).1
 omega
set_option maxRecDepth 100000 in
set_option maxHeartbeats 16000000 in
theorem modelWhole_c (hE:∀ w,E w→ErrType w) (W Hh:Int) (S:ByteArray) {sv:Value} {al:List Act4} {σ:H} (hr:RdN σ 4 sv (al.map acC)) (how:Nat) (hh:how < 256):MCalls E Tryz.prog 11 [mapV W Hh S,sv,.int .u8 ((how:Nat):Int)] σ (fun v τ=>v=.bool true):=by
 refine mcalls_of fn11 (by simp) ?_
 unfold c11 r11 mapV
 have g1:=H.get_push_self σ (.cells 0 (mapC W Hh S))
 have e1:=Ext.push σ (.cells 0 (mapC W Hh S))
 refine mx_seq (mx_ops (ml_op Sd0 (o_box (cs:=mapC W Hh S) Sd0) ?_))
 generalize σ.push (.cells 0 (mapC W Hh S))=τ at *
 refine stepR0 ?_
 refine ml_call Sd0 Sd0 (mAwake_c hE τ) ?_
 rintro _ τ1 ⟨rfl,e2⟩
 have g2:=e2.cells g1
 refine stepR0 ?_
 refine ml_loadN Sd0 Sd0 (row_of g2 (rowAll rfl)) ?_
 refine stepR0 ?_
 refine ml_call Sd0 Sd0 (rRight_c W Hh S τ1) ?_
 rintro _ τ2 ⟨rfl,e3⟩
 have g3:=e3.cells g2
 have e13:=(e1.trans e2).trans e3
 rcases Bool.eq_false_or_eq_true (gr W Hh S) with hgr | hgr
 case inr=>
  refine stepR hgr ?_
  refine ml_call Sd0 Sd0 (mAwake_c hE τ2) ?_
  rintro _ τ3 ⟨rfl,e4⟩
  refine stepR0 ?_
  exact fin1 Sd0
 refine stepR hgr ?_
 refine ml_call Sd0 Sd0 (rSmall_c (hr.of_ext e13)) ?_
 rintro _ τ2 ⟨rfl,rfl⟩
 rcases Bool.eq_false_or_eq_true (smallA al) with hs | hs
 case inr=>
  rw [hs]
  refine stepR0 ?_
  refine ml_call Sd0 Sd0 (mAwake_c hE τ2) ?_
  rintro _ τ3 ⟨rfl,e4⟩
  refine stepR0 ?_
  exact fin1 Sd0
 rw [hs]
 refine stepR0 ?_
 refine ml_loadN Sd0 Sd0 (row_of g3 (rowAll rfl)) ?_
 refine stepR0 ?_
 refine ml_call Sd0 Sd0 (gOf_c W Hh S τ2) ?_
 rintro _ τ3 ⟨rfl,e4⟩
 refine stepR0 ?_
 refine ml_call Sd0 Sd0 (mNew_c W Hh S τ3) ?_
 rintro _ τ4 ⟨e5,hv⟩
 rw [if_pos hgr] at hv
 subst hv
 obtain ⟨hrt,hbd,hW,hH,hS⟩:=rnew_all hgr hs
 have hlen:=(small_of hs).1
 refine stepR0 ?_
 refine ml_init (vs:=stC (newS W Hh S)) Sd0 Sd0 Sd0 newS_wf.len zl_len (stC_one _) fun τ5 e6 g5=>?_
 generalize hid:τ4.size=id at *
 have e15:=((e13.trans e4).trans e5).trans e6
 refine stepR0 ?_
 refine ml_loadN Sd0 Sd0 (row_of g5 (rowAll newS_wf.len)) ?_
 refine stepR0 ?_
 refine ml_call Sd0 Sd0 (lRun_c hE (newS W Hh S) newS_wf (hr.of_ext e15) (by omega)) ?_
 rintro _ τ6 ⟨rfl,e7⟩
 have hws:=hrt.inv.wf
 generalize runS (newS W Hh S) al=s at *
 refine stepR0 ?_
 refine ml_storeA (off:=0) (vs:=stC s) Sd0 Sd0 Sd0 (e7.cells g5) hws.len (by rw [newS_wf.len];simp) (stC_one _) fun τ7 t7=>?_
 rw [spl_all (by rw [newS_wf.len,hws.len])] at t7
 have hz:σ.size≤id:=by have:=e6.size;have:=e15.size;have:=e7.size;have:=e5.size;have:=e4.size;have:=e13.size;omega
 have e17:Ext σ τ7:=t7.ext (e15.trans e7) (by have:=e6.size;have:=e15.size;have:=e7.size;have:=e5.size;have:=e4.size;have:=e13.size;omega)
 have g7:=t7.self
 refine ml_nil (thn_nor (mx_seq (mx_cut (fun ts τ=>∃ t:St,t.WF∧rightS t=false∧τ.get id=.cells 0 (stC t)∧Ext σ τ∧ts 7=.pointer (some ⟨id,0,none⟩)) ?_ ?_)))
 rotate_left
 ·rintro ts τ ⟨t,hwt,hnr,g,e,t7⟩
  have hdo:∀ a b c:Int,doE t 6 a b c=1:=fun a b c=>by
   unfold doE;rw [hnr];rfl
  refine stepR t7 ?_
  refine ml_loadN Sd0 (Sw t7) (row_of g (rowAll hwt.len)) ?_
  refine stepR0 ?_
  refine ml_call Sd0 (by unfold stV actW actC;exact Sd0) (mDo_c t hwt nmTick 0 0 0 τ) ?_
  rintro _ τ8 ⟨e8,hv⟩
  rw [show kindN nmTick=6 from rfl,hdo,if_neg (by omega)] at hv
  obtain ⟨ev,rfl,hev⟩:=hv
  refine stepR0 ?_
  refine ml_init (vs:=stC zS) Sd0 Sd0 Sd0 zS_wf.len zl_len (stC_one _) fun τ9 e9 g9=>?_
  generalize hid2:τ8.size=id2 at *
  refine stepR t7 ?_
  refine ml_loadN Sd0 (Sw t7) (row_of ((e8.trans e9).cells g) (rowAll hwt.len)) ?_
  refine stepR0 ?_
  refine ml_call Sd0 (by unfold stV;exact Sd0) (mRight_c t hwt τ9) ?_
  rintro _ τ10 ⟨rfl,e10⟩
  rw [hnr]
  refine stepR0 ?_
  refine ml_call Sd0 Sd0 (tNum_c hE ((hev.of_ext (e9.trans e10)).chain)) ?_
  rintro _ τ11 ⟨rfl,e11⟩
  refine stepR0 ?_
  refine ml_loadN Sd0 Sd0 (row_of ((e10.trans e11).cells g9) (rowAll zS_wf.len)) ?_
  refine stepR0 ?_
  refine ml_op Sd0 (o_eqSelf zS_wf (by kernel_rfl) Sd0 (by rw [zS_C];exact Sd0)) ?_
  refine stepR0 ?_
  exact fin1 Sd0
 have hm:(how:Int).tmod 5=((how % 5:Nat):Int):=by rw [Int.tmod_eq_emod_of_nonneg (by omega)];omega
 have hq:how % 5=0∨how % 5=1∨how % 5=2∨how % 5=3∨how % 5=4:=by omega
 rcases hq with hq | hq | hq | hq | hq
 ·rw [hq] at hm
  refine stepR hm ?_
  refine ml_storeA (off:=12 + 9 * 7 + 1) (vs:=[.int .i64 201]) Sd0 Sd0 Sd0 g7 rfl (by rw [hws.len];simp) rfl fun τ8 t8=>?_
  rw [rob_set1 (r:={ s.r 9 with charge:=201 }) hws (by omega) (by omega) rfl rfl] at t8
  have hw8:(s.setR 9 { s.r 9 with charge:=201 }).WF:=hws.setR _ _
  have hr9:robOK ((s.setR 9 { s.r 9 with charge:=201 }).r 9)=false:=by
   rw [hws.setR_r (by omega),if_pos rfl]
   have:inB (201:Int) 0 200=false:=rfl
   simp [robOK,this]
  generalize s.setR 9 { s.r 9 with charge:=201 }=t' at *
  refine stepR0 ?_
  refine ml_storeA (off:=82 + 9) (vs:=[.bool true]) Sd0 Sd0 Sd0 t8.self rfl (by rw [hw8.len];simp) rfl fun τ9 t9=>?_
  rw [hw8.on_spl (by omega) rfl] at t9
  have ho:St.o { t' with on:=t'.on.set 9 true } 9=true:=by
   show List.getD (List.set _ 9 true) 9 false=true
   rw [List.getD_eq_getElem?_getD,List.getElem?_set_self (by rw [hw8.on];omega)];rfl
  have hw9:St.WF { t' with on:=t'.on.set 9 true }:=⟨hw8.off,hw8.byte,hw8.rob,by simpa using hw8.on,hw8.tsk,hw8.is⟩
  have hrr:recd { t' with on:=t'.on.set 9 true }=false:=recd_no_r (i:=9) (by omega) (by rw [if_pos ho];exact hr9)
  refine stepR0 ?_
  exact ⟨_,hw9,whole_no hrr,t9.self,t9.ext (t8.ext e17 hz) hz,Sd0⟩
 ·rw [hq] at hm
  refine stepR hm ?_
  refine ml_storeA (off:=152 + 19) (vs:=[.bool true]) Sd0 Sd0 Sd0 g7 rfl (by rw [hws.len];simp) rfl fun τ8 t8=>?_
  rw [hws.is_spl (by omega) rfl] at t8
  have hw8:St.WF { s with is:=s.is.set 19 true }:=⟨hws.off,hws.byte,hws.rob,hws.on,hws.tsk,by simpa using hws.is⟩
  have hi8:St.i { s with is:=s.is.set 19 true } 19=true:=by
   show List.getD (List.set s.is 19 true) 19 false=true
   rw [List.getD_eq_getElem?_getD,List.getElem?_set_self (by rw [hws.is];omega)];rfl
  generalize ({ s with is:=s.is.set 19 true }:St)=t' at *
  refine stepR0 ?_
  refine ml_storeA (off:=92 + 19 * 3 + 2) (vs:=[.int .i64 2]) Sd0 Sd0 Sd0 t8.self rfl (by rw [hw8.len];simp) rfl fun τ9 t9=>?_
  rw [tsk_set1 (t:={ t'.t 19 with st:=2 }) hw8 (by omega) (by omega) rfl rfl] at t9
  have hw9:(t'.setT 19 { t'.t 19 with st:=2 }).WF:=hw8.setT _ _
  have hi9:(t'.setT 19 { t'.t 19 with st:=2 }).i 19=true:=hi8
  generalize t'.setT 19 { t'.t 19 with st:=2 }=t2 at *
  refine stepR0 ?_
  refine ml_storeA (off:=92 + 19 * 3 + 0) (vs:=[.int .i64 64]) Sd0 Sd0 Sd0 t9.self rfl (by rw [hw9.len];simp) rfl fun τ10 t10=>?_
  rw [tsk_set1 (t:={ t2.t 19 with fr:=64 }) hw9 (by omega) (by omega) rfl rfl] at t10
  have hrr:recd (t2.setT 19 { t2.t 19 with fr:=64 })=false:=recd_no_t (k:=19) (by omega) (by
   rw [if_pos (show (t2.setT 19 { t2.t 19 with fr:=64 }).i 19=true from hi9),hw9.setT_t (by omega),if_pos rfl]
   have:inB (64:Int) 0 63=false:=rfl
   simp [tskOK,this])
  have hwA:(t2.setT 19 { t2.t 19 with fr:=64 }).WF:=hw9.setT _ _
  refine stepR0 ?_
  exact ⟨_,hwA,whole_no hrr,t10.self,t10.ext (t9.ext (t8.ext e17 hz) hz) hz,Sd0⟩
 ·rw [hq] at hm
  refine stepR hm ?_
  refine ml_storeA (off:=3) (vs:=[.int .i64 (-1)]) Sd0 Sd0 Sd0 g7 rfl (by rw [hws.len];simp) rfl fun τ8 t8=>?_
  rw [hws.tick_spl] at t8
  refine stepR0 ?_
  exact ⟨{ s with tick:=-1 },⟨hws.off,hws.byte,hws.rob,hws.on,hws.tsk,hws.is⟩,whole_no (recd_no_tick (by show (-1:Int) < 0;omega)),t8.self,t8.ext e17 hz,Sd0⟩
 ·rw [hq] at hm
  refine stepR hm ?_
  refine ml_op Sd0 (o_load1q (off:=2) (v:=.string s.S) Sd0 g7 (show (stC s)[2]?=some (.string s.S) from rfl)) ?_
  refine stepR0 ?_
  refine ml_op Sd0 (o_cat (a:=s.S) (b:=⟨#[46]⟩) Sd0 Sd0 (by have:=(gr_size hrt.inv.g).2.2.2.1;have h1:(⟨#[46]⟩:ByteArray).size=1:=rfl;omega)) ?_
  refine stepR0 ?_
  refine ml_storeA (off:=2) (vs:=[.string (s.S ++ ⟨#[46]⟩)]) Sd0 Sd0 Sd0 g7 rfl (by rw [hws.len];simp) rfl fun τ8 t8=>?_
  rw [str_spl] at t8
  refine stepR0 ?_
  exact ⟨{ s with S:=s.S ++ ⟨#[46]⟩ },⟨hws.off,hws.byte,hws.rob,hws.on,hws.tsk,hws.is⟩,whole_gr hrt.inv.g,t8.self,t8.ext e17 hz,Sd0⟩
 ·rw [hq] at hm
  refine stepR hm ?_
  refine ml_storeA (off:=82 + 8) (vs:=[.bool false]) Sd0 Sd0 Sd0 g7 rfl (by rw [hws.len];simp) rfl fun τ8 t8=>?_
  rw [hws.on_spl (by omega) rfl] at t8
  have hw8:St.WF { s with on:=s.on.set 8 false }:=⟨hws.off,hws.byte,hws.rob,by simpa using hws.on,hws.tsk,hws.is⟩
  have ho:St.o { s with on:=s.on.set 8 false } 8=false:=by
   show List.getD (List.set s.on 8 false) 8 false=false
   rw [List.getD_eq_getElem?_getD,List.getElem?_set_self (by rw [hws.on];omega)];rfl
  generalize ({ s with on:=s.on.set 8 false }:St)=t' at *
  refine stepR0 ?_
  refine ml_storeA (off:=12 + 8 * 7 + 0) (vs:=[.int .i64 1]) Sd0 Sd0 Sd0 t8.self rfl (by rw [hw8.len];simp) rfl fun τ9 t9=>?_
  rw [rob_set1 (r:={ t'.r 8 with cell:=1 }) hw8 (by omega) (by omega) rfl rfl] at t9
  have hrr:recd (t'.setR 8 { t'.r 8 with cell:=1 })=false:=recd_no_r (i:=8) (by omega) (by
   rw [show (t'.setR 8 { t'.r 8 with cell:=1 }).o 8=false from ho,hw8.setR_r (by omega),if_pos rfl]
   simp [Rob.is0])
  have hwA:(t'.setR 8 { t'.r 8 with cell:=1 }).WF:=hw8.setR _ _
  refine stepR0 ?_
  exact ⟨_,hwA,whole_no hrr,t9.self,t9.ext (t8.ext e17 hz) hz,Sd0⟩
end Go.Proofs.YtoejdgoicoaomaaGreatDoor
