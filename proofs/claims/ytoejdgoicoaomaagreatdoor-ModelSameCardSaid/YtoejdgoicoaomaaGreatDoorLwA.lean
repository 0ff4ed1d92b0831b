/- Tools for the laws of model: right runs from the start; states compared. -/
import Derived.Test.YtoejdgoicoaomaaGreatDoorG15
import Derived.Test.YtoejdgoicoaomaaGreatDoorG9
set_option linter.unusedVariables false
set_option linter.unusedSimpArgs false
namespace Go.Proofs.YtoejdgoicoaomaaGreatDoor
open Go.Mini
open Go.Proofs.YtoejdgoicoaomaaGreatDoor.Code
attribute [local irreducible] mx ml mld mstep MCalls Ex.thn Ex.inb
variable {E:World→Prop}
theorem rnew_all {W Hh:Int} {S:ByteArray} (hg:gr W Hh S=true) {al:List Act4} (hs:smallA al=true):Rt (runS (newS W Hh S) al)∧Bnd 60 (runS (newS W Hh S) al)∧(runS (newS W Hh S) al).W=W∧(runS (newS W Hh S) al).H=Hh∧(runS (newS W Hh S) al).S=S:=by
 have h60:=(small_of hs).1
 obtain ⟨h1,h2,h3⟩:=runS_rt (newS_rt hg) newS_bnd (Int.le_refl 0) al (by omega)
 exact ⟨h1,h2.mono (by omega),h3⟩
def kdOf:Value→KD
 | .string _=>.str
 | .bool _=>.bool
 | _=>.int
def kdIs (v:Value):Bool:=(kdOf v).has v
theorem eqCell_self {v:Value} (h:kdIs v=true):eqCell (kdOf v) v v=some true:=by
 cases v<;>first | (simp [kdIs,kdOf,KD.has] at h;done) | simp [kdOf,eqCell]
theorem eqCells_self:∀ (l:List Value),l.all kdIs=true→eqCells (l.map kdOf) l l=some true
 | [],_=>rfl
 | v :: l,h=>by
   rw [List.all_cons,Bool.and_eq_true] at h
   rw [List.map_cons,eqCells,eqCell_self h.1]
   exact eqCells_self l h.2
theorem flat_kd {α:Type} {f:α→List Value} {k:List KD} (hf:∀ a,(f a).map kdOf=k):∀ (l m:List α),l.length=m.length→(l.flatMap f).map kdOf=(m.flatMap f).map kdOf
 | [],[],_=>rfl
 | a :: l,b :: m,h=>by
   rw [List.flatMap_cons,List.flatMap_cons,List.map_append,List.map_append,hf,hf,flat_kd hf l m (by simpa using h)]
 | [],b :: m,h=>by simp at h
 | a :: l,[],h=>by simp at h
theorem map_kd {α:Type} {f:α→Value} {k:KD} (hf:∀ a,kdOf (f a)=k) (l m:List α) (h:l.length=m.length):(l.map f).map kdOf=(m.map f).map kdOf:=by
 rw [← List.flatMap_singleton' (l.map f),← List.flatMap_singleton' (m.map f),List.flatMap_map,List.flatMap_map]
 exact flat_kd (f:=fun a=>[f a]) (k:=[k]) (fun a=>by simp [hf a]) l m h
theorem stC_kd {s:St} (h:s.WF):(stC s).map kdOf=(stC zS).map kdOf:=by
 have z:=zS_wf
 have h1:=flat_kd (f:=robC) (k:=(robC zR).map kdOf) (fun _=>rfl) s.rob zS.rob (by rw [h.rob,z.rob])
 have h2:=flat_kd (f:=tskC) (k:=(tskC zT).map kdOf) (fun _=>rfl) s.tsk zS.tsk (by rw [h.tsk,z.tsk])
 have h3:=map_kd (f:=Value.bool) (k:=.bool) (fun _=>rfl) s.on zS.on (by rw [h.on,z.on])
 have h4:=map_kd (f:=Value.bool) (k:=.bool) (fun _=>rfl) s.is zS.is (by rw [h.is,z.is])
 have h5:=map_kd (f:=fun (b:Nat)=>Value.int .u8 (b:Int)) (k:=.int) (fun _=>rfl) s.off zS.off (by rw [h.off,z.off])
 unfold stC hd5 hd4 hd3 hd2 hd1 allcC u8C
 simp only [List.map_append,List.map_cons,List.map_nil,h1,h2,h3,h4,h5]
 rfl
theorem stC_is (s:St):(stC s).all kdIs=true:=by
 have h1:∀ l:List Rob,(l.flatMap robC).all kdIs=true:=fun l=>by
  induction l with
  | nil=>rfl
  | cons r l ih=>rw [List.flatMap_cons,List.all_append,ih];rfl
 have h2:∀ l:List Tsk,(l.flatMap tskC).all kdIs=true:=fun l=>by
  induction l with
  | nil=>rfl
  | cons r l ih=>rw [List.flatMap_cons,List.all_append,ih];rfl
 have h3:∀ l:List Bool,(l.map Value.bool).all kdIs=true:=fun l=>by
  rw [List.all_map,List.all_eq_true];intro _ _;rfl
 have h4:(u8C s.off).all kdIs=true:=by
  rw [u8C,List.all_map,List.all_eq_true];intro _ _;rfl
 simp only [stC,hd5,hd4,hd3,hd2,hd1,List.all_append,h1,h2,h3,allcC,List.all_cons,h4]
 rfl
def kS:List KD:=(stC zS).map kdOf
theorem o_eqSelf {ts:Fr} {σ:Go.Mini.H} {s:St} (h:s.WF) {x y:Opd} {ks:List KD} (hk:ks=kS) (hx:mev ts x=.agg (stC s).toArray) (hy:mev ts y=.agg (stC s).toArray):mop ts σ (.eqA false ks x y)=some (.bool true,σ):=by
 subst hk
 have hl:(stC s).length=kS.length:=by
  rw [kS,← stC_kd h,List.length_map]
 simp only [mop,hx,hy]
 rw [if_pos ⟨hl,hl⟩]
 show (eqCells kS (stC s) (stC s)).map _=_
 rw [kS,← stC_kd h,eqCells_self _ (stC_is s)]
 rfl
noncomputable def doT (s:St) (nm:Nat) (a b c:Int):St:=if doE s nm a b c=0 then (madeS s nm a b c).1 else zS
noncomputable def doL (s:St) (nm:Nat) (a b c:Int):List (Int × Int):=if doE s nm a b c=0 then (madeS s nm a b c).2.1 else []
def NumE (σ:H) (v:Value) (n:Int):Prop:=(n=0∧v=.nilIface)∨TagE σ v nmModel n
theorem NumE.of_ext {σ τ:H} {v:Value} {n:Int} (h:NumE σ v n) (e:Ext σ τ):NumE τ v n:=h.imp_right fun h=>h.of_ext e
theorem tNumE_c (hE:∀ w,E w→ErrType w) {σ:H} {v:Value} {n:Int} (h:NumE σ v n):MCalls E Tryz.prog 17 [v] σ (fun r τ=>r=.int .i64 n∧Ext σ τ):=by
 rcases h with ⟨rfl,rfl⟩ | h
 ·exact MCalls.mono (tNumN_c σ) fun v τ ⟨h1,h2⟩=>⟨h1,h2 ▸ Ext.refl _⟩
 ·exact tNum_c hE h.chain
def CmdL (σ:H) (v:Value) (l:List (Int × Int)):Prop:=∃ p,v=.slice p l.length l.length∧∀ i,i < l.length→∃ id,p=some ⟨id,0,none⟩∧σ.row id (i * 2) 2=some [.int .i64 (l.getD i (0,0)).1,.int .i64 (l.getD i (0,0)).2]
theorem CmdL.of_ext {σ τ:H} {v:Value} {l:List (Int × Int)} (h:CmdL σ v l) (e:Ext σ τ):CmdL τ v l:=by
 obtain ⟨p,rfl,h⟩:=h
 exact ⟨p,rfl,fun i hi=>(h i hi).imp fun id h=>⟨h.1,rowE e h.2⟩⟩
theorem cmdL_of {σ:H} {v:Value} {oid:Option Nat} {l:List (Int × Int)} (h:Own σ 2 v oid (dues l)):CmdL σ v l:=by
 generalize hd:dues l=d at h
 cases h with
 | nil=>
   have:l=[]:=by cases l with | nil=>rfl | cons p l=>simp [dues] at hd
   subst this
   exact ⟨none,rfl,fun i hi=>absurd hi (Nat.not_lt_zero _)⟩
 | full hg hl=>
   have hn:=dues_len l
   rw [hd,hl] at hn
   rename_i id n
   obtain rfl:n=l.length:=by omega
   refine ⟨_,rfl,fun i hi=>⟨id,rfl,row_of hg ?_⟩⟩
   rw [← hd];exact dues_row l i hi
theorem DoR.out {σ τ:H} {s:St} {nm:ByteArray} {a b c:Int} {v:Value} (h:DoR σ s nm a b c v τ):∃ cv ev,v=.tuple #[stV (doT s (kindN nm) a b c),cv,ev]∧Ext σ τ∧CmdL τ cv (doL s (kindN nm) a b c)∧NumE τ ev (doE s (kindN nm) a b c):=by
 obtain ⟨e,h⟩:=h
 unfold doT doL
 split at h
 ·rename_i h0
  obtain ⟨cv,oid,rfl,own,_⟩:=h
  rw [if_pos h0,if_pos h0]
  exact ⟨cv,_,rfl,e,cmdL_of own,.inl ⟨h0,rfl⟩⟩
 ·rename_i h0
  obtain ⟨ev,rfl,he⟩:=h
  rw [if_neg h0,if_neg h0]
  exact ⟨_,ev,rfl,e,cmdL_of (l:=[]) .nil,.inr he⟩
theorem do_step {s:St} (h:Rt s) {n:Int} (hb:Bnd n s) (hn:0≤n) (hn2:n + 1≤150) {nm:Nat} {a b c:Int} (h0:doE s nm a b c=0):doT s nm a b c=(madeS s nm a b c).1∧(madeS s nm a b c).2.2=0∧Rt (doT s nm a b c)∧Bnd (n + 1) (doT s nm a b c)∧(doT s nm a b c).W=s.W∧(doT s nm a b c).H=s.H∧(doT s nm a b c).S=s.S∧Ap (placeL s) (placeL (doT s nm a b c)):=by
 have e:doT s nm a b c=(madeS s nm a b c).1:=by unfold doT;rw [if_pos h0]
 have k:=do_rt h.inv.wf h0
 rw [e]
 exact ⟨rfl,(doE_zero h0).2.1,k.rt,(made_bnd h hb hn2 (doE_zero h0).2.1).1,k.W,k.H,k.S,k.ap⟩
theorem kind_tick {nm:ByteArray} (h:kindN nm=6):nm=nmTick:=by
 unfold kindN at h
 (repeat' split at h)<;>first | assumption | omega
theorem doT_wf {s:St} (hw:s.WF) (nm:Nat) (a b c:Int):(doT s nm a b c).WF:=by
 unfold doT;split
 ·rename_i h;exact made_wf ((right_rt hw).1 (doE_zero h).1) _ _ _ _
 ·exact zS_wf
end Go.Proofs.YtoejdgoicoaomaaGreatDoor
