/- The witness where the listed variables hold the handle errors.errorType. -/
import Derived.Test.YtoejdgoicoaomaaGreatDoorRow
import Derived.LaidHandle
import Derived.Test.YtoejdgoicoaomaaGreatDoorG10
import Derived.Test.YtoejdgoicoaomaaGreatDoorG6
import Derived.Deep.Slices
import Derived.Test.YtoejdgoicoaomaaGreatDoorG14
set_option linter.unusedVariables false
set_option linter.unusedSimpArgs false
namespace Go.Mini
noncomputable def wHandle (P:Program) (os:Os) (g:Nat) (v:Value):World:=
 let w0:=World.holding P os ⟨#[],#[],[]⟩
 { w0 with heap:=w0.heap.modify g fun
  | .cells _ t frozen=>.cells #[v] t frozen
  | o=>o }
noncomputable def laidAllH (P:Program) (os:Os) (g:Nat) (v:Value) (laid:List (String × DataW Unit)):World:=(wHandle P os g v).layVars P (laid.filter fun x=>x.2.handleName?.isNone)
theorem laidAllH_os (P:Program) (os:Os) (g:Nat) (v:Value) (laid:List (String × DataW Unit)):(laidAllH P os g v laid).os=os:=World.layVars_os _ _ _
theorem laidMet_laidAllH {P:Program} {os:Os} {g:Nat} {v:Value} {laid:List (String × DataW Unit)} (args:Array Value)
 (hf:(wHandle P os g v).layFits P (laid.filter fun x=>x.2.handleName?.isNone) []=true)
 (hi:(wHandle P os g v).layIfaces P (laid.filter fun x=>x.2.handleName?.isNone) (laidAllH P os g v laid)=true)
 (hh:(laid.filter fun x=>x.2.handleName?.isSome).all (handleAtB P ((laidAllH P os g v laid).forCall (fun _ _=>0) ⟨#[],args,[]⟩).memory)=true):
 laidMetH P laid ((laidAllH P os g v laid).forCall (fun _ _=>0) ⟨#[],args,[]⟩).memory:=by
 refine laidMetH_of_parts ?_ hh
 generalize hl:(laid.filter fun x=>x.2.handleName?.isNone)=pl at hf hi
 have e1:(pl.filter fun x=>(pl.map (·.1)).contains x.1)=pl:=List.filter_eq_self.2 fun x hx=>List.contains_iff_mem.2 (List.mem_map.2 ⟨x,hx,rfl⟩)
 have e2:(pl.filter fun x=>!(pl.map (·.1)).contains x.1)=[]:=List.filter_eq_nil_iff.2 fun x hx=>by rw [List.contains_iff_mem.2 (List.mem_map.2 ⟨x,hx,rfl⟩)];simp
 have h:laidMet P pl (laidAllH P os g v laid):=laidMet_layVars (w0:=wHandle P os g v) (pl.map (·.1)) [] (by rw [e1];unfold laidAllH;rw [hl]) (by rw [e1];exact hf) (by rw [e1];exact hi) (by rw [e2];exact LaidIn.none)
 exact h.of_heap (by simp [World.memory,World.forCall,Input.heap])
end Go.Mini
namespace Go.Proofs.YtoejdgoicoaomaaGreatDoor
open Go.Mini
theorem et_global:Tryz.prog.globalNamed "errors.errorType"=some 0:=by kernel_rfl
theorem et_rt:(Tryz.prog.cutTypes.find? (·.1 == "internal/reflectlite.rtype")).map (·.2)=some 134:=by kernel_rfl
theorem et_size:Tryz.prog.types.size=262:=by kernel_rfl
theorem et_oneRow:((List.range 262).filter fun t=>Tryz.prog.rowNamed t [101,114,114,111,114])=[42]:=by kernel_rfl
theorem errType_of_laid {l:List (String × DataW Unit)} {more:List (String × DataW Unit)} (hl:(l.filter fun x=>x.2.handleName?.isSome)=("errors.errorType",Rows.laid_errors_errorType) :: more) {W:World} (h:laidMetH Tryz.prog l W):ErrType W:=by
 unfold laidMetH at h
 rw [hl] at h
 have h2:=h.2 _ (List.mem_cons_self ..)
 obtain ⟨name,u,ty,e1,e2,e3,e4,e5⟩:=h2
 have en:name=[101,114,114,111,114]:=(Option.some.inj e1).symm
 subst en
 obtain rfl:=Option.some.inj (et_rt.symm.trans e2)
 have hm:ty ∈ (List.range 262).filter fun t=>Tryz.prog.rowNamed t [101,114,114,111,114]:=List.mem_filter.2 ⟨List.mem_range.2 (by rw [← et_size];exact e3),e4⟩
 rw [et_oneRow] at hm
 obtain rfl:=List.mem_singleton.1 hm
 have hh:typeHandle Tryz.prog 42=.pointer (some ⟨4,42,none⟩):=by kernel_rfl
 rw [hh] at e5
 unfold ErrType
 simpa using World.var?_cell et_global e5 0
end Go.Proofs.YtoejdgoicoaomaaGreatDoor
namespace Go.Mini
open Go.ChangeShapes Go.WideShapes Go.ChangeAt Go.RowKit
def AllRo (σ:H):Prop:=∀ i,σ.get i≠.dead→∃ ds,σ.get i=.ro ds
theorem AllRo.empty:AllRo H.empty:=fun i h=>absurd rfl h
theorem AllRo.push {σ:H} (h:AllRo σ) (cs:List Value):AllRo (σ.push (.ro cs)):=fun i hi=>by
 by_cases e:i=σ.size
 ·subst e;exact ⟨cs,H.get_push_self _ _⟩
 ·rw [H.get_push_ne e] at hi ⊢;exact h i hi
theorem Sim.pushRo {B:Nat} {w0 w:World} {μ:Nat→Blk} {σ:H} (h:Sim B w0 μ σ w) (hro:AllRo σ) {b o:Nat} {cs:List Value} {cs':Array Value} {t:TypeId} {fz:Nat × Nat}
 (hb:w.heap[b]?=some (.cells cs' t fz)) (hc:CellsR μ σ.size cs cs' o):Sim B w0 (setMu μ σ.size ⟨b,o,0,0,false⟩) (σ.push (.ro cs)) w:=by
 have hag:Agr σ.size μ (setMu μ σ.size ⟨b,o,0,0,false⟩):=.setMu μ _
 have hs:σ.size≤(σ.push (.ro cs)).size:=by simp
 have hbl:b < w.heap.size:=(Array.getElem?_eq_some_iff.1 hb).1
 have hall:=hro.push cs
 refine ⟨h.below,h.base,h.fx,h.wh,?_,?_,?_,?_,?_,?_,?_⟩
 ·intro i hi
  simp only [H.size_push] at hi
  by_cases e:i=σ.size
  ·subst e;rw [setMu_self];exact hbl
  ·rw [hag i (by omega)];exact h.fin i (by omega)
 ·intro i s ds hd
  obtain ⟨es,he⟩:=hall i (by rw [hd];simp)
  rw [he] at hd;cases hd
 ·intro i ds hd
  by_cases e:i=σ.size
  ·subst e
   rw [H.get_push_self] at hd
   cases hd
   rw [setMu_self]
   exact ⟨⟨rfl,rfl⟩,cs',t,fz,hb,hc.mono hs hag⟩
  ·rw [H.get_push_ne e] at hd
   have hi:=H.lt_of_live (σ:=σ) (i:=i) (by rw [hd];simp)
   rw [hag i hi]
   obtain ⟨h0,ds',t',fz',h2,h4⟩:=h.ro i ds hd
   exact ⟨h0,ds',t',fz',h2,h4.mono hs hag⟩
 ·intro i es c hd
  obtain ⟨es,he⟩:=hall i (by rw [hd];simp)
  rw [he] at hd;cases hd
 ·intro i R hd
  obtain ⟨es,he⟩:=hall i (by rw [hd];simp)
  rw [he] at hd;cases hd
 ·intro i T ds hd
  obtain ⟨es,he⟩:=hall i (by rw [hd];simp)
  rw [he] at hd;cases hd
 ·intro i j hi hj hr hne
  obtain ⟨es,he⟩:=hall i hi
  exact absurd he (hr es)
theorem calls_of_mcallsR {E:World→Prop} {P:Program} {f:FuncId} {args args':List Value} {σ:H} {μ:Nat→Blk} {w:World} (hs:Sim w.heap.size w μ σ w) (ha:VRs μ σ.size args args') {v:Value} (kv:Nat) (hv:flat kv v=true)
 (hE:E w) (h:MCalls E P f args σ (fun v' _=>v'=v)):Calls P f args'.toArray w fun e w'=>e=.returned v∧Below w.heap.size w w':=by
 refine (h.2 w.heap.size w μ w args' hE hs ha).mono fun e w' ⟨v1,v',τ,μ',he,hr,hs',hvr,_,_⟩=>?_
 subst hr
 rw [VR.eq_of_flat kv _ _ hvr hv] at he
 exact ⟨he,hs'.below⟩
end Go.Mini
namespace Go.Mini
open Go.ChangeShapes Go.WideShapes Go.ChangeAt Go.RowKit
theorem Fits.length:∀ {ks:List CK} {vs:List Value},Fits ks vs→vs.length=ks.length
 | _,_,.nil=>rfl
 | _,_,.cons h hs=>by simp [Fits.length hs]
theorem trod_fits {P:Program} {w:World} {base:Nat} {spare:Nat→Bool} {held:Bool} {H:Type} {enc:TypeId × Value→H} {e:TypeId} {fs:Array Field} {ks:List CK} {n:Nat} {cs:List Value} {x:DataW H × List MemPlace} (ht:P.underlying e=some (.struct fs)) (hc:P.cellsOf e=ks.length)
 (hk:(fs.toList.map fun f=>(f.offset,P.cellsOf f.type,leafK P f.type))=ks.zipIdx.map fun p=>(p.2,1,some p.1)) (h:DataW.trod enc P w base spare held n e cs=some x):Fits ks cs:=by
 obtain ⟨xs,m,rfl,rfl,hl,hxl,hf⟩:=DataW.trod_struct ht h
 refine .of_get (by rw [hl,hc]) fun i v hv=>?_
 have hi:i < ks.length:=by rw [← hc,← hl];exact (List.getElem?_eq_some_iff.1 hv).1
 refine ⟨ks[i],List.getElem?_eq_getElem hi,?_⟩
 have h1:=congrArg (fun l=>l[i]?) hk
 simp only [List.getElem?_map,List.getElem?_zipIdx,List.getElem?_eq_getElem hi,Option.map_some] at h1
 cases hfi:fs.toList[i]? with
 | none=>rw [hfi] at h1;cases h1
 | some f=>
   rw [hfi] at h1
   simp only [Option.map_some,Option.some.injEq,Prod.mk.injEq,Nat.zero_add] at h1
   obtain ⟨ho,hcf,hlf⟩:=h1
   have h2:=hf i f (by rw [← Array.getElem?_toList];exact hfi)
   rw [hcf,ho] at h2
   have h3:(cs.drop i).take 1=[v]:=by
    have hlt:=(List.getElem?_eq_some_iff.1 hv).1
    rw [List.drop_eq_getElem_cons hlt,List.take_succ_cons,List.take_zero,(List.getElem?_eq_some_iff.1 hv).2]
   rw [h3] at h2
   have hxi:i < xs.length:=by
    rw [hxl];have:=(List.getElem?_eq_some_iff.1 hfi).1;simpa using this
   rw [List.getElem?_eq_getElem hxi] at h2
   unfold leafK at hlf
   split at hlf<;>first | (cases hlf;done) | skip
   all_goals
    rename_i hu
    injection hlf with hlf
    rw [← hlf]
   ·obtain ⟨z,hz,_,hw⟩:=DataW.trod_int hu h2
    obtain rfl:v=_:=by simpa using hz
    refine ⟨z,rfl,?_⟩
    simpa [Lit.wf] using hw
   ·first
     | (obtain ⟨s,hz,_,hw⟩:=DataW.trod_string hu h2
        obtain rfl:v=_:=by simpa using hz
        exact ⟨s,rfl,by have:maxLen≤9223372036854775807:=by decide
                        show (s.size:Int)≤9223372036854775807
                        omega⟩)
     | (obtain ⟨b,hz,_⟩:=DataW.trod_bool hu h2
        obtain rfl:v=_:=by simpa using hz
        exact ⟨b,rfl⟩)
   ·first
     | (obtain ⟨s,hz,_,hw⟩:=DataW.trod_string hu h2
        obtain rfl:v=_:=by simpa using hz
        exact ⟨s,rfl,by have:maxLen≤9223372036854775807:=by decide
                        show (s.size:Int)≤9223372036854775807
                        omega⟩)
     | (obtain ⟨b,hz,_⟩:=DataW.trod_bool hu h2
        obtain rfl:v=_:=by simpa using hz
        exact ⟨b,rfl⟩)
theorem sliceG_arg {P:Program} {w:World} {t e:TypeId} {fs:Array Field} {ks:List CK} {v:Value} {H:Type} {enc:TypeId × Value→H} {d:DataW H} {ps:List MemPlace} {μ:Nat→Blk} {σ:Mini.H} (hpos:0 < ks.length) (ht:P.underlying t=some (.slice e)) (he:P.underlying e=some (.struct fs)) (hc:P.cellsOf e=ks.length)
 (hk:(fs.toList.map fun f=>(f.offset,P.cellsOf f.type,leafK P f.type))=ks.zipIdx.map fun p=>(p.2,1,some p.1))
 (hval:Value.okWide P w .any 0 t v) (hd:DataW.Trod enc P w 0 (fun _=>true) true t v d ps) (hs:Sim w.heap.size w μ σ w) (hro:AllRo σ):
 ∃ (L:List (List Value)) (v0:Value) (σ':Mini.H) (μ':Nat→Blk),AllRo σ'∧Sim w.heap.size w μ' σ' w∧VR μ' σ'.size v0 v∧RdN σ' ks.length v0 L∧Ext σ σ'∧Agr σ.size μ μ'∧∀ l ∈ L,Fits ks l:=by
 obtain ⟨a,len,cap,rfl⟩:=okWide_slice ht hval
 obtain ⟨fuel,hf⟩:=hd
 rcases Go.Deep.open_slice ht hf with ⟨hcs,_⟩ | ⟨x,ln,cp,m,n,D,Pl,hcs,_,hl,hm,hmm,_,hx⟩
 ·simp only [Value.cells,List.cons.injEq,and_true] at hcs
  obtain ⟨rfl,rfl,rfl⟩:a=none∧len=0∧cap=0:=by simpa using hcs
  exact ⟨[],.slice none 0 0,σ,μ,hro,hs,.nilSlice,.nil,.refl _,.refl _ _,fun _ h=>(by cases h)⟩
 ·obtain ⟨rfl,rfl,rfl⟩:a=some x∧len=ln∧cap=cp:=by simpa [Value.cells] using hcs
  have hm':len≤m:=by rw [hmm];simp;exact hl
  have hok:w.has P .any 0 x e cap:=by
   have:Cell.okWide P w .any 0 t (.slice (some x) len cap):=by unfold Value.okWide at hval;rw [ht] at hval;exact hval
   unfold Cell.okWide Cell.ok at this
   rw [ht] at this
   exact this.2.2
  obtain ⟨_,hspot,row,cells,hsh,_⟩:=hok
  obtain ⟨b,off,spot⟩:=x
  dsimp only at hspot
  subst hspot
  unfold World.shape? at hsh
  split at hsh
  ·rename_i c el fz hb
   have hb:w.heap[b]?=some (.cells c el fz):=hb
   obtain ⟨Z,hZ⟩:=Go.Deep.choose_lt (α:=List Value) (n:=len) (p:=fun i l=>Fits ks l∧∀ j,j < ks.length→c[off + (i * ks.length + j)]?=l[j]?) (fun i hi=>by
    obtain ⟨cs',h1,h2⟩:=hx i (by omega)
    have hfit:=trod_fits he hc hk h2
    obtain ⟨_,hlen,hcell⟩:=World.cells?_some h1
    refine ⟨cs',hfit,fun j hj=>?_⟩
    have h3:=hcell j (by omega)
    rw [Go.Deep.add_add,add_plain] at h3
    unfold World.cell? at h3
    simp only [hb,Option.isSome_none,Bool.false_eq_true,if_false] at h3
    rw [← h3,hc])
   have hLl:∀ l ∈ (List.range len).map Z,Fits ks l:=fun l hl=>by
    obtain ⟨i,hi,rfl⟩:=List.mem_map.1 hl
    exact (hZ i (List.mem_range.1 hi)).1
   have hLk:∀ l ∈ (List.range len).map Z,l.length=ks.length:=fun l hl=>(hLl l hl).length
   have hlen:((List.range len).map Z).length=len:=by simp
   have hfl:=flat_len hLk
   rw [hlen] at hfl
   have hpl:∀ l:List Value,Fits ks l→∀ u ∈ l,flat 0 u=true:=fun l h u hu=>by
    have:=h.plain
    exact List.all_eq_true.1 this u hu
   have hcr:CellsR μ σ.size (((List.range len).map Z).flatten) c off:=fun j u hu=>by
    have hj:j < len * ks.length:=by rw [← hfl];exact (List.getElem?_eq_some_iff.1 hu).1
    have hq:j / ks.length < len:=(Nat.div_lt_iff_lt_mul hpos).2 hj
    have hr:j % ks.length < ks.length:=Nat.mod_lt _ hpos
    have hjq:j=j / ks.length * ks.length + j % ks.length:=by rw [Nat.mul_comm];exact (Nat.div_add_mod j ks.length).symm
    have h1:=flat_row hLk (j / ks.length) (by rw [hlen];exact hq)
    have h2:((((List.range len).map Z).flatten.drop (j / ks.length * ks.length)).take ks.length)[j % ks.length]?=some u:=by
     rw [List.getElem?_take,if_pos hr,List.getElem?_drop,← hjq];exact hu
    rw [h1,List.getElem_map,List.getElem_range] at h2
    obtain ⟨h3,h4⟩:=hZ _ hq
    have h5:=h4 _ hr
    rw [← hjq,h2] at h5
    exact ⟨u,h5,VR.of_flat 0 u (hpl _ h3 u (List.mem_of_getElem? h2))⟩
   have hg:(σ.push (.ro ((List.range len).map Z).flatten)).get σ.size=.ro ((List.range len).map Z).flatten:=_root_.Go.Mini.H.get_push_self _ _
   refine ⟨(List.range len).map Z,.slice (some ⟨σ.size,0,none⟩) len len,σ.push (.ro ((List.range len).map Z).flatten),setMu μ σ.size ⟨b,off,0,0,false⟩,hro.push _,hs.pushRo hro hb hcr,?_,?_,Ext.push _ _,.setMu μ _,hLl⟩
   ·have:=VR.slice (μ:=setMu μ σ.size ⟨b,off,0,0,false⟩) (n:=(σ.push (.ro ((List.range len).map Z).flatten)).size) (id:=σ.size) (off:=0) (len:=len) (cap:=len) (cap':=cap) (o':=off) (by simp) (Nat.le_refl _) hl (fun _=>by rw [setMu_self];simp) (fun h=>by rw [setMu_self] at h;simp at h) (fun h=>by rw [setMu_self] at h;simp at h)
    rw [setMu_self] at this
    exact this
   ·refine .mk hlen (row_ro hg (rowAll hfl)) fun i hi=>?_
    rw [← flat_row hLk i hi]
    have hi':i < len:=by rw [hlen] at hi;exact hi
    refine row_ro hg (rowL_some _ _ _ ?_)
    rw [hfl]
    calc i * ks.length + ks.length=(i + 1) * ks.length:=by rw [Nat.add_mul];omega
     _≤len * ks.length:=Nat.mul_le_mul_right _ hi'
  ·cases hsh
end Go.Mini
namespace Go.Proofs.YtoejdgoicoaomaaGreatDoor
open Go.Mini
open Go.ChangeShapes Go.WideShapes Go.ChangeAt Go.RowKit
theorem fits_act {l:List Value} (h:Fits [.str,.int .i64,.int .i64,.int .i64] l):∃ (nm:ByteArray) (a b c:Int),l=[.string nm,.int .i64 a,.int .i64 b,.int .i64 c]∧(nm.size:Int)≤9223372036854775807∧(-9223372036854775808≤a∧a≤9223372036854775807)∧(-9223372036854775808≤b∧b≤9223372036854775807)∧(-9223372036854775808≤c∧c≤9223372036854775807):=by
 cases h with
 | cons h hs=>cases hs with
   | cons h2 hs=>cases hs with
     | cons h3 hs=>cases hs with
       | cons h4 hs=>cases hs with
         | nil=>
           obtain ⟨s,rfl,s1⟩:=h
           obtain ⟨a,rfl,a1,a2⟩:=h2
           obtain ⟨b,rfl,b1,b2⟩:=h3
           obtain ⟨c,rfl,c1,c2⟩:=h4
           exact ⟨s,a,b,c,rfl,s1,⟨a1,a2⟩,⟨b1,b2⟩,⟨c1,c2⟩⟩
theorem fits_acts:∀ {L:List (List Value)},(∀ l ∈ L,Fits [.str,.int .i64,.int .i64,.int .i64] l)→∃ ps:List Act4,L=ps.map acC∧∀ p ∈ ps,ActOK p
 | [],_=>⟨[],rfl,fun _ h=>(by cases h)⟩
 | l :: L,h=>by
   obtain ⟨ps,rfl,hok⟩:=fits_acts (L:=L) fun l hl=>h l (by simp [hl])
   obtain ⟨nm,a,b,c,rfl,_,ha,hb,hc⟩:=fits_act (h l (by simp))
   exact ⟨(nm,a,b,c) :: ps,rfl,fun p hp=>by
    rcases List.mem_cons.1 hp with rfl | hp
    ·exact ⟨ha,hb,hc⟩
    ·exact hok p hp⟩
end Go.Proofs.YtoejdgoicoaomaaGreatDoor
