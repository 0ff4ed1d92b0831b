/- An act done again to the same state comes to the same: ModelSame answers true for every input. -/
import Derived.Test.YtoejdgoicoaomaaGreatDoorG20
import Derived.Test.YtoejdgoicoaomaaGreatDoorLwSame
set_option linter.unusedVariables false
set_option linter.unusedSimpArgs false
namespace Go.Proofs.YtoejdgoicoaomaaGreatDoor
open Go.Mini
open Go.ChangeShapes Go.WideShapes Go.ChangeAt Go.RowKit
set_option maxRecDepth 100000
theorem modelSame_lifted (os:Os) (started:os.Started) (H:Type) (enc:TypeId × Value→H):
 ReturnsInHanded {} Tryz.checked os 10 .any (fun w args=>(Rows.modelSameSpec.pre enc Tryz.prog Tryz.f10 [] false w args∧laidMetH Tryz.prog Rows.modelSameRow.laid w)∧sizedMet enc Tryz.prog Tryz.f10 (OpenSpec.ofChange Rows.modelSameSpec) false w args)
  (Rows.modelSameSpec.post enc Tryz.prog Tryz.f10 false true false false):=by
 refine returnsInHanded_of_change_and (C:=Tryz.checked) (X:=fun w _=>laidMetH Tryz.prog Rows.modelSameRow.laid w) (fun _ _ _ hh h=>h.of_heap hh) ownKnob_none started (by kernel_rfl) Tryz.func10
  (ChangeSpec.witness_shaped (enc:=enc) (C:=Tryz.checked) (os:=os) (X:=fun w _=>laidMetH Tryz.prog Rows.modelSameRow.laid w) false (laidAllH Tryz.prog os 0 (.iface 134 (.agg #[.pointer (some ⟨4,42,none⟩)])) Rows.modelSameRow.laid) #[.agg #[.int .i64 0,.int .i64 0,.string ⟨#[]⟩],.slice none 0 0,.agg #[.string ⟨#[]⟩,.int .i64 0,.int .i64 0,.int .i64 0]] 8 (laidAllH_os _ _ _ _ _)
    (World.shaped_of_ZipB (by kernel_rfl) (by kernel_rfl)) (by kernel_rfl) (by kernel_rfl) (by kernel_rfl)
    (laidMet_laidAllH _ (by kernel_rfl) (by kernel_rfl) (by kernel_rfl))) ?_
 intro W base args ds gs before hval0 hW _ _ hL _
 have hval:∀ (j:Nat) t v,Tryz.f10.params[j]?=some t→args[j]?=some v→Value.okWide Tryz.prog W .any base t v:=hval0
 have hW':=hW
 obtain ⟨p,q,hA0,hV,rfl,_,_⟩:=hW
 have hA:DataW.TrodAll enc Tryz.prog W 0 (fun _=>true) true Tryz.f10.params.toList args.toList ds p:=hA0
 rw [Tryz.params10] at hA hval
 obtain ⟨v0,vs0,d0,ds0,p0,q0,hargs,rfl,rfl,h0,r0⟩:=trodAll_cons hA
 obtain ⟨v1,vs1,d1,ds1,p1,q1,rfl,rfl,rfl,h1,r1⟩:=trodAll_cons r0
 obtain ⟨v2,vs2,d2,ds2,p2,q2,rfl,rfl,rfl,h2,r2⟩:=trodAll_cons r1
 obtain ⟨rfl,rfl,rfl⟩:=trodAll_nil r2
 obtain rfl:args=#[v0,v1,v2]:=by cases args;simp_all
 obtain ⟨rfl,rfl⟩:=trodVars_none hV
 have k0:=h0
 have lt0:∀ x ∈ p0,x.block < W.heap.size:=by obtain ⟨m,hm⟩:=k0;exact DataW.trod_lt m _ _ _ hm
 have k1:=h1
 have lt1:∀ x ∈ p1,x.block < W.heap.size:=by obtain ⟨m,hm⟩:=k1;exact DataW.trod_lt m _ _ _ hm
 have k2:=h2
 have lt2:∀ x ∈ p2,x.block < W.heap.size:=by obtain ⟨m,hm⟩:=k2;exact DataW.trod_lt m _ _ _ hm
 obtain ⟨l0,rfl,f0⟩:=agg_fits (ts:=[3,3,9]) (ks:=[.int .i64,.int .i64,.str]) (by kernel_rfl) (by kernel_rfl) (by kernel_rfl) (by kernel_rfl) (hval 0 23 v0 rfl rfl)
 obtain ⟨W0,H0,S0,rfl,bW0,bH0,bS0⟩:=fits_map f0
 obtain ⟨l2,rfl,f2⟩:=agg_fits (ts:=[9,3,3,3]) (ks:=[.str,.int .i64,.int .i64,.int .i64]) (by kernel_rfl) (by kernel_rfl) (by kernel_rfl) (by kernel_rfl) (hval 2 54 v2 rfl rfl)
 obtain ⟨nm2,x2,y2,z2,rfl,bn2,bx2,by2,bz2⟩:=fits_act f2
 have s0:=Sim.start W (fun _=>⟨0,0,0,0,true⟩)
 have a0_:=AllRo.empty
 obtain ⟨L1,w1,σ1,μ1,al1,sm1,vr1,rd1,ex1,ag1,ft1⟩:=sliceG_arg (ks:=[.str,.int .i64,.int .i64,.int .i64]) (by decide) Tryz.underlying24 Tryz.underlying54 (by kernel_rfl) (by kernel_rfl) (hval 1 24 v1 rfl rfl) h1 s0 a0_
 obtain ⟨ps1,rfl,ok1⟩:=fits_acts ft1
 refine (calls_of_mcallsR (E:=ErrType) sm1 (.cons (VR.of_flat 1 _ rfl) (.cons vr1 (.cons (VR.of_flat 1 _ rfl) .nil))) 0 rfl (errType_of_laid (more:=[]) (by kernel_rfl) hL) (modelSame_c (fun _ h=>h) W0 H0 S0 rd1 nm2 x2 y2 z2)).mono fun e W' ⟨he,bel⟩=>?_
 subst he
 exact ⟨_,rfl,_,_,_,[],_,[],hW',trodAll_mk1 (shut_bool Tryz.underlying4 _),(trodAll_cons_mk (Below.trod laidOut_all (by kernel_rfl) (of_decide_eq_true (by kernel_rfl)) k0 bel lt0) (trodAll_cons_mk (Below.trod laidOut_all (by kernel_rfl) (of_decide_eq_true (by kernel_rfl)) k1 bel lt1) (trodAll_cons_mk (Below.trod laidOut_all (by kernel_rfl) (of_decide_eq_true (by kernel_rfl)) k2 bel lt2) trodAll_mk0))),rfl,bel.frame _,fun h=>by cases h⟩
theorem modelSame_holds:Rows.ModelSameSaid:=
 OpenClaim.holds_of_wide 10 Tryz.f10 rfl rfl rfl rfl rfl rfl rfl ⟨rfl,rfl,rfl,rfl,rfl⟩ rfl rfl rfl rfl rfl (by kernel_rfl) Tryz.func10 (by kernel_rfl)
  (of_decide_eq_true (by kernel_rfl)) (by unfold Func.isWrapper;first | (rw [if_pos (by decide +kernel)];kernel_rfl) | (rw [if_neg (by decide +kernel)];exact ⟨rfl,rfl⟩))
  (fun os started H enc _=>modelSame_lifted os started H enc)
theorem modelSame_card:Rows.ModelSameCardSaid:=
 Claim7.holds_tied_plain_at .later [] Rows.modelSameCard.laidKinds true Rows.modelSameCard.stood.harness true
  modelSame_holds (fun _ h=>by cases h) (by kernel_rfl) (fun _ h=>by cases h) modelSame_row_tie rfl ⟨rfl,rfl⟩ (by kernel_rfl) rfl
  (fun f fn hf hfn=>by
    obtain rfl:f=10:=Option.some.inj ((show Tryz.prog.funcNamed Rows.modelSameRow.func=some 10 by kernel_rfl).symm.trans hf) |>.symm
    obtain rfl:fn=Tryz.f10:=(Option.some.inj (Tryz.func10.symm.trans hfn)).symm
    exact ⟨by kernel_rfl,fun j t ht=>by
     rw [Tryz.params10] at ht
     have hm:t ∈ [23,24,54]:=by simpa using Array.mem_of_getElem? ht
     have hall:([23,24,54].all fun u=>!Tryz.prog.wantsStandIn u)=true:=by kernel_rfl
     exact (show Tryz.prog.wantsStandIn t=false by simpa using List.all_eq_true.1 hall t hm)⟩)
  (by kernel_rfl)
#print axioms modelSame_card
end Go.Proofs.YtoejdgoicoaomaaGreatDoor
