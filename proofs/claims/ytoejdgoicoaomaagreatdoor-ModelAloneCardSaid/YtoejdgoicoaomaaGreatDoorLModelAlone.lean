/- A robot alone that has budget for a task does it within so many ticks: ModelAlone answers true for every input. -/
import Derived.Test.YtoejdgoicoaomaaGreatDoorG20
import Derived.Test.YtoejdgoicoaomaaGreatDoorRow
import Derived.Test.YtoejdgoicoaomaaGreatDoorLwAlone
set_option linter.unusedVariables false
set_option linter.unusedSimpArgs false
namespace Go.Proofs.YtoejdgoicoaomaaGreatDoor
open Go.Mini
open Go.ChangeShapes Go.WideShapes Go.ChangeAt Go.RowKit
set_option maxRecDepth 100000
theorem modelAlone_lifted (os:Os) (started:os.Started) (H:Type) (enc:TypeId × Value→H):
 ReturnsInHanded {} Tryz.checked os 7 .any (fun w args=>(Rows.modelAloneSpec.pre enc Tryz.prog Tryz.f7 [] false w args∧laidMetH Tryz.prog Rows.modelAloneRow.laid w)∧sizedMet enc Tryz.prog Tryz.f7 (OpenSpec.ofChange Rows.modelAloneSpec) false w args)
  (Rows.modelAloneSpec.post enc Tryz.prog Tryz.f7 false true false false):=by
 refine returnsInHanded_of_change_and (C:=Tryz.checked) (X:=fun w _=>laidMetH Tryz.prog Rows.modelAloneRow.laid w) (fun _ _ _ hh h=>h.of_heap hh) ownKnob_none started (by kernel_rfl) Tryz.func7
  (ChangeSpec.witness_shaped (enc:=enc) (C:=Tryz.checked) (os:=os) (X:=fun w _=>laidMetH Tryz.prog Rows.modelAloneRow.laid w) false (laidAllH Tryz.prog os 0 (.iface 134 (.agg #[.pointer (some ⟨4,42,none⟩)])) Rows.modelAloneRow.laid) #[.agg #[.int .i64 0,.int .i64 0,.string ⟨#[]⟩],.int .u8 0,.int .u8 0] 8 (laidAllH_os _ _ _ _ _)
    (World.shaped_of_ZipB (by kernel_rfl) (by kernel_rfl)) (by kernel_rfl) (by kernel_rfl) (by kernel_rfl)
    (laidMet_laidAllH _ (by kernel_rfl) (by kernel_rfl) (by kernel_rfl))) ?_
 intro W base args ds gs before hval0 hW _ _ hL _
 have hval:∀ (j:Nat) t v,Tryz.f7.params[j]?=some t→args[j]?=some v→Value.okWide Tryz.prog W .any base t v:=hval0
 have hW':=hW
 obtain ⟨p,q,hA0,hV,rfl,_,_⟩:=hW
 have hA:DataW.TrodAll enc Tryz.prog W 0 (fun _=>true) true Tryz.f7.params.toList args.toList ds p:=hA0
 rw [Tryz.params7] at hA hval
 obtain ⟨v0,vs0,d0,ds0,p0,q0,hargs,rfl,rfl,h0,r0⟩:=trodAll_cons hA
 obtain ⟨v1,vs1,d1,ds1,p1,q1,rfl,rfl,rfl,h1,r1⟩:=trodAll_cons r0
 obtain ⟨v2,vs2,d2,ds2,p2,q2,rfl,rfl,rfl,h2,r2⟩:=trodAll_cons r1
 obtain ⟨rfl,rfl,rfl⟩:=trodAll_nil r2
 obtain rfl:args=#[v0,v1,v2]:=by cases args;simp_all
 obtain ⟨rfl,rfl⟩:=trodVars_none hV
 have k0:=h0
 have lt0:∀ x ∈ p0,x.block < W.heap.size:=by obtain ⟨m,hm⟩:=k0;exact DataW.trod_lt m _ _ _ hm
 have k1:=h1
 have lt1:∀ x ∈ p1,x.block < W.heap.size:=by obtain ⟨m,hm⟩:=k1;exact DataW.trod_lt m _ _ _ hm
 have k2:=h2
 have lt2:∀ x ∈ p2,x.block < W.heap.size:=by obtain ⟨m,hm⟩:=k2;exact DataW.trod_lt m _ _ _ hm
 obtain ⟨l0,rfl,f0⟩:=agg_fits (ts:=[3,3,9]) (ks:=[.int .i64,.int .i64,.str]) (by kernel_rfl) (by kernel_rfl) (by kernel_rfl) (by kernel_rfl) (hval 0 23 v0 rfl rfl)
 obtain ⟨W0,H0,S0,rfl,bW0,bH0,bS0⟩:=fits_map f0
 obtain ⟨x1,rfl,a1,b1⟩:=int_arg Tryz.underlying5 (hval 1 5 v1 rfl rfl)
 obtain ⟨n1,rfl⟩:=Int.eq_ofNat_of_zero_le (show 0≤x1 from a1)
 have b1:n1 < 256:=by have h:(n1:Int)≤255:=b1;omega
 obtain ⟨x2,rfl,a2,b2⟩:=int_arg Tryz.underlying5 (hval 2 5 v2 rfl rfl)
 obtain ⟨n2,rfl⟩:=Int.eq_ofNat_of_zero_le (show 0≤x2 from a2)
 have b2:n2 < 256:=by have h:(n2:Int)≤255:=b2;omega
 refine (calls_of_mcalls (E:=ErrType) 1 0 (fl_cons rfl (fl_cons rfl (fl_cons rfl rfl))) rfl (modelAlone_c (fun _ h=>h) W0 H0 S0 n1 b1 n2 b2 _) W (errType_of_laid (more:=[]) (by kernel_rfl) hL)).mono fun e W' ⟨he,bel⟩=>?_
 subst he
 exact ⟨_,rfl,_,_,_,[],_,[],hW',trodAll_mk1 (shut_bool Tryz.underlying4 _),(trodAll_cons_mk (Below.trod laidOut_all (by kernel_rfl) (of_decide_eq_true (by kernel_rfl)) k0 bel lt0) (trodAll_cons_mk (Below.trod laidOut_all (by kernel_rfl) (of_decide_eq_true (by kernel_rfl)) k1 bel lt1) (trodAll_cons_mk (Below.trod laidOut_all (by kernel_rfl) (of_decide_eq_true (by kernel_rfl)) k2 bel lt2) trodAll_mk0))),rfl,bel.frame _,fun h=>by cases h⟩
theorem modelAlone_holds:Rows.ModelAloneSaid:=
 OpenClaim.holds_of_wide 7 Tryz.f7 rfl rfl rfl rfl rfl rfl rfl ⟨rfl,rfl,rfl,rfl,rfl⟩ rfl rfl rfl rfl rfl (by kernel_rfl) Tryz.func7 (by kernel_rfl)
  (of_decide_eq_true (by kernel_rfl)) (by unfold Func.isWrapper;first | (rw [if_pos (by decide +kernel)];kernel_rfl) | (rw [if_neg (by decide +kernel)];exact ⟨rfl,rfl⟩))
  (fun os started H enc _=>modelAlone_lifted os started H enc)
theorem modelAlone_card:Rows.ModelAloneCardSaid:=
 Claim7.holds_tied_plain_at .later [] Rows.modelAloneCard.laidKinds true Rows.modelAloneCard.stood.harness true
  modelAlone_holds (fun _ h=>by cases h) (by kernel_rfl) (fun _ h=>by cases h) modelAlone_row_tie rfl ⟨rfl,rfl⟩ (by kernel_rfl) rfl
  (fun f fn hf hfn=>by
    obtain rfl:f=7:=Option.some.inj ((show Tryz.prog.funcNamed Rows.modelAloneRow.func=some 7 by kernel_rfl).symm.trans hf) |>.symm
    obtain rfl:fn=Tryz.f7:=(Option.some.inj (Tryz.func7.symm.trans hfn)).symm
    exact ⟨by kernel_rfl,fun j t ht=>by
     rw [Tryz.params7] at ht
     have hm:t ∈ [23,5,5]:=by simpa using Array.mem_of_getElem? ht
     have hall:([23,5,5].all fun u=>!Tryz.prog.wantsStandIn u)=true:=by kernel_rfl
     exact (show Tryz.prog.wantsStandIn t=false by simpa using List.all_eq_true.1 hall t hm)⟩)
  (by kernel_rfl)
#print axioms modelAlone_card
end Go.Proofs.YtoejdgoicoaomaaGreatDoor
