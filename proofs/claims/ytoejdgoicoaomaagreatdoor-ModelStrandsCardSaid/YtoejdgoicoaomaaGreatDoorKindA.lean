/- The document's Kind of a request. -/
import Derived.Test.YtoejdgoicoaomaaGreatDoorG14
set_option linter.unusedVariables false
set_option linter.unusedSimpArgs false
namespace Go.Proofs.YtoejdgoicoaomaaGreatDoor
open Go.Mini
open Go.Proofs.YtoejdgoicoaomaaGreatDoor.Code
attribute [local irreducible] mx ml mld mstep MCalls Ex.thn Ex.inb
variable {E:World→Prop}
theorem ba_extM {a b:ByteArray} (h:a.data.toList=b.data.toList):a=b:=by cases a;cases b;congr 1;exact Array.ext' h
def KNM:List ByteArray:=[⟨#[114,111,98,111,116]⟩,⟨#[116,97,115,107]⟩,⟨#[111,102,102]⟩,⟨#[111,110]⟩,⟨#[116,101,108,108]⟩,⟨#[116,105,99,107]⟩]
theorem strsM_at {l:List ByteArray} {i:Nat} (hi:i < l.length):(l.map Value.string)[i]?=some (.string (l.getD i ⟨#[]⟩)):=by
 rw [List.getElem?_map,List.getElem?_eq_getElem hi,List.getD_eq_getElem?_getD,List.getElem?_eq_getElem hi];rfl
def KindM (nm:ByteArray) (k:Nat):Prop:=(k=0∧∀ i,i < 6→KNM.getD i ⟨#[]⟩≠nm)∨(1≤k∧k≤6∧KNM.getD (k - 1) ⟨#[]⟩=nm)
set_option maxHeartbeats 1000000 in
theorem rKindM_c (nm:ByteArray) (σ:H):MCalls E Tryz.prog 30 [.string nm] σ (fun v τ=>Ext σ τ∧∃ k:Nat,v=.int .i64 (k:Int)∧KindM nm k):=by
 refine mcalls_of fn30 (by simp) ?_
 unfold c30 r30
 refine stepR0 ?_
 have g0:(σ.push (.cells 1 (KNM.map Value.string))).get σ.size=.cells 1 (KNM.map Value.string):=H.get_push_self _ _
 have e0:=Ext.push σ (.cells 1 (KNM.map Value.string))
 have hrd:Rd (σ.push (.cells 1 (KNM.map Value.string))) (.slice (some ⟨σ.size,0,none⟩) 6 6) (KNM.map Value.string):=(Own.full (sz:=1) (n:=6) g0 rfl).rd
 obtain ⟨sv,hsv⟩:∃ sv,sv=Value.slice (some ⟨σ.size,0,none⟩) 6 6:=⟨_,rfl⟩
 rw [← hsv] at hrd
 obtain ⟨τ0,hτ0⟩:∃ τ0,τ0=σ.push (.cells 1 (KNM.map Value.string)):=⟨_,rfl⟩
 rw [← hτ0] at hrd e0
 refine mx_loop (fun n ts τ=>∃ i,n=6 - i∧i≤6∧τ=τ0∧(∀ j,j < i→KNM.getD j ⟨#[]⟩≠nm)∧ts 0=.string nm∧ts 3=sv∧ts 4=.int .i64 ((i:Nat):Int)) 6 ?_ ?_
 ·exact ⟨0,rfl,by omega,by rw [hτ0];rfl,fun j h=>absurd h (Nat.not_lt_zero _),Sd0,by rw [hsv];exact Sd0,Sd0⟩
 clear hsv hτ0 g0
 rintro n ts τ ⟨i,rfl,hi,rfl,hno,t0,t3,t4⟩
 refine stepR (An t3 t4) ?_
 refine ml_len Sd0 hrd (Sw t3) ?_
 rw [show (KNM.map Value.string).length=6 from rfl]
 rcases Nat.lt_or_ge i 6 with hil | hig
 ·have hil':((i:Nat):Int) < ((6:Nat):Int):=by omega
  refine stepR (An hil' (An t3 t4)) ?_
  refine ml_getS hrd (Sw t3) (Sw t4) (by omega) (by rw [Int.toNat_natCast];exact strsM_at hil) fun p=>?_
  by_cases hx:KNM.getD i ⟨#[]⟩=nm
  ·have hb:((KNM.getD i ⟨#[]⟩).toList == nm.toList)=true:=by rw [hx];simp
   refine stepR (An hb (An t0 t4)) ?_
   exact fin1 ⟨e0,i + 1,Sd0,.inr ⟨by omega,by omega,hx⟩⟩
  ·have hb:((KNM.getD i ⟨#[]⟩).toList == nm.toList)=false:=by
    rw [beq_eq_false_iff_ne,toList_data,toList_data]
    exact fun h=>hx (ba_extM h)
   refine stepR (An hb (An t0 t4)) ?_
   refine ⟨_,by omega,i + 1,rfl,hil,rfl,fun j hj=>?_,(Sw t0),(Sw t3),Sd0⟩
   by_cases h:j=i
   ·rw [h];exact hx
   ·exact hno j (by omega)
 ·obtain rfl:i=6:=by omega
  have hil':¬ ((6:Nat):Int) < ((6:Nat):Int):=by omega
  refine stepR hil' ?_
  exact fin1 ⟨e0,0,Sd0,.inl ⟨rfl,hno⟩⟩
theorem kindM_n {nm:ByteArray} {k:Nat} (h:KindM nm k):k=kindN nm:=by
 rcases h with ⟨rfl,h⟩ | ⟨h1,h2,rfl⟩
 ·have h0:=h 0 (by omega);have h1:=h 1 (by omega);have h2:=h 2 (by omega);have h3:=h 3 (by omega);have h4:=h 4 (by omega);have h5:=h 5 (by omega)
  unfold kindN
  rw [if_neg (fun e=>h0 e.symm),if_neg (fun e=>h1 e.symm),if_neg (fun e=>h4 e.symm),if_neg (fun e=>h2 e.symm),if_neg (fun e=>h3 e.symm),if_neg (fun e=>h5 e.symm)]
 ·have hk:k=1∨k=2∨k=3∨k=4∨k=5∨k=6:=by omega
  rcases hk with rfl | rfl | rfl | rfl | rfl | rfl<;>decide
theorem rKindN_c (nm:ByteArray) (σ:H):MCalls E Tryz.prog 30 [.string nm] σ (fun v τ=>Ext σ τ∧v=.int .i64 ((kindN nm:Nat):Int)):=
 MCalls.mono (rKindM_c nm σ) fun v τ ⟨e,k,hv,hk⟩=>⟨e,by rw [hv,kindM_n hk]⟩
end Go.Proofs.YtoejdgoicoaomaaGreatDoor
