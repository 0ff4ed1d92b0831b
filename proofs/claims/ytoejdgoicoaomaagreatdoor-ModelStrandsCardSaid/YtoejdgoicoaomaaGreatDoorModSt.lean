/- model, plainly: where no charger is on, all are stranded, and hold. -/
import Derived.Test.YtoejdgoicoaomaaGreatDoorG12
import Derived.Test.YtoejdgoicoaomaaGreatDoorG13
set_option linter.unusedVariables false
set_option linter.unusedSimpArgs false
namespace Go.Proofs.YtoejdgoicoaomaaGreatDoor
open Go.Mini
theorem need_dark {W Hh:Int} {S:ByteArray} {step x:Int}:needO W Hh S [] step x=none:=by
 unfold needO
 have:dist W S [] x=none:=dist_none fun k hk=>by
  induction hk with
  | src h=>cases h
  | step _ _ ih=>exact ih
 rw [this];split<;>rfl
theorem safe_dark {W Hh:Int} {S:ByteArray} {st c ch:Int}:safeB W Hh S [] st c ch=false:=by
 unfold safeB;rw [need_dark];rfl
theorem strand_dark (i:Nat) (s:St):strand1 [] i s=if s.o i=true then s.setR i { s.r i with phase:=4 } else s:=by
 unfold strand1
 rw [safe_dark]
 simp only [Bool.false_eq_true,if_false]
theorem phase_dark {s:St} (hw:s.WF):∀ i,i < 10→(iter (strand1 []) 10 s).o i=true→((iter (strand1 []) 10 s).r i).phase=4:=by
 have h:=iter_ind (f:=strand1 []) (fun n t=>t.WF∧∀ i,i < n→t.o i=true→(t.r i).phase=4) (n:=10) (s:=s) ⟨hw,fun i hi=>absurd hi (Nat.not_lt_zero _)⟩ (fun n t hn ⟨h1,h2⟩=>by
  rw [strand_dark]
  split
  ·refine ⟨h1.sR n _,fun i hi oi=>?_⟩
   rw [h1.setR_r hn]
   split
   ·rfl
   ·rename_i hne;exact h2 i (by omega) oi
  ·rename_i o
   refine ⟨h1,fun i hi oi=>?_⟩
   by_cases e:i=n
   ·subst e;exact absurd oi o
   ·exact h2 i (by omega) oi)
 exact h.2
theorem iter_same {α:Type} {f:Nat→α→α} {n:Nat} {s:α} (h:∀ i,i < n→f i s=s):iter f n s=s:=
 iter_ind (fun _ t=>t=s) rfl fun i t hi e=>by rw [e];exact h i hi
theorem tick_dark {s:St} (h:Rt s) (hd:onL s.S s.off (gr s.W s.H s.S)=[]):∀ i,i < 10→(tickS s).o i=true→((tickS s).r i).phase=4∧((tickS s).r i).cell=(s.r i).cell∧((tickS s).r i).charge=(s.r i).charge:=by
 have q:=(strand_inv (h.inv.tk (s.tick + 1)) []).2.1
 have p:=phase_dark (h.inv.tk (s.tick + 1)).wf
 unfold tickS
 simp only
 rw [hd]
 generalize iter (strand1 []) 10 { s with tick:=s.tick + 1 }=s1 at *
 have e1:iter (assign1 []) 20 s1=s1:=iter_same fun k hk=>by
  unfold assign1
  split
  ·have:cands s1 [] k 10=[]:=by
    unfold cands
    rw [List.filterMap_eq_nil_iff]
    intro i hi
    unfold cand
    split
    ·rw [if_neg]
     intro hc
     rw [Bool.and_eq_true,beq_iff_eq] at hc
     have:=p i (List.mem_range.1 hi) hc.1
     omega
    ·rfl
   rw [this];rfl
  ·rfl
 have e2:iter idle1 10 s1=s1:=iter_same fun i hi=>by
  unfold idle1
  rw [if_neg]
  intro hc
  rw [Bool.and_eq_true,Bool.and_eq_true,beq_iff_eq] at hc
  have:=p i hi hc.1.1
  omega
 have e3:assign [] s1=s1:=by unfold assign;rw [e1,e2]
 rw [e3]
 have e4:iter (act1 [] (placeL s1)) 10 s1=s1:=iter_same fun i hi=>by
  unfold act1
  simp only
  rw [if_neg]
  intro hc
  rw [Bool.and_eq_true,Bool.and_eq_true,bne_iff_ne,bne_iff_ne] at hc
  exact hc.2 (p i hi hc.1.1)
 rw [e4]
 intro i hi oi
 have:=q.rob i
 exact ⟨p i hi oi,this.1,this.2.1⟩
theorem all_dark {S:ByteArray} {o:List Nat} {b:Bool} (h:∀ x ∈ gkind S 67 b,isOff o x.toNat=true):onL S o b=[]:=by
 unfold onL
 rw [List.filter_eq_nil_iff]
 intro x hx
 rw [h x hx];simp
theorem turn_nat' {o:List Nat} (hl:o.length=8) {c x:Int} (hc:0≤c∧c < 64) (hx:0≤x∧x < 64):isOff (turn o c true) x.toNat=if x=c then true else isOff o x.toNat:=by
 have h:=isOff_turn hl (c:=c.toNat) (i:=x.toNat) (by omega) (by omega) true
 rw [show (c.toNat:Int)=c by omega] at h
 rw [h]
 by_cases e:x=c
 ·rw [if_pos e,if_pos (by rw [e])]
 ·rw [if_neg e,if_neg (by omega)]
end Go.Proofs.YtoejdgoicoaomaaGreatDoor
