/- model, plainly: a robot alone, on any right map. -/
import Derived.Test.YtoejdgoicoaomaaGreatDoorLwA
import Derived.Test.YtoejdgoicoaomaaGreatDoorG11
import Derived.Test.YtoejdgoicoaomaaGreatDoorG13
set_option linter.unusedVariables false
set_option linter.unusedSimpArgs false
namespace Go.Proofs.YtoejdgoicoaomaaGreatDoor
open Go.Mini
theorem tick_wait {i k:Nat} {s:St} (h:Solo i k s) {on:List Int} (hon:onL s.S s.off (gr s.W s.H s.S)=on) (hp:(s.r i).phase=0) (hst:(s.t k).st=0) (hs:safeB s.W s.H s.S on 1 (s.r i).cell (s.r i).charge=true) {n:Int} (ht:totO s.W s.H s.S on (s.r i).cell (s.t k).fr (s.t k).dst=some n) (hn:(s.r i).charge < n) (h100:100≤(s.r i).charge):((tickS s).t k).st=0:=by
 obtain ⟨h1,h2⟩:=solo_tick h
 rw [hon] at h1 h2
 have htk:=(h.inv.tsk i h.hi h.oi).idle (.inl hp)
 have hstep:stepS { s with tick:=s.tick + 1 } (s.r i)=1:=by unfold stepS;rw [if_neg (fun x=>x.1 htk)]
 have e1:strand1 on i { s with tick:=s.tick + 1 }={ s with tick:=s.tick + 1 }:=strand_nop h.oi (show safeB s.W s.H s.S on (stepS { s with tick:=s.tick + 1 } (s.r i)) (s.r i).cell (s.r i).charge=true by rw [hstep];exact hs) (show (s.r i).phase≠4 by omega)
 have hsolo0:Solo i k { s with tick:=s.tick + 1 }:=h.keep ⟨rfl,rfl,rfl,rfl,rfl,rfl⟩ (h.inv.tk _)
 have e2:assign1 on k { s with tick:=s.tick + 1 }={ s with tick:=s.tick + 1 }:=by
  have hcd:=solo_cands (s:={ s with tick:=s.tick + 1 }) hsolo0 hp (on:=on) ht
  unfold assign1
  rw [if_pos (by rw [hsolo0.ik];show (true && (s.t k).st == 0)=true;rw [hst];rfl),hcd,bestI_one,if_neg]
  intro hc
  simp only [canB,Bool.and_eq_true,decide_eq_true_iff] at hc
  have:n≤(s.r i).charge:=hc.2
  omega
 have e3:idle1 i { s with tick:=s.tick + 1 }={ s with tick:=s.tick + 1 }:=by
  unfold idle1
  rw [if_neg]
  intro hc
  rw [Bool.and_eq_true,decide_eq_true_iff] at hc
  have:(s.r i).charge < 100:=hc.2
  omega
 simp only [e1,e2,e3] at h1
 have hp':(St.r { s with tick:=s.tick + 1 } i).phase=0:=hp
 have e4:act1 on (placeL { s with tick:=s.tick + 1 }) i { s with tick:=s.tick + 1 }={ s with tick:=s.tick + 1 }:=by
  unfold act1
  simp only [hp']
  rw [if_neg (by simp)]
 rw [h1,e4]
 exact hst
noncomputable def nd (W:Int) (S:ByteArray) (L:List Int) (x:Int):Nat:=(dist W S L x).getD 0
noncomputable def alA (W Hh:Int) (S:ByteArray) (c:Int):St:={ (newS W Hh S).setR 0 ⟨c,200,0,-1,0,0,0⟩ with on:=(newS W Hh S).on.set 0 true }
noncomputable def alT (W Hh:Int) (S:ByteArray) (c a b:Int):St:={ (alA W Hh S c).setT 0 ⟨a,b,0⟩ with is:=(alA W Hh S c).is.set 0 true }
section
variable {W Hh:Int} {S:ByteArray}
theorem nd_spec (hg:gr W Hh S=true) {L:List Int} {c x:Int} (hc:c ∈ L) (ho:opn S c=true) (hx:opn S x=true):dist W S L x=some (nd W S L x)∧Wk W S L (nd W S L x) x∧nd W S L x < 64:=by
 have h0:=dd_spec hg ho hx
 have h2:=wk_mono hc h0.1
 have h64:=(gr_size hg).2.2.2.1
 rcases dist_spec W S L x with ⟨_,h⟩ | ⟨k,h3,h4,h5⟩
 ·exact absurd h2 (h _)
 ·have e:nd W S L x=k:=by unfold nd;rw [h3];rfl
  have:=h5 _ h2
  rw [e];exact ⟨h3,h4,by omega⟩
theorem need_nd (hg:gr W Hh S=true) {L:List Int} (hl:L.length≤64) {c x st:Int} (hc:c ∈ L) (ho:opn S c=true) (hx:opn S x=true) (h1:1≤st) (h2:st≤100):needO W Hh S L st x=some (st * (nd W S L x:Nat)):=by
 unfold needO
 rw [if_pos (by rw [costOK_iff.2 ⟨hg,h1,h2,hl⟩,hx];rfl),(nd_spec hg hc ho hx).1]
 rfl
theorem cost_nd (hg:gr W Hh S=true) {L:List Int} {c x st:Int} (hc:c ∈ L) (ho:opn S c=true) (hx:opn S x=true):(costL W S L st).getD x.toNat 0=st * (nd W S L x:Nat):=by
 have hb:=opn_lt hx
 unfold costL
 rw [List.getD_eq_getElem?_getD,List.getElem?_map,List.getElem?_range (by omega)]
 show costV st (dist W S L (x.toNat:Int))=_
 rw [show (x.toNat:Int)=x by omega,(nd_spec hg hc ho hx).1]
 rfl
theorem tot_nd (hg:gr W Hh S=true) {L:List Int} (hl:L.length≤64) {c a b:Int} (hc:c ∈ L) (ho:opn S c=true) (ha:opn S a=true) (hb:opn S b=true):
 totO W Hh S L c a b=some ((nd W S [a] c:Nat) + 2 * (nd W S [b] a:Nat) + (nd W S L b:Nat):Int):=by
 have e3:=cost_nd hg (st:=1) hc ho hb
 refine totO_good ?_
 have h:=TotR.good (W:=W) (Hh:=Hh) (S:=S) (on:=L) (c:=c) (a:=a) (b:=b) (by unfold totOK;rw [hg,ho,ha,hb];rfl) (by omega) (cst_costL W S [a] 1) (cst_costL W S [b] 2) (cst_costL W S L 1) (by rw [e3];omega)
 rw [e3,cost_nd hg (st:=1) (List.mem_singleton_self a) ha ho,cost_nd hg (st:=2) (List.mem_singleton_self b) hb ha,Int.one_mul,Int.one_mul] at h
 exact h
theorem ch_ne (hg:gr W Hh S=true):∃ c L,gkind S 67 true=c :: L:=by
 obtain ⟨_,h,_⟩:=gr_iff.1 hg
 rcases first_c S with ⟨h1,_⟩ | ⟨o,h1,h2,h3,_⟩
 ·omega
 ·have hm:((o:Nat):Int) ∈ gkind S 67 true:=gkind_mem.2 ⟨rfl,o,rfl,h2,h3⟩
  cases hL:gkind S 67 true with
  | nil=>rw [hL] at hm;cases hm
  | cons c L=>exact ⟨c,L,rfl⟩
theorem ch_len (hg:gr W Hh S=true):(gkind S 67 true).length≤64:=by
 have h1:=gkindN_len S 67 S.size
 have h2:=(gr_size hg).2.2.2.1
 have h3:gkind S 67 true=gkindN S 67 S.size:=rfl
 rw [h3];omega
theorem al_opn {c:Int} (h:c ∈ gkind S 67 true):opn S c=true:=by
 obtain ⟨_,i,rfl,hi,hc⟩:=gkind_mem.1 h
 simp only [opn,bAt,Int.toNat_natCast,hc];simp [hi]
theorem alA_eq (hg:gr W Hh S=true) {c:Int} (hc:opn S c=true):robotA (newS W Hh S) 0 c 200=(alA W Hh S c,0):=by
 have h1:opnG (newS W Hh S) c=true:=by rw [opnG_iff];exact ⟨hg,hc⟩
 have h2:freeB (newS W Hh S) c=true:=by
  unfold freeB
  rw [Bool.or_eq_true];right
  rw [Bool.not_eq_true',decide_eq_false_iff_not]
  intro hm
  obtain ⟨j,hj,e⟩:=placeL_mem.1 hm
  have:=opn_lt hc
  unfold St.pl at e
  rw [newS_o] at e
  simp at e
  omega
 unfold robotA alA
 rw [if_neg (by rw [h1];simp),if_neg (by rw [newS_o];simp),if_neg (by rw [h2];simp)]
 rfl
theorem alA_do (hg:gr W Hh S=true) {c:Int} (hc:opn S c=true):doE (newS W Hh S) 1 0 c 200=0∧(madeS (newS W Hh S) 1 0 c 200).1=alA W Hh S c∧Rt (alA W Hh S c)∧Bnd 1 (alA W Hh S c):=by
 have hm:madeS (newS W Hh S) 1 0 c 200=(alA W Hh S c,[],0):=by unfold madeS;rw [if_pos rfl,alA_eq hg hc]
 have h0:doE (newS W Hh S) 1 0 c 200=0:=by rw [doE_few (newS_rt hg) newS_bnd (by omega),hm]
 obtain ⟨e,_,hr,hb,_⟩:=do_step (newS_rt hg) newS_bnd (by omega) (by omega) h0
 rw [hm] at e
 rw [e] at hr hb
 exact ⟨h0,by rw [hm],hr,hb⟩
theorem alA_o (c:Int) (j:Nat):(alA W Hh S c).o j=decide (j=0):=by
 have:(alA W Hh S c).o j=if j=0 then true else (newS W Hh S).o j:=on_set newS_wf (by omega) (alA W Hh S c) rfl j
 rw [this,newS_o]
 by_cases h:j=0<;>simp [h]
theorem alA_i (c:Int) (j:Nat):(alA W Hh S c).i j=false:=newS_i (W:=W) (Hh:=Hh) (S:=S) j
theorem alA_r (c:Int):(alA W Hh S c).r 0=⟨c,200,0,-1,0,0,0⟩:=by
 have:(alA W Hh S c).r 0=((newS W Hh S).setR 0 ⟨c,200,0,-1,0,0,0⟩).r 0:=rfl
 rw [this,newS_wf.setR_r (by omega),if_pos rfl]
theorem alT_do (hg:gr W Hh S=true) {c a b:Int} (hc:opn S c=true) (ha:opn S a=true) (hb:opn S b=true):doE (alA W Hh S c) 2 0 a b=0∧(madeS (alA W Hh S c) 2 0 a b).1=alT W Hh S c a b∧Rt (alT W Hh S c a b)∧Bnd 2 (alT W Hh S c a b):=by
 obtain ⟨_,_,hr,hb0⟩:=alA_do hg hc
 have h1:opnG (alA W Hh S c) a=true:=by rw [opnG_iff];exact ⟨hg,ha⟩
 have h2:opnG (alA W Hh S c) b=true:=by rw [opnG_iff];exact ⟨hg,hb⟩
 have ht:taskA (alA W Hh S c) 0 a b=(alT W Hh S c a b,0):=by
  unfold taskA alT
  rw [if_neg (by rw [h1,h2];simp),if_neg (by rw [alA_i];simp)]
  rfl
 have hm:madeS (alA W Hh S c) 2 0 a b=(alT W Hh S c a b,[],0):=by unfold madeS;rw [if_neg (by decide),if_pos rfl,ht]
 have h0:doE (alA W Hh S c) 2 0 a b=0:=by rw [doE_few hr hb0 (by omega),hm]
 obtain ⟨e,_,hr2,hb2,_⟩:=do_step hr hb0 (by omega) (by omega) h0
 rw [hm] at e
 rw [e] at hr2 hb2
 exact ⟨h0,by rw [hm],hr2,hb2⟩
theorem alT_solo (hg:gr W Hh S=true) {c a b:Int} (hc:opn S c=true) (ha:opn S a=true) (hb:opn S b=true):Solo 0 0 (alT W Hh S c a b)∧(alT W Hh S c a b).r 0=⟨c,200,0,-1,0,0,0⟩∧(alT W Hh S c a b).t 0=⟨a,b,0⟩:=by
 have hA:=(alA_do hg hc).2.2.1.inv.wf
 have ei:∀ j,(alT W Hh S c a b).i j=if j=0 then true else (alA W Hh S c).i j:=is_set hA (by omega) (alT W Hh S c a b) rfl
 have eo:∀ j,(alT W Hh S c a b).o j=(alA W Hh S c).o j:=fun j=>rfl
 have et:(alT W Hh S c a b).t 0=((alA W Hh S c).setT 0 ⟨a,b,0⟩).t 0:=rfl
 refine ⟨⟨(alT_do hg hc ha hb).2.2.1.inv,by omega,by omega,by rw [eo,alA_o];rfl,by rw [ei];rfl,fun j hj hne=>by rw [eo,alA_o];simp [hne],fun j hj hne=>by rw [ei,if_neg hne,alA_i]⟩,alA_r (W:=W) (Hh:=Hh) (S:=S) c,?_⟩
 rw [et,hA.setT_t (by omega),if_pos rfl]
theorem al_on (hg:gr W Hh S=true) (c a b:Int):onL (alT W Hh S c a b).S (alT W Hh S c a b).off (gr (alT W Hh S c a b).W (alT W Hh S c a b).H (alT W Hh S c a b).S)=gkind S 67 true:=by
 show onL S (List.replicate 8 0) (gr W Hh S)=_
 rw [onL_zero,hg]
theorem al_safe (hg:gr W Hh S=true) {c:Int} (hc:c ∈ gkind S 67 true):safeB W Hh S (gkind S 67 true) 1 c 200=true:=
 safe_of hg (ch_len hg) hc (.src (by simp) (al_opn hc)) (by omega) (by omega) (by show (1:Int) * ((0:Nat):Int)≤200;omega)
theorem al_wait (hg:gr W Hh S=true) {c a b:Int} (hc:c ∈ gkind S 67 true) (ha:opn S a=true) (hb:opn S b=true) (h:(200:Int) < (nd W S [a] c:Nat) + 2 * (nd W S [b] a:Nat) + (nd W S (gkind S 67 true) b:Nat)):((tickS (alT W Hh S c a b)).t 0).st=0:=by
 obtain ⟨h1,h2,h3⟩:=alT_solo hg (al_opn hc) ha hb
 exact tick_wait h1 (al_on hg c a b) (by rw [h2]) (by rw [h3]) (by rw [h2];exact al_safe hg hc) (n:=_) (by rw [h2,h3];exact tot_nd hg (ch_len hg) hc (al_opn hc) ha hb) (by rw [h2];exact h) (by rw [h2];show (100:Int)≤200;omega)
theorem tick_three {s:St} (h:Rt s) {k:Nat} (h3:(s.t k).st=3):((tickS s).t k).st=3:=by
 have:=((tick_inv h.inv h.dist).tsk k).2.2
 omega
theorem al_done (hg:gr W Hh S=true) {c a b:Int} (hc:c ∈ gkind S 67 true) (ha:opn S a=true) (hb:opn S b=true) (h:¬ (200:Int) < (nd W S [a] c:Nat) + 2 * (nd W S [b] a:Nat) + (nd W S (gkind S 67 true) b:Nat))
 (h2:¬ (200:Int) - (nd W S [a] c:Nat) < 2 * (nd W S (gkind S 67 true) a:Nat)) (h3:¬ (200:Int) - (nd W S [a] c:Nat) - 2 * (nd W S [b] a:Nat) < 2 * (nd W S (gkind S 67 true) b:Nat)):
 ((tickN (nd W S [a] c + nd W S [b] a + 4) (alT W Hh S c a b)).t 0).st=3:=by
 obtain ⟨s1,s2,s3⟩:=alT_solo hg (al_opn hc) ha hb
 obtain ⟨_,_,hrt,hbd⟩:=alT_do hg (al_opn hc) ha hb
 have hL:=ch_len hg
 obtain ⟨y,hy,hl⟩:=wk_from (nd_spec hg hc (al_opn hc) hb).2.1
 obtain ⟨y2,hy2,hl2⟩:=wk_from (nd_spec hg hc (al_opn hc) ha).2.1
 have b1:=(nd_spec hg (List.mem_singleton_self a) ha (al_opn hc)).2.2
 have b2:=(nd_spec hg (List.mem_singleton_self b) hb ha).2.2
 have w:Way 0 0 (alT W Hh S c a b) (gkind S 67 true) c a b:=⟨hg,al_on hg c a b,hL,hc,al_opn hc,ha,hb⟩
 have k:=alone_all (n:=nd W S [a] c) (K:=nd W S [b] a) (l:=nd W S (gkind S 67 true) b) (y:=y) w s1 s2 s3 (tot_nd hg hL hc (al_opn hc) ha hb) (by omega) (by omega) rfl rfl hy hl (safe_of hg hL hy2 hl2 (by omega) (by omega) (by omega)) (by omega)
 have r1:=(tickN_rt hrt hbd (nd W S [a] c + nd W S [b] a + 2) (by omega)).1
 have r2:=(tickN_rt hrt hbd (nd W S [a] c + nd W S [b] a + 3) (by omega)).1
 rw [tickN_succ] at r2
 rw [tickN_succ,tickN_succ]
 exact tick_three r2 (tick_three r1 k.2.2.2)
end
end Go.Proofs.YtoejdgoicoaomaaGreatDoor
