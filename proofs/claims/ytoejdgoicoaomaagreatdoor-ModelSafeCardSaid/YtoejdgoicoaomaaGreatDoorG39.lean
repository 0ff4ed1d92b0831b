/- model, plainly: who goes, goes to a neighbour, and is safe there; a tick's commands. -/
import Derived.Test.YtoejdgoicoaomaaGreatDoorG12
import Derived.Test.YtoejdgoicoaomaaGreatDoorG13
import Derived.Test.YtoejdgoicoaomaaGreatDoorG9
set_option linter.unusedVariables false
set_option linter.unusedSimpArgs false
namespace Go.Proofs.YtoejdgoicoaomaaGreatDoor
open Go.Mini
theorem made_safe {s:St} (h:Rt s) {nm:Nat} {a b c:Int} (he:(madeS s nm a b c).2.2=0) {k:Nat} (hk:k < 10) (os:s.o k=true):
 ((madeS s nm a b c).1.r k).cell=(s.r k).cell∨∃ q:Int,(q=1∨q=2)∧((madeS s nm a b c).1.r k).charge=(s.r k).charge - q∧((madeS s nm a b c).1.r k).moved=(s.r k).moved + q∧opn s.S ((madeS s nm a b c).1.r k).cell=true∧((madeS s nm a b c).1.r k).cell ∈ nearL s.W s.S (s.r k).cell∧safeB s.W s.H s.S (onL s.S (madeS s nm a b c).1.off (gr s.W s.H s.S)) q ((madeS s nm a b c).1.r k).cell ((madeS s nm a b c).1.r k).charge=true:=by
 unfold madeS at *
 by_cases n1:nm=1
 ·rw [if_pos n1] at he ⊢
  try simp only at *
  obtain ⟨h0,h1,h2,h3,h4,h5,h6,h7⟩:=robotA_ok he
  have ha:a.toNat < 10:=by omega
  have hw:=h.inv.wf
  rw [h7]
  have tr:({ s.setR a.toNat ⟨b,c,0,-1,0,0,0⟩ with on:=s.on.set a.toNat true }:St).r k=if k=a.toNat then ⟨b,c,0,-1,0,0,0⟩ else s.r k:=hw.setR_r ha _ k
  rw [tr]
  by_cases hia:k=a.toNat
  ·rw [← hia,os] at h5;cases h5
  ·left;rw [if_neg hia]
 rw [if_neg n1] at he ⊢
 by_cases n2:nm=2
 ·rw [if_pos n2] at he ⊢
  try simp only at *
  obtain ⟨_,_,tr,to⟩:=task_rt h he
  try simp only at tr to
  rw [tr];exact .inl rfl
 rw [if_neg n2] at he ⊢
 by_cases n5:nm=5
 ·rw [if_pos n5] at he ⊢
  try simp only at *
  obtain ⟨j,rfl,hj,oj,h7,h8,h9⟩:=tell_rt h he
  rw [h7]
  rw [h.inv.wf.setR_r hj]
  left
  split
  ·rename_i e;subst e;rfl
  ·rfl
 rw [if_neg n5] at he ⊢
 by_cases n34:nm=3∨nm=4
 ·rw [if_pos n34] at he ⊢
  by_cases hb:isChg s b=true
  ·rw [if_pos hb];exact .inl rfl
  ·rw [if_neg hb] at he;simp at he
 rw [if_neg n34] at he ⊢
 by_cases n6:nm=6
 ·rw [if_pos n6]
  try simp only
  have q:=tick_inv h.inv h.dist
  rcases q.rob k hk with ⟨a1,_⟩ | ⟨c,a0,a1,a2,a3,a4,a5,a6⟩
  ·exact .inl a1
  ·refine .inr ⟨c,a2,a1.1,a1.2.1,a3,a4,?_⟩
   rw [q.keep.off];exact a6
 ·rw [if_neg n6] at he;simp at he
theorem cmdsL_succ (s:St) (n:Nat):cmdsL s (n + 1)=cmdsL s n ++ if s.o n=true then [((n:Int),(s.r n).cell)] else []:=by
 unfold cmdsL
 rw [List.range_succ,List.filterMap_append]
 congr 1
 by_cases o:s.o n=true<;>simp [o]
theorem cmdsL_app {s:St} {k:Nat}:∀ {n:Nat},k≤n→∃ l,cmdsL s n=cmdsL s k ++ l
 | 0,h=>by obtain rfl:k=0:=by omega
           exact ⟨[],by simp⟩
 | n + 1,h=>by
   by_cases e:k=n + 1
   ·subst e;exact ⟨[],by simp⟩
   ·obtain ⟨l,hl⟩:=cmdsL_app (s:=s) (k:=k) (n:=n) (by omega)
    exact ⟨_,by rw [cmdsL_succ,hl,List.append_assoc]⟩
theorem cmdsL_at {s:St} {k n:Nat} (hk:k < n) (o:s.o k=true):(cmdsL s k).length < (cmdsL s n).length∧(cmdsL s n).getD (cmdsL s k).length (0,0)=((k:Int),(s.r k).cell):=by
 obtain ⟨l,hl⟩:=cmdsL_app (s:=s) (k:=k + 1) (n:=n) hk
 rw [cmdsL_succ,if_pos o,List.append_assoc] at hl
 rw [hl]
 refine ⟨by simp only [List.length_append,List.length_cons];omega,?_⟩
 rw [List.getD_eq_getElem?_getD,List.getElem?_append_right (Nat.le_refl _),Nat.sub_self]
 rfl
theorem made_cmds (s:St) (nm:Nat) (a b c:Int):(madeS s nm a b c).2.1=if nm=6 then cmdsL (madeS s nm a b c).1 10 else []:=by
 unfold madeS
 by_cases n6:nm=6
 ·rw [if_pos n6,if_neg (by omega),if_neg (by omega),if_neg (by omega),if_neg (by omega),if_pos n6]
 ·rw [if_neg n6]
  (repeat' split)<;>rfl
end Go.Proofs.YtoejdgoicoaomaaGreatDoor
namespace Go.Proofs.YtoejdgoicoaomaaGreatDoor
open Go.Mini
open Go.Proofs.YtoejdgoicoaomaaGreatDoor.Code
attribute [local irreducible] mx ml mld mstep MCalls Ex.thn Ex.inb
variable {E:World→Prop}
def onN (S:ByteArray) (o:List Nat) (n:Nat):List Int:=(gkindN S 67 n).filter fun x=>!isOff o x.toNat
theorem onN_succ (S:ByteArray) (o:List Nat) (n:Nat):onN S o (n + 1)=if S.data.toList.getD n 0 == 67 && !isOff o n then onN S o n ++ [(n:Int)] else onN S o n:=by
 unfold onN
 rw [gkindN_succ]
 cases h:S.data.toList.getD n 0 == 67
 ·simp
 ·rw [if_pos rfl,List.filter_append]
  cases h2:isOff o n<;>simp [h2]
theorem onN_len (S:ByteArray) (o:List Nat) (n:Nat):(onN S o n).length≤n:=Nat.le_trans (List.length_filter_le _ _) (gkindN_len S 67 n)
theorem onL_onN (S:ByteArray) (o:List Nat):onL S o true=onN S o S.size:=rfl
theorem rOn_c {σ:H} {W Hh:Int} {S:ByteArray} (hg:gr W Hh S=true) {o:List Nat} (hl:o.length=8) (ho:∀ b ∈ o,b < 256):
 MCalls E Tryz.prog 23 [mapV W Hh S,offV o] σ (fun v τ=>Out σ τ 1 v (ints (onL S o true))):=by
 refine mcalls_of fn23 (by simp) ?_
 unfold c23 r23 mapV offV
 have hN:=(gr_size hg).2.2.2.1
 refine stepR0 ?_
 generalize hτ:H.push (H.push _ _) _=τ
 have gm:τ.get σ.size=.cells 0 (mapC W Hh S):=by rw [← hτ,H.get_push_ne (by simp),H.get_push_self];rfl
 have go:τ.get (σ.size + 1)=.cells 0 (offC o):=by rw [← hτ];exact H.get_push_self (σ.push _) _
 have e1:Ext σ τ:=hτ ▸ (Ext.push _ _).trans (Ext.push _ _)
 clear hτ
 generalize hio:σ.size + 1=io at go
 generalize him:σ.size=im at gm
 refine mx_loop (fun n ts τ=>∃ (i:Nat) (v:Value),n=S.size - i∧i≤S.size∧Out σ τ 1 v (ints (onN S o i))∧τ.get im=.cells 0 (mapC W Hh S)∧τ.get io=.cells 0 (offC o)∧
  ts 2=.pointer (some ⟨im,0,none⟩)∧ts 3=.pointer (some ⟨io,0,none⟩)∧ts 5=v∧ts 6=.int .i64 ((i:Nat):Int)) S.size ?_ ?_
 ·exact ⟨0,.slice none 0 0,rfl,Nat.zero_le _,Out.nil e1,gm,go,(Sw him),(Sw (An him hio)),Sd0,Sd0⟩
 clear gm go e1
 rintro n ts τ ⟨i,v,rfl,hi,out,gm,go,t2,t3,t5,t6⟩
 rcases Nat.lt_or_ge i S.size with hlt | hge
 ·have hlen:=onN_len S o i
  have hs:=onN_succ S o i
  have hc:(((S.data.toList.getD i 0).toNat:Int) == 67)=(S.data.toList.getD i 0 == 67):=u8eq (S.data.toList.getD i 0) 67 (by omega)
  cases h67:S.data.toList.getD i 0 == 67
  ·rw [h67] at hc hs
   refine stepR (An t2 (An t6 (An gm hc))) ?_
   exact ⟨_,by omega,i + 1,v,rfl,hlt,by rw [hs];exact out,gm,go,(Sw t2),(Sw t3),(Sw t5),Sd0⟩
  ·rw [h67] at hc hs
   refine stepR (An t2 (An t3 (An t6 (An gm hc)))) ?_
   refine ml_loadN (Sw hc) (Sw t3) (row_of go (rowC8 hl)) ?_
   refine stepR (An t6 hc) ?_
   refine ml_call (Sw hc) (Sw t6) (off_c (σ:=τ) hl ho i (by omega)) ?_
   rintro _ τ2 ⟨rfl,e2⟩
   have gm2:=e2.cells gm
   have go2:=e2.cells go
   cases hoff:isOff o i
   ·rw [hoff] at hs
    refine stepR (An hc (An t5 t6)) ?_
    refine ml_appOut Sd0 (Sw t5) Sd0 ((out.of_ext e2).of_ext (Ext.push _ _)) (H.get_push_self _ _) (by omega) (by simp only [appMax];omega) fun v' τ3 out3 keep=>?_
    have gm3:=keep im _ ((Ext.push _ _).cells gm2) (by simp) (by simp)
    have go3:=keep io _ ((Ext.push _ _).cells go2) (by simp) (by simp)
    refine stepR t6 ?_
    exact ⟨_,by omega,i + 1,v',rfl,hlt,by rw [hs];exact out3,gm3,go3,(Sw t2),(Sw t3),Sd0,Sd0⟩
   ·rw [hoff] at hs
    refine stepR (An hc t6) ?_
    exact ⟨_,by omega,i + 1,v,rfl,hlt,by rw [hs];exact out.of_ext e2,gm2,go2,(Sw t2),(Sw t3),(Sw t5),Sd0⟩
 ·have:i=S.size:=by omega
  subst this
  refine stepR (An t2 (An t5 (An t6 gm))) ?_
  refine fin1 ?_
  simp only [go_sem,reduceIte,Nat.reduceEqDiff,reduceCtorEq,Nat.reduceAdd,Nat.reduceLeDiff,Int.reduceNeg,Int.reduceToNat,Int.reduceBEq,Int.reduceBNe,Int.reduceLT,Int.reduceLE,Int.reduceAdd,Int.reduceSub,t5]
  exact out
end Go.Proofs.YtoejdgoicoaomaaGreatDoor
namespace Go.Proofs.YtoejdgoicoaomaaGreatDoor
open Go.Mini
open Go.Proofs.YtoejdgoicoaomaaGreatDoor.Code
attribute [local irreducible] mx ml mld mstep MCalls Ex.thn Ex.inb
variable {E:World→Prop}
theorem need_spec {W Hh:Int} {S:ByteArray} {a:List Int} {step c n:Int} (h:needO W Hh S a step c=some n):costOK W Hh S a step=true∧opn S c=true∧∃ k:Nat,Wk W S a k c∧(∀ j,Wk W S a j c→k≤j)∧n=step * k:=by
 unfold needO at h
 split at h
 ·rename_i h1
  simp only [Bool.and_eq_true] at h1
  refine ⟨h1.1,h1.2,?_⟩
  rcases dist_spec W S a c with ⟨h2,_⟩ | ⟨k,h2,h3,h4⟩
  ·rw [h2] at h;cases h
  ·rw [h2] at h;simp only [Option.map_some,Option.some.injEq] at h;exact ⟨k,h3,h4,h.symm⟩
 ·cases h
end Go.Proofs.YtoejdgoicoaomaaGreatDoor
namespace Go.Proofs.YtoejdgoicoaomaaGreatDoor
open Go.Mini
open Go.Proofs.YtoejdgoicoaomaaGreatDoor.Code
attribute [local irreducible] mx ml mld mstep MCalls Ex.thn Ex.inb
variable {E:World→Prop}
set_option maxHeartbeats 4000000 in
theorem rCosts_c (W Hh:Int) (S:ByteArray) (srcs:List Int) (step:Int) (sv:Value) (σ:H) (hr:Rd σ sv (ints srcs)) (hg:gr W Hh S=true) (h1:1≤step) (h2:step≤100) (hl:srcs.length≤1000):
 MCalls E Tryz.prog 40 [mapV W Hh S,sv,.int .i64 step] σ (fun v τ=>∃ out,Cst W S srcs step out∧Out σ τ 1 v (ints out)):=by
 refine mcalls_of fn40 (by simp) ?_
 unfold c40 r40 mapV
 have hS:=gr_size hg
 have hW:=hS.1
 have hN:=hS.2.2.2.1
 have hsz:(ints srcs).length=srcs.length:=ints_len _
 refine stepR0 ?_
 refine ml_op Sd0 (o_mks1 Sd0 Sd0 (by omega) (by omega)) ?_
 refine stepR0 ?_
 generalize hτ:H.push (H.push _ _) _=τ
 have gm:τ.get σ.size=.cells 0 (mapC W Hh S):=by rw [← hτ,H.get_push_ne (by simp),H.get_push_self];rfl
 have go:τ.get (σ.size + 1)=.cells 1 (ints (List.replicate S.size 0)):=by rw [← hτ];unfold ints;rw [List.map_replicate];exact H.get_push_self (σ.push _) _
 have e1:Ext σ τ:=hτ ▸ (Ext.push _ _).trans (Ext.push _ _)
 have rs:RS σ σ.size (σ.size + 1) (mapC W Hh S) (ints (List.replicate S.size 0)) τ:=⟨e1,go,gm,by omega⟩
 clear hτ gm go e1
 generalize hmid:σ.size=mid at *
 generalize hoid:mid + 1=oid at *
 refine mx_loop (fun n ts τ=>∃ (i:Nat) (out:List Int),n=S.size - i∧i≤S.size∧RS σ mid oid (mapC W Hh S) (ints out) τ∧out.length=S.size∧(∀ m:Nat,m < i→out.getD m 0=if (m:Int) ∈ srcs∧opn S m=true then 0 else -1)∧
  ts 1=sv∧ts 2=.int .i64 step∧ts 3=.pointer (some ⟨mid,0,none⟩)∧ts 7=.int .i64 S.size∧ts 8=.slice (some ⟨oid,0,none⟩) S.size S.size∧ts 9=.int .i64 ((i:Nat):Int)) S.size ?_ ?_
 ·exact ⟨0,_,rfl,Nat.zero_le _,rs,by simp,fun m hm=>absurd hm (Nat.not_lt_zero _),Sd0,Sd0,Sd0,Sd0,Sd0,Sd0⟩
 clear rs
 rintro n ts τ ⟨i,out,rfl,hi,rs,hol,hini,t1,t2,t3,t7,t8,t9⟩
 rcases Nat.lt_or_ge i S.size with hlt | hge
 ·have hopn:=opn_nat hlt
  refine stepR (An t1 (An t2 (An t3 (An t7 (An t8 t9))))) ?_
  refine ml_setI (off:=i) (c:=-1) Sd0 (Sw t9) Sd0 rs.out (by omega) fun τ2 s2=>?_
  have rs2:=rs.set s2
  have hol2:(out.set i (-1)).length=S.size:=by rw [List.length_set];exact hol
  have hi2:(out.set i (-1)).getD i 0=-1:=by rw [getD_set _ _ _ _ _ (by omega),if_pos rfl]
  have hini2:∀ m:Nat,m < i→(out.set i (-1)).getD m 0=if (m:Int) ∈ srcs∧opn S m=true then 0 else -1:=fun m hm=>by
   rw [getD_set _ _ _ _ _ (by omega),if_neg (by omega)];exact hini m hm
  generalize out.set i (-1)=out2 at rs2 hol2 hi2 hini2
  clear rs s2 hol hini
  refine stepR0 ?_
  refine mx_loop (fun n ts τ=>∃ (k:Nat) (out:List Int),n=srcs.length - k∧k≤srcs.length∧RS σ mid oid (mapC W Hh S) (ints out) τ∧out.length=S.size∧(∀ m:Nat,m < i→out.getD m 0=if (m:Int) ∈ srcs∧opn S m=true then 0 else -1)∧
   out.getD i 0=(if (i:Int) ∈ srcs.take k∧opn S i=true then 0 else -1)∧
   ts 1=sv∧ts 2=.int .i64 step∧ts 3=.pointer (some ⟨mid,0,none⟩)∧ts 7=.int .i64 S.size∧ts 8=.slice (some ⟨oid,0,none⟩) S.size S.size∧ts 9=.int .i64 ((i:Nat):Int)∧ts 10=.int .i64 ((k:Nat):Int)) srcs.length ?_ ?_
  ·exact ⟨0,out2,rfl,Nat.zero_le _,rs2,hol2,hini2,by rw [hi2];simp,(Sw t1),(Sw t2),(Sw t3),(Sw t7),(Sw t8),(Sw t9),Sd0⟩
  clear rs2 hol2 hi2 hini2 t1 t2 t3 t7 t8 t9
  rintro n ts τ ⟨k,out,rfl,hk,rs,hol,hini,hik,t1,t2,t3,t7,t8,t9,t10⟩
  refine stepR (An t1 (An t2 (An t3 (An t7 (An t8 (An t9 t10)))))) ?_
  refine ml_len Sd0 (hr.of_ext rs.ext) (Sw t1) ?_
  rcases Nat.lt_or_ge k srcs.length with hlt2 | hge2
  ·refine stepR (An hsz (An t1 (An t2 (An t3 (An t7 (An t8 (An t9 t10))))))) ?_
   refine ml_getS (hr.of_ext rs.ext) (Sw t1) (Sw t10) (by omega) (by rw [Int.toNat_natCast];exact ints_at hlt2) fun p=>?_
   have htk:srcs.take (k + 1)=srcs.take k ++ [srcs.getD k 0]:=by
    rw [List.take_add_one,List.getElem?_eq_getElem hlt2,List.getD_eq_getElem?_getD,List.getElem?_eq_getElem hlt2];rfl
   generalize srcs.getD k 0=s at htk
   have hmap:=rs.map
   have same:∀ {P:Prop},¬ (s=(i:Int)∧opn S i=true)→out.getD i 0=(if (i:Int) ∈ srcs.take (k + 1)∧opn S i=true then 0 else -1):=fun {P} hn=>by
    rw [hik,htk]
    have:((i:Int) ∈ srcs.take k∧opn S i=true)↔((i:Int) ∈ srcs.take k ++ [s]∧opn S i=true):=by
     rw [List.mem_append,List.mem_singleton]
     constructor
     ·exact fun h=>⟨.inl h.1,h.2⟩
     ·rintro ⟨h | h,h2⟩
      ·exact ⟨h,h2⟩
      ·exact absurd ⟨h.symm,h2⟩ hn
    simp only [this]
   by_cases hs:s=(i:Int)
   ·have hs':(s == (i:Int))=true:=by simpa using hs
    refine stepR (An t9 (An hs' (An t3 hmap))) ?_
    rcases Bool.eq_false_or_eq_true (opn S i) with hop | hop
    rotate_left
    ·rw [hop] at hopn
     refine stepR (An hopn t10) ?_
     refine ⟨_,?_,k + 1,out,rfl,hlt2,rs,hol,hini,same (P:=True) (fun h=>by rw [h.2] at hop;cases hop),(Sw t1),(Sw t2),(Sw t3),(Sw t7),(Sw t8),(Sw t9),Sd0⟩
     omega
    ·rw [hop] at hopn
     refine stepR (An hopn (An t8 t9)) ?_
     refine ml_setI (off:=i) (c:=0) Sd0 (Sw t9) Sd0 rs.out (by omega) fun τ2 s2=>?_
     refine stepR t10 ?_
     refine ⟨_,?_,k + 1,_,rfl,hlt2,rs.set s2,by rw [List.length_set];exact hol,fun m hm=>?_,?_,(Sw t1),(Sw t2),(Sw t3),(Sw t7),(Sw t8),(Sw t9),Sd0⟩
     ·omega
     ·rw [getD_set _ _ _ _ _ (by omega),if_neg (by omega)];exact hini m hm
     ·rw [getD_set _ _ _ _ _ (by omega),if_pos rfl,htk,hs,if_pos];simp [hop]
   ·have hs':(s == (i:Int))=false:=by simpa using hs
    refine stepR (An t9 (An hs' t10)) ?_
    refine ⟨_,?_,k + 1,out,rfl,hlt2,rs,hol,hini,same (P:=True) (fun h=>hs h.1),(Sw t1),(Sw t2),(Sw t3),(Sw t7),(Sw t8),(Sw t9),Sd0⟩
    omega
  ·have hkk:k=srcs.length:=by omega
   subst hkk
   rw [List.take_length] at hik
   refine stepR (An hsz (An t9 t10)) ?_
   refine ⟨_,?_,i + 1,out,rfl,hlt,rs,hol,fun m hm=>?_,(Sw t1),(Sw t2),(Sw t3),(Sw t7),(Sw t8),Sd0⟩
   ·omega
   ·by_cases hm2:m < i
    ·exact hini m hm2
    ·have:m=i:=by omega
     subst this;exact hik
 ·have hii:i=S.size:=by omega
  subst hii
  obtain ⟨hsnd,hcmp⟩:=Snd.start (W:=W) h1 hol hini
  refine stepR (An t1 (An t2 (An t3 (An t7 (An t8 t9))))) ?_
  refine mx_loop (fun n ts τ=>∃ (r:Nat) (out:List Int),n=S.size - r∧r≤S.size∧RS σ mid oid (mapC W Hh S) (ints out) τ∧Snd W S srcs step out∧Cmp W S srcs step r out∧
   ts 2=.int .i64 step∧ts 3=.pointer (some ⟨mid,0,none⟩)∧ts 7=.int .i64 S.size∧ts 8=.slice (some ⟨oid,0,none⟩) S.size S.size∧ts 11=.int .i64 ((r:Nat):Int)) S.size ?_ ?_
  ·exact ⟨0,out,rfl,Nat.zero_le _,rs,hsnd,hcmp,(Sw t2),(Sw t3),(Sw t7),(Sw t8),Sd0⟩
  clear rs hol t1 t2 t3 t7 t8 t9 hini hsnd hcmp hge hi out
  rintro n ts τ ⟨r,out,rfl,hrn,rs,hsnd,hcmp,t2,t3,t7,t8,t11⟩
  rcases Nat.lt_or_ge r S.size with hlt | hge
  ·refine stepR (An t2 (An t3 (An t7 (An t8 t11)))) ?_
   refine mx_loop (fun n ts τ=>∃ (i:Nat) (out:List Int),n=S.size - i∧i≤S.size∧RS σ mid oid (mapC W Hh S) (ints out) τ∧P1 W S srcs step r i out∧
    ts 2=.int .i64 step∧ts 3=.pointer (some ⟨mid,0,none⟩)∧ts 7=.int .i64 S.size∧ts 8=.slice (some ⟨oid,0,none⟩) S.size S.size∧ts 11=.int .i64 ((r:Nat):Int)∧ts 12=.int .i64 ((i:Nat):Int)) S.size ?_ ?_
   ·exact ⟨0,out,rfl,Nat.zero_le _,rs,P1.start hsnd hcmp,(Sw t2),(Sw t3),(Sw t7),(Sw t8),(Sw t11),Sd0⟩
   clear rs t2 t3 t7 t8 t11 hsnd hcmp out
   rintro n ts τ ⟨i,out,rfl,hin,rs,hp1,t2,t3,t7,t8,t11,t12⟩
   rcases Nat.lt_or_ge i S.size with hilt | hige
   ·have hopn:=opn_nat hilt
    refine stepR (An t2 (An t3 (An t7 (An t8 (An t11 t12))))) ?_
    refine mx_loop (fun n ts τ=>∃ (j:Nat) (out:List Int),n=S.size - j∧j≤S.size∧RS σ mid oid (mapC W Hh S) (ints out) τ∧P2 W S srcs step r i j out∧(opn S i=false→j=0)∧
     ts 2=.int .i64 step∧ts 3=.pointer (some ⟨mid,0,none⟩)∧ts 7=.int .i64 S.size∧ts 8=.slice (some ⟨oid,0,none⟩) S.size S.size∧ts 11=.int .i64 ((r:Nat):Int)∧ts 12=.int .i64 ((i:Nat):Int)∧ts 13=.int .i64 ((j:Nat):Int)) S.size ?_ ?_
    ·exact ⟨0,out,rfl,Nat.zero_le _,rs,P2.start hp1,fun _=>rfl,(Sw t2),(Sw t3),(Sw t7),(Sw t8),(Sw t11),(Sw t12),Sd0⟩
    clear rs t2 t3 t7 t8 t11 t12 hp1 out
    rintro n ts τ ⟨j,out,rfl,hjn,rs,hp2,hj0,t2,t3,t7,t8,t11,t12,t13⟩
    have hmap:=rs.map
    rcases Bool.eq_false_or_eq_true (opn S i) with hop | hop
    ·rw [hop] at hopn
     rcases Nat.lt_or_ge j S.size with hjlt | hjge
     ·have hjI:(j:Int) < (S.size:Int):=by omega
      refine stepR (An t3 (An t7 (An t12 (An t13 (An hmap (An hopn hjI)))))) ?_
      refine mld_callW Sd0 (Sw (An t12 t13)) (rBeside_c W i j τ hW (by omega) (by omega)) ?_
      rintro _ τ ⟨rfl,rfl⟩
      have hlen:=hp2.1.1.len
      have skip:¬ (beside W i j=true∧0≤out.getD j 0∧(out.getD i 0 < 0∨out.getD j 0 + step < out.getD i 0))→P2 W S srcs step r i (j + 1) out:=P2.skip hW hp2 hop
      have hset:=P2.set hW h1 hp2 hop hjlt
      have hbj:=hp2.1.1.bnd j hjlt
      have hb64:step * ((S.size - unf out:Nat):Int)≤100 * 64:=Int.mul_le_mul h2 (by omega) (by omega) (by omega)
      rcases Bool.eq_false_or_eq_true (beside W i j) with hb | hb
      rotate_left
      ·refine stepR (An hb t13) ?_
       exact ⟨_,by omega,j + 1,out,rfl,hjlt,rs,skip (fun h=>nomatch hb.symm.trans h.1),(fun h=>nomatch hop.symm.trans h),(Sw t2),(Sw t3),(Sw t7),(Sw t8),(Sw t11),(Sw t12),Sd0⟩
      have ho:=rs.out
      refine stepR (An hb (An t8 t13)) ?_
      refine mld_getI (off:=j) (Sw hb) (Sw t13) ho (by omega) ?_
      by_cases hj1:0≤out.getD j 0
      rotate_left
      ·refine stepR (An hb (An hj1 t13)) ?_
       exact ⟨_,by omega,j + 1,out,rfl,hjlt,rs,skip (fun h=>hj1 h.2.1),(fun h=>nomatch hop.symm.trans h),(Sw t2),(Sw t3),(Sw t7),(Sw t8),(Sw t11),(Sw t12),Sd0⟩
      refine stepR (An hb (An hj1 (An t8 t12))) ?_
      refine mld_getI (off:=i) (Sw (An hb hj1)) (Sw t12) ho (by omega) ?_
      have fin:(out.getD i 0 < 0∨out.getD j 0 + step < out.getD i 0)→∀ {ts:Fr} {K:Fr→H→Prop},(ts 2=.int .i64 step∧ts 3=.pointer (some ⟨mid,0,none⟩)∧ts 7=.int .i64 S.size∧ts 8=.slice (some ⟨oid,0,none⟩) S.size S.size)→ts 11=.int .i64 ((r:Nat):Int)→ts 12=.int .i64 ((i:Nat):Int)→ts 13=.int .i64 ((j:Nat):Int)→ts 103=.slice (some ⟨oid,0,none⟩) S.size S.size→ts 104=.int .i64 ((i:Nat):Int)→ts 107=.pointer (some ⟨oid,j,none⟩)→
       (∀ ts τ' out',RS σ mid oid (mapC W Hh S) (ints out') τ'→P2 W S srcs step r i (j + 1) out'→(ts 2=.int .i64 step∧ts 3=.pointer (some ⟨mid,0,none⟩)∧ts 7=.int .i64 S.size∧ts 8=.slice (some ⟨oid,0,none⟩) S.size S.size)→ts 11=.int .i64 ((r:Nat):Int)→ts 12=.int .i64 ((i:Nat):Int)→ts 13=.int .i64 ((j:Nat):Int)→K ts τ')→
       ml E Tryz.prog [⟨some 108,.load1 (.t 107),none⟩,⟨some 109,.mv (.t 2),none⟩,⟨some 110,.bin .add (.t 108) (.t 109),none⟩,⟨some 111,.iaS 1 (.t 103) (.t 104),none⟩,⟨none,.store 1 (.t 111) (.t 110),none⟩] K ts τ:=by
       rintro hc ts K ⟨t2,t3,t7,t8⟩ t11 t12 t13 t103 t104 t107 hK
       refine ml_getI (off:=j) Sd0 (Sw t107) ho (by omega) ?_
       refine stepR (An t2 (An t103 t104)) ?_
       refine ml_setI (off:=i) (c:=out.getD j 0 + step) Sd0 (Sw t12) Sd0 ho (by omega) fun τ2 s2=>?_
       exact ml_nil (hK _ _ _ (rs.set s2) (hset hb hj1 hc) ⟨(Sw t2),(Sw t3),(Sw t7),(Sw t8)⟩ (Sw t11) (Sw t12) (Sw t13))
      by_cases hi1:out.getD i 0 < 0
      ·refine stepR (An hb (An hj1 (An hi1 (An t8 (An t12 t13))))) ?_
       refine fin (.inl hi1) ?_ ?_ ?_ ?_ ?_ ?_ ?_ ?_
       ·exact ⟨(Sw t2),(Sw t3),(Sw t7),(Sw t8)⟩
       ·exact (Sw t11)
       ·exact (Sw t12)
       ·exact (Sw t13)
       ·exact (Sw t8)
       ·exact (Sw t12)
       ·exact (Sw t13)
       rintro ts τ' out' rs' hp' ⟨t2,t3,t7,t8⟩ t11 t12 t13
       refine stepR t13 ?_
       exact ⟨_,by omega,j + 1,out',rfl,hjlt,rs',hp',(fun h=>nomatch hop.symm.trans h),(Sw t2),(Sw t3),(Sw t7),(Sw t8),(Sw t11),(Sw t12),Sd0⟩
      refine stepR (An hb (An hj1 (An hi1 (An t8 t13)))) ?_
      refine mld_getI (off:=j) (Sw (An hb (An hj1 hi1))) (Sw t13) ho (by omega) ?_
      refine stepR (An hb (An hj1 (An hi1 (An t2 (An t8 t12))))) ?_
      refine mld_getI (off:=i) (Sw (An hb (An hj1 hi1))) (Sw t12) ho (by omega) ?_
      by_cases hi2:out.getD j 0 + step < out.getD i 0
      ·refine stepR (An hb (An hj1 (An hi1 (An hi2 (An t8 (An t12 t13)))))) ?_
       refine fin (.inr hi2) ?_ ?_ ?_ ?_ ?_ ?_ ?_ ?_
       ·exact ⟨(Sw t2),(Sw t3),(Sw t7),(Sw t8)⟩
       ·exact (Sw t11)
       ·exact (Sw t12)
       ·exact (Sw t13)
       ·exact (Sw t8)
       ·exact (Sw t12)
       ·exact (Sw t13)
       rintro ts τ' out' rs' hp' ⟨t2,t3,t7,t8⟩ t11 t12 t13
       refine stepR t13 ?_
       exact ⟨_,by omega,j + 1,out',rfl,hjlt,rs',hp',(fun h=>nomatch hop.symm.trans h),(Sw t2),(Sw t3),(Sw t7),(Sw t8),(Sw t11),(Sw t12),Sd0⟩
      ·refine stepR (An hb (An hj1 (An hi1 (An hi2 t13)))) ?_
       exact ⟨_,by omega,j + 1,out,rfl,hjlt,rs,skip (fun h=>by rcases h.2.2 with h | h;exact hi1 h;exact hi2 h),(fun h=>nomatch hop.symm.trans h),(Sw t2),(Sw t3),(Sw t7),(Sw t8),(Sw t11),(Sw t12),Sd0⟩
     ·have:j=S.size:=by omega
      subst this
      have hjI:¬ (S.size:Int) < (S.size:Int):=by omega
      refine stepR (An t7 (An t12 (An t13 hjI))) ?_
      exact ⟨_,by omega,i + 1,out,rfl,hilt,rs,P2.done hp2,(Sw t2),(Sw t3),(Sw t7),(Sw t8),(Sw t11),Sd0⟩
    ·rw [hop] at hopn
     have hj00:=hj0 hop
     have hjI:(j:Int) < (S.size:Int):=by omega
     refine stepR (An t3 (An t7 (An t12 (An t13 (An hmap (An hopn hjI)))))) ?_
     exact ⟨_,by omega,i + 1,out,rfl,hilt,rs,P1.wall hp2.1 hop,(Sw t2),(Sw t3),(Sw t7),(Sw t8),(Sw t11),Sd0⟩
   ·have:i=S.size:=by omega
    subst this
    obtain ⟨hs',hc'⟩:=P1.done hp1
    refine stepR (An t7 (An t11 t12)) ?_
    exact ⟨_,by omega,r + 1,out,rfl,hlt,rs,hs',hc',(Sw t2),(Sw t3),(Sw t7),(Sw t8),Sd0⟩
  ·have:r=S.size:=by omega
   subst this
   refine stepR (An t7 (An t8 t11)) ?_
   refine fin1 ?_
   simp only [go_sem,reduceIte,Nat.reduceEqDiff,reduceCtorEq,Nat.reduceAdd,Nat.reduceLeDiff,Int.reduceNeg,Int.reduceToNat,Int.reduceBEq,Int.reduceBNe,Int.reduceLT,Int.reduceLE,Int.reduceAdd,Int.reduceSub,t8]
   refine ⟨out,Cmp.all h1 hsnd hcmp,rs.ext,some oid,.full rs.out (by rw [ints_len,hsnd.len,Nat.mul_one]),fun id hid=>?_⟩
   cases hid;exact rs.ho
end Go.Proofs.YtoejdgoicoaomaaGreatDoor
namespace Go.Proofs.YtoejdgoicoaomaaGreatDoor
open Go.Mini
open Go.Proofs.YtoejdgoicoaomaaGreatDoor.Code
attribute [local irreducible] mx ml mld mstep MCalls Ex.thn Ex.inb
variable {E:World→Prop}
theorem need_nonneg {W Hh:Int} {S:ByteArray} {a:List Int} {step c n:Int} (h:needO W Hh S a step c=some n):0≤n∧1≤step∧step≤100∧opn S c=true∧gr W Hh S=true:=by
 obtain ⟨hok,ho,k,_,_,rfl⟩:=need_spec h
 obtain ⟨hg,h1,h2,_⟩:=costOK_iff.1 hok
 exact ⟨Int.mul_nonneg (by omega) (by omega),h1,h2,ho,hg⟩
theorem need_costV {W Hh:Int} {S:ByteArray} {a:List Int} {step c:Int} (hok:costOK W Hh S a step=true):costV step (dist W S a c)=(needO W Hh S a step c).getD (-1):=by
 unfold needO
 rw [hok,Bool.true_and]
 cases ho:opn S c
 ·have:dist W S a c=none:=dist_none fun k hk=>by have:=hk.opn;rw [ho] at this;cases this
  rw [this];rfl
 ·rw [if_pos rfl]
  cases dist W S a c<;>rfl
theorem rNeed_c {σ:H} (W Hh:Int) (S:ByteArray) {ov:Value} {on:List Int} (hr:Rd σ ov (ints on)) (hl:on.length≤1000) (c step:Int):
 MCalls E Tryz.prog 25 [mapV W Hh S,ov,.int .i64 c,.int .i64 step] σ (fun v τ=>v=.int .i64 ((needO W Hh S on step c).getD (-1))∧Ext σ τ):=by
 refine mcalls_of fn25 (by simp) ?_
 unfold c25 r25 mapV
 have hln:(ints on).length=on.length:=ints_len _
 refine stepR0 ?_
 generalize hτ:H.push _ _=τ
 have gm:τ.get σ.size=.cells 0 (mapC W Hh S):=by rw [← hτ];exact H.get_push_self _ _
 have e1:Ext σ τ:=hτ ▸ Ext.push _ _
 clear hτ
 refine stepR gm ?_
 refine ml_call Sd0 Sd0 (rRight_c W Hh S τ) ?_
 rintro _ τ2 ⟨rfl,e2⟩
 have gm2:=e2.cells gm
 have e12:=e1.trans e2
 have rd2:=hr.of_ext e12
 refine ml_mid (fun ts τ=>τ=τ2∧ts 1=ov∧ts 2=.int .i64 c∧ts 3=.int .i64 step∧ts 4=.pointer (some ⟨σ.size,0,none⟩)∧ts 35=.bool (!(costOK W Hh S on step && (decide (0≤c) && decide (c < S.size))))) ?_ ?_
 ·cases hg:gr W Hh S
  ·have hk:costOK W Hh S on step=false:=by unfold costOK;rw [hg];rfl
   refine stepR0 ?_
   exact ⟨rfl,Sd0,Sd0,Sd0,Sd0,(Sw hk)⟩
  by_cases h1:step < 1
  ·have hk:costOK W Hh S on step=false:=by rw [← Bool.not_eq_true,costOK_iff];omega
   refine stepR h1 ?_
   exact ⟨rfl,Sd0,Sd0,Sd0,Sd0,(Sw (An hk h1))⟩
  by_cases h2:100 < step
  ·have hk:costOK W Hh S on step=false:=by rw [← Bool.not_eq_true,costOK_iff];omega
   refine stepR (An h1 h2) ?_
   exact ⟨rfl,Sd0,Sd0,Sd0,Sd0,(Sw (An hk (An h1 h2)))⟩
  refine stepR (An h1 h2) ?_
  refine ml_len (Sw (An h1 h2)) rd2 Sd0 ?_
  rw [hln]
  by_cases h3:(64:Int) < (on.length:Int)
  ·have hk:costOK W Hh S on step=false:=by rw [← Bool.not_eq_true,costOK_iff];omega
   refine stepR (An h1 (An h2 h3)) ?_
   exact ⟨rfl,Sd0,Sd0,Sd0,Sd0,(Sw (An hk (An h1 (An h2 h3))))⟩
  have hk:costOK W Hh S on step=true:=costOK_iff.2 ⟨hg,by omega,by omega,by omega⟩
  by_cases h4:c < 0
  ·have h4':¬ 0≤c:=by omega
   refine stepR (An h1 (An h2 (An h3 h4))) ?_
   exact ⟨rfl,Sd0,Sd0,Sd0,Sd0,(Sw (An hk (An h1 (An h2 (An h3 (An h4 h4'))))))⟩
  have h4':0≤c:=by omega
  by_cases h5:(S.size:Int)≤c
  ·have h5':¬ c < (S.size:Int):=by omega
   refine stepR (An h1 (An h2 (An h3 (An h4 (An h5 gm2))))) ?_
   exact ⟨rfl,Sd0,Sd0,Sd0,Sd0,(Sw (An hk (An h1 (An h2 (An h3 (An h4 (An h4' (An h5 h5'))))))))⟩
  ·have h5':c < (S.size:Int):=by omega
   refine stepR (An h1 (An h2 (An h3 (An h4 (An h5 gm2))))) ?_
   exact ⟨rfl,Sd0,Sd0,Sd0,Sd0,(Sw (An hk (An h1 (An h2 (An h3 (An h4 (An h4' (An h5 h5'))))))))⟩
 rintro ts τ2 ⟨rfl,t1,t2,t3,t4,t35⟩
 have hnone:(costOK W Hh S on step && (decide (0≤c) && decide (c < S.size)))=false→needO W Hh S on step c=none:=fun h=>by
  cases hn:needO W Hh S on step c with
  | none=>rfl
  | some n=>
    obtain ⟨hok,ho,_⟩:=need_spec hn
    have:=opn_lt ho
    rw [hok,decide_eq_true this.1,decide_eq_true this.2] at h;cases h
 rcases Bool.eq_false_or_eq_true (costOK W Hh S on step && (decide (0≤c) && decide (c < S.size))) with hk | hk
 ·rw [hk] at t35
  simp only [Bool.and_eq_true,decide_eq_true_eq] at hk
  obtain ⟨hok,hc0,hc1⟩:=hk
  obtain ⟨hg,h1,h2,h3⟩:=costOK_iff.1 hok
  refine stepR (An t35 (An t1 (An t3 (An t4 gm2)))) ?_
  refine ml_call Sd0 (Sw (An t1 t3)) (rCosts_c W Hh S on step ov τ2 rd2 hg h1 h2 hl) ?_
  rintro vo τ3 ⟨out,hcst,e3,oid,own,_⟩
  have hct:c.toNat < S.size:=by omega
  have hget:=ints_at (l:=out) (i:=c.toNat) (by rw [hcst.1];exact hct)
  rw [hcst.get hct,Int.toNat_of_nonneg hc0,need_costV hok] at hget
  refine stepR t2 ?_
  refine ml_getS own.rd Sd0 (Sw t2) hc0 hget fun p=>?_
  refine stepR0 ?_
  exact fin1 ⟨Sd0,e12.trans e3⟩
 ·rw [hk] at t35
  rw [hnone hk]
  refine stepR t35 ?_
  exact fin1 ⟨Sd0,e12⟩
end Go.Proofs.YtoejdgoicoaomaaGreatDoor
namespace Go.Proofs.YtoejdgoicoaomaaGreatDoor
open Go.Mini
open Go.Proofs.YtoejdgoicoaomaaGreatDoor.Code
attribute [local irreducible] mx ml mld mstep MCalls Ex.thn Ex.inb
variable {E:World→Prop}
end Go.Proofs.YtoejdgoicoaomaaGreatDoor
