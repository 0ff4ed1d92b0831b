/- Part of the proof. -/
import Derived.Test.YtoejdgoicoaomaaGreatDoorCode
import Derived.Test.YtoejdgoicoaomaaGreatDoorG6
import Derived.Test.YtoejdgoicoaomaaGreatDoorShelf
set_option linter.unusedVariables false
set_option linter.unusedSimpArgs false
namespace Go.Proofs.YtoejdgoicoaomaaGreatDoor
open Go.Mini
open Go.Proofs.YtoejdgoicoaomaaGreatDoor.Code
attribute [local irreducible] mx ml mld mstep MCalls Ex.thn Ex.inb
variable {E:World→Prop}
def bAt (S:ByteArray) (c:Int):UInt8:=S.data.toList.getD c.toNat 0
def opn (S:ByteArray) (c:Int):Bool:=decide (0≤c) && decide (c < S.size) && (bAt S c != 35)
def mapC (W Hh:Int) (S:ByteArray):List Value:=[.int .i64 W,.int .i64 Hh,.string S]
def mapV (W Hh:Int) (S:ByteArray):Value:=.agg #[.int .i64 W,.int .i64 Hh,.string S]
attribute [go_sem] mapC mapV
set_option maxHeartbeats 400000 in
theorem open_c (W Hh:Int) (S:ByteArray) (c:Int) (σ:H):MCalls E Tryz.prog 66 [mapV W Hh S,.int .i64 c] σ (fun v τ=>v=.bool (opn S c)∧Ext σ τ):=by
 refine mcalls_of fn66 (by simp) ?_
 unfold c66 r66 mapV
 by_cases h0:0≤c
 ·by_cases h1:c < S.size
  ·refine stepR (An h0 h1) ?_
   refine fin1 ⟨?_,Ext.push _ _⟩
   have:=u8ne (S.data.toList.getD c.toNat 0) 35 (by omega)
   simp only [go_sem,reduceIte,Nat.reduceEqDiff,reduceCtorEq,Nat.reduceAdd,Nat.reduceLeDiff,Int.reduceNeg,Int.reduceToNat,Int.reduceBEq,Int.reduceBNe,Int.reduceLT,Int.reduceLE,Int.reduceAdd,Int.reduceSub,opn,h0,h1,bAt]
   try simpa using this
  ·refine stepR (An h0 h1) ?_
   refine fin1 ⟨?_,Ext.push _ _⟩
   simp only [go_sem,reduceIte,Nat.reduceEqDiff,reduceCtorEq,Nat.reduceAdd,Nat.reduceLeDiff,Int.reduceNeg,Int.reduceToNat,Int.reduceBEq,Int.reduceBNe,Int.reduceLT,Int.reduceLE,Int.reduceAdd,Int.reduceSub,opn,h0,h1,bAt]
   try simp
 ·refine stepR h0 ?_
  refine fin1 ⟨?_,Ext.push _ _⟩
  simp only [go_sem,reduceIte,Nat.reduceEqDiff,reduceCtorEq,Nat.reduceAdd,Nat.reduceLeDiff,Int.reduceNeg,Int.reduceToNat,Int.reduceBEq,Int.reduceBNe,Int.reduceLT,Int.reduceLE,Int.reduceAdd,Int.reduceSub,opn,h0,bAt]
  try simp
structure NS (σ0:H) (mid oc:Nat) (mv:List Value) (l:List Int) (τ:H):Prop where
 ext:Ext σ0 τ
 hm:σ0.size≤mid
 ho:σ0.size≤oc
 ne:mid≠oc
 gm:τ.get mid=.cells 0 mv
 go:∃ sl ow,τ.get oc=.cells 0 [sl]∧Own τ 1 sl ow (ints l)∧∀ id,ow=some id→σ0.size≤id∧id≠mid∧id≠oc
set_option maxHeartbeats 400000 in
theorem near1_c {σ0 σ:H} {mid oc:Nat} {W Hh:Int} {S:ByteArray} {l:List Int} (n:Int) (is:Bool) (hl:l.length < appMax) (h:NS σ0 mid oc (mapC W Hh S) l σ):
 MCalls E Tryz.prog 113 [.int .i64 n,.bool is,.pointer (some ⟨mid,0,none⟩),.pointer (some ⟨oc,0,none⟩)] σ
  (fun v τ=>NS σ0 mid oc (mapC W Hh S) (if is && opn S n then l ++ [n] else l) τ):=by
 obtain ⟨he,hm,ho,hne,gm,sl,ow,go,own,hid⟩:=h
 refine mcalls_of fn113 (by simp) ?_
 unfold c113 r113
 cases is
 ·refine stepR0 ?_
  exact fin0n ⟨he,hm,ho,hne,gm,sl,ow,go,own,hid⟩
 ·refine stepR gm ?_
  refine ml_call Sd0 Sd0 (open_c W Hh S n σ) ?_
  rintro _ τ ⟨rfl,e1⟩
  have go1:=e1.cells go
  have gm1:=e1.cells gm
  have own1:=own.of_ext e1
  cases hop:opn S n
  ·refine stepR gm ?_
   exact fin0n ⟨he.trans e1,hm,ho,hne,gm1,sl,ow,go1,own1,hid⟩
  ·refine stepR (An gm go1) ?_
   refine ml_appI Sd0 Sd0 Sd0 (own1.of_ext (Ext.push _ _)) (H.get_push_self _ _) (by omega) hl ?_
   intro v' τ' o2 s2 k2
   have hoc:=H.lt_of_cells go1
   have hmc:=H.lt_of_cells gm1
   have hoo:ow≠some oc:=fun e=>(hid _ e).2.2 rfl
   have hom:ow≠some mid:=fun e=>(hid _ e).2.1 rfl
   have goc:τ'.get oc=.cells 0 [sl]:=by rw [k2 oc (by simp;omega) hoo,H.get_push_lt hoc];exact go1
   have gmc:τ'.get mid=.cells 0 (mapC W Hh S):=by rw [k2 mid (by simp;omega) hom,H.get_push_lt hmc];exact gm1
   refine ml_store1 Sd0 Sd0 rfl o2.cells1 o2.one1 goc (by simp) ?_
   refine stepR0 ?_
   have hs0:=he.size
   have hs1:=e1.size
   simp only [H.size_push] at s2 o2 k2
   refine fin0n ⟨Ext.set' ⟨by omega,fun i hi=>?_⟩ ho _,hm,ho,hne,?_,v',some (τ.size + 1),?_,?_,?_⟩
   ·rw [k2 i (by omega) (fun e=>by have:=(hid _ e).1;omega),H.get_push_lt (by omega),e1.get i (by omega),he.get i hi]
   ·rw [H.get_set_ne hne];exact gmc
   ·rw [H.get_set_self (by omega)];rfl
   ·exact o2.ext fun i hi=>H.get_set_ne (by injection hi;omega)
   ·intro id hi;injection hi;omega
def nadd (S:ByteArray) (n:Int) (is:Bool) (l:List Int):List Int:=if is && opn S n then l ++ [n] else l
theorem nadd_len (S:ByteArray) (n:Int) (is:Bool) (l:List Int):(nadd S n is l).length≤l.length + 1:=by
 unfold nadd;split<;>simp
def nearL (W:Int) (S:ByteArray) (c:Int):List Int:=
 nadd S (c + W) true (nadd S (c + 1) (decide (c.tmod W < W - 1)) (nadd S (c - 1) (decide (c.tmod W > 0)) (nadd S (c - W) true [])))
set_option maxHeartbeats 1000000 in
theorem near_c (W Hh:Int) (S:ByteArray) (c:Int) (σ:H) (hW:1≤W) (hW2:W≤1000) (hc:0≤c) (hc2:c≤1000):
 MCalls E Tryz.prog 74 [mapV W Hh S,.int .i64 c] σ (fun v τ=>Out σ τ 1 v (ints (nearL W S c))):=by
 refine mcalls_of fn74 (by simp) ?_
 unfold c74 r74 mapV
 have hlt:σ.size≠σ.size + 1:=by omega
 refine stepR0 ?_
 generalize hτ:((σ.push _).push _)=τ
 have g1:τ.get σ.size=.cells 0 [.int .i64 W,.int .i64 Hh,.string S]:=by rw [← hτ,H.get_push_ne (by simp),H.get_push_self]
 have n0:NS σ σ.size (σ.size + 1) (mapC W Hh S) [] τ:=by
  subst hτ
  exact ⟨(Ext.push _ _).trans (Ext.push _ _),by omega,by omega,by omega,g1,.slice none 0 0,none,by simpa using H.get_push_self (σ.push _) _,.nil,fun id h=>nomatch h⟩
 have w0:W≠0:=by omega
 have lim:∀ {l:List Int} (k:Nat),l.length≤k→k≤100→l.length < appMax:=fun k h1 h2=>by simp only [appMax];omega
 have hrem1:c.tmod W < W:=Int.tmod_lt_of_pos _ (by omega)
 have hrem0:0≤c.tmod W:=Int.tmod_nonneg _ hc
 refine stepR g1 ?_
 refine ml_callv Sd0 Sd0 Sd0 (near1_c (W:=W) (Hh:=Hh) (S:=S) (l:=[]) (c - W) true (lim 0 (by simp) (by omega)) n0) ?_
 intro _ τ1 n1
 rw [← nadd] at n1
 have g2:=n1.gm
 have l1:=nadd_len S (c - W) true []
 refine stepR g2 ?_
 refine ml_callv Sd0 Sd0 Sd0 (near1_c (c - 1) (decide (c.tmod W > 0)) (lim 1 (by simpa using l1) (by omega)) n1) ?_
 intro _ τ2 n2
 rw [← nadd] at n2
 have g3:=n2.gm
 have l2:=nadd_len S (c - 1) (decide (c.tmod W > 0)) (nadd S (c - W) true [])
 refine stepR g3 ?_
 refine ml_callv Sd0 Sd0 Sd0 (near1_c (c + 1) (decide (c.tmod W < W - 1)) (lim 2 (by simp at l1;omega) (by omega)) n2) ?_
 intro _ τ3 n3
 rw [← nadd] at n3
 have g4:=n3.gm
 have l3:=nadd_len S (c + 1) (decide (c.tmod W < W - 1)) (nadd S (c - 1) (decide (c.tmod W > 0)) (nadd S (c - W) true []))
 refine stepR g4 ?_
 refine ml_callv Sd0 Sd0 Sd0 (near1_c (c + W) true (lim 3 (by simp at l1;omega) (by omega)) n3) ?_
 intro _ τ4 n4
 rw [← nadd] at n4
 obtain ⟨he,_,_,_,gm,sl,ow,go,own,hid⟩:=n4
 refine stepR go ?_
 refine fin1 ?_
 simp only [go_sem,reduceIte,Nat.reduceEqDiff,reduceCtorEq,Nat.reduceAdd,Nat.reduceLeDiff,Int.reduceNeg,Int.reduceToNat,Int.reduceBEq,Int.reduceBNe,Int.reduceLT,Int.reduceLE,Int.reduceAdd,Int.reduceSub]
 exact ⟨he,ow,own,fun id hi=>(hid id hi).1⟩
end Go.Proofs.YtoejdgoicoaomaaGreatDoor
namespace Go.Proofs.YtoejdgoicoaomaaGreatDoor
open Go.Mini
open Go.Proofs.YtoejdgoicoaomaaGreatDoor.Code
attribute [local irreducible] mx ml mld mstep MCalls Ex.thn Ex.inb
variable {E:World→Prop}
def sign (b:UInt8):Bool:=b == 35 || b == 46 || b == 67 || b == 80
theorem sized1_c (n:Int) (σ:H):MCalls E Tryz.prog 68 [.int .i64 n] σ (fun v τ=>v=.bool (decide (1≤n) && decide (n≤8))∧τ=σ):=by
 refine mcalls_of fn68 (by simp) ?_
 unfold c68 r68
 by_cases h0:1≤n
 ·refine stepR h0 ?_
  refine fin1 ⟨?_,rfl⟩
  simp only [go_sem,reduceIte,Nat.reduceEqDiff,reduceCtorEq,Nat.reduceAdd,Nat.reduceLeDiff,Int.reduceNeg,Int.reduceToNat,Int.reduceBEq,Int.reduceBNe,Int.reduceLT,Int.reduceLE,Int.reduceAdd,Int.reduceSub,h0,Bool.true_and]
 ·refine stepR h0 ?_
  refine fin1 ⟨?_,rfl⟩
  simp only [go_sem,reduceIte,Nat.reduceEqDiff,reduceCtorEq,Nat.reduceAdd,Nat.reduceLeDiff,Int.reduceNeg,Int.reduceToNat,Int.reduceBEq,Int.reduceBNe,Int.reduceLT,Int.reduceLE,Int.reduceAdd,Int.reduceSub,h0,Bool.false_and]
theorem sized2_c (b:UInt8) (hb:sign b=true) (σ:H):MCalls E Tryz.prog 71 [.int .i32 b.toNat] σ (fun v τ=>v=.bool false):=by
 refine mcalls_of fn71 (by simp) ?_
 unfold c71 r71
 have hlt:b.toNat < 128:=by
  simp only [sign,Bool.or_eq_true,beq_iff_eq] at hb
  rcases hb with ((rfl | rfl) | rfl) | rfl<;>decide
 have hc:MCalls E Tryz.prog 72 [.string ⟨#[35,46,67,80]⟩,.int .i32 b.toNat] σ (fun v τ=>v=.bool true∧τ=σ):=by
  refine mcalls_same 0 0 (by kernel_rfl) rfl rfl fun w=>(Tryz.strings_ContainsRune_ascii _ _ w (by omega) (by omega)).mono fun e w' ⟨he,hw⟩=>⟨?_,hw⟩
  rw [he]
  simp only [sign,Bool.or_eq_true,beq_iff_eq] at hb
  rcases hb with ((rfl | rfl) | rfl) | rfl<;>rfl
 refine stepR0 ?_
 refine ml_call Sd0 Sd0 hc ?_
 rintro _ _ ⟨rfl,rfl⟩
 refine stepR0 ?_
 refine fin1 ?_
 simp only [go_sem,reduceIte,Nat.reduceEqDiff,reduceCtorEq,Nat.reduceAdd,Nat.reduceLeDiff,Int.reduceNeg,Int.reduceToNat,Int.reduceBEq,Int.reduceBNe,Int.reduceLT,Int.reduceLE,Int.reduceAdd,Int.reduceSub]
theorem asciiContains_c (id:Nat) (b:UInt8) (v:Bool) (cs:List Value) (σ:H) (hg:σ.get id=.cells 0 cs) (hv:cs[b.toNat]?=some (.bool v)):
 MCalls E Tryz.prog 133 [.pointer (some ⟨id,0,none⟩),.int .u8 b.toNat] σ (fun v' τ=>v'=.bool v∧τ=σ):=by
 refine mcalls_of fn133 (by simp) ?_
 unfold c133 r133
 have hb:=b.toNat_lt
 refine stepR (An hg hv) ?_
 refine fin1 ⟨?_,rfl⟩
 simp only [go_sem,reduceIte,Nat.reduceEqDiff,reduceCtorEq,Nat.reduceAdd,Nat.reduceLeDiff,Int.reduceNeg,Int.reduceToNat,Int.reduceBEq,Int.reduceBNe,Int.reduceLT,Int.reduceLE,Int.reduceAdd,Int.reduceSub]
def SetAt (σ:H) (id:Nat):Prop:=∃ cs,σ.get id=.cells 0 cs∧∀ b:UInt8,cs[b.toNat]?=some (.bool (sign b))
theorem trimRight_c (s:ByteArray) (id:Nat) (σ:H) (hlen:s.size≤1000000) (hs:SetAt σ id):MCalls E Tryz.prog 104 [.string s,.pointer (some ⟨id,0,none⟩)] σ
 (fun v τ=>τ=σ∧∃ k,v=.string (s.extract 0 k)∧k≤s.size∧(∀ j,k≤j→j < s.size→sign (s.data.toList.getD j 0)=true)∧(k=0∨sign (s.data.toList.getD (k - 1) 0)=false)):=by
 obtain ⟨cs,hg,hv⟩:=hs
 refine mcalls_of fn104 (by simp) ?_
 unfold c104 r104
 refine stepR0 ?_
 refine mx_loop (fun n ts σ'=>σ'=σ∧ts 0=.string (s.extract 0 n)∧ts 1=.pointer (some ⟨id,0,none⟩)∧n≤s.size∧∀ j,n≤j→j < s.size→sign (s.data.toList.getD j 0)=true) s.size ?_ ?_
 ·refine ⟨rfl,?_,?_,Nat.le_refl _,fun j h1 h2=>by omega⟩
  ·simp only [go_sem,reduceIte,Nat.reduceEqDiff,reduceCtorEq,Nat.reduceAdd,Nat.reduceLeDiff,Int.reduceNeg,Int.reduceToNat,Int.reduceBEq,Int.reduceBNe,Int.reduceLT,Int.reduceLE,Int.reduceAdd,Int.reduceSub]
   simp
  ·simp only [go_sem,reduceIte,Nat.reduceEqDiff,reduceCtorEq,Nat.reduceAdd,Nat.reduceLeDiff,Int.reduceNeg,Int.reduceToNat,Int.reduceBEq,Int.reduceBNe,Int.reduceLT,Int.reduceLE,Int.reduceAdd,Int.reduceSub]
 rintro n ts _ ⟨rfl,h0,h1,hn,hall⟩
 have hsz:(s.extract 0 n).size=n:=by simp;omega
 by_cases hz:n=0
 ·subst hz
  refine stepR (An h0 (An h1 hsz)) ?_
  refine fin1 ⟨rfl,0,?_,by omega,fun j a b=>hall j a b,.inl rfl⟩
  simp only [go_sem,reduceIte,Nat.reduceEqDiff,reduceCtorEq,Nat.reduceAdd,Nat.reduceLeDiff,Int.reduceNeg,Int.reduceToNat,Int.reduceBEq,Int.reduceBNe,Int.reduceLT,Int.reduceLE,Int.reduceAdd,Int.reduceSub,h0]
 ·refine stepR (An h0 (An h1 hsz)) ?_
  have hb:(s.extract 0 n).data.toList.getD ((n:Int) - 1).toNat 0=s.data.toList.getD (n - 1) 0:=by
   rw [ext_getD _ _ _ _ (by omega)];congr 1;omega
  rw [hb]
  refine ml_call (Sw h1) (Sw h1) (asciiContains_c id _ _ cs _ hg (hv _)) ?_
  rintro _ _ ⟨rfl,rfl⟩
  cases hsg:sign (s.data.toList.getD (n - 1) 0)
  ·refine stepR (An h0 (An h1 hsz)) ?_
   refine fin1 ⟨rfl,n,?_,by omega,fun j a b=>hall j a b,.inr hsg⟩
   simp only [go_sem,reduceIte,Nat.reduceEqDiff,reduceCtorEq,Nat.reduceAdd,Nat.reduceLeDiff,Int.reduceNeg,Int.reduceToNat,Int.reduceBEq,Int.reduceBNe,Int.reduceLT,Int.reduceLE,Int.reduceAdd,Int.reduceSub,h0]
  ·refine stepR (An h0 (An h1 hsz)) ?_
   refine ml_op Sd0 (o_slcS_hi (q:=(n:Int) - 1) (k:=.i64) Sd0 Sd0 (by omega) (by omega)) ?_
   refine stepR (An h0 (An h1 hsz)) ?_
   refine ⟨n - 1,by omega,rfl,?_,(Sw h1),by omega,fun j a b=>?_⟩
   ·simp only [go_sem,reduceIte,Nat.reduceEqDiff,reduceCtorEq,Nat.reduceAdd,Nat.reduceLeDiff,Int.reduceNeg,Int.reduceToNat,Int.reduceBEq,Int.reduceBNe,Int.reduceLT,Int.reduceLE,Int.reduceAdd,Int.reduceSub]
    rw [ext_ext _ _ _ _ _ (by omega)]
    congr 2;omega
   ·rcases Nat.eq_or_lt_of_le a with e | e
    ·rw [← e];exact hsg
    ·exact hall j (by omega) b
end Go.Proofs.YtoejdgoicoaomaaGreatDoor
namespace Go.Mini
theorem o_load1q {ts:Fr} {σ:H} {x:Opd} {id off sz:Nat} {cs:List Value} {v:Value} (hx:mev ts x=.pointer (some ⟨id,off,none⟩)) (hg:σ.get id=.cells sz cs) (h:cs[off]?=some v):mop ts σ (.load1 x)=some (v,σ):=by
 simp only [mop,hx,H.cell,hg,h,Option.map_some]
theorem seg_get {A B C:List Value} {j n:Nat} (hn:n=A.length + j) (hj:j < B.length):(A ++ (B ++ C))[n]?=B[j]?:=by
 subst hn
 rw [List.getElem?_append_right (by omega),Nat.add_sub_cancel_left,List.getElem?_append_left hj]
theorem seg_row {A B C:List Value} {k n m:Nat} (hm:m=A.length + k) (h:k + n≤B.length):rowL (A ++ (B ++ C)) m n=rowL B k n:=by
 subst hm
 rw [rowL_some n _ _ (by simp only [List.length_append];omega),rowL_some n k B (by omega)]
 congr 1
 apply List.ext_getElem?
 intro i
 rw [List.getElem?_take,List.getElem?_take]
 split
 ·rw [List.getElem?_drop,List.getElem?_drop,List.getElem?_append_right (by omega),List.getElem?_append_left (by omega)]
  congr 1;omega
 ·rfl
theorem seg_spl {A B C vs:List Value} {k m:Nat} (hm:m=A.length + k) (h:k + vs.length≤B.length):spl (A ++ (B ++ C)) m vs=A ++ (spl B k vs ++ C):=by
 subst hm
 apply List.ext_getElem?
 intro i
 rw [spl_get _ _ _ _ (by simp only [List.length_append];omega)]
 by_cases h1:i < A.length
 ·rw [if_neg (by omega),List.getElem?_append_left h1,List.getElem?_append_left h1]
 ·have hL:(A ++ (B ++ C))[i]?=(B ++ C)[i - A.length]?:=List.getElem?_append_right (by omega)
  have hR:(A ++ (spl B k vs ++ C))[i]?=(spl B k vs ++ C)[i - A.length]?:=List.getElem?_append_right (by omega)
  rw [hL,hR]
  by_cases h2:i - A.length < B.length
  ·rw [List.getElem?_append_left h2,List.getElem?_append_left (by rw [spl_length];exact h2),spl_get _ _ _ _ h]
   by_cases h3:A.length + k≤i∧i < A.length + k + vs.length
   ·rw [if_pos h3,if_pos (by omega)];congr 1;omega
   ·rw [if_neg h3,if_neg (by omega)]
  ·rw [if_neg (by omega),List.getElem?_append_right (by omega),List.getElem?_append_right (by rw [spl_length];omega),spl_length]
theorem rows_get {α:Type} {f:α→List Value} {k:Nat} (hk:∀ a,(f a).length=k):∀ {l:List α} {i j:Nat} (d:α),i < l.length→j < k→(l.flatMap f)[i * k + j]?=(f (l.getD i d))[j]?
 | a :: l,0,j,d,_,hj=>by
   rw [List.flatMap_cons,Nat.zero_mul,Nat.zero_add,List.getElem?_append_left (by rw [hk];exact hj)];rfl
 | a :: l,i + 1,j,d,hi,hj=>by
   rw [List.flatMap_cons,List.getElem?_append_right (by rw [hk,Nat.add_mul];omega),hk,show (i + 1) * k + j - k=i * k + j by rw [Nat.add_mul];omega,rows_get hk d (by simpa using hi) hj]
   simp
theorem rows_len {α:Type} {f:α→List Value} {k:Nat} (hk:∀ a,(f a).length=k):∀ (l:List α),(l.flatMap f).length=l.length * k
 | []=>by simp
 | a :: l=>by rw [List.flatMap_cons,List.length_append,rows_len hk l,hk,List.length_cons,Nat.add_mul];omega
theorem mul_lt_le {i n k j:Nat} (hi:i < n) (hj:j≤k):i * k + j≤n * k:=by
 calc i * k + j≤i * k + k:=by omega
  _=(i + 1) * k:=by rw [Nat.add_mul];omega
  _≤n * k:=Nat.mul_le_mul_right _ hi
theorem rows_row {α:Type} {f:α→List Value} {k:Nat} (hk:∀ a,(f a).length=k) {l:List α} {i:Nat} (d:α) (hi:i < l.length):rowL (l.flatMap f) (i * k) k=some (f (l.getD i d)):=by
 rw [rowL_some _ _ _ (by rw [rows_len hk];exact mul_lt_le hi (Nat.le_refl _))]
 congr 1
 apply List.ext_getElem?
 intro j
 rw [List.getElem?_take]
 split
 ·rw [List.getElem?_drop,rows_get hk d hi (by assumption)]
 ·rw [List.getElem?_eq_none (by rw [hk];omega)]
theorem rows_spl {α:Type} {f:α→List Value} {k:Nat} (hk:∀ a,(f a).length=k) {l:List α} {i j:Nat} {vs:List Value} (d a:α) (hi:i < l.length) (hj:j + vs.length≤k) (ha:f a=spl (f (l.getD i d)) j vs):spl (l.flatMap f) (i * k + j) vs=(l.set i a).flatMap f:=by
 have hlen:=rows_len hk l
 have hle:=mul_lt_le hi hj
 apply List.ext_getElem?
 intro n
 rw [spl_get _ _ _ _ (by rw [hlen];omega)]
 by_cases hn:n < l.length * k
 ·have hk0:0 < k:=by
   rcases Nat.eq_zero_or_pos k with h | h
   ·subst h;simp at hn
   ·exact h
  have hq:n / k < l.length:=(Nat.div_lt_iff_lt_mul hk0).2 hn
  have hr:n % k < k:=Nat.mod_lt _ hk0
  have hnq:n=n / k * k + n % k:=by rw [Nat.mul_comm];exact (Nat.div_add_mod n k).symm
  generalize n / k=q at hq hnq
  generalize n % k=r at hr hnq
  subst hnq
  rw [rows_get hk d hq hr,rows_get (l:=l.set i a) hk d (by simpa using hq) hr]
  by_cases hqi:q=i
  ·subst hqi
   have hs:(l.set q a).getD q d=a:=by rw [List.getD_eq_getElem?_getD,List.getElem?_set_self hi];rfl
   rw [hs,ha,spl_get _ _ _ _ (by rw [hk];omega)]
   by_cases h3:j≤r∧r < j + vs.length
   ·rw [if_pos (by omega),if_pos h3];congr 1;omega
   ·rw [if_neg (by omega),if_neg h3]
  ·have hs:(l.set i a).getD q d=l.getD q d:=by rw [List.getD_eq_getElem?_getD,List.getElem?_set_ne (fun e=>hqi e.symm),List.getD_eq_getElem?_getD]
   rw [hs,if_neg]
   intro h
   rcases Nat.lt_or_gt_of_ne hqi with h5 | h5
   ·have:=mul_lt_le (k:=k) (j:=k) h5 (Nat.le_refl _)
    omega
   ·have:=mul_lt_le (k:=k) (j:=k) h5 (Nat.le_refl _)
    omega
 ·rw [if_neg (by omega),List.getElem?_eq_none (by rw [hlen];omega),List.getElem?_eq_none (by rw [rows_len hk,List.length_set];omega)]
theorem map_spl {α:Type} {f:α→Value} {l:List α} {i:Nat} {a:α} (hi:i < l.length):spl (l.map f) i [f a]=(l.set i a).map f:=by
 rw [spl_one,List.map_set]
end Go.Mini
namespace Go.Proofs.YtoejdgoicoaomaaGreatDoor
open Go.Mini
structure Rob where
 cell:Int
 charge:Int
 phase:Int
 task:Int
 moved:Int
 gained:Int
 adj:Int
structure Tsk where
 fr:Int
 dst:Int
 st:Int
structure St where
 W:Int
 H:Int
 S:ByteArray
 tick:Int
 off:List Nat
 rob:List Rob
 on:List Bool
 tsk:List Tsk
 is:List Bool
def zR:Rob:=⟨0,0,0,0,0,0,0⟩
def zT:Tsk:=⟨0,0,0⟩
def Rob.is0 (r:Rob):Bool:=r.cell == 0 && r.charge == 0 && r.phase == 0 && r.task == 0 && r.moved == 0 && r.gained == 0 && r.adj == 0
def Tsk.is0 (t:Tsk):Bool:=t.fr == 0 && t.dst == 0 && t.st == 0
def robC (r:Rob):List Value:=[.int .i64 r.cell,.int .i64 r.charge,.int .i64 r.phase,.int .i64 r.task,.int .i64 r.moved,.int .i64 r.gained,.int .i64 r.adj]
def tskC (t:Tsk):List Value:=[.int .i64 t.fr,.int .i64 t.dst,.int .i64 t.st]
def u8C (o:List Nat):List Value:=o.map fun (b:Nat)=>.int .u8 (b:Int)
def allcC (s:St):List Value:=.int .i64 s.tick :: u8C s.off
def hd1 (s:St):List Value:=mapC s.W s.H s.S
def hd2 (s:St):List Value:=hd1 s ++ allcC s
def hd3 (s:St):List Value:=hd2 s ++ s.rob.flatMap robC
def hd4 (s:St):List Value:=hd3 s ++ s.on.map Value.bool
def hd5 (s:St):List Value:=hd4 s ++ s.tsk.flatMap tskC
def stC (s:St):List Value:=hd5 s ++ s.is.map Value.bool
def stV (s:St):Value:=.agg (stC s).toArray
structure St.WF (s:St):Prop where
 off:s.off.length=8
 byte:∀ b ∈ s.off,b < 256
 rob:s.rob.length=10
 on:s.on.length=10
 tsk:s.tsk.length=20
 is:s.is.length=20
section
variable {s:St}
theorem robC_len (r:Rob):(robC r).length=7:=rfl
theorem tskC_len (t:Tsk):(tskC t).length=3:=rfl
theorem hd1_len:(hd1 s).length=3:=rfl
theorem St.WF.l2 (h:s.WF):(hd2 s).length=12:=by simp [hd2,hd1_len,allcC,u8C,h.off]
theorem St.WF.l3 (h:s.WF):(hd3 s).length=82:=by rw [hd3,List.length_append,h.l2,rows_len robC_len,h.rob]
theorem St.WF.l4 (h:s.WF):(hd4 s).length=92:=by rw [hd4,List.length_append,h.l3,List.length_map,h.on]
theorem St.WF.l5 (h:s.WF):(hd5 s).length=152:=by rw [hd5,List.length_append,h.l4,rows_len tskC_len,h.tsk]
theorem St.WF.len (h:s.WF):(stC s).length=172:=by rw [stC,List.length_append,h.l5,List.length_map,h.is]
theorem st_all (s:St):stC s=hd1 s ++ (allcC s ++ (s.rob.flatMap robC ++ s.on.map Value.bool ++ s.tsk.flatMap tskC ++ s.is.map Value.bool)):=by simp [stC,hd5,hd4,hd3,hd2]
theorem st_rob (s:St):stC s=hd2 s ++ (s.rob.flatMap robC ++ (s.on.map Value.bool ++ s.tsk.flatMap tskC ++ s.is.map Value.bool)):=by simp [stC,hd5,hd4,hd3]
theorem st_on (s:St):stC s=hd3 s ++ (s.on.map Value.bool ++ (s.tsk.flatMap tskC ++ s.is.map Value.bool)):=by simp [stC,hd5,hd4]
theorem st_tsk (s:St):stC s=hd4 s ++ (s.tsk.flatMap tskC ++ s.is.map Value.bool):=by simp [stC,hd5]
theorem st_is (s:St):stC s=hd5 s ++ (s.is.map Value.bool ++ []):=by simp [stC]
theorem St.WF.map_row (h:s.WF):rowL (stC s) 0 3=some (mapC s.W s.H s.S):=by
 rw [st_all,rowL_some _ _ _ (by simp [hd1_len]),List.drop_zero,List.take_append_of_le_length (by rw [hd1_len];omega),List.take_of_length_le (by rw [hd1_len];omega)]
 rfl
theorem St.WF.rob_cell (h:s.WF) {i j n:Nat} (hi:i < 10) (hj:j < 7) (hn:n=12 + i * 7 + j):(stC s)[n]?=(robC (s.rob.getD i zR))[j]?:=by
 rw [st_rob,seg_get (j:=i * 7 + j) (by rw [h.l2];omega) (by rw [rows_len robC_len,h.rob];omega),rows_get robC_len zR (by rw [h.rob];exact hi) hj]
theorem St.WF.rob_row (h:s.WF) {i n:Nat} (hi:i < 10) (hn:n=12 + i * 7):rowL (stC s) n 7=some (robC (s.rob.getD i zR)):=by
 rw [st_rob,seg_row (k:=i * 7) (by rw [h.l2];omega) (by rw [rows_len robC_len,h.rob];omega),rows_row robC_len zR (by rw [h.rob];exact hi)]
theorem St.WF.robs_row (h:s.WF):rowL (stC s) 12 70=some (s.rob.flatMap robC):=by
 rw [st_rob,seg_row (k:=0) (by rw [h.l2]) (by rw [rows_len robC_len,h.rob];omega)]
 exact rowAll (by rw [rows_len robC_len,h.rob])
theorem St.WF.on_cell (h:s.WF) {i n:Nat} (hi:i < 10) (hn:n=82 + i):(stC s)[n]?=some (.bool (s.on.getD i false)):=by
 rw [st_on,seg_get (j:=i) (by rw [h.l3];omega) (by rw [List.length_map,h.on];omega),List.getElem?_map,List.getElem?_eq_getElem (by rw [h.on];exact hi),List.getD_eq_getElem?_getD,List.getElem?_eq_getElem (by rw [h.on];exact hi)];rfl
theorem St.WF.tsk_cell (h:s.WF) {k j n:Nat} (hk:k < 20) (hj:j < 3) (hn:n=92 + k * 3 + j):(stC s)[n]?=(tskC (s.tsk.getD k zT))[j]?:=by
 rw [st_tsk,seg_get (j:=k * 3 + j) (by rw [h.l4];omega) (by rw [rows_len tskC_len,h.tsk];omega),rows_get tskC_len zT (by rw [h.tsk];exact hk) hj]
theorem St.WF.tsks_row (h:s.WF):rowL (stC s) 92 60=some (s.tsk.flatMap tskC):=by
 rw [st_tsk,seg_row (k:=0) (by rw [h.l4]) (by rw [rows_len tskC_len,h.tsk];omega)]
 exact rowAll (by rw [rows_len tskC_len,h.tsk])
theorem St.WF.is_cell (h:s.WF) {k n:Nat} (hk:k < 20) (hn:n=152 + k):(stC s)[n]?=some (.bool (s.is.getD k false)):=by
 rw [st_is,seg_get (j:=k) (by rw [h.l5];omega) (by rw [List.length_map,h.is];omega),List.getElem?_map,List.getElem?_eq_getElem (by rw [h.is];exact hk),List.getD_eq_getElem?_getD,List.getElem?_eq_getElem (by rw [h.is];exact hk)];rfl
theorem St.WF.tick_cell (h:s.WF):(stC s)[3]?=some (.int .i64 s.tick):=by
 rw [st_all,seg_get (j:=0) (by rw [hd1_len]) (by simp [allcC])];rfl
theorem St.WF.off_row (h:s.WF):rowL (stC s) 4 8=some (u8C s.off):=by
 rw [st_all,seg_row (k:=1) (by rw [hd1_len]) (by simp [allcC,u8C,h.off]),rowL_some _ _ _ (by simp [allcC,u8C,h.off])]
 simp only [allcC,List.drop_succ_cons,List.drop_zero]
 rw [List.take_of_length_le (by simp [u8C,h.off])]
theorem St.WF.all_row (h:s.WF):rowL (stC s) 3 9=some (allcC s):=by
 rw [st_all,seg_row (k:=0) (by rw [hd1_len]) (by simp [allcC,u8C,h.off])]
 exact rowAll (by simp [allcC,u8C,h.off])
theorem St.WF.rob_spl (h:s.WF) {i j n:Nat} {vs:List Value} {r:Rob} (hi:i < 10) (hj:j + vs.length≤7) (hn:n=12 + i * 7 + j) (hr:robC r=spl (robC (s.rob.getD i zR)) j vs):spl (stC s) n vs=stC { s with rob:=s.rob.set i r }:=by
 rw [st_rob,seg_spl (k:=i * 7 + j) (by rw [h.l2];omega) (by rw [rows_len robC_len,h.rob];omega),rows_spl robC_len zR r (by rw [h.rob];exact hi) hj hr]
 exact (st_rob { s with rob:=s.rob.set i r }).symm
theorem St.WF.tsk_spl (h:s.WF) {k j n:Nat} {vs:List Value} {t:Tsk} (hk:k < 20) (hj:j + vs.length≤3) (hn:n=92 + k * 3 + j) (hr:tskC t=spl (tskC (s.tsk.getD k zT)) j vs):spl (stC s) n vs=stC { s with tsk:=s.tsk.set k t }:=by
 rw [st_tsk,seg_spl (k:=k * 3 + j) (by rw [h.l4];omega) (by rw [rows_len tskC_len,h.tsk];omega),rows_spl tskC_len zT t (by rw [h.tsk];exact hk) hj hr]
 exact (st_tsk { s with tsk:=s.tsk.set k t }).symm
theorem St.WF.on_spl (h:s.WF) {i n:Nat} {b:Bool} (hi:i < 10) (hn:n=82 + i):spl (stC s) n [.bool b]=stC { s with on:=s.on.set i b }:=by
 rw [st_on,seg_spl (k:=i) (by rw [h.l3];omega) (by rw [List.length_map,h.on];simp;omega),map_spl (by rw [h.on];exact hi)]
 exact (st_on { s with on:=s.on.set i b }).symm
theorem St.WF.is_spl (h:s.WF) {k n:Nat} {b:Bool} (hk:k < 20) (hn:n=152 + k):spl (stC s) n [.bool b]=stC { s with is:=s.is.set k b }:=by
 rw [st_is,seg_spl (k:=k) (by rw [h.l5];omega) (by rw [List.length_map,h.is];simp;omega),map_spl (by rw [h.is];exact hk)]
 exact (st_is { s with is:=s.is.set k b }).symm
theorem St.WF.tick_spl (h:s.WF) {t:Int}:spl (stC s) 3 [.int .i64 t]=stC { s with tick:=t }:=by
 rw [st_all,seg_spl (k:=0) (by rw [hd1_len]) (by simp [allcC])]
 exact (st_all { s with tick:=t }).symm
theorem St.WF.off_spl (h:s.WF) {o:List Nat} (ho:o.length=8):spl (stC s) 4 (u8C o)=stC { s with off:=o }:=by
 rw [st_all,seg_spl (k:=1) (by rw [hd1_len]) (by simp [allcC,u8C,h.off,ho])]
 have:spl (allcC s) 1 (u8C o)=allcC { s with off:=o }:=by
  have h1:∀ (v:Value) (cs vs:List Value),vs.length=cs.length→spl (v :: cs) 1 vs=v :: vs:=by
   intro v cs vs hl
   apply List.ext_getElem?
   intro i
   rw [spl_get _ _ _ _ (by simp;omega)]
   cases i with
   | zero=>simp
   | succ i=>
     simp only [List.getElem?_cons_succ]
     by_cases hi:i < vs.length
     ·rw [if_pos (by omega)];rfl
     ·rw [if_neg (by omega),List.getElem?_eq_none (by omega),List.getElem?_eq_none (by omega)]
  exact h1 _ _ _ (by simp [u8C,h.off,ho])
 rw [this]
 exact (st_all { s with off:=o }).symm
theorem St.WF.setR (h:s.WF) (i:Nat) (r:Rob):St.WF { s with rob:=s.rob.set i r }:=⟨h.off,h.byte,by simpa using h.rob,h.on,h.tsk,h.is⟩
theorem St.WF.setT (h:s.WF) (k:Nat) (t:Tsk):St.WF { s with tsk:=s.tsk.set k t }:=⟨h.off,h.byte,h.rob,h.on,by simpa using h.tsk,h.is⟩
theorem stC_one (s:St):(stC s).all one=true:=by
 have h1:∀ l:List Rob,(l.flatMap robC).all one=true:=fun l=>by
  induction l with
  | nil=>rfl
  | cons r l ih=>rw [List.flatMap_cons,List.all_append,ih];rfl
 have h2:∀ l:List Tsk,(l.flatMap tskC).all one=true:=fun l=>by
  induction l with
  | nil=>rfl
  | cons r l ih=>rw [List.flatMap_cons,List.all_append,ih];rfl
 have h3:∀ l:List Bool,(l.map Value.bool).all one=true:=fun l=>by
  rw [List.all_map,List.all_eq_true];intro _ _;rfl
 have h4:(u8C s.off).all one=true:=by
  rw [u8C,List.all_map,List.all_eq_true];intro _ _;rfl
 simp only [stC,hd5,hd4,hd3,hd2,hd1,List.all_append,h1,h2,h3,allcC,List.all_cons,h4]
 rfl
end
end Go.Proofs.YtoejdgoicoaomaaGreatDoor
namespace Go.Proofs.YtoejdgoicoaomaaGreatDoor
open Go.Mini
open Go.Proofs.YtoejdgoicoaomaaGreatDoor.Code
attribute [local irreducible] mx ml mld mstep MCalls Ex.thn Ex.inb
variable {E:World→Prop}
theorem o_cpy {ts:Fr} {σ:H} {sz:Nat} {d s:Opd} {id off len cap sid soff slen scap m:Nat} {cs vs:List Value} (hd:mev ts d=.slice (some ⟨id,off,none⟩) len cap) (hs:mev ts s=.slice (some ⟨sid,soff,none⟩) slen scap)
 (hm:Nat.min slen len=m) (hr:σ.row sid soff (m * sz)=some vs) (hg:σ.get id=.cells sz cs) (hl:off + vs.length≤cs.length) (h1:vs.all one=true):
 mop ts σ (.cpy sz d s)=some (.int .i64 m,σ.set id (.cells sz (spl cs off vs))):=by
 simp only [mop,hd,hs,lenL,hm,firstL,hr,putRow,hg,h1,and_true,Option.map_some]
 rw [if_pos hl];rfl
theorem spl_rep (a b:Value) (k j m:Nat) (h:m≤j):spl (List.replicate k a ++ List.replicate j b) k (List.replicate m a)=List.replicate (k + m) a ++ List.replicate (j - m) b:=by
 apply List.ext_getElem?
 intro i
 rw [spl_get _ _ _ _ (by simp;omega)]
 simp only [List.length_replicate]
 by_cases h1:k≤i∧i < k + m
 ·rw [if_pos h1,List.getElem?_replicate,if_pos (by omega),List.getElem?_append_left (by simp;omega),List.getElem?_replicate,if_pos (by omega)]
 ·rw [if_neg h1]
  by_cases h2:i < k
  ·rw [List.getElem?_append_left (by simp;omega),List.getElem?_append_left (by simp;omega),List.getElem?_replicate,List.getElem?_replicate,if_pos h2,if_pos (by omega)]
  ·rw [List.getElem?_append_right (by simp;omega),List.getElem?_append_right (by simp;omega)]
   simp only [List.length_replicate,List.getElem?_replicate]
   by_cases h3:i < k + j
   ·rw [if_pos (by omega),if_pos (by omega)]
   ·rw [if_neg (by omega),if_neg (by omega)]
theorem row_rep (a b:Value) (k j m:Nat) (h:m≤k):rowL (List.replicate k a ++ List.replicate j b) 0 m=some (List.replicate m a):=by
 rw [rowL_some _ _ _ (by simp;omega),List.drop_zero]
 congr 1
 apply List.ext_getElem?
 intro i
 rw [List.getElem?_take]
 by_cases h1:i < m
 ·rw [if_pos h1,List.getElem?_append_left (by simp;omega),List.getElem?_replicate,List.getElem?_replicate,if_pos (by omega),if_pos h1]
 ·rw [if_neg h1,List.getElem?_replicate,if_neg h1]
theorem repeat_c (σ:H) (tid:Nat) (a:Int) (n:Nat) (ht:σ.get tid=.cells 1 [.int .i64 a]) (h0:1≤n) (h1:n≤100000):
 MCalls E Tryz.prog 61 [.slice (some ⟨tid,0,none⟩) 1 1,.int .i64 n] σ (fun v τ=>∃ id,v=.slice (some ⟨id,0,none⟩) n n∧Ext σ τ∧σ.size≤id∧τ.get id=.cells 1 (List.replicate n (.int .i64 a))):=by
 refine mcalls_of fn61 (by simp) ?_
 unfold c61 r61
 have hq1:1 * n / 18446744073709551616=0:=by omega
 have hq2:1 * n % 18446744073709551616=n:=by omega
 have hM:MCalls E Tryz.prog 95 [.int .u64 1,.int .u64 n] σ (fun v τ=>v=.tuple #[.int .u64 0,.int .u64 n]∧τ=σ):=
  mcalls_same 0 1 (by kernel_rfl) rfl rfl fun w=>(Tryz.bits_Mul 1 n (by omega) (by omega) w).mono fun e w' ⟨he,hw⟩=>⟨by rw [he,hq1,hq2];rfl,hw⟩
 refine stepR0 ?_
 refine ml_call Sd0 Sd0 hM ?_
 rintro _ τ ⟨rfl,rfl⟩
 refine stepR0 ?_
 refine ml_op Sd0 (o_mks1 Sd0 Sd0 (by omega) (by omega)) ?_
 refine stepR0 ?_
 have e1:=Ext.push τ (.cells 1 (List.replicate n (.int .i64 0)))
 have hspl:=spl_rep (.int .i64 a) (.int .i64 0) 0 n 1 h0
 refine ml_op Sd0 (o_cpy (off:=0) (m:=1) (vs:=[.int .i64 a]) Sd0 Sd0 (Nat.min_eq_left h0) (row_of (e1.cells ht) rfl) (H.get_push_self _ _) (by simp;omega) rfl) ?_
 rw [show spl (List.replicate n (Value.int .i64 0)) 0 [.int .i64 a]=List.replicate 1 (.int .i64 a) ++ List.replicate (n - 1) (.int .i64 0) from hspl]
 refine stepR0 ?_
 refine mx_loop (fun m ts τ2=>∃ k,m=n - k∧1≤k∧k≤n∧ts 7=.slice (some ⟨τ.size,0,none⟩) n n∧ts 8=.int .i64 ((k:Nat):Int)∧Ext τ τ2∧τ2.get τ.size=.cells 1 (List.replicate k (.int .i64 a) ++ List.replicate (n - k) (.int .i64 0))) (n - 1) ?_ ?_
 ·refine ⟨1,rfl,by omega,h0,Sd0,Sd0,e1.set' (Nat.le_refl _) _,?_⟩
  rw [H.get_set_self (by simp)]
 rintro m ts τ2 ⟨k,hm,hk1,hk2,t7,t8,e2,g2⟩
 rcases Nat.lt_or_ge k n with hlt | hge
 ·refine stepR (An t7 t8) ?_
  refine mld_op Sd0 (o_slc_lo (Sw t7) (Sw t8) (by omega) (by omega) g2) ?_
  refine stepR (An t7 t8) ?_
  refine mld_op Sd0 (o_slc_hi (Sw t7) (Sw t8) (by omega) (by omega) g2) ?_
  have hj:=spl_rep (.int .i64 a) (.int .i64 0) k (n - k) (min k (n - k)) (Nat.min_le_right _ _)
  have hrow:=row_rep (.int .i64 a) (.int .i64 0) k (n - k) (min k (n - k)) (Nat.min_le_left _ _)
  refine mld_op Sd0 (o_cpy (off:=k) (m:=min k (n - k)) (vs:=List.replicate (min k (n - k)) (.int .i64 a)) (Sw (An t7 t8)) (Sw (An t7 t8)) rfl (row_of g2 (by rw [Nat.mul_one];exact hrow)) g2 (by simp;omega) ?_) ?_
  ·rw [List.all_replicate];split<;>rfl
  rw [hj]
  refine stepR (An t7 t8) ?_
  refine ⟨n - (k + min k (n - k)),?_,k + min k (n - k),rfl,by omega,by omega,(Sw t7),?_,e2.set' (Nat.le_refl _) _,?_⟩
  ·omega
  ·exact (Sw t8)
  ·rw [H.get_set_self (H.lt_of_cells g2),show n - k - min k (n - k)=n - (k + min k (n - k)) by omega]
 ·have hk:k=n:=by omega
  subst hk
  refine stepR (An t7 t8) ?_
  refine fin1 ⟨τ.size,Sd0,e2,Nat.le_refl _,?_⟩
  rw [g2];simp
end Go.Proofs.YtoejdgoicoaomaaGreatDoor
namespace Go.Proofs.YtoejdgoicoaomaaGreatDoor
open Go.Mini
open Go.Proofs.YtoejdgoicoaomaaGreatDoor.Code
attribute [local irreducible] mx ml mld mstep MCalls Ex.thn Ex.inb
variable {E:World→Prop}
abbrev Due:=Int × Int
def lt (a b:Due):Bool:=if a.1≠b.1 then decide (a.1 < b.1) else decide (a.2 < b.2)
def dueV (a:Due):Value:=.agg #[.int .i64 a.1,.int .i64 a.2]
attribute [go_sem] dueV
def dues:List Due→List Value
 | []=>[]
 | p :: l=>.int .i64 p.1 :: .int .i64 p.2 :: dues l
theorem dues_len:∀ l:List Due,(dues l).length=l.length * 2
 | []=>rfl
 | p :: l=>by simp only [dues,List.length_cons,dues_len l];omega
theorem dues_app:∀ a b:List Due,dues (a ++ b)=dues a ++ dues b
 | [],_=>rfl
 | p :: a,b=>by simp only [List.cons_append,dues,dues_app a b]
theorem dues_one:∀ l:List Due,(dues l).all one=true
 | []=>rfl
 | p :: l=>by simp only [dues,List.all_cons,dues_one l,Bool.and_true];rfl
theorem dues_row:∀ (l:List Due) (i:Nat),i < l.length→rowL (dues l) (i * 2) 2=some [.int .i64 (l.getD i (0,0)).1,.int .i64 (l.getD i (0,0)).2]
 | [],i,h=>absurd h (Nat.not_lt_zero _)
 | p :: l,0,_=>rfl
 | p :: l,i + 1,h=>by
   have:=dues_row l i (by simpa using h)
   simp only [rowL] at this ⊢
   rw [show (i + 1) * 2=i * 2 + 1 + 1 by omega]
   simpa [dues] using this
theorem dues_spl:∀ (l:List Due) (i:Nat) (p:Due),i < l.length→spl (dues l) (i * 2) [.int .i64 p.1,.int .i64 p.2]=dues (l.set i p)
 | [],i,_,h=>absurd h (Nat.not_lt_zero _)
 | q :: l,0,p,_=>rfl
 | q :: l,i + 1,p,h=>by
   have:=dues_spl l i p (by simpa using h)
   simp only [spl] at this ⊢
   rw [show (i + 1) * 2=i * 2 + 1 + 1 by omega]
   simp only [dues,List.set_cons_succ]
   rw [← this]
structure HeapAt (σ0:H) (hid:Nat) (L:List Due) (τ:H):Prop where
 ext:Ext σ0 τ
 lo:σ0.size≤hid
 at_:∃ v,τ.get hid=.cells 0 [v]∧((v=.slice none 0 0∧L=[])∨∃ id R,v=.slice (some ⟨id,0,none⟩) L.length (L.length + R.length)∧σ0.size≤id∧τ.get id=.cells 2 (dues (L ++ R)))
theorem HeapAt.of_ext {σ0 τ τ':H} {hid:Nat} {L:List Due} (h:HeapAt σ0 hid L τ) (e:Ext τ τ'):HeapAt σ0 hid L τ':=by
 obtain ⟨h1,h2,v,h3,h4⟩:=h
 refine ⟨h1.trans e,h2,v,e.cells h3,?_⟩
 rcases h4 with h4 | ⟨id,R,h5,h6,h7⟩
 ·exact .inl h4
 ·exact .inr ⟨id,R,h5,h6,e.cells h7⟩
def Keep2 (hid:Nat) (σ τ:H):Prop:=σ.size≤τ.size∧∀ i,σ.get i≠.dead→i≠hid→(∀ cs,σ.get i≠.cells 2 cs)→τ.get i=σ.get i
theorem Keep2.of_ext {hid:Nat} {σ τ:H} (e:Ext σ τ):Keep2 hid σ τ:=⟨e.size,fun i h _ _=>e.get i (H.lt_of_live h)⟩
theorem Keep2.trans {hid:Nat} {a b c:H} (h:Keep2 hid a b) (k:Keep2 hid b c):Keep2 hid a c:=
 ⟨Nat.le_trans h.1 k.1,fun i h1 h2 h3=>by
  have:=h.2 i h1 h2 h3
  rw [k.2 i (by rw [this];exact h1) h2 (by rw [this];exact h3),this]⟩
def IsBuf (σ:H) (hid i:Nat):Prop:=∃ n m,σ.get hid=.cells 0 [.slice (some ⟨i,0,none⟩) n m]
structure Keep3 (hid:Nat) (σ τ:H):Prop where
 size:σ.size≤τ.size
 get:∀ i,σ.get i≠.dead→i≠hid→¬ IsBuf σ hid i→τ.get i=σ.get i
 buf:∀ i,IsBuf τ hid i→IsBuf σ hid i
theorem HeapAt.lt {σ0 τ:H} {hid:Nat} {L:List Due} (h:HeapAt σ0 hid L τ):hid < τ.size:=by
 obtain ⟨_,_,v,h3,_⟩:=h;exact H.lt_of_cells h3
theorem Keep3.of_ext {hid:Nat} {σ τ:H} (e:Ext σ τ) (h:hid < σ.size):Keep3 hid σ τ:=⟨e.size,fun i h _ _=>e.get i (H.lt_of_live h),fun i ⟨n,m,x⟩=>⟨n,m,by rw [← e.get hid h];exact x⟩⟩
theorem Keep3.trans {hid:Nat} {a b c:H} (h:Keep3 hid a b) (k:Keep3 hid b c):Keep3 hid a c:=
 ⟨Nat.le_trans h.size k.size,fun i h1 h2 h3=>by
  have:=h.get i h1 h2 h3
  rw [k.get i (by rw [this];exact h1) h2 (fun x=>h3 (h.buf i x)),this],fun i x=>h.buf i (k.buf i x)⟩
theorem HeapAt.notbuf {σ0 τ:H} {hid i:Nat} {L:List Due} (h:HeapAt σ0 hid L τ) (hi:∀ cs,τ.get i≠.cells 2 cs):¬ IsBuf τ hid i:=by
 rintro ⟨n,m,x⟩
 obtain ⟨_,_,v,h3,h4⟩:=h
 rw [h3] at x
 rcases h4 with ⟨rfl,_⟩ | ⟨id,R,rfl,_,h7⟩
 ·simp at x
 ·simp at x
  obtain ⟨rfl,_⟩:=x
  exact hi _ h7
theorem Keep3.two {σ0 σ τ:H} {hid:Nat} {L:List Due} (k:Keep3 hid σ τ) (h:HeapAt σ0 hid L σ):Keep2 hid σ τ:=⟨k.size,fun i h1 h2 h3=>k.get i h1 h2 (h.notbuf h3)⟩
section
variable {σ:H} {a b c:MObj}
theorem p21:((σ.push a).push b).get σ.size=a:=by rw [H.get_push_ne (by simp),H.get_push_self]
theorem p22:((σ.push a).push b).get (σ.size + 1)=b:=H.get_push_self (σ.push a) b
end
theorem Less_c (a b:Due) (σ:H):MCalls E Tryz.prog 132 [dueV a,dueV b] σ (fun v τ=>v=.bool (lt a b)∧Ext σ τ):=by
 refine mcalls_of fn132 (by simp) ?_
 unfold c132 r132 dueV
 have e2:Ext σ ((σ.push (.cells 0 [.int .i64 a.1,.int .i64 a.2])).push (.cells 0 [.int .i64 b.1,.int .i64 b.2])):=(Ext.push _ _).trans (Ext.push _ _)
 by_cases h:a.1=b.1
 ·have h1:(a.1 != b.1)=false:=by simp [h]
  refine stepR (An h1 (An @p21 @p22)) ?_
  refine fin1 ⟨?_,e2⟩
  simp only [go_sem,reduceIte,Nat.reduceEqDiff,reduceCtorEq,Nat.reduceAdd,Nat.reduceLeDiff,Int.reduceNeg,Int.reduceToNat,Int.reduceBEq,Int.reduceBNe,Int.reduceLT,Int.reduceLE,Int.reduceAdd,Int.reduceSub,lt]
  rw [if_neg (by simp [h])]
 ·have h1:(a.1 != b.1)=true:=by simp [h]
  refine stepR (An h1 (An @p21 @p22)) ?_
  refine fin1 ⟨?_,e2⟩
  simp only [go_sem,reduceIte,Nat.reduceEqDiff,reduceCtorEq,Nat.reduceAdd,Nat.reduceLeDiff,Int.reduceNeg,Int.reduceToNat,Int.reduceBEq,Int.reduceBNe,Int.reduceLT,Int.reduceLE,Int.reduceAdd,Int.reduceSub,lt]
  rw [if_pos h]
theorem getD_left {L R:List Due} {i:Nat} (h:i < L.length):(L ++ R).getD i (0,0)=L.getD i (0,0):=by
 rw [List.getD_eq_getElem?_getD,List.getElem?_append_left h,List.getD_eq_getElem?_getD]
theorem hless_c {σ0 σ:H} {hid:Nat} {L:List Due} (h:HeapAt σ0 hid L σ) (i k:Nat) (hi:i < L.length) (hk:k < L.length) (hL:L.length≤1000000):
 MCalls E Tryz.prog 96 [.pointer (some ⟨hid,0,none⟩),.int .i64 i,.int .i64 k] σ (fun v τ=>v=.bool (lt (L.getD i (0,0)) (L.getD k (0,0)))∧Ext σ τ):=by
 obtain ⟨h1,h2,v,h3,h4⟩:=h
 rcases h4 with ⟨_,h4⟩ | ⟨id,R,rfl,h6,h7⟩
 ·subst h4;exact absurd hi (Nat.not_lt_zero _)
 refine mcalls_of fn96 (by simp) ?_
 unfold c96 r96
 have r1:=dues_row (L ++ R) i (by simp;omega)
 have r2:=dues_row (L ++ R) k (by simp;omega)
 rw [getD_left hi] at r1
 rw [getD_left hk] at r2
 refine stepR h3 ?_
 refine mld_loadN Sd0 Sd0 (row_of h7 r1) ?_
 refine stepR h3 ?_
 refine mld_loadN Sd0 Sd0 (row_of h7 r2) ?_
 generalize L.getD i (0,0)=a
 generalize L.getD k (0,0)=b
 refine mld_callW Sd0 Sd0 (Less_c a b σ) ?_
 rintro _ τ ⟨rfl,e⟩
 refine stepR0 ?_
 exact fin1 ⟨Sd0,e⟩
def swp (L:List Due) (i k:Nat):List Due:=(L.set i (L.getD k (0,0))).set k (L.getD i (0,0))
theorem swp_len (L:List Due) (i k:Nat):(swp L i k).length=L.length:=by simp [swp]
theorem hswap_c3 {σ0 σ:H} {hid:Nat} {L:List Due} (h:HeapAt σ0 hid L σ) (i k:Nat) (hi:i < L.length) (hk:k < L.length) (hL:L.length≤1000000):
 MCalls E Tryz.prog 97 [.pointer (some ⟨hid,0,none⟩),.int .i64 i,.int .i64 k] σ (fun v τ=>HeapAt σ0 hid (swp L i k) τ∧Keep3 hid σ τ):=by
 obtain ⟨h1,h2,v,h3,h4⟩:=h
 rcases h4 with ⟨_,h4⟩ | ⟨id,R,rfl,h6,h7⟩
 ·subst h4;exact absurd hi (Nat.not_lt_zero _)
 refine mcalls_of fn97 (by simp) ?_
 unfold c97 r97
 have r1:=dues_row (L ++ R) i (by simp;omega)
 have r2:=dues_row (L ++ R) k (by simp;omega)
 rw [getD_left hi] at r1
 rw [getD_left hk] at r2
 refine stepR h3 ?_
 refine mld_loadN Sd0 Sd0 (row_of h7 r2) ?_
 refine stepR h3 ?_
 refine mld_loadN Sd0 Sd0 (row_of h7 r1) ?_
 refine stepR h3 ?_
 have hlt:=H.lt_of_cells h7
 have hne:hid≠id:=fun e=>by rw [e,h7] at h3;cases h3
 have s1:=dues_spl (L ++ R) i (L.getD k (0,0)) (by simp;omega)
 have s2:=dues_spl ((L ++ R).set i (L.getD k (0,0))) k (L.getD i (0,0)) (by simp;omega)
 refine mld_op Sd0 (o_store (off:=i * 2) (vs:=[.int .i64 (L.getD k (0,0)).1,.int .i64 (L.getD k (0,0)).2]) Sd0 Sd0 h7 rfl (by rw [dues_len,List.length_append];omega) rfl) ?_
 rw [s1]
 refine stepR h3 ?_
 refine mld_op Sd0 (o_store (off:=k * 2) (vs:=[.int .i64 (L.getD i (0,0)).1,.int .i64 (L.getD i (0,0)).2]) Sd0 Sd0 (H.get_set_self hlt) rfl (by rw [dues_len,List.length_set,List.length_append];omega) rfl) ?_
 rw [s2]
 refine stepR0 ?_
 have hsw:((L ++ R).set i (L.getD k (0,0))).set k (L.getD i (0,0))=swp L i k ++ R:=by
  rw [swp,List.set_append_left _ _ hi,List.set_append_left _ _ (by simpa using hk)]
 rw [hsw]
 refine fin0n ⟨⟨(h1.set' h6 _).set' h6 _,h2,_,?_,.inr ⟨id,R,rfl,h6,?_⟩⟩,by simp,fun j hj h1 h2=>?_,fun j ⟨n,m,x⟩=>⟨n,m,?_⟩⟩
 ·rw [H.get_set_ne hne,H.get_set_ne hne,h3,swp_len]
 ·rw [H.get_set_self (by simpa using hlt)]
 ·have:j≠id:=fun e=>by subst e;exact h2 ⟨_,_,h3⟩
  rw [H.get_set_ne this,H.get_set_ne this]
 ·rw [H.get_set_ne hne,H.get_set_ne hne] at x;exact x
theorem hswap_c {σ0 σ:H} {hid:Nat} {L:List Due} (h:HeapAt σ0 hid L σ) (i k:Nat) (hi:i < L.length) (hk:k < L.length) (hL:L.length≤1000000):
 MCalls E Tryz.prog 97 [.pointer (some ⟨hid,0,none⟩),.int .i64 i,.int .i64 k] σ (fun v τ=>HeapAt σ0 hid (swp L i k) τ∧Keep2 hid σ τ):=
 (hswap_c3 h i k hi hk hL).mono fun _ _ ⟨a,b⟩=>⟨a,b.two h⟩
end Go.Proofs.YtoejdgoicoaomaaGreatDoor
namespace Go.Proofs.YtoejdgoicoaomaaGreatDoor
open Go.Mini
open Go.Proofs.YtoejdgoicoaomaaGreatDoor.Code
attribute [local irreducible] mx ml mld mstep MCalls Ex.thn Ex.inb
variable {E:World→Prop}
abbrev dv (L:List Due) (i:Nat):Due:=L.getD i (0,0)
def up (L:List Due) (i:Nat):List Due:=
 if h:0 < i∧lt (dv L i) (dv L ((i - 1) / 2))=true then up (swp L i ((i - 1) / 2)) ((i - 1) / 2) else L
termination_by i
decreasing_by omega
def kid (L:List Due) (i:Nat):Nat:=if 2 * i + 2 < L.length∧lt (dv L (2 * i + 2)) (dv L (2 * i + 1))=true then 2 * i + 2 else 2 * i + 1
def down (L:List Due) (i:Nat):List Due:=
 if h:2 * i + 1 < L.length∧lt (dv L (kid L i)) (dv L i)=true then down (swp L i (kid L i)) (kid L i) else L
termination_by L.length - i
decreasing_by
 rw [swp_len]
 have:i < kid L i:=by unfold kid;split<;>omega
 omega
theorem HeapAt.len {σ0 τ:H} {hid:Nat} {L:List Due} (h:HeapAt σ0 hid L τ):∃ v,τ.get hid=.cells 0 [v]∧∀ ts x,mev ts x=v→mop ts τ (.len false x)=some (.int .i64 L.length,τ):=by
 obtain ⟨h1,h2,v,h3,h4⟩:=h
 refine ⟨v,h3,fun ts x hx=>?_⟩
 rcases h4 with ⟨rfl,rfl⟩ | ⟨id,R,rfl,h6,h7⟩<;>simp [mop,hx]
set_option maxHeartbeats 1000000 in
theorem hsink_c3 {σ0 σ:H} {hid:Nat} {L:List Due} (h:HeapAt σ0 hid L σ) (hL:L.length≤1000000):
 MCalls E Tryz.prog 99 [.pointer (some ⟨hid,0,none⟩)] σ (fun v τ=>HeapAt σ0 hid (down L 0) τ∧Keep3 hid σ τ):=by
 refine mcalls_of fn99 (by simp) ?_
 unfold c99 r99
 refine stepR0 ?_
 refine mx_loop (fun n ts τ=>∃ L' i,n=L.length - i∧ts 0=.pointer (some ⟨hid,0,none⟩)∧ts 2=.int .i64 ((i:Nat):Int)∧HeapAt σ0 hid L' τ∧Keep3 hid σ τ∧down L' i=down L 0∧L'.length=L.length∧i≤L.length) L.length ?_ ?_
 ·exact ⟨L,0,by omega,Sd0,Sd0,h,.of_ext (.refl _) h.lt,rfl,rfl,by omega⟩
 rintro n ts τ ⟨L',i,hn,t0,t2,hh,hk,hd,hl,hi⟩
 obtain ⟨v,hv,hlen⟩:=hh.len
 have c2:2 * (i:Int) + 1=((2 * i + 1:Nat):Int):=by omega
 have c1:((2 * i + 1:Nat):Int) + 1=((2 * i + 2:Nat):Int):=by omega
 refine stepR (An t0 (An t2 (An hv c2))) ?_
 refine ml_op Sd0 (hlen _ _ Sd0) ?_
 rcases Nat.lt_or_ge (2 * i + 1) L.length with hlt | hge
 ·have ha1:¬ ((L'.length:Int)≤((2 * i + 1:Nat):Int)):=by omega
  refine stepR (An t0 (An t2 (An hv (An ha1 (An c2 c1))))) ?_
  refine ml_cut (fun ts τ=>HeapAt σ0 hid L' τ∧Keep3 hid σ τ∧ts 0=.pointer (some ⟨hid,0,none⟩)∧ts 2=.int .i64 ((i:Nat):Int)∧ts 3=.int .i64 ((kid L' i:Nat):Int)) ?_ ?_
  ·refine ml_op Sd0 (hlen _ _ Sd0) ?_
   rcases Nat.lt_or_ge (2 * i + 2) L.length with hlt2 | hge2
   ·have ha2:((2 * i + 2:Nat):Int) < (L'.length:Int):=by omega
    refine stepR (An t0 (An t2 (An hv (An ha2 (An c2 c1))))) ?_
    refine ml_call Sd0 (Sw t0) (hless_c hh (2 * i + 2) (2 * i + 1) (by omega) (by omega) (by omega)) ?_
    rintro _ τ2 ⟨rfl,e⟩
    cases hlt3:lt (L'.getD (2 * i + 2) (0,0)) (L'.getD (2 * i + 1) (0,0))
    ·have hkid:kid L' i=2 * i + 1:=by unfold kid;rw [if_neg];rintro ⟨_,h⟩;rw [show dv L' (2 * i + 2)=L'.getD (2 * i + 2) (0,0) from rfl,show dv L' (2 * i + 1)=L'.getD (2 * i + 1) (0,0) from rfl,hlt3] at h;cases h
     refine stepR (An t0 (An t2 (An c2 c1))) ?_
     exact ⟨hh.of_ext e,hk.trans (.of_ext e hh.lt),(Sw t0),(Sw t2),(Sw hkid)⟩
    ·have hkid:kid L' i=2 * i + 2:=by unfold kid;rw [if_pos ⟨by omega,hlt3⟩]
     refine stepR (An t0 (An t2 (An c2 c1))) ?_
     exact ⟨hh.of_ext e,hk.trans (.of_ext e hh.lt),(Sw t0),(Sw t2),(Sw hkid)⟩
   ·have ha2:¬ ((2 * i + 2:Nat):Int) < (L'.length:Int):=by omega
    have hkid:kid L' i=2 * i + 1:=by unfold kid;rw [if_neg];rintro ⟨h,_⟩;omega
    refine stepR (An t0 (An t2 (An hv (An ha2 (An c2 c1))))) ?_
    exact ⟨hh,hk,(Sw t0),(Sw t2),(Sw hkid)⟩
  ·clear t0 t2 hh hk hv hlen
   rintro ts τ ⟨hh,hk,t0,t2,t3⟩
   have hkl:kid L' i < L'.length∧i < kid L' i:=by unfold kid;split<;>omega
   refine stepR (An t0 (An t2 t3)) ?_
   refine ml_call Sd0 (Sw (An t0 (An t3 t2))) (hless_c hh (kid L' i) i hkl.1 (by omega) (by omega)) ?_
   rintro _ τ2 ⟨rfl,e⟩
   cases hlt3:lt (L'.getD (kid L' i) (0,0)) (L'.getD i (0,0))
   ·refine stepR (An t0 (An t2 t3)) ?_
    refine fin0 ⟨?_,hk.trans (.of_ext e hh.lt)⟩
    rw [← hd,down,dif_neg]
    ·exact hh.of_ext e
    ·rintro ⟨_,h⟩;rw [show dv L' (kid L' i)=L'.getD (kid L' i) (0,0) from rfl,show dv L' i=L'.getD i (0,0) from rfl,hlt3] at h;cases h
   ·refine stepR (An t0 (An t2 t3)) ?_
    refine ml_call Sd0 (Sw (An t0 (An t3 t2))) (hswap_c3 (hh.of_ext e) i (kid L' i) (by omega) hkl.1 (by omega)) ?_
    rintro _ τ3 ⟨hh3,hk3⟩
    refine stepR t3 ?_
    refine ⟨_,?_,swp L' i (kid L' i),kid L' i,rfl,(Sw t0),Sd0,hh3,(hk.trans (.of_ext e hh.lt)).trans hk3,?_,by rw [swp_len];exact hl,by omega⟩
    ·omega
    ·rw [← hd,down.eq_1 L' i,dif_pos ⟨by omega,hlt3⟩]
 ·have ha1:(L'.length:Int)≤((2 * i + 1:Nat):Int):=by omega
  refine stepR (An t0 (An t2 (An hv (An ha1 c2)))) ?_
  refine fin0 ⟨?_,hk⟩
  rw [← hd,down,dif_neg (by omega)];exact hh
end Go.Proofs.YtoejdgoicoaomaaGreatDoor
namespace Go.Proofs.YtoejdgoicoaomaaGreatDoor
theorem lt_iff {a b:Due}:lt a b=true↔a.1 < b.1∨(a.1=b.1∧a.2 < b.2):=by
 unfold lt
 by_cases h:a.1=b.1
 ·rw [if_neg (by simpa using h)];simp only [decide_eq_true_eq];omega
 ·rw [if_pos h];simp only [decide_eq_true_eq];omega
def le (a b:Due):Prop:=a.1 < b.1∨(a.1=b.1∧a.2≤b.2)
theorem le_of_not {a b:Due} (h:¬ lt b a=true):le a b:=by rw [lt_iff] at h;unfold le;omega
theorem le_of_lt {a b:Due} (h:lt a b=true):le a b:=by rw [lt_iff] at h;unfold le;omega
theorem le.trans {a b c:Due} (h:le a b) (k:le b c):le a c:=by unfold le at *;omega
theorem le.refl (a:Due):le a a:=by unfold le;omega
abbrev par (i:Nat):Nat:=(i - 1) / 2
def HeapOK (L:List Due):Prop:=∀ j,0 < j→j < L.length→le (dv L (par j)) (dv L j)
theorem dv_swp {L:List Due} {i k:Nat} (hi:i < L.length) (hk:k < L.length) (j:Nat):dv (swp L i k) j=if j=k then dv L i else if j=i then dv L k else dv L j:=by
 unfold swp dv
 simp only [List.getD_eq_getElem?_getD,List.getElem?_set,List.length_set]
 by_cases h1:j=k
 ·subst h1;simp [hk]
 ·rw [if_neg (Ne.symm h1),if_neg h1]
  by_cases h2:j=i
  ·subst h2;simp [hi]
  ·rw [if_neg (Ne.symm h2),if_neg h2]
theorem swp_perm {L:List Due} {i k:Nat} (hi:i < L.length) (hk:k < L.length):(swp L i k).Perm L:=by
 have:=List.set_set_perm hi hk
 unfold swp
 rw [List.getD_eq_getElem?_getD,List.getD_eq_getElem?_getD,List.getElem?_eq_getElem hi,List.getElem?_eq_getElem hk]
 exact this
theorem up_ok:∀ (i:Nat) (L:List Due),i < L.length→(∀ j,0 < j→j < L.length→j≠i→le (dv L (par j)) (dv L j))→(∀ j,0 < j→j < L.length→par j=i→0 < i→le (dv L (par i)) (dv L j))→
 HeapOK (up L i)∧(up L i).Perm L:=by
 intro i
 induction i using Nat.strongRecOn with
 | ind i ih=>
   intro L hi h1 h2
   rw [up]
   by_cases hc:0 < i∧lt (dv L i) (dv L (par i))=true
   ·rw [dif_pos hc]
    have hp:par i < i:=by unfold par;omega
    have hpl:par i < L.length:=by omega
    have D:=dv_swp (L:=L) hi hpl
    obtain ⟨a,b⟩:=ih (par i) hp (swp L i (par i)) (by rw [swp_len];exact hpl) (fun j j0 jl jne=>by
     rw [swp_len] at jl
     rw [D j,D (par j),if_neg jne]
     by_cases e1:j=i
     ·subst e1;rw [if_pos rfl,if_pos rfl];exact le_of_lt hc.2
     ·rw [if_neg e1]
      by_cases e2:par j=par i
      ·rw [if_pos e2]
       have:=h1 j j0 jl e1
       rw [e2] at this
       exact (le_of_lt hc.2).trans this
      ·rw [if_neg e2]
       by_cases e3:par j=i
       ·rw [if_pos e3];exact h2 j j0 jl e3 hc.1
       ·rw [if_neg e3];exact h1 j j0 jl e1) (fun j j0 jl je p0=>by
     rw [swp_len] at jl
     have hpp:par (par i) < par i:=by unfold par at *;omega
     rw [D j,D (par (par i)),if_neg (by omega),if_neg (by omega),if_neg (by unfold par at *;omega)]
     have hpi:=h1 (par i) p0 hpl (by omega)
     by_cases e1:j=i
     ·subst e1;rw [if_pos rfl];exact hpi
     ·rw [if_neg e1]
      have:=h1 j j0 jl e1
      rw [je] at this
      exact hpi.trans this)
    exact ⟨a,b.trans (swp_perm hi hpl)⟩
   ·rw [dif_neg hc]
    refine ⟨fun j j0 jl=>?_,.refl _⟩
    by_cases e:j=i
    ·subst e
     exact le_of_not fun h=>hc ⟨j0,h⟩
    ·exact h1 j j0 jl e
theorem push_ok {L:List Due} (h:HeapOK L) (x:Due):HeapOK (up (L ++ [x]) L.length)∧(up (L ++ [x]) L.length).Perm (L ++ [x]):=by
 have D:∀ j,j < L.length→dv (L ++ [x]) j=dv L j:=fun j hj=>by
  unfold dv;rw [List.getD_eq_getElem?_getD,List.getElem?_append_left hj,List.getD_eq_getElem?_getD]
 refine up_ok L.length (L ++ [x]) (by simp) (fun j j0 jl jne=>?_) (fun j j0 jl je l0=>?_)
 ·simp only [List.length_append,List.length_cons,List.length_nil] at jl
  rw [D j (by omega),D (par j) (by unfold par;omega)]
  exact h j j0 (by omega)
 ·simp only [List.length_append,List.length_cons,List.length_nil] at jl
  unfold par at je;omega
theorem kid_spec {L:List Due} {i:Nat} (h:2 * i + 1 < L.length):kid L i < L.length∧par (kid L i)=i∧i < kid L i∧∀ j,0 < j→j < L.length→par j=i→le (dv L (kid L i)) (dv L j):=by
 unfold kid
 split
 ·rename_i hc
  refine ⟨by omega,by unfold par;omega,by omega,fun j j0 jl je=>?_⟩
  have:j=2 * i + 1∨j=2 * i + 2:=by unfold par at je;omega
  rcases this with rfl | rfl
  ·exact le_of_lt hc.2
  ·exact le.refl _
 ·rename_i hc
  refine ⟨h,by unfold par;omega,by omega,fun j j0 jl je=>?_⟩
  have:j=2 * i + 1∨j=2 * i + 2:=by unfold par at je;omega
  rcases this with rfl | rfl
  ·exact le.refl _
  ·exact le_of_not fun h2=>hc ⟨jl,h2⟩
theorem down_ok:∀ (n:Nat) (i:Nat) (L:List Due),L.length - i=n→(∀ j,0 < j→j < L.length→par j≠i→le (dv L (par j)) (dv L j))→(∀ j,0 < j→j < L.length→par j=i→0 < i→le (dv L (par i)) (dv L j))→
 HeapOK (down L i)∧(down L i).Perm L:=by
 intro n
 induction n using Nat.strongRecOn with
 | ind n ih=>
   intro i L hn h1 h2
   rw [down]
   by_cases hc:2 * i + 1 < L.length∧lt (dv L (kid L i)) (dv L i)=true
   ·rw [dif_pos hc]
    obtain ⟨k1,k2,k3,k4⟩:=kid_spec hc.1
    have hi:i < L.length:=by omega
    generalize kid L i=k at hc k1 k2 k3 k4
    have D:=dv_swp (L:=L) hi k1
    obtain ⟨a,b⟩:=ih (L.length - k) (by omega) k (swp L i k) (by rw [swp_len]) (fun j j0 jl jne=>by
     rw [swp_len] at jl
     rw [D j,D (par j),if_neg jne]
     by_cases e1:j=k
     ·subst e1;rw [if_pos rfl,k2,if_pos rfl];exact le_of_lt hc.2
     ·rw [if_neg e1]
      by_cases e2:j=i
      ·subst e2;rw [if_pos rfl,if_neg (by unfold par;omega)];exact h2 k (by omega) k1 k2 j0
      ·rw [if_neg e2]
       by_cases e3:par j=i
       ·rw [if_pos e3];exact k4 j j0 jl e3
       ·rw [if_neg e3];exact h1 j j0 jl e3) (fun j j0 jl je k0=>by
     rw [swp_len] at jl
     have hjk:k < j:=by unfold par at je;omega
     rw [D j,D (par k),k2,if_neg (by omega),if_pos rfl,if_neg (by omega),if_neg (by omega)]
     have:=h1 j j0 jl (by rw [je];omega)
     rwa [je] at this)
    exact ⟨a,b.trans (swp_perm hi k1)⟩
   ·rw [dif_neg hc]
    refine ⟨fun j j0 jl=>?_,.refl _⟩
    by_cases e:par j=i
    ·have hl:2 * i + 1 < L.length:=by unfold par at e;omega
     obtain ⟨k1,k2,k3,k4⟩:=kid_spec hl
     rw [e]
     exact (le_of_not fun h=>hc ⟨hl,h⟩).trans (k4 j j0 jl e)
    ·exact h1 j j0 jl e
theorem first_least {L:List Due} (h:HeapOK L):∀ (n i:Nat),i≤n→i < L.length→le (dv L 0) (dv L i):=by
 intro n
 induction n with
 | zero=>intro i hi _;rw [Nat.le_zero.1 hi];exact le.refl _
 | succ n ih=>
   intro i hi hl
   by_cases h0:i=0
   ·subst h0;exact le.refl _
   ·exact (ih (par i) (by unfold par;omega) (by unfold par;omega)).trans (h i (by omega) hl)
theorem least_mem {L:List Due} (h:HeapOK L) {y:Due} (hy:y ∈ L):le (dv L 0) y:=by
 obtain ⟨i,hi,rfl⟩:=List.getElem_of_mem hy
 have:=first_least h i i (Nat.le_refl _) hi
 unfold dv at this
 rwa [List.getD_eq_getElem?_getD (i:=i),List.getElem?_eq_getElem hi] at this
def popRest (L:List Due):List Due:=(L.set 0 (dv L (L.length - 1))).take (L.length - 1)
theorem popRest_perm {L:List Due} (hne:0 < L.length):(dv L 0 :: popRest L).Perm L:=by
 cases L with
 | nil=>exact absurd hne (Nat.lt_irrefl _)
 | cons a t=>
   rcases List.eq_nil_or_concat t with rfl | ⟨m,z,rfl⟩
   ·exact .refl _
   ·have e:popRest (a :: (m.concat z))=z :: m:=by
     simp [popRest,dv]
    rw [e,List.concat_eq_append]
    show (a :: z :: m).Perm (a :: (m ++ [z]))
    exact .cons a (List.perm_append_singleton z m).symm
theorem pop_ok {L:List Due} (h:HeapOK L) (hne:0 < L.length):HeapOK (down (popRest L) 0)∧(dv L 0 :: down (popRest L) 0).Perm L:=by
 have hl:(popRest L).length=L.length - 1:=by simp [popRest]
 have D:∀ j,0 < j→j < L.length - 1→dv (popRest L) j=dv L j:=fun j j0 hj=>by
  unfold popRest dv
  rw [List.getD_eq_getElem?_getD,List.getElem?_take,if_pos hj,List.getElem?_set_ne (by omega),List.getD_eq_getElem?_getD]
 obtain ⟨a,b⟩:=down_ok _ 0 (popRest L) rfl (fun j j0 jl jp=>by
  rw [hl] at jl
  rw [D j j0 jl,D (par j) (by omega) (by unfold par;omega)]
  exact h j j0 (by omega)) (fun j j0 jl je h0=>absurd h0 (Nat.lt_irrefl _))
 exact ⟨a,(b.cons _).trans (popRest_perm hne)⟩
end Go.Proofs.YtoejdgoicoaomaaGreatDoor
namespace Go.Proofs.YtoejdgoicoaomaaGreatDoor
open Go.Mini
open Go.Proofs.YtoejdgoicoaomaaGreatDoor.Code
attribute [local irreducible] mx ml mld mstep MCalls Ex.thn Ex.inb
theorem rowL_cons {cs:List Value} {k n:Nat} {v:Value} {vs:List Value} (h:rowL cs k (n + 1)=some (v :: vs)):cs[k]?=some v∧rowL cs (k + 1) n=some vs:=by
 simp only [rowL] at h
 cases hc:cs[k]? with
 | none=>rw [hc] at h;cases h
 | some u=>
   rw [hc] at h
   simp only [Option.map_eq_some_iff] at h
   obtain ⟨w,hw,e⟩:=h
   injection e with e1 e2
   subst e1;subst e2
   exact ⟨rfl,hw⟩
def Tl (σ:H) (lo:Nat) (av:Option Nat) (v:Value) (q:List Int):Prop:=∃ id off cs,v=.slice (some ⟨id,off,none⟩) q.length q.length∧(lo≤id∧some id≠av)∧σ.get id=.cells 1 cs∧rowL cs off q.length=some (ints q)
theorem o_appTl {ts:Fr} {σ:H} {lo bytes:Nat} {av:Option Nat} {xs xx:Opd} {v:Value} {q:List Int} {n:Int} {tid:Nat} (hv:mev ts xs=v) (hx:mev ts xx=.slice (some ⟨tid,0,none⟩) 1 1)
 (h:Tl σ lo av v q) (hlo:lo≤σ.size) (hav:some σ.size≠av) (ht:σ.get tid=.cells 1 [.int .i64 n]) (hb:bytes≤128) (hn:q.length < appMax):
 ∃ id v' τ,mop ts σ (.app 1 bytes xs xx)=some (v',τ)∧(lo≤id∧some id≠av)∧(∃ cs,σ.get id=.cells 1 cs)∧Tl τ lo av v' (q ++ [n])∧τ.size=σ.size + 1∧∀ i,i < σ.size→i≠id→τ.get i=σ.get i:=by
 obtain ⟨id,off,cs,rfl,hid,hg,hr⟩:=h
 have hrow:firstL σ 1 1 (.slice (some ⟨tid,0,none⟩) 1 1)=some [.int .i64 n]:=by
  simp only [firstL,H.row,ht,Nat.one_mul];rfl
 have hrow2:σ.row id off (q.length * 1)=some (ints q):=by simp only [H.row,hg,Nat.mul_one,hr]
 have e:ints q ++ [Value.int .i64 n]=ints (q ++ [n]):=by simp [ints]
 have h1:(ints (q ++ [n])).all one=true:=ints_one _
 have happ:q.length + 1≤appMax∧bytes≤128:=⟨hn,hb⟩
 refine ⟨id,.slice (some ⟨σ.size,0,none⟩) (q.length + 1) (q.length + 1),(σ.set id .dead).push (.cells 1 (ints (q ++ [n]))),?_,hid,⟨cs,hg⟩,?_,by simp,fun i hi hne=>?_⟩
 ·simp only [mop,hv,hx,lenL]
  rw [if_neg (by omega),if_pos happ]
  simp only [hrow,hrow2,hg,h1,e,true_or,and_self,if_true]
 ·refine ⟨σ.size,0,ints (q ++ [n]),by simp,⟨hlo,hav⟩,?_,?_⟩
  ·have:=H.get_push_self (σ.set id .dead) (.cells 1 (ints (q ++ [n])))
   rwa [H.size_set] at this
  ·exact rowAll (by rw [ints_len])
 ·rw [H.get_push_lt (by simpa using hi),H.get_set_ne hne]
theorem Tl.keep {σ τ:H} {lo:Nat} {av:Option Nat} {v:Value} {q:List Int} (h:Tl σ lo av v q) (hk:∀ i cs,σ.get i=.cells 1 cs→τ.get i=σ.get i):Tl τ lo av v q:=by
 obtain ⟨id,off,cs,hv,hid,hg,hr⟩:=h
 exact ⟨id,off,cs,hv,hid,by rw [hk id cs hg];exact hg,hr⟩
theorem Tl.free {σ:H} {lo:Nat} {av:Option Nat} {v:Value} {q:List Int} (h:Tl σ lo av v q):Tl σ lo none v q:=by
 obtain ⟨id,off,cs,hv,hid,hg,hr⟩:=h
 exact ⟨id,off,cs,hv,⟨hid.1,by simp⟩,hg,hr⟩
section
variable {E:World→Prop} {P:Program} {ts:Fr} {σ τ:H} {v:Value} {K:Fr→H→Prop} {Q:MQ} {rest:List MI} {drest:List DI}
theorem o_lenI {x:Opd} {oid:Option Nat} {l:List Int} (hx:mev ts x=v) (own:Own σ 1 v oid (ints l)):mop ts σ (.len false x)=some (.int .i64 l.length,σ):=by
 generalize hc:ints l=cs at own
 have hl:l.length=cs.length:=by rw [← hc,ints_len]
 cases own with
 | nil=>simp only [mop,hx];simp at hl;simp [hl]
 | full h hlen=>simp only [mop,hx];rw [hl,hlen,Nat.mul_one]
theorem own_at {oid:Option Nat} {l:List Int} {i:Nat} (own:Own σ 1 v oid (ints l)) (hi:i < l.length):
 ∃ id cs,oid=some id∧v=.slice (some ⟨id,0,none⟩) l.length l.length∧σ.get id=.cells 1 cs∧cs[i]?=some (.int .i64 (l.getD i 0)):=by
 generalize hc:ints l=cs at own
 have hl:l.length=cs.length:=by rw [← hc,ints_len]
 cases own with
 | nil=>simp at hl;rw [hl] at hi;exact absurd hi (Nat.not_lt_zero _)
 | @full id n _ h hlen=>
   have:n=l.length:=by omega
   subst this
   refine ⟨_,_,rfl,rfl,h,?_⟩
   rw [← hc,ints,List.getElem?_map,List.getD_eq_getElem?_getD,List.getElem?_eq_getElem hi];rfl
theorem ml_appTl {d:Option Nat} {g:Option (Nat × Bool)} {lo bytes:Nat} {av:Option Nat} {xs xx:Opd} {q:List Int} {n:Int} {tid:Nat} (hw:wantM ts g=true) (hv:mev ts xs=v) (hx:mev ts xx=.slice (some ⟨tid,0,none⟩) 1 1)
 (h:Tl σ lo av v q) (hlo:lo≤σ.size) (hav:some σ.size≠av) (ht:σ.get tid=.cells 1 [.int .i64 n]) (hb:bytes≤128) (hn:q.length < appMax)
 (hk:∀ id v' τ,some id≠av→lo≤id→(∃ cs,σ.get id=.cells 1 cs)→Tl τ lo av v' (q ++ [n])→τ.size=σ.size + 1→(∀ i,i < σ.size→i≠id→τ.get i=σ.get i)→ml E P rest K (updO ts d v') τ):
 ml E P (⟨d,.app 1 bytes xs xx,g⟩ :: rest) K ts σ:=by
 obtain ⟨id,v',τ,h1,h2,h3,h4,h5,h6⟩:=o_appTl hv hx h hlo hav ht hb hn
 exact ml_step hw h1 (hk id v' τ h2.2 h2.1 h3 h4 h5 h6)
theorem _root_.Go.Mini.Own.cells {sz i:Nat} {cs:List Value} (h:Own σ sz v (some i) cs):∃ cs,σ.get i=.cells sz cs:=by
 cases h with
 | full h hl=>exact ⟨_,h⟩
theorem ml_iaI {d:Option Nat} {g:Option (Nat × Bool)} {x i:Opd} {oid:Option Nat} {l:List Int} {k:IntKind} {q:Int} (hw:wantM ts g=true) (hx:mev ts x=v) (own:Own σ 1 v oid (ints l)) (hi:mev ts i=.int k q) (h0:0≤q) (h1:q < l.length)
 (hn:∀ id cs,σ.get id=.cells 1 cs→cs[q.toNat]?=some (.int .i64 (l.getD q.toNat 0))→ml E P rest K (updO ts d (.pointer (some ⟨id,q.toNat,none⟩))) σ):ml E P (⟨d,.iaS 1 x i,g⟩ :: rest) K ts σ:=by
 obtain ⟨id,cs,_,hv,hg,hc⟩:=own_at (i:=q.toNat) own (by omega)
 have:=hn id cs hg hc
 refine ml_step hw (o_iaS (by rw [hx,hv]) hi h0 (by omega)) ?_
 rw [Nat.zero_add,Nat.mul_one];exact this
end
def setE (met:List Int):List (Value × Value):=met.map fun x=>(.int .i64 x,.bool true)
theorem look_in (n:Int):∀ (met:List Int) (i:Nat),n ∈ met→∃ j,lookL (.int .i64 n) (setE met) i=some (some (j,.bool true))
 | [],_,h=>by cases h
 | x :: met,i,h=>by
   by_cases e:n=x
   ·subst e;exact ⟨i,by simp [setE,lookL,keyEq]⟩
   ·obtain ⟨j,hj⟩:=look_in n met (i + 1) (by cases h with | head=>exact absurd rfl e | tail _ h=>exact h)
    refine ⟨j,?_⟩
    simp only [setE,List.map_cons,lookL,keyEq,if_true]
    have:(n == x)=false:=by simpa using e
    rw [this];exact hj
theorem look_out (n:Int):∀ (met:List Int) (i:Nat),n ∉ met→lookL (.int .i64 n) (setE met) i=some none
 | [],_,_=>rfl
 | x :: met,i,h=>by
   have hx:n≠x:=fun e=>h (by rw [e];exact List.mem_cons_self)
   simp only [setE,List.map_cons,lookL,keyEq,if_true]
   have:(n == x)=false:=by simpa using hx
   rw [this];exact look_out n met (i + 1) (fun hm=>h (List.mem_cons_of_mem _ hm))
theorem setE_app (met:List Int) (n:Int):setE met ++ [(.int .i64 n,.bool true)]=setE (met ++ [n]):=by simp [setE]
inductive Reach (W:Int) (S:ByteArray) (a:Int):Int→Prop where
 | here:Reach W S a a
 | step {b c:Int} (h:Reach W S a b) (hn:c ∈ nearL W S b):Reach W S a c
theorem mem_nadd {S:ByteArray} {n x:Int} {is:Bool} {l:List Int}:x ∈ nadd S n is l↔x ∈ l∨(x=n∧is=true∧opn S n=true):=by
 unfold nadd
 split
 ·rename_i h;simp only [Bool.and_eq_true] at h;simp [h]
 ·rename_i h
  simp only [Bool.and_eq_true] at h
  constructor
  ·exact fun hx=>.inl hx
  ·rintro (hx | ⟨_,a,b⟩)
   ·exact hx
   ·exact absurd ⟨a,b⟩ h
theorem near_opn {W:Int} {S:ByteArray} {c x:Int} (h:x ∈ nearL W S c):opn S x=true:=by
 unfold nearL at h
 simp only [mem_nadd] at h
 rcases h with (((h | h) | h) | h) | h
 ·cases h
 all_goals (rw [h.1];exact h.2.2)
theorem opn_lt {S:ByteArray} {x:Int} (h:opn S x=true):0≤x∧x < S.size:=by
 simp only [opn,Bool.and_eq_true,decide_eq_true_eq] at h
 exact h.1
theorem nodup_len:∀ {n:Nat} {l:List Int},l.Nodup→(∀ x ∈ l,0≤x∧x < n)→l.length≤n
 | 0,l,_,h=>by
   cases l with
   | nil=>exact Nat.le_refl _
   | cons x l=>have:=h x List.mem_cons_self;omega
 | n + 1,l,hd,h=>by
   by_cases hm:(n:Int) ∈ l
   ·have h1:=nodup_len (n:=n) (hd.erase (n:Int)) (fun x hx=>by
     have hx2:=(hd.mem_erase_iff).1 hx
     have:=h x hx2.2;omega)
    rw [List.length_erase_of_mem hm] at h1
    omega
   ·have:=nodup_len (n:=n) hd (fun x hx=>by
     have:=h x hx
     have hne:x≠n:=fun e=>hm (by rw [← e];exact hx)
     omega)
    omega
end Go.Proofs.YtoejdgoicoaomaaGreatDoor
namespace Go.Proofs.YtoejdgoicoaomaaGreatDoor
open Go.Mini
open Go.Proofs.YtoejdgoicoaomaaGreatDoor.Code
attribute [local irreducible] mx ml mld mstep MCalls Ex.thn Ex.inb
variable {E:World→Prop}
theorem o_mlook {ts:Fr} {σ:H} {x k:Opd} {r c:Nat} {n:Int} {met:List Int} (hx:mev ts x=.map (some r)) (hk:mev ts k=.int .i64 n) (hg:σ.get r=.map (setE met) c):
 mop ts σ (.mlook .int false (.bool false) x k)=some (.bool (decide (n ∈ met)),σ):=by
 simp only [mop,hx,hk,hg,KD.has,if_true]
 by_cases h:n ∈ met
 ·obtain ⟨j,hj⟩:=look_in n met 0 h
  simp [hj,h]
 ·simp [look_out n met 0 h,h]
theorem o_mupd {ts:Fr} {σ:H} {x k v:Opd} {r c:Nat} {n:Int} {met:List Int} (hx:mev ts x=.map (some r)) (hk:mev ts k=.int .i64 n) (hv:mev ts v=.bool true) (hg:σ.get r=.map (setE met) c) (hn:n ∉ met):
 mop ts σ (.mupd .int x k v)=some (undef,σ.set r (.map (setE (met ++ [n])) (c + 1))):=by
 simp only [mop,hx,hk,hv,hg,KD.has,if_true,look_out n met 0 hn,setE_app]
structure RH (σ0:H) (av:Option Nat) (b0 m:Nat) (mv:List Value) (v:Value) (met q:List Int) (τ:H):Prop where
 ext:Ext σ0 τ
 lb:σ0.size≤b0
 lm:σ0.size≤m
 gb:τ.get b0=.cells 0 mv
 gm:∃ c,τ.get m=.map (setE met) c
 tl:Tl τ σ0.size av v q
theorem RH.of_ext {σ0 τ τ':H} {av:Option Nat} {b0 m:Nat} {mv:List Value} {v:Value} {met q:List Int} (h:RH σ0 av b0 m mv v met q τ) (e:Ext τ τ'):RH σ0 av b0 m mv v met q τ':=by
 obtain ⟨h1,h2,h3,h4,⟨c,h5⟩,h6⟩:=h
 exact ⟨h1.trans e,h2,h3,e.cells h4,⟨c,e.live h5 (by simp)⟩,h6.keep fun i cs hi=>e.get i (H.lt_of_cells hi)⟩
theorem RH.insert {σ0 τ:H} {av:Option Nat} {b0 m c:Nat} {mv:List Value} {v:Value} {met q:List Int} {n:Int} (h:RH σ0 av b0 m mv v met q τ) (hg:τ.get m=.map (setE met) c) (hn:n ∉ met):
 RH σ0 av b0 m mv v (met ++ [n]) q (τ.set m (.map (setE (met ++ [n])) (c + 1))):=by
 obtain ⟨h1,h2,h3,h4,h5,h6⟩:=h
 refine ⟨h1.set' h3 _,h2,h3,?_,⟨c + 1,H.get_set_self (H.lt_of_live (by rw [hg];simp))⟩,h6.keep fun i cs hi=>H.get_set_ne (fun e=>by subst e;rw [hg] at hi;cases hi)⟩
 rw [H.get_set_ne (fun e=>by subst e;rw [hg] at h4;cases h4)];exact h4
structure RP (W:Int) (S:ByteArray) (a:Int) (met q ex:List Int):Prop where
 nd:met.Nodup
 op:∀ x ∈ met,opn S x=true
 re:∀ x ∈ met,Reach W S a x
 sub:∀ x ∈ q,x ∈ met
 here:a ∈ met
 cl:∀ x ∈ met,x ∉ q→x ∉ ex→∀ y ∈ nearL W S x,y ∈ met
theorem RP.add {W:Int} {S:ByteArray} {a n:Int} {met q ex:List Int} (h:RP W S a met q ex) (hn:n ∉ met) (ho:opn S n=true) (hr:Reach W S a n):RP W S a (met ++ [n]) (q ++ [n]) ex:=by
 refine ⟨?_,fun x hx=>?_,fun x hx=>?_,fun x hx=>?_,List.mem_append_left _ h.here,fun x hx hq he y hy=>?_⟩
 ·rw [List.nodup_append]
  exact ⟨h.nd,by simp,fun a ha b hb=>by simp at hb;subst hb;exact fun e=>hn (e ▸ ha)⟩
 ·rcases List.mem_append.1 hx with hx | hx
  ·exact h.op x hx
  ·simp at hx;rw [hx];exact ho
 ·rcases List.mem_append.1 hx with hx | hx
  ·exact h.re x hx
  ·simp at hx;rw [hx];exact hr
 ·rcases List.mem_append.1 hx with hx | hx
  ·exact List.mem_append_left _ (h.sub x hx)
  ·exact List.mem_append_right _ hx
 ·have hqx:x ∉ q:=fun e=>hq (List.mem_append_left _ e)
  have hxn:x ∈ met:=by
   rcases List.mem_append.1 hx with hx | hx
   ·exact hx
   ·exact absurd (List.mem_append_right _ hx) hq
  exact List.mem_append_left _ (h.cl x hxn hqx he y hy)
theorem RP.len {W:Int} {S:ByteArray} {a:Int} {met q ex:List Int} (h:RP W S a met q ex):met.length≤S.size:=nodup_len h.nd fun x hx=>opn_lt (h.op x hx)
set_option maxHeartbeats 2000000 in
theorem reached_c (W Hh:Int) (S:ByteArray) (a:Int) (σ:H) (hW:1≤W) (hW2:W≤1000) (hS:S.size≤1000) (ha:opn S a=true):
 MCalls E Tryz.prog 46 [mapV W Hh S,.int .i64 a] σ (fun v τ=>Ext σ τ∧∃ met:List Int,met.Nodup∧(∀ x,x ∈ met↔Reach W S a x)∧v=.int .i64 met.length):=by
 refine mcalls_of fn46 (by simp) ?_
 unfold c46 r46 mapV
 refine stepR0 ?_
 refine ml_op Sd0 (o_mupd (met:=[]) (n:=a) (c:=0) Sd0 Sd0 Sd0 (H.get_push_self _ _) (by simp)) ?_
 refine stepR0 ?_
 generalize hτ:H.push (H.set _ _ _) _=τ
 have hτs:τ.size=σ.size + 3:=by rw [← hτ];simp
 have r0:RH σ none σ.size (σ.size + 1) (mapC W Hh S) (.slice (some ⟨σ.size + 2,0,none⟩) 1 1) [a] [a] τ:=by
  subst hτ
  refine ⟨?_,by omega,by omega,?_,⟨1,?_⟩,σ.size + 2,0,[.int .i64 a],rfl,⟨by omega,by simp⟩,?_,rfl⟩
  ·exact ((Ext.trans (Ext.push _ _) (Ext.push _ _)).set' (by simp) _).trans (Ext.push _ _)
  ·rw [H.get_push_ne (by simp only [H.size_push,H.size_set];omega),H.get_set_ne (by omega),H.get_push_ne (by simp),H.get_push_self];rfl
  ·rw [H.get_push_ne (by simp),H.get_set_self (by simp)]
  ·exact H.get_push_self (H.set _ _ _) _
 have p0:RP W S a [a] [a] []:=⟨by simp,fun x hx=>by simp at hx;rw [hx];exact ha,fun x hx=>by simp at hx;rw [hx];exact .here,fun x hx=>hx,by simp,fun x hx hq=>absurd hx hq⟩
 refine mx_loop (fun n ts τ=>∃ met q v,ts 2=.pointer (some ⟨σ.size,0,none⟩)∧ts 5=.map (some (σ.size + 1))∧ts 6=v∧RH σ none σ.size (σ.size + 1) (mapC W Hh S) v met q τ∧RP W S a met q []∧n=2 * (S.size - met.length) + q.length∧n≤2 * S.size) (2 * (S.size - 1) + 1)
  ⟨[a],[a],_,Sd0,Sd0,Sd0,r0,p0,rfl,by have:=opn_lt ha;omega⟩ ?_
 clear hτ hτs r0 p0
 rintro n ts τ ⟨met,q,v,h2,h5,h6,rh,rp,hn,hnS⟩
 obtain ⟨id,off,cs,rfl,hid,hg,hrow⟩:=rh.tl
 cases q with
 | nil=>
   obtain ⟨c,hm⟩:=rh.gm
   refine stepR (An h6 (An h5 hm)) ?_
   refine fin1 ⟨rh.ext,met,rp.nd,fun y=>⟨rp.re y,fun hr=>?_⟩,(by first | with_reducible rfl | (simp only [go_sem,reduceIte,Nat.reduceEqDiff,reduceCtorEq,Nat.reduceAdd,Nat.reduceLeDiff,Int.reduceNeg,Int.reduceToNat,Int.reduceBEq,Int.reduceBNe,Int.reduceLT,Int.reduceLE,Int.reduceAdd,Int.reduceSub,setE,List.length_map];done) | (simp only [go_sem,reduceIte,Nat.reduceEqDiff,reduceCtorEq,Nat.reduceAdd,Nat.reduceLeDiff,Int.reduceNeg,Int.reduceToNat,Int.reduceBEq,Int.reduceBNe,Int.reduceLT,Int.reduceLE,Int.reduceAdd,Int.reduceSub,setE,List.length_map];with_reducible rfl) | (simp only [go_sem,reduceIte,Nat.reduceEqDiff,reduceCtorEq,Nat.reduceAdd,Nat.reduceLeDiff,Int.reduceNeg,Int.reduceToNat,Int.reduceBEq,Int.reduceBNe,Int.reduceLT,Int.reduceLE,Int.reduceAdd,Int.reduceSub,setE,List.length_map];(try simp (disch:=omega) only [i64wrap,u64wrap,u8wrap,u32wrap,i32wrap]);first | with_reducible rfl | done | (refine congrArg (Value.int _) ?_;omega)) | (simp only [go_sem,reduceIte,Nat.reduceEqDiff,reduceCtorEq,Nat.reduceAdd,Nat.reduceLeDiff,Int.reduceNeg,Int.reduceToNat,Int.reduceBEq,Int.reduceBNe,Int.reduceLT,Int.reduceLE,Int.reduceAdd,Int.reduceSub,setE,List.length_map];rfl))⟩
   induction hr with
   | here=>exact rp.here
   | step _ hn ih=>exact rp.cl _ ih (by simp) (by simp) _ hn
 | cons x q=>
   obtain ⟨hx0,hrow'⟩:=rowL_cons (v:=.int .i64 x) (vs:=ints q) hrow
   have hxo:=rp.op x (rp.sub x (by simp))
   have hxl:=opn_lt hxo
   simp only [List.length_cons] at h6 hn
   have gb:=rh.gb
   refine stepR (An h6 (An h5 (An hg hx0))) ?_
   refine ml_op Sd0 (o_slc_lo (q:=1) (k:=.i64) (len:=q.length + 1) (Sw h6) Sd0 (by omega) (by omega) hg) ?_
   refine stepR (An h2 gb) ?_
   refine ml_call (Sw (An h2 gb)) Sd0 (near_c W Hh S x τ hW hW2 (by omega) (by omega)) ?_
   rintro nv τ1 ⟨e1,oid,own,hoid⟩
   have hidlt:=H.lt_of_cells hg
   have rh1:RH σ oid σ.size (σ.size + 1) (mapC W Hh S) (.slice (some ⟨id,off + 1,none⟩) q.length q.length) met q τ1:=by
    refine RH.of_ext ⟨rh.ext,rh.lb,rh.lm,rh.gb,rh.gm,id,off + 1,cs,rfl,⟨hid.1,fun e=>?_⟩,hg,hrow'⟩ e1
    have:=hoid id e.symm;omega
   have rp1:RP W S a met q [x]:=⟨rp.nd,rp.op,rp.re,fun y hy=>rp.sub y (by simp [hy]),rp.here,fun y hy hq he z hz=>rp.cl y hy (by simp at he;simp [hq,he]) (by simp) z hz⟩
   have hxr:=rp.re x (rp.sub x (by simp))
   have hlall:∀ y ∈ nearL W S x,opn S y=true∧Reach W S a y:=fun y hy=>⟨near_opn hy,.step hxr hy⟩
   have hln:(nearL W S x).length≤4:=by
    unfold nearL
    refine Nat.le_trans (nadd_len _ _ _ _) (Nat.succ_le_succ (Nat.le_trans (nadd_len _ _ _ _) (Nat.succ_le_succ (Nat.le_trans (nadd_len _ _ _ _) (Nat.succ_le_succ (nadd_len _ _ _ _))))))
   have hclose:∀ {met q},RP W S a met q [x]→(∀ y ∈ nearL W S x,y ∈ met)→RP W S a met q []:=fun h hy=>⟨h.nd,h.op,h.re,h.sub,h.here,fun z hz hq _ u hu=>by
    by_cases e:z=x
    ·subst e;exact hy u hu
    ·exact h.cl z hz hq (by simp [e]) u hu⟩
   generalize nearL W S x=l at own hlall hln hclose
   refine ml_op Sd0 (o_lenI Sd0 own) ?_
   refine stepR0 ?_
   have hlen1:=rp.len
   refine mx_loop (fun n2 ts τ=>∃ met q v i,ts 2=.pointer (some ⟨σ.size,0,none⟩)∧ts 5=.map (some (σ.size + 1))∧ts 6=v∧ts 25=nv∧ts 26=.int .i64 l.length∧ts 27=.int .i64 ((i:Nat):Int)∧i≤l.length∧Own τ 1 nv oid (ints l)∧
    RH σ oid σ.size (σ.size + 1) (mapC W Hh S) v met q τ∧RP W S a met q [x]∧(∀ y ∈ l.take i,y ∈ met)∧n2=l.length - i∧2 * (S.size - met.length) + q.length < n) l.length ?_ ?_
   ·exact ⟨met,q,_,0,(Sw h2),(Sw h5),Sd0,Sd0,Sd0,Sd0,by omega,own,rh1,rp1,by simp,by omega,by omega⟩
   clear rh rp hg hrow hx0 hrow' gb own rh1 rp1 hlen1 h2 h5 h6 hn e1
   rintro n2 ts τ ⟨met,q,v,i,h2,h5,h6,h25,h26,h27,hi,own,rh,rp,htk,hn2,hn⟩
   have hlen1:=rp.len
   rcases Nat.lt_or_ge i l.length with hlt | hge
   ·refine stepR (An h27 h26) ?_
    refine ml_iaI (q:=(i:Int)) Sd0 (Sw h25) own (Sw h27) (by omega) (by omega) fun pid pcs hpg hpc=>?_
    rw [Int.toNat_natCast] at hpc ⊢
    generalize hy:l.getD i 0=y at hpc
    have hyl:y ∈ l:=by rw [← hy,List.getD_eq_getElem?_getD,List.getElem?_eq_getElem hlt];exact List.getElem_mem _
    obtain ⟨c,gm⟩:=rh.gm
    refine stepR (An hpg (An hpc h5)) ?_
    refine ml_op Sd0 (o_mlook (Sw h5) Sd0 gm) ?_
    have htk':l.take (i + 1)=l.take i ++ [y]:=by rw [List.take_add_one,← hy,List.getD_eq_getElem?_getD,List.getElem?_eq_getElem hlt];rfl
    by_cases hm:y ∈ met
    ·refine stepR (An hm h27) ?_
     refine ⟨l.length - (i + 1),by omega,met,q,v,i + 1,(Sw h2),(Sw h5),(Sw h6),(Sw h25),(Sw h26),Sd0,by omega,own,rh,rp,fun z hz=>?_,rfl,hn⟩
     ·rw [htk'] at hz
      rcases List.mem_append.1 hz with hz | hz
      ·exact htk z hz
      ·simp at hz;rw [hz];exact hm
    ·refine stepR (An hm h5) ?_
     refine ml_op Sd0 (o_mupd (n:=y) (Sw h5) Sd0 Sd0 gm hm) ?_
     have rh2:=rh.insert gm hm
     have own2:Own (τ.set (σ.size + 1) (.map (setE (met ++ [y])) (c + 1))) 1 nv oid (ints l):=own.ext fun j hj=>H.get_set_ne (fun e=>by
      subst hj
      have:=own.cells;rw [e,gm] at this;obtain ⟨_,h⟩:=this;cases h)
     generalize hτ2:τ.set (σ.size + 1) (.map (setE (met ++ [y])) (c + 1))=τ2 at rh2 own2
     refine stepR h6 ?_
     have rp2:=rp.add hm (hlall y hyl).1 (hlall y hyl).2
     have hlen2:=rp2.len
     simp only [List.length_append,List.length_cons,List.length_nil] at hlen2
     have rh3:=rh2.of_ext (Ext.push τ2 (.cells 1 [.int .i64 y]))
     have own3:=own2.of_ext (Ext.push τ2 (.cells 1 [.int .i64 y]))
     have hlo:=rh2.ext.size
     refine ml_appTl Sd0 Sd0 Sd0 rh3.tl (by simp only [H.size_push];omega) (fun e=>?_) (H.get_push_self _ _) (by omega) (by simp only [appMax];omega) ?_
     ·have:=own3;rw [← e] at this;have:=this.lt;omega
     intro qid v' τ4 hq1 hq0 ⟨qcs,hq2⟩ htl hsz hget
     obtain ⟨c2,gm2⟩:=rh3.gm
     have k1:∀ i o,(τ2.push (.cells 1 [.int .i64 y])).get i=o→o≠.dead→(∀ cs,o≠.cells 1 cs)→τ4.get i=o:=fun i o h1 h2 h3=>by
      rw [hget i (H.lt_of_live (by rw [h1];exact h2)) (fun e=>by subst e;rw [h1] at hq2;exact h3 _ hq2),h1]
     have rh4:RH σ oid σ.size (σ.size + 1) (mapC W Hh S) v' (met ++ [y]) (q ++ [y]) τ4:=by
      refine ⟨⟨by simp only [H.size_push] at hsz;omega,fun i hi=>?_⟩,rh3.lb,rh3.lm,k1 _ _ rh3.gb (by simp) (by simp),⟨c2,k1 _ _ gm2 (by simp) (by simp)⟩,htl⟩
      rw [hget i (by simp only [H.size_push];omega) (by omega)];exact rh3.ext.get i hi
     have own4:Own τ4 1 nv oid (ints l):=own3.ext fun j hj=>by
      subst hj;exact hget j own3.lt (fun e=>hq1 (by rw [e]))
     refine stepR h27 ?_
     refine ⟨l.length - (i + 1),by omega,met ++ [y],q ++ [y],v',i + 1,(Sw h2),(Sw h5),Sd0,(Sw h25),(Sw h26),Sd0,by omega,own4,rh4,rp2,fun z hz=>?_,rfl,?_⟩
     ·rw [htk'] at hz
      rcases List.mem_append.1 hz with hz | hz
      ·exact List.mem_append_left _ (htk z hz)
      ·exact List.mem_append_right _ hz
     ·simp only [List.length_append,List.length_cons,List.length_nil];omega
   ·refine stepR (An h27 h26) ?_
    have htk2:∀ y ∈ l,y ∈ met:=fun y hy=>htk y (by rw [List.take_of_length_le hge];exact hy)
    exact ⟨_,hn,met,q,v,(Sw h2),(Sw h5),(Sw h6),⟨rh.ext,rh.lb,rh.lm,rh.gb,rh.gm,rh.tl.free⟩,hclose rp htk2,rfl,by omega⟩
end Go.Proofs.YtoejdgoicoaomaaGreatDoor
namespace Go.Proofs.YtoejdgoicoaomaaGreatDoor
inductive Wk (W:Int) (S:ByteArray) (src:List Int):Nat→Int→Prop where
 | src {x:Int} (h:x ∈ src) (ho:opn S x=true):Wk W S src 0 x
 | step {k:Nat} {y x:Int} (h:Wk W S src k y) (hn:x ∈ nearL W S y):Wk W S src (k + 1) x
theorem Wk.opn {W:Int} {S:ByteArray} {src:List Int} {k:Nat} {x:Int} (h:Wk W S src k x):opn S x=true:=by
 cases h with
 | src _ h=>exact h
 | step _ h=>exact near_opn h
def CostOK (W:Int) (S:ByteArray) (src:List Int) (step:Int) (x:Int) (c:Int):Prop:=
 (c=-1∧∀ k,¬ Wk W S src k x)∨∃ k:Nat,Wk W S src k x∧(∀ j,Wk W S src j x→k≤j)∧c=step * k
def Cst (W:Int) (S:ByteArray) (src:List Int) (step:Int) (out:List Int):Prop:=
 out.length=S.size∧∀ i:Nat,i < S.size→CostOK W S src step i (out.getD i 0)
theorem CostOK.uniq {W:Int} {S:ByteArray} {src:List Int} {step x c c':Int} (h:CostOK W S src step x c) (h':CostOK W S src step x c'):c=c':=by
 rcases h with ⟨rfl,h⟩ | ⟨k,h1,h2,rfl⟩<;>rcases h' with ⟨rfl,h'⟩ | ⟨k',h1',h2',rfl⟩
 ·rfl
 ·exact absurd h1' (h k')
 ·exact absurd h1 (h' k)
 ·rw [Nat.le_antisymm (h2 _ h1') (h2' _ h1)]
theorem Cst.uniq {W:Int} {S:ByteArray} {src:List Int} {step:Int} {out out':List Int} (h:Cst W S src step out) (h':Cst W S src step out'):out=out':=by
 apply List.ext_getElem?
 intro i
 rcases Nat.lt_or_ge i S.size with hi | hi
 ·have:=(h.2 i hi).uniq (h'.2 i hi)
  rw [List.getD_eq_getElem?_getD,List.getD_eq_getElem?_getD,List.getElem?_eq_getElem (by rw [h.1];exact hi),List.getElem?_eq_getElem (by rw [h'.1];exact hi)] at this
  rw [List.getElem?_eq_getElem (by rw [h.1];exact hi),List.getElem?_eq_getElem (by rw [h'.1];exact hi)]
  simpa using this
 ·rw [List.getElem?_eq_none (by rw [h.1];exact hi),List.getElem?_eq_none (by rw [h'.1];exact hi)]
def unf (out:List Int):Nat:=out.countP fun c=>decide (c < 0)
theorem unf_set {out:List Int} {i:Nat} {c:Int} (hi:i < out.length) (h0:out.getD i 0 < 0) (hc:0≤c):unf (out.set i c) + 1=unf out:=by
 unfold unf
 have e:out.getD i 0=out[i]:=by rw [List.getD_eq_getElem?_getD,List.getElem?_eq_getElem hi];rfl
 rw [e] at h0
 have hpos:0 < out.countP fun c=>decide (c < 0):=List.countP_pos_iff.2 ⟨out[i],List.getElem_mem hi,by simpa using h0⟩
 rw [List.countP_set hi]
 simp only [h0,decide_true,if_true]
 rw [if_neg (by simp;omega)]
 omega
end Go.Proofs.YtoejdgoicoaomaaGreatDoor
namespace Go.Proofs.YtoejdgoicoaomaaGreatDoor
structure DjI (W:Int) (S:ByteArray) (src:List Int) (step:Int) (out:List Int) (M:List Due):Prop where
 len:out.length=S.size
 fin:∀ i:Nat,i < S.size→out.getD i 0=-1∨∃ k:Nat,Wk W S src k i∧(∀ j,Wk W S src j i→k≤j)∧out.getD i 0=step * k
 mem:∀ p ∈ M,∃ k:Nat,Wk W S src k p.2∧p.1=step * k
 srcs:∀ s ∈ src,opn S s=true→0≤out.getD s.toNat 0∨((0,s):Due) ∈ M
 near:∀ i:Nat,i < S.size→0≤out.getD i 0→∀ n ∈ nearL W S i,0≤out.getD n.toNat 0∨((out.getD i 0 + step,n):Due) ∈ M
section
variable {W:Int} {S:ByteArray} {src:List Int} {step:Int} {out:List Int} {M M':List Due} {p:Due}
theorem DjI.perm (h:DjI W S src step out M) (hp:∀ p,p ∈ M↔p ∈ M'):DjI W S src step out M':=
 ⟨h.len,h.fin,fun p hm=>h.mem p ((hp p).2 hm),fun s hs ho=>(h.srcs s hs ho).imp_right (hp _).1,fun i hi h0 n hn=>(h.near i hi h0 n hn).imp_right (hp _).1⟩
theorem DjI.front (h:DjI W S src step out M) (h1:1≤step):∀ {k:Nat} {x:Int},Wk W S src k x→out.getD x.toNat 0 < 0→∃ p ∈ M,p.1≤step * k:=by
 intro k x hw
 induction hw with
 | src hx ho=>
   intro hn
   rcases h.srcs _ hx ho with h2 | h2
   ·omega
   ·exact ⟨_,h2,by simp⟩
 | @step k y x hw hx ih=>
   intro hn
   have hy:=opn_lt hw.opn
   have hyi:((y.toNat:Nat):Int)=y:=Int.toNat_of_nonneg hy.1
   have hs:step * ((k:Nat):Int)≤step * ((k + 1:Nat):Int):=Int.mul_le_mul_of_nonneg_left (by omega) (by omega)
   by_cases hf:out.getD y.toNat 0 < 0
   ·obtain ⟨p,hp,hle⟩:=ih hf
    exact ⟨p,hp,by omega⟩
   ·rcases h.near y.toNat (by omega) (by omega) x (by rw [hyi];exact hx) with h2 | h2
    ·omega
    ·refine ⟨_,h2,?_⟩
     rcases h.fin y.toNat (by omega) with h3 | ⟨k',h3,h4,h5⟩
     ·omega
     ·rw [hyi] at h3 h4
      have hk:=h4 k hw
      have:step * (k':Int)≤step * (k:Int):=Int.mul_le_mul_of_nonneg_left (by omega) (by omega)
      have e:step * ((k + 1:Nat):Int)=step * (k:Int) + step:=by rw [Int.natCast_add,Int.mul_add];simp
      rw [h5,e];simp only;omega
theorem DjI.done (h:DjI W S src step out []) (h1:1≤step):Cst W S src step out:=by
 refine ⟨h.len,fun i hi=>?_⟩
 rcases h.fin i hi with h2 | h2
 ·refine .inl ⟨h2,fun k hw=>?_⟩
  obtain ⟨p,hp,_⟩:=h.front h1 hw (by simp only [Int.toNat_natCast];omega)
  cases hp
 ·exact .inr h2
theorem DjI.skip (h:DjI W S src step out (p :: M)) (hf:0≤out.getD p.2.toNat 0):DjI W S src step out M:=by
 refine ⟨h.len,h.fin,fun q hq=>h.mem q (List.mem_cons_of_mem _ hq),fun s hs ho=>?_,fun i hi h0 n hn=>?_⟩
 ·rcases h.srcs s hs ho with h2 | h2
  ·exact .inl h2
  ·rcases List.mem_cons.1 h2 with rfl | h3
   ·exact .inl hf
   ·exact .inr h3
 ·rcases h.near i hi h0 n hn with h2 | h2
  ·exact .inl h2
  ·rcases List.mem_cons.1 h2 with rfl | h3
   ·exact .inl hf
   ·exact .inr h3
theorem DjI.take (h:DjI W S src step out (p :: M)) (h1:1≤step) (hl:∀ q ∈ M,p.1≤q.1) (hf:out.getD p.2.toNat 0 < 0):
 DjI W S src step (out.set p.2.toNat p.1) (M ++ (nearL W S p.2).map fun n=>(p.1 + step,n)):=by
 obtain ⟨k,hw,hk⟩:=h.mem p List.mem_cons_self
 have hx:=opn_lt hw.opn
 have hxi:((p.2.toNat:Nat):Int)=p.2:=Int.toNat_of_nonneg hx.1
 have hlt:p.2.toNat < out.length:=by rw [h.len];omega
 have hmin:∀ j,Wk W S src j p.2→k≤j:=fun j hj=>by
  obtain ⟨q,hq,hle⟩:=h.front h1 hj hf
  have hpq:p.1≤q.1:=by
   rcases List.mem_cons.1 hq with rfl | hq
   ·exact Int.le_refl _
   ·exact hl q hq
  have:step * (k:Int)≤step * (j:Int):=by omega
  have:=Int.le_of_mul_le_mul_left this (by omega)
  omega
 have hc0:0≤p.1:=by rw [hk];exact Int.mul_nonneg (by omega) (by omega)
 have G:∀ i:Nat,(out.set p.2.toNat p.1).getD i 0=if i=p.2.toNat then p.1 else out.getD i 0:=fun i=>by
  rw [List.getD_eq_getElem?_getD,List.getElem?_set,List.getD_eq_getElem?_getD]
  by_cases e:i=p.2.toNat
  ·subst e;simp [hlt]
  ·rw [if_neg (Ne.symm e),if_neg e]
 have up:∀ i:Nat,0≤out.getD i 0→0≤(out.set p.2.toNat p.1).getD i 0:=fun i hi=>by
  rw [G];split
  ·exact hc0
  ·exact hi
 have self:0≤(out.set p.2.toNat p.1).getD p.2.toNat 0:=by rw [G,if_pos rfl];exact hc0
 refine ⟨by simp [h.len],fun i hi=>?_,fun q hq=>?_,fun s hs ho=>?_,fun i hi h0 n hn=>?_⟩
 ·rw [G]
  split
  ·rename_i e;subst e
   rw [hxi]
   exact .inr ⟨k,hw,hmin,hk⟩
  ·exact h.fin i hi
 ·rcases List.mem_append.1 hq with hq | hq
  ·exact h.mem q (List.mem_cons_of_mem _ hq)
  ·obtain ⟨n,hn,rfl⟩:=List.mem_map.1 hq
   refine ⟨k + 1,.step hw hn,?_⟩
   rw [hk,Int.natCast_add,Int.mul_add];simp
 ·rcases h.srcs s hs ho with h2 | h2
  ·exact .inl (up _ h2)
  ·rcases List.mem_cons.1 h2 with e | h3
   ·subst e;exact .inl self
   ·exact .inr (List.mem_append.2 (.inl h3))
 ·by_cases e:i=p.2.toNat
  ·subst e
   rw [G (p.2.toNat),if_pos rfl]
   rw [hxi] at hn
   exact .inr (List.mem_append.2 (.inr (List.mem_map.2 ⟨n,hn,rfl⟩)))
  ·rw [G i,if_neg e] at h0 ⊢
   rcases h.near i hi h0 n hn with h2 | h2
   ·exact .inl (up _ h2)
   ·rcases List.mem_cons.1 h2 with e2 | h3
    ·subst e2;exact .inl self
    ·exact .inr (List.mem_append.2 (.inl h3))
theorem DjI.start (h1:1≤step):DjI W S src step (List.replicate S.size (-1)) ((src.filter fun s=>opn S s).map fun s=>(0,s)):=by
 have G:∀ i:Nat,i < S.size→(List.replicate S.size (-1:Int)).getD i 0=-1:=fun i hi=>by
  rw [List.getD_eq_getElem?_getD,List.getElem?_replicate,if_pos hi];rfl
 refine ⟨by simp,fun i hi=>.inl (G i hi),fun p hp=>?_,fun s hs ho=>.inr ?_,fun i hi h0=>?_⟩
 ·obtain ⟨s,hs,rfl⟩:=List.mem_map.1 hp
  have:=List.mem_filter.1 hs
  exact ⟨0,.src this.1 this.2,by simp⟩
 ·exact List.mem_map.2 ⟨s,List.mem_filter.2 ⟨hs,ho⟩,rfl⟩
 ·rw [G i hi] at h0;omega
end
end Go.Proofs.YtoejdgoicoaomaaGreatDoor
namespace Go.Proofs.YtoejdgoicoaomaaGreatDoor
open Go.Mini
open Go.Proofs.YtoejdgoicoaomaaGreatDoor.Code
attribute [local irreducible] mx ml mld mstep MCalls Ex.thn Ex.inb
variable {E:World→Prop}
def TagE (σ:H) (v:Value) (name:ByteArray) (n:Int):Prop:=∃ id,v=.iface 92 (.pointer (some ⟨id,0,none⟩))∧σ.get id=.cells 0 [.string name,.iface 78 (.int .i64 n)]
theorem TagE.of_ext {σ τ:H} {v:Value} {name:ByteArray} {n:Int} (h:TagE σ v name n) (e:Ext σ τ):TagE τ v name n:=by
 obtain ⟨id,h1,h2⟩:=h;exact ⟨id,h1,e.cells h2⟩
theorem tag_c (name:ByteArray) (n:Int) (σ:H):MCalls E Tryz.prog 33 [.string name,.iface 78 (.int .i64 n)] σ (fun v τ=>TagE τ v name n∧Ext σ τ):=by
 refine mcalls_of fn33 (by simp) ?_
 unfold c33 r33
 refine stepR0 ?_
 exact fin1 ⟨⟨σ.size,Sd0,H.get_push_self _ _⟩,Ext.push _ _⟩
end Go.Proofs.YtoejdgoicoaomaaGreatDoor
namespace Go.Proofs.YtoejdgoicoaomaaGreatDoor
open Go.Mini
open Go.Proofs.YtoejdgoicoaomaaGreatDoor.Code
attribute [local irreducible] mx ml mld mstep MCalls Ex.thn Ex.inb
variable {E:World→Prop}
theorem o_appDue {ts:Fr} {σ0 σ:H} {L:List Due} {x:Due} {v:Value} {xs xx:Opd} {tid:Nat} (h1:Ext σ0 σ)
 (h4:(v=.slice none 0 0∧L=[])∨∃ id R,v=.slice (some ⟨id,0,none⟩) L.length (L.length + R.length)∧σ0.size≤id∧σ.get id=.cells 2 (dues (L ++ R)))
 (hv:mev ts xs=v) (hx:mev ts xx=.slice (some ⟨tid,0,none⟩) 1 1) (ht:σ.get tid=.cells 2 [.int .i64 x.1,.int .i64 x.2]) (hL:L.length≤1000000):
 ∃ id R' τ,mop ts σ (.app 2 16 xs xx)=some (.slice (some ⟨id,0,none⟩) (L.length + 1) (L.length + 1 + R'.length),τ)∧σ0.size≤id∧τ.get id=.cells 2 (dues (L ++ [x] ++ R'))∧Ext σ0 τ∧σ.size≤τ.size∧
   ∀ i,σ.get i≠.dead→(∀ cs,σ.get i≠.cells 2 cs)→τ.get i=σ.get i:=by
 have hrow:firstL σ 2 1 (.slice (some ⟨tid,0,none⟩) 1 1)=some [.int .i64 x.1,.int .i64 x.2]:=by
  simp only [firstL,H.row,ht,Nat.one_mul];rfl
 have hs:=h1.size
 rcases h4 with ⟨rfl,rfl⟩ | ⟨id,R,rfl,h6,h7⟩
 ·refine ⟨σ.size,[],σ.push (.cells 2 [.int .i64 x.1,.int .i64 x.2]),?_,hs,by rw [H.get_push_self];rfl,h1.trans (Ext.push _ _),by simp,fun i hi _=>H.get_push_lt (H.lt_of_live hi)⟩
  have:(1:Nat)≤appMax∧16≤128:=⟨by simp [appMax],by omega⟩
  simp only [mop,hv,hx,lenL,hrow,this,and_self,if_true]
  simp
 ·have hlt:=H.lt_of_cells h7
  cases R with
  | nil=>
    have hr:σ.row id 0 (L.length * 2)=some (dues L):=by
     simp only [H.row,h7,List.append_nil];exact rowAll (dues_len L)
    have e:dues L ++ [.int .i64 x.1,.int .i64 x.2]=dues (L ++ [x]):=by rw [dues_app];rfl
    refine ⟨σ.size,[],(σ.set id .dead).push (.cells 2 (dues (L ++ [x]))),?_,hs,?_,(h1.set' h6 _).trans (Ext.push _ _),by simp,fun i hi hne=>?_⟩
    ·have hap:L.length + 1≤appMax∧16≤128:=⟨by simp only [appMax];omega,by omega⟩
     simp only [mop,hv,hx,lenL,List.length_nil,Nat.add_zero]
     rw [if_neg (by omega),if_pos hap]
     simp only [h7,hr,hrow,e,dues_one,true_or,and_self,if_true]
    ·have:=H.get_push_self (σ.set id .dead) (.cells 2 (dues (L ++ [x])))
     rw [H.size_set] at this;rw [this,List.append_nil]
    ·rw [H.get_push_lt (by simpa using H.lt_of_live hi),H.get_set_ne (fun e=>by subst e;exact hne _ h7)]
  | cons y R=>
    have hsp:=dues_spl (L ++ y :: R) L.length x (by simp)
    have hset:(L ++ y :: R).set L.length x=L ++ [x] ++ R:=by
     rw [List.set_append_right _ _ (Nat.le_refl _),Nat.sub_self];simp
    rw [hset] at hsp
    refine ⟨id,R,σ.set id (.cells 2 (dues (L ++ [x] ++ R))),?_,h6,H.get_set_self hlt,h1.set' h6 _,by simp,fun i hi hne=>H.get_set_ne (fun e=>by subst e;exact hne _ h7)⟩
    simp only [mop,hv,hx,lenL,List.length_cons]
    rw [if_pos (by omega)]
    simp only [hrow,putRow,h7,Nat.zero_add]
    rw [if_pos ⟨by rw [dues_len];simp;omega,rfl⟩,hsp]
    simp only [Option.map_some]
    congr 3;omega
theorem hLen_c {σ0 σ:H} {hid:Nat} {L:List Due} (h:HeapAt σ0 hid L σ):MCalls E Tryz.prog 98 [.pointer (some ⟨hid,0,none⟩)] σ (fun v τ=>v=.int .i64 L.length∧τ=σ):=by
 obtain ⟨v,hv,hlen⟩:=h.len
 refine mcalls_of fn98 (by simp) ?_
 unfold c98 r98
 refine stepR hv ?_
 refine ml_op Sd0 (hlen _ _ Sd0) ?_
 refine stepR0 ?_
 exact fin1 ⟨Sd0,rfl⟩
theorem hNew_c (σ:H):MCalls E Tryz.prog 62 [] σ (fun v τ=>∃ hid,v=.pointer (some ⟨hid,0,none⟩)∧HeapAt σ hid [] τ∧Ext σ τ):=by
 refine mcalls_of fn62 (by simp) ?_
 unfold c62 r62
 refine stepR0 ?_
 exact fin1 ⟨σ.size,Sd0,⟨Ext.push _ _,Nat.le_refl _,_,H.get_push_self _ _,.inl ⟨rfl,rfl⟩⟩,Ext.push _ _⟩
set_option maxHeartbeats 1000000 in
theorem hPush_c {σ0 σ:H} {hid:Nat} {L:List Due} (h:HeapAt σ0 hid L σ) (x:Due) (hL:L.length≤100000):
 MCalls E Tryz.prog 63 [.pointer (some ⟨hid,0,none⟩),dueV x] σ (fun v τ=>HeapAt σ0 hid (up (L ++ [x]) L.length) τ∧Keep2 hid σ τ):=by
 refine mcalls_of fn63 (by simp) ?_
 unfold c63 r63 dueV
 obtain ⟨h1,h2,v,h3,h4⟩:=h
 have hlt:=H.lt_of_cells h3
 have hne:hid≠σ.size:=by omega
 have g1:(σ.push (.cells 0 [.int .i64 x.1,.int .i64 x.2])).get hid=.cells 0 [v]:=by rw [H.get_push_lt hlt,h3]
 refine stepR g1 ?_
 have hs1:(σ.push (.cells 0 [.int .i64 x.1,.int .i64 x.2])).size=σ.size + 1:=rfl
 generalize hA:σ.push (.cells 0 [.int .i64 x.1,.int .i64 x.2])=σ1 at g1 hs1
 have eA:Ext σ σ1:=by rw [← hA];exact Ext.push _ _
 have e2:Ext σ (σ1.push (.cells 2 [.int .i64 x.1,.int .i64 x.2])):=eA.trans (Ext.push _ _)
 obtain ⟨id,R',τ,hm,hidlo,hg,eτ,hsz,hkeep⟩:=o_appDue (x:=x) (ts:=(fun i=>if i=0 then v else .slice (some ⟨σ1.size,0,none⟩) 1 1)) (xs:=.t 0) (xx:=.t 1) (h1.trans e2) (by
  rcases h4 with h4 | ⟨id,R,h5,h6,h7⟩
  ·exact .inl h4
  ·exact .inr ⟨id,R,h5,h6,e2.cells h7⟩) (by simp only [mev];rfl) (by simp only [mev];rfl) (H.get_push_self _ _) (by omega)
 have hm':∀ ts':Fr,mev ts' (.t 11)=v→mev ts' (.t 13)=.slice (some ⟨σ1.size,0,none⟩) 1 1→mop ts' (σ1.push (.cells 2 [.int .i64 x.1,.int .i64 x.2])) (.app 2 16 (.t 11) (.t 13))=some (.slice (some ⟨id,0,none⟩) (L.length + 1) (L.length + 1 + R'.length),τ):=fun ts' a b=>by
  rw [← hm];simp only [mop,a,b];rfl
 refine mld_op Sd0 (hm' _ Sd0 (Sw hs1)) ?_
 have g3:τ.get hid=.cells 0 [v]:=by
  rw [hkeep hid (by rw [e2.cells h3];simp) (by rw [e2.cells h3];simp)];exact e2.cells h3
 have hne2:hid≠id:=fun e=>by rw [e,hg] at g3;cases g3
 have hlt3:=H.lt_of_cells g3
 refine stepR0 ?_
 have hh:HeapAt σ0 hid (L ++ [x]) (τ.set hid (.cells 0 [.slice (some ⟨id,0,none⟩) (L.length + 1) (L.length + 1 + R'.length)])):=by
  refine ⟨eτ.set' h2 _,h2,_,H.get_set_self hlt3,.inr ⟨id,R',?_,hidlo,?_⟩⟩
  ·simp
  ·rw [H.get_set_ne (Ne.symm hne2),hg]
 have hk:Keep2 hid σ (τ.set hid (.cells 0 [.slice (some ⟨id,0,none⟩) (L.length + 1) (L.length + 1 + R'.length)])):=by
  refine ⟨by have:=e2.size;simp only [H.size_set];omega,fun j h5 h6 h7=>?_⟩
  have hj:=e2.get j (H.lt_of_live h5)
  rw [H.get_set_ne h6,hkeep j (by rw [hj];exact h5) (by rw [hj];exact h7),hj]
 have g4:=H.get_set_self (σ:=τ) (o:=.cells 0 [.slice (some ⟨id,0,none⟩) (L.length + 1) (L.length + 1 + R'.length)]) hlt3
 obtain ⟨τ2,hτ2⟩:∃ τ2,τ.set hid (.cells 0 [.slice (some ⟨id,0,none⟩) (L.length + 1) (L.length + 1 + R'.length)])=τ2:=⟨_,rfl⟩
 rw [hτ2] at hh hk g4
 apply mld_op (τ:=τ2)
 ·exact Sd0
 ·rw [← hτ2]
  apply o_store1 (id:=hid) (off:=0) (sz:=0) (cs:=[v])
  ·simp only [go_sem,reduceIte,Nat.reduceEqDiff,reduceCtorEq,Nat.reduceAdd,Nat.reduceLeDiff,Int.reduceNeg,Int.reduceToNat,Int.reduceBEq,Int.reduceBNe,Int.reduceLT,Int.reduceLE,Int.reduceAdd,Int.reduceSub]
  ·simp only [go_sem,reduceIte,Nat.reduceEqDiff,reduceCtorEq,Nat.reduceAdd,Nat.reduceLeDiff,Int.reduceNeg,Int.reduceToNat,Int.reduceBEq,Int.reduceBNe,Int.reduceLT,Int.reduceLE,Int.reduceAdd,Int.reduceSub]
  ·rfl
  ·rfl
  ·exact g3
  ·simp
 have n1:((L.length + 1:Nat):Int) - 1=(L.length:Int):=by omega
 refine stepR (An g4 n1) ?_
 refine mx_loop (fun n ts τ=>∃ L',ts 0=.pointer (some ⟨hid,0,none⟩)∧ts 4=.int .i64 ((n:Nat):Int)∧HeapAt σ0 hid L' τ∧Keep2 hid σ τ∧up L' n=up (L ++ [x]) L.length∧L'.length=L.length + 1∧n≤L.length) L.length ?_ ?_
 ·exact ⟨L ++ [x],Sd0,Sd0,hh,hk,rfl,by simp,Nat.le_refl _⟩
 clear hh hk hτ2 g4 hm hm' hkeep hsz hlt3 g3 g1 hs1 hA e2 eA h4 h3 n1 hg hne2 hlt hne
 rintro n ts τ3 ⟨L',t0,t4,hh,hk,hu,hl,hn⟩
 by_cases hz:n=0
 ·subst hz
  refine stepR (An t0 t4) ?_
  refine fin0n ⟨?_,hk⟩
  rw [← hu,up,dif_neg (by omega)];exact hh
 ·have hq:IntKind.i64.wrap (((n:Int) - 1).tdiv 2)=(((n - 1) / 2:Nat):Int):=by
   have:(n:Int) - 1=((n - 1:Nat):Int):=by omega
   rw [this,← Int.ofNat_two,← Int.ofNat_tdiv,i64wrap]<;>omega
  have hpos:0 < (n:Int):=by omega
  refine stepR (An t0 (An t4 (An hq hpos))) ?_
  refine ml_call Sd0 (Sw (An t0 (An t4 hq))) (hless_c hh n ((n - 1) / 2) (by omega) (by omega) (by omega)) ?_
  rintro _ τ4 ⟨rfl,e⟩
  cases hlt3:lt (L'.getD n (0,0)) (L'.getD ((n - 1) / 2) (0,0))
  ·refine stepR (An t0 (An t4 hq)) ?_
   refine fin0n ⟨?_,hk.trans (.of_ext e)⟩
   rw [← hu,up,dif_neg]
   ·exact hh.of_ext e
   ·rintro ⟨_,h⟩;rw [show dv L' n=L'.getD n (0,0) from rfl,show dv L' ((n - 1) / 2)=L'.getD ((n - 1) / 2) (0,0) from rfl,hlt3] at h;cases h
  ·refine stepR (An t0 (An t4 hq)) ?_
   refine ml_call Sd0 (Sw (An t0 (An t4 hq))) (hswap_c (hh.of_ext e) n ((n - 1) / 2) (by omega) (by omega) (by omega)) ?_
   rintro _ τ5 ⟨hh5,hk5⟩
   refine stepR (An t4 hq) ?_
   refine ⟨(n - 1) / 2,by omega,swp L' n ((n - 1) / 2),(Sw t0),(Sw hq),hh5,(hk.trans (.of_ext e)).trans hk5,?_,by rw [swp_len];exact hl,by omega⟩
   rw [← hu,up.eq_1 L' n,dif_pos ⟨by omega,hlt3⟩]
end Go.Proofs.YtoejdgoicoaomaaGreatDoor
namespace Go.Proofs.YtoejdgoicoaomaaGreatDoor
open Go.Mini
open Go.Proofs.YtoejdgoicoaomaaGreatDoor.Code
attribute [local irreducible] mx ml mld mstep MCalls Ex.thn Ex.inb
variable {E:World→Prop}
set_option maxHeartbeats 1000000 in
theorem hPop_nil {σ0 σ:H} {hid:Nat} (h:HeapAt σ0 hid [] σ):MCalls E Tryz.prog 64 [.pointer (some ⟨hid,0,none⟩)] σ (fun v τ=>v=.tuple #[.agg #[.int .i64 0,.int .i64 0],.bool false]∧Ext σ τ):=by
 refine mcalls_of fn64 (by simp) ?_
 unfold c64 r64
 refine stepR0 ?_
 refine ml_call Sd0 Sd0 (hLen_c (h.of_ext (Ext.push _ _))) ?_
 rintro _ _ ⟨rfl,rfl⟩
 refine stepR0 ?_
 refine ml_storeAll Sd0 Sd0 Sd0 (H.get_push_self _ _) rfl rfl rfl ?_
 refine stepR0 ?_
 refine finC1 (vs:=[.int .i64 0,.int .i64 0]) Sd0 (row_of (H.get_set_self (by simp)) rfl) ⟨Sd0,(Ext.push _ _).set' (Nat.le_refl _) _⟩
def popL (L:List Due):List Due:=down ((L.set 0 (dv L (L.length - 1))).take (L.length - 1)) 0
set_option maxHeartbeats 1000000 in
theorem hPop_c3 {σ0 σ:H} {hid:Nat} {L:List Due} (h:HeapAt σ0 hid L σ) (hL:L.length≤100000) (hne:0 < L.length):
 MCalls E Tryz.prog 64 [.pointer (some ⟨hid,0,none⟩)] σ (fun v τ=>v=.tuple #[dueV (dv L 0),.bool true]∧HeapAt σ0 hid (popL L) τ∧Keep3 hid σ τ):=by
 refine mcalls_of fn64 (by simp) ?_
 unfold c64 r64
 refine stepR0 ?_
 refine ml_call Sd0 Sd0 (hLen_c (h.of_ext (Ext.push _ _))) ?_
 rintro _ _ ⟨rfl,rfl⟩
 obtain ⟨h1,h2,v,h3,h4⟩:=h
 rcases h4 with ⟨_,h4⟩ | ⟨id,R,rfl,h6,h7⟩
 ·subst h4;exact absurd hne (Nat.lt_irrefl _)
 have hz:((L.length:Int) == 0)=false:=by rw [beq_eq_false_iff_ne];omega
 have g1:=(Ext.push σ (.cells 0 [.int .i64 0,.int .i64 0])).cells h3
 have g2:=(Ext.push σ (.cells 0 [.int .i64 0,.int .i64 0])).cells h7
 have r0:=dues_row (L ++ R) 0 (by simp;omega)
 rw [getD_left hne] at r0
 refine stepR (An hz g1) ?_
 refine ml_loadN Sd0 Sd0 (row_of g2 (by simpa using r0)) ?_
 refine stepR0 ?_
 refine ml_storeA (id:=σ.size + 1) (off:=0) (vs:=[.int .i64 (dv L 0).1,.int .i64 (dv L 0).2]) Sd0 Sd0 Sd0 p22 rfl (by simp) rfl fun σ2 t2=>?_
 have hsz2:σ2.size=σ.size + 2:=t2.size
 have e2:Ext σ σ2:=t2.ext ((Ext.push _ _).trans (Ext.push _ _)) (by omega)
 have c0:σ2.get σ.size=.cells 0 [.int .i64 0,.int .i64 0]:=t2.cells p21 (by omega)
 have c1:σ2.get (σ.size + 1)=.cells 0 [.int .i64 (dv L 0).1,.int .i64 (dv L 0).2]:=t2.self
 clear g1 g2 t2
 have g1:=e2.cells h3
 have g2:=e2.cells h7
 have n1:(L.length:Int) - 1=((L.length - 1:Nat):Int):=by omega
 have rl:=dues_row (L ++ R) (L.length - 1) (by simp;omega)
 rw [getD_left (by omega)] at rl
 refine stepR (An g1 n1) ?_
 refine mld_loadN Sd0 Sd0 (row_of g2 rl) ?_
 refine stepR (An g1 n1) ?_
 have hne2:hid≠id:=fun e=>by rw [e,g2] at g1;cases g1
 have l1:=H.lt_of_cells h3
 have l2:=H.lt_of_cells h7
 have sp:=dues_spl (L ++ R) 0 (dv L (L.length - 1)) (by simp;omega)
 rw [List.set_append_left _ _ hne] at sp
 refine mld_storeA (id:=id) (off:=0) (vs:=[.int .i64 (dv L (L.length - 1)).1,.int .i64 (dv L (L.length - 1)).2]) Sd0 Sd0 Sd0 g2 rfl (by rw [dues_len];simp;omega) rfl fun σ3 t3=>?_
 have e3:Ext σ0 σ3:=t3.ext (h1.trans e2) h6
 have g3:=t3.cells g1 hne2
 have g4:σ3.get id=.cells 2 (dues (L.set 0 (dv L (L.length - 1)) ++ R)):=by rw [t3.self,← sp]
 have c3:=t3.cells c0 (by omega)
 have c4:=t3.cells c1 (by omega)
 refine stepR (An g3 n1) ?_
 refine ml_op Sd0 (o_slc_hi (q:=((L.length - 1:Nat):Int)) (k:=.i64) Sd0 Sd0 (by omega) (by omega) g4) ?_
 refine stepR (An g3 n1) ?_
 refine ml_storeA (id:=hid) (off:=0) (vs:=[.slice (some ⟨id,0,none⟩) (L.length - 1) (L.length + R.length)]) Sd0 Sd0 Sd0 g3 rfl (by simp) rfl fun σ4 t4=>?_
 have hsplit:L.set 0 (dv L (L.length - 1))=(L.set 0 (dv L (L.length - 1))).take (L.length - 1) ++ (L.set 0 (dv L (L.length - 1))).drop (L.length - 1):=(List.take_append_drop _ _).symm
 have hlen1:((L.set 0 (dv L (L.length - 1))).take (L.length - 1)).length=L.length - 1:=by simp
 have hlen2:((L.set 0 (dv L (L.length - 1))).drop (L.length - 1)).length=1:=by simp;omega
 have hh:HeapAt σ0 hid ((L.set 0 (dv L (L.length - 1))).take (L.length - 1)) σ4:=by
  refine ⟨t4.ext e3 h2,h2,_,t4.self,.inr ⟨id,(L.set 0 (dv L (L.length - 1))).drop (L.length - 1) ++ R,?_,h6,?_⟩⟩
  ·rw [hlen1,List.length_append,hlen2,show L.length - 1 + (1 + R.length)=L.length + R.length by omega]
  ·rw [← List.append_assoc,← hsplit];exact t4.cells g4 (Ne.symm hne2)
 have c5:=t4.cells c3 (by omega)
 have c6:=t4.cells c4 (by omega)
 have hk:Keep3 hid σ σ4:=by
  refine ⟨by rw [t4.size,t3.size];exact e2.size,fun j a b c=>?_,fun j ⟨n,m,x⟩=>?_⟩
  ·have hj:=e2.get j (H.lt_of_live a)
   rw [t4.other j b,t3.other j (fun e=>by subst e;exact c ⟨_,_,h3⟩),hj]
  ·rw [t4.self] at x
   simp [spl] at x
   obtain ⟨rfl,_⟩:=x
   exact ⟨_,_,h3⟩
 refine stepR0 ?_
 refine ml_call Sd0 Sd0 (hsink_c3 hh (by omega)) ?_
 rintro _ σ5 ⟨hh5,hk5⟩
 have c7:σ5.get σ.size=.cells 0 [.int .i64 0,.int .i64 0]:=by rw [hk5.get _ (by rw [c5];simp) (by omega) (hh.notbuf (by rw [c5];simp))];exact c5
 have c8:σ5.get (σ.size + 1)=.cells 0 [.int .i64 (dv L 0).1,.int .i64 (dv L 0).2]:=by rw [hk5.get _ (by rw [c6];simp) (by omega) (hh.notbuf (by rw [c6];simp))];exact c6
 refine stepR c8 ?_
 refine ml_storeA (id:=σ.size) (off:=0) (vs:=[.int .i64 (dv L 0).1,.int .i64 (dv L 0).2]) Sd0 Sd0 Sd0 c7 rfl (by simp) rfl fun σ6 t6=>?_
 refine stepR0 ?_
 refine finC1 (vs:=[.int .i64 (dv L 0).1,.int .i64 (dv L 0).2]) Sd0 (row_of t6.self rfl) ⟨Sd0,?_,?_⟩
 ·obtain ⟨a1,a2,w,a3,a4⟩:=hh5
  refine ⟨t6.ext a1 h1.size,a2,w,t6.cells a3 (by omega),?_⟩
  rcases a4 with a4 | ⟨id',R',a5,a6,a7⟩
  ·exact .inl a4
  ·exact .inr ⟨id',R',a5,a6,t6.cells a7 (fun e=>by rw [e,c7] at a7;cases a7)⟩
 ·have hk6:=hk.trans hk5
  exact ⟨by rw [t6.size];exact hk6.size,fun j a b c=>by rw [t6.other j (by have:=H.lt_of_live a;omega)];exact hk6.get j a b c,fun j ⟨n,m,x⟩=>hk6.buf j ⟨n,m,by rw [← t6.other hid (by omega)];exact x⟩⟩
theorem hPop_c {σ0 σ:H} {hid:Nat} {L:List Due} (h:HeapAt σ0 hid L σ) (hL:L.length≤100000) (hne:0 < L.length):
 MCalls E Tryz.prog 64 [.pointer (some ⟨hid,0,none⟩)] σ (fun v τ=>v=.tuple #[dueV (dv L 0),.bool true]∧HeapAt σ0 hid (popL L) τ∧Keep2 hid σ τ):=
 (hPop_c3 h hL hne).mono fun _ _ ⟨a,b,c⟩=>⟨a,b,c.two h⟩
end Go.Proofs.YtoejdgoicoaomaaGreatDoor
