/- Part of the proof. -/
import Derived.Test.YtoejdgoicoaomaaGreatDoorG8
import Derived.Lib.IndexLaws
import Derived.Test.YtoejdgoicoaomaaGreatDoorG6
set_option linter.unusedVariables false
set_option linter.unusedSimpArgs false
namespace Go.Proofs.YtoejdgoicoaomaaGreatDoor
open Go.Mini
open Go.Proofs.YtoejdgoicoaomaaGreatDoor.Code
attribute [local irreducible] mx ml mld mstep MCalls Ex.thn Ex.inb
variable {E:World→Prop}
theorem trimLeft_c (s:ByteArray) (id:Nat) (σ:H) (hlen:s.size≤1000000) (hs:SetAt σ id):MCalls E Tryz.prog 103 [.string s,.pointer (some ⟨id,0,none⟩)] σ
 (fun v τ=>τ=σ∧∃ k,v=.string (s.extract k s.size)∧k≤s.size∧(∀ j,j < k→sign (s.data.toList.getD j 0)=true)∧(k=s.size∨sign (s.data.toList.getD k 0)=false)):=by
 obtain ⟨cs,hg,hv⟩:=hs
 refine mcalls_of fn103 (by simp) ?_
 unfold c103 r103
 refine stepR0 ?_
 refine mx_loop (fun n ts σ'=>σ'=σ∧∃ k,n=s.size - k∧ts 0=.string (s.extract k s.size)∧ts 1=.pointer (some ⟨id,0,none⟩)∧k≤s.size∧∀ j,j < k→sign (s.data.toList.getD j 0)=true) s.size ?_ ?_
 ·refine ⟨rfl,0,by omega,?_,?_,by omega,fun j h1=>by omega⟩
  ·simp only [go_sem,reduceIte,Nat.reduceEqDiff,reduceCtorEq,Nat.reduceAdd,Nat.reduceLeDiff,Int.reduceNeg,Int.reduceToNat,Int.reduceBEq,Int.reduceBNe,Int.reduceLT,Int.reduceLE,Int.reduceAdd,Int.reduceSub]
   simp
  ·simp only [go_sem,reduceIte,Nat.reduceEqDiff,reduceCtorEq,Nat.reduceAdd,Nat.reduceLeDiff,Int.reduceNeg,Int.reduceToNat,Int.reduceBEq,Int.reduceBNe,Int.reduceLT,Int.reduceLE,Int.reduceAdd,Int.reduceSub]
 rintro n ts _ ⟨rfl,k,hk,h0,h1,hn,hall⟩
 have hsz:(s.extract k s.size).size=s.size - k:=by simp
 by_cases hz:k=s.size
 ·have hsz':(s.extract k s.size).size=0:=by omega
  refine stepR (An h0 (An h1 hsz')) ?_
  refine fin1 ⟨rfl,k,?_,by omega,fun j a=>hall j a,.inl hz⟩
  simp only [go_sem,reduceIte,Nat.reduceEqDiff,reduceCtorEq,Nat.reduceAdd,Nat.reduceLeDiff,Int.reduceNeg,Int.reduceToNat,Int.reduceBEq,Int.reduceBNe,Int.reduceLT,Int.reduceLE,Int.reduceAdd,Int.reduceSub,h0]
 ·refine stepR (An h0 (An h1 hsz)) ?_
  have hb:(s.extract k s.size).data.toList.getD 0 0=s.data.toList.getD k 0:=by
   rw [ext_getD _ _ _ _ (by omega)];congr 1
  rw [show (0:Int).toNat=0 from rfl,hb]
  refine ml_call (Sw h1) (Sw h1) (asciiContains_c id _ _ cs _ hg (hv _)) ?_
  rintro _ _ ⟨rfl,rfl⟩
  cases hsg:sign (s.data.toList.getD k 0)
  ·refine stepR (An h0 (An h1 hsz)) ?_
   refine fin1 ⟨rfl,k,?_,by omega,fun j a=>hall j a,.inr hsg⟩
   simp only [go_sem,reduceIte,Nat.reduceEqDiff,reduceCtorEq,Nat.reduceAdd,Nat.reduceLeDiff,Int.reduceNeg,Int.reduceToNat,Int.reduceBEq,Int.reduceBNe,Int.reduceLT,Int.reduceLE,Int.reduceAdd,Int.reduceSub,h0]
  ·refine stepR (An h0 (An h1 hsz)) ?_
   refine ml_op Sd0 (o_slcS_lo (q:=1) (k:=.i64) Sd0 Sd0 (by omega) (by omega)) ?_
   refine stepR (An h0 (An h1 hsz)) ?_
   refine ⟨n - 1,by omega,rfl,k + 1,by omega,?_,(Sw h1),by omega,fun j a=>?_⟩
   ·simp only [go_sem,reduceIte,Nat.reduceEqDiff,reduceCtorEq,Nat.reduceAdd,Nat.reduceLeDiff,Int.reduceNeg,Int.reduceToNat,Int.reduceBEq,Int.reduceBNe,Int.reduceLT,Int.reduceLE,Int.reduceAdd,Int.reduceSub]
    rw [ext_ext _ _ _ _ _ (by omega)]
    congr 2;omega
   ·rcases Nat.eq_or_lt_of_le (Nat.le_of_lt_succ a) with e | e
    ·rw [e];exact hsg
    ·exact hall j e
theorem makeSet_c (σ:H):MCalls E Tryz.prog 102 [.string ⟨#[35,46,67,80]⟩] σ (fun v τ=>v=.tuple #[.agg (Lib.setCells [35,46,67,80]),.bool true]∧τ=σ):=by
 refine mcalls_below 0 3 (by kernel_rfl) rfl (by kernel_rfl) fun w=>(Tryz.strings_makeASCIISet (fun w=>by kernel_rfl) ⟨#[35,46,67,80]⟩ w (by decide) ?_).mono fun e w' ⟨he,hw⟩=>⟨he,?_⟩
 ·intro j b hb
  have:=List.mem_of_getElem? hb
  simp at this
  rcases this with rfl | rfl | rfl | rfl<;>decide
 ·rw [hw]
  exact (Go.RowKit.Below.refl _ w).alloc (Nat.le_refl _) _
theorem set_at (b:UInt8):(Lib.setCells [35,46,67,80]).toList[b.toNat]?=some (.bool (sign b)):=by
 have:((List.range 256).all fun n=>match (Lib.setCells [35,46,67,80]).toList[n]? with | some (.bool x)=>x == sign (UInt8.ofNat n) | _=>false)=true:=by kernel_rfl
 have h:=List.all_eq_true.1 this b.toNat (List.mem_range.2 b.toNat_lt)
 have e:UInt8.ofNat b.toNat=b:=by simp
 rw [e] at h
 split at h
 ·rename_i x hx;rw [hx,eq_of_beq h]
 ·cases h
theorem trim_c (s:ByteArray) (σ:H) (hlen:s.size≤1000000):MCalls E Tryz.prog 69 [.string s,.string ⟨#[35,46,67,80]⟩] σ
 (fun v τ=>Ext σ τ∧∃ T,v=.string T∧(T.size=0↔∀ j,j < s.size→sign (s.data.toList.getD j 0)=true)):=by
 refine mcalls_of fn69 (by simp) ?_
 unfold c69 r69
 have hcs:((⟨#[35,46,67,80]⟩:ByteArray).toList == (⟨#[]⟩:ByteArray).toList)=false:=by decide +kernel
 have hcz:(⟨#[35,46,67,80]⟩:ByteArray).size=4:=rfl
 by_cases h0:s.toList == (⟨#[]⟩:ByteArray).toList
 ·refine stepR h0 ?_
  refine fin1 ⟨.refl _,s,?_,?_⟩
  ·simp only [go_sem,reduceIte,Nat.reduceEqDiff,reduceCtorEq,Nat.reduceAdd,Nat.reduceLeDiff,Int.reduceNeg,Int.reduceToNat,Int.reduceBEq,Int.reduceBNe,Int.reduceLT,Int.reduceLE,Int.reduceAdd,Int.reduceSub]
  ·have:s.size=0:=by
    have:=eq_of_beq h0
    rw [toList_data,toList_data] at this;simpa using congrArg List.length this
   exact ⟨fun _ j h=>by omega,fun _=>this⟩
 ·simp only [Bool.not_eq_true] at h0
  refine stepR (An h0 (An hcs hcz)) ?_
  have hset:=set_at
  have hsize:(Lib.setCells [35,46,67,80]).size=256:=by kernel_rfl
  have hone:(Lib.setCells [35,46,67,80]).toList.all one=true:=by kernel_rfl
  refine ml_call Sd0 Sd0 (makeSet_c _) ?_
  generalize (Lib.setCells [35,46,67,80])=C at hset hsize hone
  rintro _ τ0 ⟨rfl,rfl⟩
  refine stepR0 ?_
  refine ml_op Sd0 (o_storeAll (id:=τ0.size) (cs:=List.replicate 256 (.bool false)) Sd0 Sd0 (H.get_push_self _ _) hsize List.length_replicate hone) ?_
  refine stepR0 ?_
  have hSet:SetAt ((τ0.push (.cells 0 (List.replicate 256 (.bool false)))).set τ0.size (.cells 0 C.toList)) τ0.size:=⟨C.toList,H.get_set_self (by rw [H.size_push];omega),hset⟩
  refine ml_call Sd0 Sd0 (trimRight_c s τ0.size _ hlen hSet) ?_
  rintro _ _ ⟨rfl,k,rfl,hk,hk1,hk2⟩
  have hsk:(s.extract 0 k).size=k:=by simp;omega
  refine ml_call Sd0 Sd0 (trimLeft_c (s.extract 0 k) τ0.size _ (by omega) hSet) ?_
  rintro _ _ ⟨rfl,j,rfl,hj,hj1,hj2⟩
  refine stepR0 ?_
  refine fin1 ⟨(Ext.push _ _).set' (Nat.le_refl _) _,_,Sd0,?_⟩
  rw [hsk] at hj hj2 ⊢
  have hT:((s.extract 0 k).extract j k).size=k - j:=by simp;omega
  rw [hT]
  have hget:∀ i,i < k→(s.extract 0 k).data.toList.getD i 0=s.data.toList.getD i 0:=fun i hi=>by
   rw [ext_getD _ _ _ _ (by omega)];congr 1;omega
  constructor
  ·intro hz i hi
   have hjk:j=k:=by omega
   by_cases hik:i < k
   ·rw [← hget i hik];exact hj1 i (by omega)
   ·exact hk1 i (by omega) hi
  ·intro hall
   rcases hj2 with e | e
   ·omega
   ·by_cases hjk:j < k
    ·rw [hget j hjk,hall j (by omega)] at e;cases e
    ·omega
end Go.Proofs.YtoejdgoicoaomaaGreatDoor
namespace Go.Proofs.YtoejdgoicoaomaaGreatDoor
open Go.Mini
open Go.Proofs.YtoejdgoicoaomaaGreatDoor.Code
attribute [local irreducible] mx ml mld mstep MCalls Ex.thn Ex.inb
variable {E:World→Prop}
theorem sign_lt {b:UInt8} (hb:sign b=true):b.toNat < 128:=by
 simp only [sign,Bool.or_eq_true,beq_iff_eq] at hb
 rcases hb with ((rfl | rfl) | rfl) | rfl<;>decide
theorem getD_get (s:ByteArray) (i:Nat) (h:i < s.size):s.data.toList.getD i 0=s[i]'h:=by
 rw [List.getD_eq_getElem?_getD,List.getElem?_eq_getElem (by simpa using h)];rfl
theorem indexFunc_c (s:ByteArray) (σ:H) (hs:∀ j,j < s.size→sign (s.data.toList.getD j 0)=true):
 MCalls E Tryz.prog 136 [.string s,.func (.func 71) #[] #[],.bool true] σ (fun v τ=>v=.int .i64 (-1)∧τ=σ):=by
 refine mcalls_below 1 0 (by kernel_rfl) rfl rfl fun w=>Tryz.indexFunc_none 71 s w (fun i hi=>?_) (fun i hi W=>?_) (fun args w=>by kernel_rfl)
 ·have:=hs i hi;rw [getD_get s i hi] at this;exact sign_lt this
 ·have:=hs i hi;rw [getD_get s i hi] at this
  exact calls_of_mcalls (E:=fun _=>True) 0 0 rfl rfl (sized2_c _ this _) W trivial
theorem containsFunc_c (s:ByteArray) (σ:H) (hs:∀ j,j < s.size→sign (s.data.toList.getD j 0)=true):
 MCalls E Tryz.prog 70 [.string s,.func (.func 71) #[] #[]] σ (fun v τ=>v=.bool false∧τ=σ):=by
 refine mcalls_of fn70 (by simp) ?_
 unfold c70 r70
 have h1:MCalls E Tryz.prog 107 [.string s,.func (.func 71) #[] #[]] σ (fun v τ=>v=.int .i64 (-1)∧τ=σ):=by
  refine mcalls_of fn107 (by simp) ?_
  unfold c107 r107
  refine stepR0 ?_
  refine ml_call Sd0 Sd0 (indexFunc_c s _ hs) ?_
  rintro _ _ ⟨rfl,rfl⟩
  refine stepR0 ?_
  exact fin1 ⟨Sd0,rfl⟩
 refine stepR0 ?_
 refine ml_call Sd0 Sd0 h1 ?_
 rintro _ _ ⟨rfl,rfl⟩
 refine stepR0 ?_
 exact fin1 ⟨Sd0,rfl⟩
def szd (W Hh:Int) (S:ByteArray):Bool:=(decide (1≤W) && decide (W≤8)) && (decide (1≤Hh) && decide (Hh≤8)) && ((S.size:Int) == W * Hh) && S.data.toList.all sign
theorem mul_le64 {W Hh:Int} (h:1≤W∧W≤8) (k:1≤Hh∧Hh≤8):1≤W * Hh∧W * Hh≤64:=by
 have h1:1 * 1≤W * Hh:=Int.mul_le_mul h.1 k.1 (by omega) (by omega)
 have h2:W * Hh≤8 * 8:=Int.mul_le_mul h.2 k.2 (by omega) (by omega)
 omega
theorem all_getD (s:ByteArray):s.data.toList.all sign=true↔∀ j,j < s.size→sign (s.data.toList.getD j 0)=true:=by
 rw [List.all_eq_true]
 constructor
 ·intro h j hj
  refine h _ ?_
  rw [List.getD_eq_getElem?_getD,List.getElem?_eq_getElem (by simpa using hj)]
  exact List.getElem_mem _
 ·intro h b hb
  obtain ⟨i,hi,rfl⟩:=List.getElem_of_mem hb
  have:=h i (by simpa using hi)
  rwa [List.getD_eq_getElem?_getD,List.getElem?_eq_getElem hi] at this
theorem sized_c (W Hh:Int) (S:ByteArray) (σ:H):MCalls E Tryz.prog 44 [mapV W Hh S] σ (fun v τ=>v=.bool (szd W Hh S)∧Ext σ τ):=by
 refine mcalls_of fn44 (by simp) ?_
 unfold c44 r44 mapV
 refine stepR0 ?_
 refine ml_callv Sd0 Sd0 Sd0 (sized1_c W _) ?_
 rintro _ _ ⟨rfl,rfl⟩
 cases hW:decide (1≤W) && decide (W≤8)
 ·refine stepR hW ?_
  refine fin1 ⟨?_,Ext.push _ _⟩
  simp only [go_sem,reduceIte,Nat.reduceEqDiff,reduceCtorEq,Nat.reduceAdd,Nat.reduceLeDiff,Int.reduceNeg,Int.reduceToNat,Int.reduceBEq,Int.reduceBNe,Int.reduceLT,Int.reduceLE,Int.reduceAdd,Int.reduceSub,szd,hW,Bool.false_and]
 refine stepR hW ?_
 refine ml_callv Sd0 Sd0 Sd0 (sized1_c Hh _) ?_
 rintro _ _ ⟨rfl,rfl⟩
 cases hH:decide (1≤Hh) && decide (Hh≤8)
 ·refine stepR hH ?_
  refine fin1 ⟨?_,Ext.push _ _⟩
  simp only [go_sem,reduceIte,Nat.reduceEqDiff,reduceCtorEq,Nat.reduceAdd,Nat.reduceLeDiff,Int.reduceNeg,Int.reduceToNat,Int.reduceBEq,Int.reduceBNe,Int.reduceLT,Int.reduceLE,Int.reduceAdd,Int.reduceSub,szd,hW,hH,Bool.false_and,Bool.and_false]
 have hm:=mul_le64 (W:=W) (Hh:=Hh) (by simpa using hW) (by simpa using hH)
 cases hL:(S.size:Int) == W * Hh
 ·refine stepR (An hH hL) ?_
  refine fin1 ⟨?_,Ext.push _ _⟩
  simp only [go_sem,reduceIte,Nat.reduceEqDiff,reduceCtorEq,Nat.reduceAdd,Nat.reduceLeDiff,Int.reduceNeg,Int.reduceToNat,Int.reduceBEq,Int.reduceBNe,Int.reduceLT,Int.reduceLE,Int.reduceAdd,Int.reduceSub,szd,hW,hH,hL,Bool.false_and,Bool.and_false]
 refine stepR (An hH hL) ?_
 have hsz:S.size≤64:=by have:=eq_of_beq hL;omega
 refine ml_call Sd0 Sd0 (trim_c S _ (by omega)) ?_
 rintro _ τ ⟨e1,T,rfl,hT⟩
 have g1:=e1.cells (H.get_push_self σ _)
 have hTe:(T.toList == (⟨#[]⟩:ByteArray).toList)=decide (T.size=0):=by
  rw [toList_data,Bool.eq_iff_iff,beq_iff_eq,decide_eq_true_eq,toList_data]
  constructor
  ·intro h;simpa using congrArg List.length h
  ·intro h
   have:T.data.toList.length=0:=by simpa using h
   exact List.eq_nil_of_length_eq_zero this
 have hx:Ext σ τ:=(Ext.push _ _).trans e1
 cases hA:S.data.toList.all sign
 ·have hno:decide (T.size=0)=false:=by
   rw [decide_eq_false_iff_not,hT,← all_getD,hA];simp
  rw [hno] at hTe
  refine stepR hTe ?_
  refine fin1 ⟨?_,hx⟩
  simp only [go_sem,reduceIte,Nat.reduceEqDiff,reduceCtorEq,Nat.reduceAdd,Nat.reduceLeDiff,Int.reduceNeg,Int.reduceToNat,Int.reduceBEq,Int.reduceBNe,Int.reduceLT,Int.reduceLE,Int.reduceAdd,Int.reduceSub,szd,hW,hH,hL,hA,Bool.false_and,Bool.and_false]
 ·have hyes:decide (T.size=0)=true:=by
   rw [decide_eq_true_eq,hT,← all_getD,hA]
  rw [hyes] at hTe
  refine stepR (An hTe g1) ?_
  refine ml_call Sd0 Sd0 (containsFunc_c S τ ((all_getD S).1 hA)) ?_
  rintro _ _ ⟨rfl,rfl⟩
  refine stepR0 ?_
  refine fin1 ⟨?_,hx⟩
  simp only [go_sem,reduceIte,Nat.reduceEqDiff,reduceCtorEq,Nat.reduceAdd,Nat.reduceLeDiff,Int.reduceNeg,Int.reduceToNat,Int.reduceBEq,Int.reduceBNe,Int.reduceLT,Int.reduceLE,Int.reduceAdd,Int.reduceSub,szd,hW,hH,hL,hA]
  try rfl
theorem szd_spec {W Hh:Int} {S:ByteArray} (h:szd W Hh S=true):(1≤W∧W≤8)∧(1≤Hh∧Hh≤8)∧(S.size:Int)=W * Hh∧S.data.toList.all sign=true:=by
 simp only [szd,Bool.and_eq_true,decide_eq_true_eq,beq_iff_eq] at h
 exact ⟨h.1.1.1,h.1.1.2,h.1.2,h.2⟩
end Go.Proofs.YtoejdgoicoaomaaGreatDoor
namespace Go.Proofs.YtoejdgoicoaomaaGreatDoor
open Go.Mini
open Go.Proofs.YtoejdgoicoaomaaGreatDoor.Code
attribute [local irreducible] mx ml mld mstep MCalls Ex.thn Ex.inb
variable {E:World→Prop}
theorem sub_len:∀ {l L:List Int},l.Nodup→(∀ x ∈ l,x ∈ L)→l.length≤L.length
 | [],_,_,_=>Nat.zero_le _
 | x :: l,L,hd,hs=>by
   have hx:=hs x List.mem_cons_self
   have hd':=List.nodup_cons.1 hd
   have:=sub_len (l:=l) (L:=L.erase x) hd'.2 (fun y hy=>by
    have hne:y≠x:=fun e=>hd'.1 (e ▸ hy)
    exact (List.mem_erase_of_ne hne).2 (hs y (List.mem_cons_of_mem _ hy)))
   rw [List.length_erase_of_mem hx] at this
   have:=List.length_pos_of_mem hx
   simp only [List.length_cons];omega
theorem sub_all {l L:List Int} (hd:l.Nodup) (hs:∀ x ∈ l,x ∈ L) (hl:L.length≤l.length):∀ x ∈ L,x ∈ l:=fun x hx=>by
 apply Classical.byContradiction
 intro hn
 have:=sub_len (l:=x :: l) (L:=L) (List.nodup_cons.2 ⟨hn,hd⟩) (fun y hy=>by
  cases hy with
  | head=>exact hx
  | tail _ h=>exact hs y h)
 simp only [List.length_cons] at this;omega
def opens (S:ByteArray):List Int:=((List.range S.size).filter fun i=>opn S (i:Nat)).map Int.ofNat
theorem mem_opens {S:ByteArray} {x:Int}:x ∈ opens S↔opn S x=true:=by
 unfold opens
 rw [List.mem_map]
 constructor
 ·rintro ⟨i,hi,rfl⟩;exact (List.mem_filter.1 hi).2
 ·intro h
  have:=opn_lt h
  exact ⟨x.toNat,List.mem_filter.2 ⟨List.mem_range.2 (by omega),by rw [Int.toNat_of_nonneg this.1];exact h⟩,Int.toNat_of_nonneg this.1⟩
theorem opens_nodup (S:ByteArray):(opens S).Nodup:=by
 unfold opens
 rw [List.nodup_iff_pairwise_ne,List.pairwise_map]
 refine ((List.nodup_iff_pairwise_ne.1 List.nodup_range).filter _).imp fun h e=>h (Int.ofNat.inj e)
theorem list_range (l:List UInt8):(List.range l.length).map (fun i=>l.getD i 0)=l:=by
 apply List.ext_getElem
 ·simp
 ·intro i h1 h2
  simp [List.getElem?_eq_getElem h2]
theorem opens_len (S:ByteArray):(opens S).length + S.data.toList.count 35=S.size:=by
 unfold opens
 rw [List.length_map]
 have h1:((List.range S.size).filter fun i=>opn S (i:Nat))=(List.range S.data.toList.length).filter fun i=>S.data.toList.getD i 0 != 35:=by
  have:S.data.toList.length=S.size:=by simp
  rw [this]
  apply List.filter_congr
  intro i hi
  have hi:=List.mem_range.1 hi
  simp [opn,bAt];omega
 rw [h1,← List.countP_eq_length_filter]
 have h2:=List.countP_map (p:=fun b:UInt8=>b != 35) (f:=fun i=>S.data.toList.getD i 0) (l:=List.range S.data.toList.length)
 rw [list_range] at h2
 have h3:=List.length_eq_countP_add_countP (fun b:UInt8=>b != 35) (l:=S.data.toList)
 have h4:S.data.toList.length=S.size:=by simp
 have h5:List.countP (fun a=>!(a != 35)) S.data.toList=S.data.toList.count 35:=by
  rw [List.count];congr 1;funext a;simp [bne]
 have h6:List.countP (fun a=>decide ¬(a != 35)=true) S.data.toList=S.data.toList.count 35:=by
  rw [List.count];congr 1;funext a
  by_cases h:a=35<;>simp [h]
 have h7:List.countP (fun i=>S.data.toList.getD i 0 != 35) (List.range S.data.toList.length)=List.countP (fun b=>b != 35) S.data.toList:=h2.symm
 omega
def RightP (W Hh:Int) (S:ByteArray):Prop:=szd W Hh S=true∧0≤Lib.indexByte S.data.toList 67∧∀ x,opn S x=true→Reach W S (Lib.indexByte S.data.toList 67) x
noncomputable def gr (W Hh:Int) (S:ByteArray):Bool:=@decide (RightP W Hh S) (Classical.propDecidable _)
theorem gr_iff {W Hh:Int} {S:ByteArray}:gr W Hh S=true↔RightP W Hh S:=by
 unfold gr;exact @decide_eq_true_iff _ (Classical.propDecidable _)
theorem right_c (W Hh:Int) (S:ByteArray) (σ:H):MCalls E Tryz.prog 32 [mapV W Hh S] σ (fun v τ=>v=.bool (gr W Hh S)∧Ext σ τ):=by
 refine mcalls_of fn32 (by simp) ?_
 unfold c32 r32 mapV
 refine stepR0 ?_
 refine ml_call Sd0 Sd0 (sized_c W Hh S _) ?_
 rintro _ τ ⟨rfl,e1⟩
 have g1:=e1.cells (H.get_push_self σ _)
 have e1':Ext σ τ:=(Ext.push _ _).trans e1
 cases hz:szd W Hh S
 ·refine stepR hz ?_
  refine fin1 ⟨?_,e1'⟩
  have:gr W Hh S=false:=by
   rw [← Bool.not_eq_true,gr_iff];intro h;rw [h.1] at hz;cases hz
  simp only [go_sem,reduceIte,Nat.reduceEqDiff,reduceCtorEq,Nat.reduceAdd,Nat.reduceLeDiff,Int.reduceNeg,Int.reduceToNat,Int.reduceBEq,Int.reduceBNe,Int.reduceLT,Int.reduceLE,Int.reduceAdd,Int.reduceSub,this]
 obtain ⟨hW,hH,hS,hA⟩:=szd_spec hz
 have hWH:=mul_le64 hW hH
 have hI:MCalls E Tryz.prog 45 [.string S,.string ⟨#[67]⟩] τ (fun v τ'=>v=.int .i64 (Lib.indexByte S.data.toList 67)∧τ'=τ):=
  mcalls_same 0 0 (by kernel_rfl) rfl rfl fun w=>Tryz.strings_Index_one S 67 w
 refine stepR (An hz g1) ?_
 refine ml_call Sd0 Sd0 hI ?_
 rintro _ τ ⟨rfl,rfl⟩
 refine stepR (An hz g1) ?_
 have hge:=Lib.indexByte_ge S.data.toList 67
 have hdef:gr W Hh S=true↔0≤Lib.indexByte S.data.toList 67∧∀ x,opn S x=true→Reach W S (Lib.indexByte S.data.toList 67) x:=by
  rw [gr_iff];exact ⟨fun h=>h.2,fun h=>⟨hz,h⟩⟩
 have hio:0≤Lib.indexByte S.data.toList 67→opn S (Lib.indexByte S.data.toList 67)=true:=fun h=>by
  obtain ⟨o,ho⟩:=Int.eq_ofNat_of_zero_le h
  have:=(Lib.indexByte_some ho).1
  rw [ho]
  have hlt:o < S.size:=by
   have:=(List.getElem?_eq_some_iff.1 this).1
   simpa using this
  simp only [opn,bAt,Int.toNat_natCast,List.getD_eq_getElem?_getD,this,Option.getD_some]
  simp [hlt]
 generalize Lib.indexByte S.data.toList 67=i at hge hdef hio
 rcases Int.lt_or_le i 0 with hneg | hpos
 ·have hn0:¬ 0≤i:=by omega
  refine stepR (An hz (An g1 hn0)) ?_
  refine fin1 ⟨?_,e1'⟩
  have:gr W Hh S=false:=by
   rw [← Bool.not_eq_true,hdef];intro h;omega
  simp only [go_sem,reduceIte,Nat.reduceEqDiff,reduceCtorEq,Nat.reduceAdd,Nat.reduceLeDiff,Int.reduceNeg,Int.reduceToNat,Int.reduceBEq,Int.reduceBNe,Int.reduceLT,Int.reduceLE,Int.reduceAdd,Int.reduceSub,this,hn0]
 ·refine stepR (An hz (An g1 hpos)) ?_
  refine mld_call (Sw hpos) Sd0 (reached_c W Hh S i τ hW.1 (by omega) (by omega) (hio hpos)) (fun _ _ h=>h.1) ?_
  rintro _ τ2 ⟨e2,met,hnd,hmem,rfl⟩
  have hC:MCalls E Tryz.prog 47 [.string S,.string ⟨#[35]⟩] τ2 (fun v τ'=>v=.int .i64 (Lib.countByte S.data.toList 35)∧τ'=τ2):=
   mcalls_same 0 0 (by kernel_rfl) rfl rfl fun w=>Tryz.strings_Count_one S 35 w
  refine mld_call (Sw hpos) Sd0 hC (fun _ _ h=>by rw [h.2];exact .refl _) ?_
  rintro _ _ ⟨rfl,rfl⟩
  have hcnt:=opens_len S
  have hcl:Lib.countByte S.data.toList 35≤S.size:=by simp only [Lib.countByte];omega
  have hsub:∀ x ∈ met,x ∈ opens S:=fun x hx=>by
   rw [mem_opens]
   have:=(hmem x).1 hx
   cases this with
   | here=>exact hio hpos
   | step _ hn=>exact near_opn hn
  have hml:=sub_len hnd hsub
  refine stepR (An hz (An g1 hpos)) ?_
  refine fin1 ⟨?_,e1'.trans e2⟩
  have:gr W Hh S=decide (met.length=S.size - Lib.countByte S.data.toList 35):=by
   rw [Bool.eq_iff_iff,hdef,decide_eq_true_eq]
   constructor
   ·intro h
    have:=sub_len (opens_nodup S) (L:=met) (fun x hx=>(hmem x).2 (h.2 x (mem_opens.1 hx)))
    simp only [Lib.countByte] at *;omega
   ·intro h
    refine ⟨hpos,fun x hx=>(hmem x).1 (sub_all hnd hsub ?_ x (mem_opens.2 hx))⟩
    simp only [Lib.countByte] at *;omega
  simp only [go_sem,reduceIte,Nat.reduceEqDiff,reduceCtorEq,Nat.reduceAdd,Nat.reduceLeDiff,Int.reduceNeg,Int.reduceToNat,Int.reduceBEq,Int.reduceBNe,Int.reduceLT,Int.reduceLE,Int.reduceAdd,Int.reduceSub,this]
  rw [Value.bool.injEq,Bool.eq_iff_iff,beq_iff_eq,decide_eq_true_eq]
  omega
theorem gopen_c (W Hh:Int) (S:ByteArray) (c:Int) (σ:H):MCalls E Tryz.prog 42 [mapV W Hh S,.int .i64 c] σ (fun v τ=>v=.bool (gr W Hh S && opn S c)∧Ext σ τ):=by
 refine mcalls_of fn42 (by simp) ?_
 unfold c42 r42 mapV
 refine stepR0 ?_
 refine ml_call Sd0 Sd0 (right_c W Hh S _) ?_
 rintro _ τ ⟨rfl,e1⟩
 have g1:=e1.cells (H.get_push_self σ _)
 have e1':Ext σ τ:=(Ext.push _ _).trans e1
 cases hz:gr W Hh S
 ·refine stepR0 ?_
  refine fin1 ⟨?_,e1'⟩
  simp only [go_sem,reduceIte,Nat.reduceEqDiff,reduceCtorEq,Nat.reduceAdd,Nat.reduceLeDiff,Int.reduceNeg,Int.reduceToNat,Int.reduceBEq,Int.reduceBNe,Int.reduceLT,Int.reduceLE,Int.reduceAdd,Int.reduceSub,Bool.false_and]
 ·refine stepR g1 ?_
  refine ml_call Sd0 Sd0 (open_c W Hh S c _) ?_
  rintro _ τ2 ⟨rfl,e2⟩
  refine stepR0 ?_
  refine fin1 ⟨?_,e1'.trans e2⟩
  simp only [go_sem,reduceIte,Nat.reduceEqDiff,reduceCtorEq,Nat.reduceAdd,Nat.reduceLeDiff,Int.reduceNeg,Int.reduceToNat,Int.reduceBEq,Int.reduceBNe,Int.reduceLT,Int.reduceLE,Int.reduceAdd,Int.reduceSub,Bool.true_and]
theorem gr_size {W Hh:Int} {S:ByteArray} (h:gr W Hh S=true):(1≤W∧W≤8)∧(1≤Hh∧Hh≤8)∧(S.size:Int)=W * Hh∧(1≤S.size∧S.size≤64)∧S.data.toList.all sign=true:=by
 obtain ⟨h1,h2,h3,h4⟩:=szd_spec (gr_iff.1 h).1
 have:=mul_le64 h1 h2
 exact ⟨h1,h2,h3,by omega,h4⟩
def gnear (W Hh:Int) (S:ByteArray) (c:Int) (b:Bool):List Int:=if b && opn S c then nearL W S c else []
theorem Out.nil {σ τ:H} (h:Ext σ τ):Out σ τ 1 (.slice none 0 0) (ints []):=⟨h,none,.nil,fun _ h=>nomatch h⟩
end Go.Proofs.YtoejdgoicoaomaaGreatDoor
namespace Go.Proofs.YtoejdgoicoaomaaGreatDoor
open Go.Mini
open Go.Proofs.YtoejdgoicoaomaaGreatDoor.Code
attribute [local irreducible] mx ml mld mstep MCalls Ex.thn Ex.inb
section
variable {E:World→Prop} {P:Program} {ts:Fr} {σ τ σ0:H} {v:Value} {K:Fr→H→Prop} {Q:MQ} {rest:List MI} {drest:List DI}
theorem _root_.Go.Mini.Out.of_ext {sz:Nat} {cs:List Value} (h:Out σ0 σ sz v cs) (e:Ext σ τ):Out σ0 τ sz v cs:=by
 obtain ⟨h1,oid,h2,h3⟩:=h
 exact ⟨h1.trans e,oid,h2.of_ext e,h3⟩
theorem ml_appOut {d:Option Nat} {g:Option (Nat × Bool)} {bytes:Nat} {xs xx:Opd} {l:List Int} {n:Int} {tid:Nat} (hw:wantM ts g=true) (hv:mev ts xs=v) (hx:mev ts xx=.slice (some ⟨tid,0,none⟩) 1 1)
 (ho:Out σ0 σ 1 v (ints l)) (ht:σ.get tid=.cells 1 [.int .i64 n]) (hb:bytes≤128) (hn:l.length < appMax)
 (h:∀ v' τ,Out σ0 τ 1 v' (ints (l ++ [n]))→(∀ i o,σ.get i=o→o≠.dead→(∀ cs,o≠.cells 1 cs)→τ.get i=o)→ml E P rest K (updO ts d v') τ):
 ml E P (⟨d,.app 1 bytes xs xx,g⟩ :: rest) K ts σ:=by
 obtain ⟨e,oid,own,hid⟩:=ho
 refine ml_appI hw hv hx own ht hb hn fun v' τ o2 s2 k2=>h v' τ ⟨⟨by have:=e.size;omega,fun i hi=>?_⟩,_,o2,fun id hi=>?_⟩ fun i o h1 h2 h3=>?_
 ·have:=e.size
  rw [k2 i (by omega) (fun x=>by have:=hid i x;omega),e.get i hi]
 ·injection hi with hi;have:=e.size;omega
 ·rw [k2 i (H.lt_of_live (by rw [h1];exact h2)) (fun x=>?_),h1]
  subst x
  obtain ⟨cs,hc⟩:=own.cells
  exact h3 cs (by rw [← h1,hc])
end
def gkind (S:ByteArray) (kind:UInt8) (b:Bool):List Int:=if b then ((List.range S.size).filter fun i=>S.data.toList.getD i 0 == kind).map Int.ofNat else []
def gkindN (S:ByteArray) (kind:UInt8) (n:Nat):List Int:=((List.range n).filter fun i=>S.data.toList.getD i 0 == kind).map Int.ofNat
theorem gkindN_succ (S:ByteArray) (kind:UInt8) (n:Nat):gkindN S kind (n + 1)=if S.data.toList.getD n 0 == kind then gkindN S kind n ++ [(n:Int)] else gkindN S kind n:=by
 unfold gkindN
 rw [List.range_succ,List.filter_append,List.map_append]
 by_cases h:(S.data.toList.getD n 0 == kind)=true
 ·rw [if_pos h];simp only [List.filter_cons,h,if_true,List.filter_nil,List.map_cons,List.map_nil];rfl
 ·rw [if_neg h];simp only [List.filter_cons,Bool.not_eq_true] at h ⊢;rw [h];simp
theorem gkindN_len (S:ByteArray) (kind:UInt8) (n:Nat):(gkindN S kind n).length≤n:=by
 unfold gkindN;rw [List.length_map];exact Nat.le_trans (List.length_filter_le _ _) (by simp)
theorem first_c (S:ByteArray):(Lib.indexByte S.data.toList 67=-1∧∀ k,k < S.size→S.data.toList.getD k 0≠67)∨∃ o:Nat,Lib.indexByte S.data.toList 67=o∧o < S.size∧S.data.toList.getD o 0=67∧∀ k,k < o→S.data.toList.getD k 0≠67:=by
 have hl:S.data.toList.length=S.size:=by simp
 have hge:=Lib.indexByte_ge S.data.toList 67
 have gd:∀ k,k < S.size→S.data.toList[k]?=some (S.data.toList.getD k 0):=fun k hk=>by
  rw [List.getD_eq_getElem?_getD,List.getElem?_eq_getElem (by omega)];rfl
 by_cases h:Lib.indexByte S.data.toList 67=-1
 ·exact .inl ⟨h,fun k hk e=>Lib.indexByte_none h k (by rw [gd k hk,e])⟩
 ·obtain ⟨o,ho⟩:=Int.eq_ofNat_of_zero_le (show 0≤Lib.indexByte S.data.toList 67 by omega)
  obtain ⟨h1,h2⟩:=Lib.indexByte_some ho
  have hlt:=(List.getElem?_eq_some_iff.1 h1).1
  refine .inr ⟨o,ho,by omega,?_,fun k hk e=>h2 k hk (by rw [gd k (by omega),e])⟩
  rw [gd o (by omega)] at h1
  exact Option.some.inj h1
theorem gOf_c {E:World→Prop} (W Hh:Int) (S:ByteArray) (σ:H):MCalls E Tryz.prog 15 [mapV W Hh S] σ (fun v τ=>v=mapV W Hh S∧Ext σ τ):=by
 refine mcalls_of fn15 (by simp) ?_
 unfold c15 r15 mapV
 refine stepR0 ?_
 generalize hτ:H.push σ _=τ
 have gm:τ.get σ.size=.cells 0 (mapC W Hh S):=by rw [← hτ];exact H.get_push_self _ _
 have e1:Ext σ τ:=hτ ▸ Ext.push _ _
 have e2:=Ext.push τ (.cells 0 [.int .i64 0,.int .i64 0,.string ⟨#[]⟩])
 have g2:=e2.cells gm
 have hs:σ.size + 1=τ.size:=by rw [← hτ];rfl
 clear hτ
 refine stepR g2 ?_
 refine ml_init (vs:=mapC W Hh S) Sd0 (Sw hs) Sd0 rfl rfl rfl fun τ3 e3 g3=>?_
 refine stepR0 ?_
 refine finC (id:=τ.size) (vs:=mapC W Hh S) (Sw hs) (row_of g3 rfl) ⟨rfl,e1.trans e3⟩
end Go.Proofs.YtoejdgoicoaomaaGreatDoor
namespace Go.Proofs.YtoejdgoicoaomaaGreatDoor
open Go.Mini
open Go.Proofs.YtoejdgoicoaomaaGreatDoor.Code
attribute [local irreducible] mx ml mld mstep MCalls Ex.thn Ex.inb
section
variable {E:World→Prop}
theorem gnear_c (W Hh:Int) (S:ByteArray) (c:Int) (σ:H):MCalls E Tryz.prog 65 [mapV W Hh S,.int .i64 c] σ (fun v τ=>Out σ τ 1 v (ints (gnear W Hh S c (gr W Hh S)))):=by
 refine mcalls_of fn65 (by simp) ?_
 unfold c65 r65 mapV
 refine stepR0 ?_
 refine ml_call Sd0 Sd0 (gopen_c W Hh S c _) ?_
 rintro _ τ ⟨rfl,e1⟩
 have g1:=e1.cells (H.get_push_self σ _)
 have e1':Ext σ τ:=(Ext.push _ _).trans e1
 unfold gnear
 cases hz:gr W Hh S && opn S c
 ·refine stepR0 ?_
  refine fin1 ?_
  simp only [go_sem,reduceIte,Nat.reduceEqDiff,reduceCtorEq,Nat.reduceAdd,Nat.reduceLeDiff,Int.reduceNeg,Int.reduceToNat,Int.reduceBEq,Int.reduceBNe,Int.reduceLT,Int.reduceLE,Int.reduceAdd,Int.reduceSub]
  exact Out.nil e1'
 ·simp only [Bool.and_eq_true] at hz
  have h1:=gr_size hz.1
  have h2:=opn_lt hz.2
  refine stepR g1 ?_
  refine ml_call Sd0 Sd0 (near_c W Hh S c τ (by omega) (by omega) (by omega) (by omega)) ?_
  rintro v τ2 ⟨e2,oid,own,hid⟩
  refine stepR0 ?_
  refine fin1 ?_
  simp only [go_sem,reduceIte,Nat.reduceEqDiff,reduceCtorEq,Nat.reduceAdd,Nat.reduceLeDiff,Int.reduceNeg,Int.reduceToNat,Int.reduceBEq,Int.reduceBNe,Int.reduceLT,Int.reduceLE,Int.reduceAdd,Int.reduceSub]
  exact ⟨e1'.trans e2,oid,own,fun id h=>Nat.le_trans e1'.size (hid id h)⟩
end
set_option maxHeartbeats 1000000 in
theorem gkind_c {E:World→Prop} (W Hh:Int) (S:ByteArray) (kind:UInt8) (σ:H):MCalls E Tryz.prog 26 [mapV W Hh S,.int .u8 kind.toNat] σ (fun v τ=>Out σ τ 1 v (ints (gkind S kind (gr W Hh S)))):=by
 refine mcalls_of fn26 (by simp) ?_
 unfold c26 r26 mapV
 refine stepR0 ?_
 refine ml_call Sd0 Sd0 (right_c W Hh S _) ?_
 rintro _ τ ⟨rfl,e1⟩
 have g1:=e1.cells (H.get_push_self σ _)
 have e1':Ext σ τ:=(Ext.push _ _).trans e1
 unfold gkind
 cases hz:gr W Hh S
 ·refine stepR0 ?_
  refine fin1 ?_
  simp only [go_sem,reduceIte,Nat.reduceEqDiff,reduceCtorEq,Nat.reduceAdd,Nat.reduceLeDiff,Int.reduceNeg,Int.reduceToNat,Int.reduceBEq,Int.reduceBNe,Int.reduceLT,Int.reduceLE,Int.reduceAdd,Int.reduceSub]
  exact Out.nil e1'
 ·have h1:=gr_size hz
  refine stepR g1 ?_
  refine mx_loop (fun n ts τ=>∃ i v,n=S.size - i∧i≤S.size∧ts 1=.int .u8 kind.toNat∧ts 2=.pointer (some ⟨σ.size,0,none⟩)∧ts 5=v∧ts 12=.int .i64 S.size∧ts 13=.int .i64 ((i:Nat):Int)∧
   τ.get σ.size=.cells 0 (mapC W Hh S)∧Out σ τ 1 v (ints (gkindN S kind i))) S.size ?_ ?_
  ·exact ⟨0,.slice none 0 0,by omega,by omega,Sd0,Sd0,Sd0,Sd0,Sd0,g1,Out.nil e1'⟩
  rintro n ts τ2 ⟨i,v,hn,hi,t1,t2,t5,t12,t13,g2,out⟩
  rcases Nat.lt_or_ge i S.size with hlt | hge
  ·have hlen:=gkindN_len S kind i
   cases hk:S.data.toList.getD i 0 == kind
   ·have hk2:(((S.data.toList.getD i 0).toNat:Int) == (kind.toNat:Int))=false:=by
     rw [u8eq _ _ kind.toNat_lt];simpa using hk
    refine stepR (An t1 (An t2 (An t5 (An t12 (An t13 (An g2 hk2)))))) ?_
    refine ⟨_,?_,i + 1,v,rfl,by omega,(Sw t1),(Sw t2),(Sw t5),(Sw t12),Sd0,g2,?_⟩
    ·omega
    ·rw [gkindN_succ,hk];exact out
   ·have hk2:(((S.data.toList.getD i 0).toNat:Int) == (kind.toNat:Int))=true:=by
     rw [u8eq _ _ kind.toNat_lt];simpa using hk
    refine stepR (An t1 (An t2 (An t5 (An t12 (An t13 (An g2 hk2)))))) ?_
    refine ml_appOut Sd0 Sd0 Sd0 (out.of_ext (Ext.push _ _)) (H.get_push_self _ _) (by omega) (by simp only [appMax];omega) fun v' τ3 out3 keep=>?_
    have g3:=keep σ.size _ ((Ext.push _ _).cells g2) (by simp) (by simp)
    refine stepR t13 ?_
    refine ⟨_,?_,i + 1,v',rfl,by omega,(Sw t1),(Sw t2),Sd0,(Sw t12),Sd0,g3,?_⟩
    ·omega
    ·rw [gkindN_succ,hk];exact out3
  ·refine stepR (An t1 (An t2 (An t5 (An t12 (An t13 g2))))) ?_
   refine fin1 ?_
   simp only [go_sem,reduceIte,Nat.reduceEqDiff,reduceCtorEq,Nat.reduceAdd,Nat.reduceLeDiff,Int.reduceNeg,Int.reduceToNat,Int.reduceBEq,Int.reduceBNe,Int.reduceLT,Int.reduceLE,Int.reduceAdd,Int.reduceSub,t5]
   have:i=S.size:=by omega
   subst this
   exact out
end Go.Proofs.YtoejdgoicoaomaaGreatDoor
namespace Go.Proofs.YtoejdgoicoaomaaGreatDoor
open Go.Mini
open Go.Proofs.YtoejdgoicoaomaaGreatDoor.Code
attribute [local irreducible] mx ml mld mstep MCalls Ex.thn Ex.inb
variable {E:World→Prop}
theorem Own.keep2 {σ τ:H} {hid sz:Nat} {v:Value} {oid:Option Nat} {cs hc:List Value} (h:Own σ 1 v oid cs) (k:Keep2 hid σ τ) (hh:σ.get hid=.cells 0 hc):Own τ 1 v oid cs:=by
 cases h with
 | nil=>exact .nil
 | @full id n _ h hl=>
   refine .full ?_ hl
   rw [k.2 id (by rw [h];simp) (fun e=>by rw [e,hh] at h;cases h) (by rw [h];simp),h]
theorem HeapAt.setC {σ0 σ τ:H} {hid i:Nat} {L:List Due} {cs cs':List Value} (h:HeapAt σ0 hid L σ) (hs:SetTo σ i (.cells 1 cs') τ) (hg:σ.get i=.cells 1 cs) (hi:σ0.size≤i):HeapAt σ0 hid L τ:=by
 obtain ⟨h1,h2,v,h3,h4⟩:=h
 have hne:hid≠i:=fun e=>by rw [e,hg] at h3;cases h3
 refine ⟨hs.ext h1 hi,h2,v,hs.cells h3 hne,?_⟩
 rcases h4 with h4 | ⟨id,R,h5,h6,h7⟩
 ·exact .inl h4
 ·exact .inr ⟨id,R,h5,h6,hs.cells h7 (fun e=>by rw [e,hg] at h7;cases h7)⟩
structure CS (σ0:H) (mid hid oid:Nat) (mv:List Value) (out:List Int) (L:List Due) (τ:H):Prop where
 heap:HeapAt σ0 hid L τ
 ok:HeapOK L
 out:τ.get oid=.cells 1 (ints out)
 map:τ.get mid=.cells 0 mv
 ho:σ0.size≤oid
 hm:mid≠hid
section
variable {σ0 τ τ':H} {mid hid oid:Nat} {mv:List Value} {out:List Int} {L:List Due}
theorem CS.of_ext (h:CS σ0 mid hid oid mv out L τ) (e:Ext τ τ'):CS σ0 mid hid oid mv out L τ':=
 ⟨h.heap.of_ext e,h.ok,e.cells h.out,e.cells h.map,h.ho,h.hm⟩
theorem CS.keep (h:CS σ0 mid hid oid mv out L τ) {L':List Due} (hh:HeapAt σ0 hid L' τ') (k:Keep2 hid τ τ') (ho:HeapOK L'):CS σ0 mid hid oid mv out L' τ':=by
 obtain ⟨_,_,v,h3,_⟩:=h.heap
 refine ⟨hh,ho,?_,?_,h.ho,h.hm⟩
 ·rw [k.2 oid (by rw [h.out];simp) (fun e=>by have:=h.out;rw [e,h3] at this;cases this) (by rw [h.out];simp),h.out]
 ·rw [k.2 mid (by rw [h.map];simp) h.hm (by rw [h.map];simp),h.map]
theorem CS.push (h:CS σ0 mid hid oid mv out L τ) {x:Due} (hh:HeapAt σ0 hid (up (L ++ [x]) L.length) τ'∧Keep2 hid τ τ'):
 ∃ L',CS σ0 mid hid oid mv out L' τ'∧L'.Perm (L ++ [x]):=by
 obtain ⟨a,b⟩:=push_ok h.ok x
 exact ⟨_,h.keep hh.1 hh.2 a,b⟩
theorem CS.set (h:CS σ0 mid hid oid mv out L τ) {out':List Int} (hs:SetTo τ oid (.cells 1 (ints out')) τ'):CS σ0 mid hid oid mv out' L τ':=
 ⟨h.heap.setC hs h.out h.ho,h.ok,hs.self,hs.cells h.map (fun e=>by have:=h.map;rw [e,h.out] at this;cases this),h.ho,h.hm⟩
theorem CS.own {v:Value} {o:Option Nat} {cs:List Value} (h:CS σ0 mid hid oid mv out L τ) (k:Keep2 hid τ τ') (hv:Own τ 1 v o cs):Own τ' 1 v o cs:=by
 obtain ⟨_,_,w,h3,_⟩:=h.heap
 exact Own.keep2 (sz:=1) hv k h3
end
theorem ints_get {l:List Int} {i:Nat} (hi:i < l.length):(ints l)[i]?=some (.int .i64 (l.getD i 0)):=by
 unfold ints;rw [List.getElem?_map,List.getElem?_eq_getElem hi,List.getD_eq_getElem?_getD,List.getElem?_eq_getElem hi];rfl
theorem ints_set (l:List Int) (i:Nat) (c:Int):(ints l).set i (.int .i64 c)=ints (l.set i c):=by unfold ints;rw [List.map_set]
noncomputable def costOK (W Hh:Int) (S:ByteArray) (srcs:List Int) (step:Int):Bool:=gr W Hh S && decide (1≤step) && decide (step≤100) && decide (srcs.length≤64)
def costR (W Hh:Int) (S:ByteArray) (srcs:List Int) (step:Int) (σ:H) (v:Value) (τ:H):Prop:=
 if costOK W Hh S srcs step=true then ∃ vo out,v=.tuple #[vo,.nilIface]∧Cst W S srcs step out∧Out σ τ 1 vo (ints out)
 else ∃ e,v=.tuple #[.slice none 0 0,e]∧TagE τ e ⟨#[102,105,101,108,100]⟩ 1∧Ext σ τ
theorem nearL_len (W:Int) (S:ByteArray) (c:Int):(nearL W S c).length≤4:=by
 unfold nearL
 have h1:=nadd_len S (c + W) true (nadd S (c + 1) (decide (c.tmod W < W - 1)) (nadd S (c - 1) (decide (c.tmod W > 0)) (nadd S (c - W) true [])))
 have h2:=nadd_len S (c + 1) (decide (c.tmod W < W - 1)) (nadd S (c - 1) (decide (c.tmod W > 0)) (nadd S (c - W) true []))
 have h3:=nadd_len S (c - 1) (decide (c.tmod W > 0)) (nadd S (c - W) true [])
 have h4:=nadd_len S (c - W) true []
 simp only [List.length_nil] at h4
 omega
set_option maxHeartbeats 4000000 in
theorem costs_c (W Hh:Int) (S:ByteArray) (srcs:List Int) (step:Int) (sv:Value) (σ:H) (hr:Rd σ sv (ints srcs)):
 MCalls E Tryz.prog 41 [mapV W Hh S,sv,.int .i64 step] σ (costR W Hh S srcs step σ):=by
 refine mcalls_of fn41 (by simp) ?_
 unfold c41 r41 mapV
 refine stepR0 ?_
 refine ml_call Sd0 Sd0 (right_c W Hh S _) ?_
 rintro _ τ ⟨rfl,e1⟩
 have g1:=e1.cells (H.get_push_self σ _)
 have e1':Ext σ τ:=(Ext.push _ _).trans e1
 have hr1:=hr.of_ext e1'
 have hsz:(ints srcs).length=srcs.length:=ints_len _
 refine ml_mid (fun ts τ'=>τ'=τ∧ts 1=sv∧ts 2=.int .i64 step∧ts 3=.pointer (some ⟨σ.size,0,none⟩)∧ts 31=.bool (!costOK W Hh S srcs step)) ?_ ?_
 ·cases hg:gr W Hh S
  ·refine stepR0 ?_
   exact ⟨rfl,Sd0,Sd0,Sd0,(by first | with_reducible rfl | (simp only [go_sem,reduceIte,Nat.reduceEqDiff,reduceCtorEq,Nat.reduceAdd,Nat.reduceLeDiff,Int.reduceNeg,Int.reduceToNat,Int.reduceBEq,Int.reduceBNe,Int.reduceLT,Int.reduceLE,Int.reduceAdd,Int.reduceSub,costOK,hg];done) | (simp only [go_sem,reduceIte,Nat.reduceEqDiff,reduceCtorEq,Nat.reduceAdd,Nat.reduceLeDiff,Int.reduceNeg,Int.reduceToNat,Int.reduceBEq,Int.reduceBNe,Int.reduceLT,Int.reduceLE,Int.reduceAdd,Int.reduceSub,costOK,hg];with_reducible rfl) | (simp only [go_sem,reduceIte,Nat.reduceEqDiff,reduceCtorEq,Nat.reduceAdd,Nat.reduceLeDiff,Int.reduceNeg,Int.reduceToNat,Int.reduceBEq,Int.reduceBNe,Int.reduceLT,Int.reduceLE,Int.reduceAdd,Int.reduceSub,costOK,hg];(try simp (disch:=omega) only [i64wrap,u64wrap,u8wrap,u32wrap,i32wrap]);first | with_reducible rfl | done | (refine congrArg (Value.int _) ?_;omega)) | (simp only [go_sem,reduceIte,Nat.reduceEqDiff,reduceCtorEq,Nat.reduceAdd,Nat.reduceLeDiff,Int.reduceNeg,Int.reduceToNat,Int.reduceBEq,Int.reduceBNe,Int.reduceLT,Int.reduceLE,Int.reduceAdd,Int.reduceSub,costOK,hg];rfl))⟩
  by_cases h1:1≤step
  ·by_cases h2:step≤100
   ·have h1n:¬ step < 1:=by omega
    have h2n:¬ 100 < step:=by omega
    refine stepR (An h1n h2n) ?_
    refine ml_len (Sw (An h1n h2n)) hr1 Sd0 ?_
    rw [hsz]
    by_cases h3:srcs.length≤64
    ·have h3n:¬ (64:Int) < (srcs.length:Int):=by omega
     refine stepR (An h1n (An h2n h3n)) ?_
     exact ⟨rfl,Sd0,Sd0,Sd0,(by first | with_reducible rfl | (simp only [go_sem,reduceIte,Nat.reduceEqDiff,reduceCtorEq,Nat.reduceAdd,Nat.reduceLeDiff,Int.reduceNeg,Int.reduceToNat,Int.reduceBEq,Int.reduceBNe,Int.reduceLT,Int.reduceLE,Int.reduceAdd,Int.reduceSub,costOK,hg,h1,h2,h3,h3n,h1n,h2n];done) | (simp only [go_sem,reduceIte,Nat.reduceEqDiff,reduceCtorEq,Nat.reduceAdd,Nat.reduceLeDiff,Int.reduceNeg,Int.reduceToNat,Int.reduceBEq,Int.reduceBNe,Int.reduceLT,Int.reduceLE,Int.reduceAdd,Int.reduceSub,costOK,hg,h1,h2,h3,h3n,h1n,h2n];with_reducible rfl) | (simp only [go_sem,reduceIte,Nat.reduceEqDiff,reduceCtorEq,Nat.reduceAdd,Nat.reduceLeDiff,Int.reduceNeg,Int.reduceToNat,Int.reduceBEq,Int.reduceBNe,Int.reduceLT,Int.reduceLE,Int.reduceAdd,Int.reduceSub,costOK,hg,h1,h2,h3,h3n,h1n,h2n];(try simp (disch:=omega) only [i64wrap,u64wrap,u8wrap,u32wrap,i32wrap]);first | with_reducible rfl | done | (refine congrArg (Value.int _) ?_;omega)) | (simp only [go_sem,reduceIte,Nat.reduceEqDiff,reduceCtorEq,Nat.reduceAdd,Nat.reduceLeDiff,Int.reduceNeg,Int.reduceToNat,Int.reduceBEq,Int.reduceBNe,Int.reduceLT,Int.reduceLE,Int.reduceAdd,Int.reduceSub,costOK,hg,h1,h2,h3,h3n,h1n,h2n];rfl))⟩
    ·have h3n:(64:Int) < (srcs.length:Int):=by omega
     refine stepR (An h1n (An h2n h3n)) ?_
     exact ⟨rfl,Sd0,Sd0,Sd0,(by first | with_reducible rfl | (simp only [go_sem,reduceIte,Nat.reduceEqDiff,reduceCtorEq,Nat.reduceAdd,Nat.reduceLeDiff,Int.reduceNeg,Int.reduceToNat,Int.reduceBEq,Int.reduceBNe,Int.reduceLT,Int.reduceLE,Int.reduceAdd,Int.reduceSub,costOK,hg,h1,h2,h3,h3n,h1n,h2n];done) | (simp only [go_sem,reduceIte,Nat.reduceEqDiff,reduceCtorEq,Nat.reduceAdd,Nat.reduceLeDiff,Int.reduceNeg,Int.reduceToNat,Int.reduceBEq,Int.reduceBNe,Int.reduceLT,Int.reduceLE,Int.reduceAdd,Int.reduceSub,costOK,hg,h1,h2,h3,h3n,h1n,h2n];with_reducible rfl) | (simp only [go_sem,reduceIte,Nat.reduceEqDiff,reduceCtorEq,Nat.reduceAdd,Nat.reduceLeDiff,Int.reduceNeg,Int.reduceToNat,Int.reduceBEq,Int.reduceBNe,Int.reduceLT,Int.reduceLE,Int.reduceAdd,Int.reduceSub,costOK,hg,h1,h2,h3,h3n,h1n,h2n];(try simp (disch:=omega) only [i64wrap,u64wrap,u8wrap,u32wrap,i32wrap]);first | with_reducible rfl | done | (refine congrArg (Value.int _) ?_;omega)) | (simp only [go_sem,reduceIte,Nat.reduceEqDiff,reduceCtorEq,Nat.reduceAdd,Nat.reduceLeDiff,Int.reduceNeg,Int.reduceToNat,Int.reduceBEq,Int.reduceBNe,Int.reduceLT,Int.reduceLE,Int.reduceAdd,Int.reduceSub,costOK,hg,h1,h2,h3,h3n,h1n,h2n];rfl))⟩
   ·have h1n:¬ step < 1:=by omega
    have h2n:100 < step:=by omega
    refine stepR (An h1n h2n) ?_
    exact ⟨rfl,Sd0,Sd0,Sd0,(by first | with_reducible rfl | (simp only [go_sem,reduceIte,Nat.reduceEqDiff,reduceCtorEq,Nat.reduceAdd,Nat.reduceLeDiff,Int.reduceNeg,Int.reduceToNat,Int.reduceBEq,Int.reduceBNe,Int.reduceLT,Int.reduceLE,Int.reduceAdd,Int.reduceSub,costOK,hg,h1,h2,h1n,h2n];done) | (simp only [go_sem,reduceIte,Nat.reduceEqDiff,reduceCtorEq,Nat.reduceAdd,Nat.reduceLeDiff,Int.reduceNeg,Int.reduceToNat,Int.reduceBEq,Int.reduceBNe,Int.reduceLT,Int.reduceLE,Int.reduceAdd,Int.reduceSub,costOK,hg,h1,h2,h1n,h2n];with_reducible rfl) | (simp only [go_sem,reduceIte,Nat.reduceEqDiff,reduceCtorEq,Nat.reduceAdd,Nat.reduceLeDiff,Int.reduceNeg,Int.reduceToNat,Int.reduceBEq,Int.reduceBNe,Int.reduceLT,Int.reduceLE,Int.reduceAdd,Int.reduceSub,costOK,hg,h1,h2,h1n,h2n];(try simp (disch:=omega) only [i64wrap,u64wrap,u8wrap,u32wrap,i32wrap]);first | with_reducible rfl | done | (refine congrArg (Value.int _) ?_;omega)) | (simp only [go_sem,reduceIte,Nat.reduceEqDiff,reduceCtorEq,Nat.reduceAdd,Nat.reduceLeDiff,Int.reduceNeg,Int.reduceToNat,Int.reduceBEq,Int.reduceBNe,Int.reduceLT,Int.reduceLE,Int.reduceAdd,Int.reduceSub,costOK,hg,h1,h2,h1n,h2n];rfl))⟩
  ·have h1n:step < 1:=by omega
   refine stepR h1n ?_
   exact ⟨rfl,Sd0,Sd0,Sd0,(by first | with_reducible rfl | (simp only [go_sem,reduceIte,Nat.reduceEqDiff,reduceCtorEq,Nat.reduceAdd,Nat.reduceLeDiff,Int.reduceNeg,Int.reduceToNat,Int.reduceBEq,Int.reduceBNe,Int.reduceLT,Int.reduceLE,Int.reduceAdd,Int.reduceSub,costOK,hg,h1,h1n];done) | (simp only [go_sem,reduceIte,Nat.reduceEqDiff,reduceCtorEq,Nat.reduceAdd,Nat.reduceLeDiff,Int.reduceNeg,Int.reduceToNat,Int.reduceBEq,Int.reduceBNe,Int.reduceLT,Int.reduceLE,Int.reduceAdd,Int.reduceSub,costOK,hg,h1,h1n];with_reducible rfl) | (simp only [go_sem,reduceIte,Nat.reduceEqDiff,reduceCtorEq,Nat.reduceAdd,Nat.reduceLeDiff,Int.reduceNeg,Int.reduceToNat,Int.reduceBEq,Int.reduceBNe,Int.reduceLT,Int.reduceLE,Int.reduceAdd,Int.reduceSub,costOK,hg,h1,h1n];(try simp (disch:=omega) only [i64wrap,u64wrap,u8wrap,u32wrap,i32wrap]);first | with_reducible rfl | done | (refine congrArg (Value.int _) ?_;omega)) | (simp only [go_sem,reduceIte,Nat.reduceEqDiff,reduceCtorEq,Nat.reduceAdd,Nat.reduceLeDiff,Int.reduceNeg,Int.reduceToNat,Int.reduceBEq,Int.reduceBNe,Int.reduceLT,Int.reduceLE,Int.reduceAdd,Int.reduceSub,costOK,hg,h1,h1n];rfl))⟩
 rintro ts σ1 ⟨rfl,t1,t2,t3,t31⟩
 cases hok:costOK W Hh S srcs step
 ·rw [hok] at t31
  refine stepR t31 ?_
  refine ml_call Sd0 Sd0 (tag_c _ _ _) ?_
  rintro ev τ ⟨he,e2⟩
  refine stepR0 ?_
  refine fin2 ?_
  unfold costR
  rw [if_neg (by rw [hok];simp)]
  exact ⟨ev,Sd0,he,e1'.trans e2⟩
 rw [hok] at t31
 have hall:gr W Hh S=true∧1≤step∧step≤100∧srcs.length≤64:=by
  simpa only [costOK,Bool.and_eq_true,decide_eq_true_eq,and_assoc] using hok
 obtain ⟨hg,h1,h2,h3⟩:=hall
 have hS:=gr_size hg
 refine stepR t31 ?_
 generalize hτ:H.push _ _=τ
 have e2:Ext σ1 τ:=hτ ▸ Ext.push _ _
 have g34:τ.get σ1.size=.cells 1 [.int .i64 (-1)]:=hτ ▸ H.get_push_self _ _
 have g2:=e2.cells g1
 have hr2:=hr1.of_ext e2
 refine stepR (An g2 t3) ?_
 refine ml_call Sd0 Sd0 (repeat_c τ σ1.size (-1) S.size g34 hS.2.2.2.1.1 (by omega)) ?_
 rintro _ τ3 ⟨oid,rfl,e3,ho3,g3⟩
 have hrep:ints (List.replicate S.size (-1))=List.replicate S.size (.int .i64 (-1)):=by unfold ints;rw [List.map_replicate]
 rw [← hrep] at g3
 have g4:=e3.cells g2
 have hr3:=hr2.of_ext e3
 have e3':Ext σ τ3:=e1'.trans (e2.trans e3)
 refine stepR0 ?_
 refine ml_call Sd0 Sd0 (hNew_c τ3) ?_
 rintro _ τ4 ⟨hid,rfl,hh,e4⟩
 have hb:HeapAt σ hid [] τ4:=⟨e3'.trans e4,Nat.le_trans e3'.size hh.lo,by
  obtain ⟨_,hlo,v,h5,h6⟩:=hh
  refine ⟨v,h5,?_⟩
  rcases h6 with h6 | ⟨id,R,h6,h7,h8⟩
  ·exact .inl h6
  ·exact .inr ⟨id,R,h6,Nat.le_trans e3'.size h7,h8⟩⟩
 have hmh:σ.size≠hid:=by
  have:=H.lt_of_cells g4
  have:=hh.lo
  omega
 have cs:CS σ σ.size hid oid (mapC W Hh S) (List.replicate S.size (-1)) [] τ4:=
  ⟨hb,fun j _ hj=>absurd hj (Nat.not_lt_zero _),e4.cells g3,e4.cells g4,by have:=e1'.size;have:=e2.size;omega,hmh⟩
 refine stepR t1 ?_
 refine ml_len Sd0 (hr3.of_ext e4) (Sw t1) ?_
 rw [hsz]
 refine stepR0 ?_
 refine mx_loop (fun n ts τ=>∃ j L,n=srcs.length - j∧j≤srcs.length∧CS σ σ.size hid oid (mapC W Hh S) (List.replicate S.size (-1)) L τ∧(∀ p,p ∈ L↔p ∈ ((srcs.take j).filter fun s=>opn S s).map fun s=>((0,s):Due))∧L.length≤j∧
  ts 2=.int .i64 step∧ts 3=.pointer (some ⟨σ.size,0,none⟩)∧ts 8=.slice (some ⟨oid,0,none⟩) S.size S.size∧ts 9=.pointer (some ⟨hid,0,none⟩)∧ts 40=sv∧ts 41=.int .i64 srcs.length∧ts 42=.int .i64 ((j:Nat):Int)) srcs.length ?_ ?_
 ·exact ⟨0,[],rfl,Nat.zero_le _,cs,by simp,Nat.le_refl _,(Sw t2),(Sw t3),Sd0,Sd0,Sd0,Sd0,Sd0⟩
 clear t1 t2 t3 t31 cs hh hb g3 g4 hr3 hr2 g2 g34
 rintro n ts τ ⟨j,L,hn,hj,cs,hL,hLl,t2,t3,t8,t9,t40,t41,t42⟩
 rcases Nat.lt_or_ge j srcs.length with hlt | hge
 ·refine stepR (An t2 (An t3 (An t8 (An t9 (An t40 (An t41 t42)))))) ?_
  refine ml_getS (hr.of_ext cs.heap.ext) (Sw t40) (Sw t42) (by omega) (by rw [Int.toNat_natCast];exact ints_get hlt) fun p=>?_
  have hmap:=cs.map
  generalize hs:srcs.getD j 0=s
  have htk:srcs.take (j + 1)=srcs.take j ++ [s]:=by
   rw [List.take_add_one,List.getElem?_eq_getElem hlt]
   rw [List.getD_eq_getElem?_getD,List.getElem?_eq_getElem hlt] at hs
   simp at hs;simp [hs]
  refine stepR (An t3 hmap) ?_
  refine ml_call Sd0 Sd0 (gopen_c W Hh S s τ) ?_
  rintro _ τ5 ⟨rfl,e5⟩
  have cs5:=cs.of_ext e5
  rw [hg,Bool.true_and]
  cases hop:opn S s
  ·refine stepR t42 ?_
   refine ⟨_,?_,j + 1,L,rfl,hlt,cs5,?_,by omega,(Sw t2),(Sw t3),(Sw t8),(Sw t9),(Sw t40),(Sw t41),Sd0⟩
   ·omega
   ·intro p
    rw [htk,List.filter_append,hL];simp [hop]
  ·refine stepR t9 ?_
   refine ml_call Sd0 Sd0 (hPush_c cs5.heap (0,s) (by omega)) ?_
   rintro _ τ6 h6
   obtain ⟨L',cs6,hp6⟩:=cs5.push h6
   refine stepR t42 ?_
   refine ⟨_,?_,j + 1,L',rfl,hlt,cs6,?_,by have:=hp6.length_eq;simp at this;omega,(Sw t2),(Sw t3),(Sw t8),(Sw t9),(Sw t40),(Sw t41),Sd0⟩
   ·omega
   ·intro p
    rw [htk,List.filter_append,hp6.mem_iff,List.mem_append,hL];simp [hop]
 ·have:j=srcs.length:=by omega
  subst this
  rw [List.take_length] at hL
  have hdi:DjI W S srcs step (List.replicate S.size (-1)) L:=(DjI.start h1).perm fun p=>(hL p).symm
  have hu:unf (List.replicate S.size (-1))≤64:=by
   unfold unf;exact Nat.le_trans List.countP_le_length (by simp;omega)
  refine stepR (An t2 (An t3 (An t8 (An t9 (An t40 (An t41 t42)))))) ?_
  have hlen0:(List.replicate S.size (-1:Int)).length=S.size:=by simp
  refine mx_loop (fun n ts τ=>∃ L out,n=L.length + 5 * unf out∧n≤400∧CS σ σ.size hid oid (mapC W Hh S) out L τ∧DjI W S srcs step out L∧(∀ p ∈ L,p.1≤step * ((64 - unf out:Nat):Int))∧
   ts 2=.int .i64 step∧ts 3=.pointer (some ⟨σ.size,0,none⟩)∧ts 8=.slice (some ⟨oid,0,none⟩) S.size S.size∧ts 9=.pointer (some ⟨hid,0,none⟩)) (L.length + 5 * unf (List.replicate S.size (-1))) ?_ ?_
  ·exact ⟨L,_,rfl,by omega,cs,hdi,fun p hp=>(by
    obtain ⟨s,_,rfl⟩:=List.mem_map.1 ((hL p).1 hp)
    exact Int.mul_nonneg (by omega) (by omega)),(Sw t2),(Sw t3),(Sw t8),(Sw t9)⟩
  clear cs t2 t3 t8 t9 t40 t41 t42 hdi hu hL hLl hn hge hj hr1 g1 hτ e1
  rintro n ts τ ⟨L,out,rfl,hn,cs,di,hB,t2,t3,t8,t9⟩
  have hol:out.length=S.size:=di.len
  rcases Nat.eq_zero_or_pos L.length with h0 | hpos
  ·have hL0:L=[]:=List.eq_nil_of_length_eq_zero h0
   subst hL0
   refine stepR t9 ?_
   refine ml_call Sd0 (Sw t9) (hPop_nil cs.heap) ?_
   rintro _ τ5 ⟨rfl,e5⟩
   have cs5:=cs.of_ext e5
   refine stepR0 ?_
   refine ml_storeA (id:=τ5.size) (off:=0) (vs:=[.int .i64 0,.int .i64 0]) Sd0 Sd0 Sd0 (H.get_push_self _ _) rfl (by simp) rfl fun τ6 t6=>?_
   have e6:Ext τ5 τ6:=t6.ext (Ext.push _ _) (Nat.le_refl _)
   have cs6:=cs5.of_ext e6
   refine stepR t8 ?_
   refine fin2 ?_
   unfold costR
   rw [if_pos hok]
   refine ⟨_,out,(Sw t8),di.done h1,cs6.heap.ext,some oid,?_,fun id hi=>?_⟩
   ·exact .full cs6.out (by rw [ints_len,hol];omega)
   ·cases hi;exact cs6.ho
  refine stepR t9 ?_
  refine ml_call Sd0 (Sw t9) (hPop_c cs.heap (by omega) hpos) ?_
  rintro _ τ5 ⟨rfl,hh5,k5⟩
  obtain ⟨ok5,pm5⟩:HeapOK (popL L)∧(dv L 0 :: popL L).Perm L:=pop_ok cs.ok hpos
  have cs5:CS σ σ.size hid oid (mapC W Hh S) out (popL L) τ5:=cs.keep hh5 k5 ok5
  have di5:DjI W S srcs step out (dv L 0 :: popL L):=di.perm fun p=>(pm5.mem_iff (a:=p)).symm
  have hle5:∀ q ∈ popL L,(dv L 0).1≤q.1:=fun q hq=>by
   have:=least_mem cs.ok (pm5.mem_iff.1 (List.mem_cons_of_mem _ hq))
   unfold le at this;omega
  have hB5:∀ p ∈ dv L 0 :: popL L,p.1≤step * ((64 - unf out:Nat):Int):=fun p hp=>hB p (pm5.mem_iff.1 hp)
  have hid5:hid < τ5.size:=by obtain ⟨_,_,v,h3,_⟩:=cs5.heap;exact H.lt_of_cells h3
  have hlen5:(popL L).length + 1=L.length:=by have:=pm5.length_eq;simpa only [List.length_cons] using this
  clear pm5 cs di ok5 hB
  generalize dv L 0=x at di5 hle5 hB5
  generalize popL L=M at di5 hle5 hlen5 cs5 hh5 hB5
  clear hh5
  refine stepR0 ?_
  refine ml_storeA (id:=τ5.size) (off:=0) (vs:=[.int .i64 x.1,.int .i64 x.2]) Sd0 Sd0 Sd0 (H.get_push_self _ _) rfl (by simp) rfl fun τ6 t6=>?_
  have e6:Ext τ5 τ6:=t6.ext (Ext.push _ _) (Nat.le_refl _)
  have cs6:=cs5.of_ext e6
  have g6:τ6.get τ5.size=.cells 0 [.int .i64 x.1,.int .i64 x.2]:=t6.self
  clear t6 cs5
  obtain ⟨k,hw,hxk⟩:=di5.mem x List.mem_cons_self
  have hx:=opn_lt hw.opn
  have hxo:=hw.opn
  have hxi:((x.2.toNat:Nat):Int)=x.2:=Int.toNat_of_nonneg hx.1
  have hx1:x.2.toNat < out.length:=by omega
  have hx0:0≤x.1:=by rw [hxk];exact Int.mul_nonneg (by omega) (by omega)
  have hxb:x.1≤6400:=by
   have h6:=hB5 x List.mem_cons_self
   have h7:step * ((64 - unf out:Nat):Int)≤100 * 64:=Int.mul_le_mul h2 (by omega) (by omega) (by omega)
   omega
  refine stepR (An g6 t8) ?_
  refine ml_load1 (v:=.int .i64 (out.getD x.2.toNat 0)) Sd0 Sd0 (cell_of cs6.out (ints_get hx1)) ?_
  by_cases hf:out.getD x.2.toNat 0 < 0
  ·have hf':¬ 0≤out.getD x.2.toNat 0:=by omega
   refine stepR (An hf' (An g6 t8)) ?_
   refine ml_storeA (off:=x.2.toNat) (vs:=[.int .i64 x.1]) Sd0 Sd0 Sd0 cs6.out rfl (by rw [ints_len];exact hx1) rfl fun τ7 t7=>?_
   rw [spl_one,ints_set] at t7
   have cs7:=cs6.set t7
   have g7:=t7.cells g6 (fun e=>by have:=cs6.out;rw [← e,g6] at this;cases this)
   have hmap:=cs7.map
   refine stepR (An t3 (An hmap g7)) ?_
   refine ml_call Sd0 Sd0 (gnear_c W Hh S x.2 τ7) ?_
   rintro nv τ8 ⟨e8,no,nown,nid⟩
   have cs8:=cs7.of_ext e8
   have g8:=e8.cells g7
   rw [hg,gnear,hxo,Bool.and_self,if_pos rfl] at nown
   have di8:=di5.take h1 hle5 hf
   have hu8:=unf_set (c:=x.1) hx1 hf hx0
   generalize out.set x.2.toNat x.1=out8 at cs8 di8 hu8
   have hol8:out8.length=S.size:=di8.len
   have hnl:=nearL_len W S x.2
   have nlen:=ints_len (nearL W S x.2)
   clear cs7 t7 cs6 hmap
   refine stepR0 ?_
   refine ml_len Sd0 nown.rd Sd0 ?_
   refine stepR nlen ?_
   refine mx_loop (fun n ts τ=>∃ j L',n=(nearL W S x.2).length - j∧j≤(nearL W S x.2).length∧CS σ σ.size hid oid (mapC W Hh S) out8 L' τ∧L'.Perm (M ++ ((nearL W S x.2).take j).map fun n=>(x.1 + step,n))∧Own τ 1 nv no (ints (nearL W S x.2))∧
    τ.get τ5.size=.cells 0 [.int .i64 x.1,.int .i64 x.2]∧ts 2=.int .i64 step∧ts 3=.pointer (some ⟨σ.size,0,none⟩)∧ts 8=.slice (some ⟨oid,0,none⟩) S.size S.size∧ts 9=.pointer (some ⟨hid,0,none⟩)∧
    ts 12=.pointer (some ⟨τ5.size,0,none⟩)∧ts 76=nv∧ts 77=.int .i64 (nearL W S x.2).length∧ts 78=.int .i64 ((j:Nat):Int)) (nearL W S x.2).length ?_ ?_
   ·exact ⟨0,M,rfl,Nat.zero_le _,cs8,by simp,nown,g8,(Sw t2),(Sw t3),(Sw t8),(Sw t9),Sd0,Sd0,Sd0,Sd0⟩
   clear t2 t3 t8 t9 cs8 nown g8 g7 g6
   rintro m ts τ ⟨j,L',rfl,hj,cs9,pm9,nown,g9,t2,t3,t8,t9,t12,t76,t77,t78⟩
   rcases Nat.lt_or_ge j (nearL W S x.2).length with hlt | hge
   ·refine stepR (An t2 (An t3 (An t8 (An t9 (An t12 (An t76 (An t77 t78))))))) ?_
    refine ml_getS nown.rd (Sw t76) (Sw t78) (by omega) (by rw [Int.toNat_natCast];exact ints_get hlt) fun p=>?_
    generalize hs:(nearL W S x.2).getD j 0=s
    have htk:(nearL W S x.2).take (j + 1)=(nearL W S x.2).take j ++ [s]:=by
     rw [List.take_add_one,List.getElem?_eq_getElem hlt]
     rw [List.getD_eq_getElem?_getD,List.getElem?_eq_getElem hlt] at hs
     simp at hs;simp [hs]
    have hl9:L'.length=M.length + j:=by have:=pm9.length_eq;simp at this;omega
    refine stepR (An t9 (An t12 (An g9 t2))) ?_
    refine ml_call Sd0 Sd0 (hPush_c cs9.heap (x.1 + step,s) (by omega)) ?_
    rintro _ τ10 h10
    obtain ⟨L2,cs10,pm10⟩:=cs9.push h10
    obtain ⟨hc0,hg0⟩:∃ hc,τ.get hid=.cells 0 hc:=by obtain ⟨_,_,v,h3,_⟩:=cs9.heap;exact ⟨_,h3⟩
    have g10:τ10.get τ5.size=.cells 0 [.int .i64 x.1,.int .i64 x.2]:=by
     rw [h10.2.2 _ (by rw [g9];simp) (by omega) (by rw [g9];simp),g9]
    refine stepR t78 ?_
    refine ⟨_,?_,j + 1,L2,rfl,hlt,cs10,?_,cs9.own h10.2 nown,g10,(Sw t2),(Sw t3),(Sw t8),(Sw t9),(Sw t12),(Sw t76),(Sw t77),Sd0⟩
    ·omega
    ·rw [htk,List.map_append,← List.append_assoc]
     exact pm10.trans (pm9.append_right _)
   ·have:j=(nearL W S x.2).length:=by omega
    subst this
    rw [List.take_length] at pm9
    have hl9:L'.length=M.length + (nearL W S x.2).length:=by have:=pm9.length_eq;simpa using this
    refine stepR (An t2 (An t3 (An t8 (An t9 (An t12 (An t76 (An t77 t78))))))) ?_
    refine ⟨_,by omega,L',out8,rfl,by omega,cs9,di8.perm fun p=>(pm9.mem_iff (a:=p)).symm,fun p hp=>?_,(Sw t2),(Sw t3),(Sw t8),(Sw t9)⟩
    have hu64:unf out≤64:=by unfold unf;exact Nat.le_trans List.countP_le_length (by omega)
    have hs1:((64 - unf out8:Nat):Int)=((64 - unf out:Nat):Int) + 1:=by omega
    rw [hs1,Int.mul_add,Int.mul_one]
    rcases List.mem_append.1 (pm9.mem_iff.1 hp) with h | h
    ·have:=hB5 p (List.mem_cons_of_mem _ h);omega
    ·obtain ⟨s,_,rfl⟩:=List.mem_map.1 h
     have:=hB5 x List.mem_cons_self
     simp only;omega
  ·have hf':0≤out.getD x.2.toNat 0:=by omega
   refine stepR hf' ?_
   exact ⟨_,by omega,M,out,rfl,by omega,cs6,di5.skip hf',fun p hp=>hB5 p (List.mem_cons_of_mem _ hp),(Sw t2),(Sw t3),(Sw t8),(Sw t9)⟩
end Go.Proofs.YtoejdgoicoaomaaGreatDoor
namespace Go.Proofs.YtoejdgoicoaomaaGreatDoor
def beside (W a b:Int):Bool:=if a.tdiv W=b.tdiv W then decide (a=b + 1) || decide (b=a + 1) else decide (a=b + W) || decide (b=a + W)
theorem mem_near {W:Int} {S:ByteArray} {c x:Int}:x ∈ nearL W S c↔opn S x=true∧(x=c - W∨(x=c - 1∧c.tmod W > 0)∨(x=c + 1∧c.tmod W < W - 1)∨x=c + W):=by
 unfold nearL
 simp only [mem_nadd,List.not_mem_nil,false_or,decide_eq_true_eq,true_and]
 constructor
 ·rintro (((⟨h,h2⟩ | ⟨h,h1,h2⟩) | ⟨h,h1,h2⟩) | ⟨h,h2⟩)
  ·subst h;exact ⟨h2,.inl rfl⟩
  ·subst h;exact ⟨h2,.inr (.inl ⟨rfl,h1⟩)⟩
  ·subst h;exact ⟨h2,.inr (.inr (.inl ⟨rfl,h1⟩))⟩
  ·subst h;exact ⟨h2,.inr (.inr (.inr rfl))⟩
 ·rintro ⟨h2,h | ⟨h,h1⟩ | ⟨h,h1⟩ | h⟩<;>subst h
  ·exact .inl (.inl (.inl ⟨rfl,h2⟩))
  ·exact .inl (.inl (.inr ⟨rfl,h1,h2⟩))
  ·exact .inl (.inr ⟨rfl,h1,h2⟩)
  ·exact .inr ⟨rfl,h2⟩
theorem beside_iff {W a b:Int} (hW:1≤W∧W≤8) (ha:0≤a) (hb:0≤b):beside W a b=true↔(b=a - W∨(b=a - 1∧a.tmod W > 0)∨(b=a + 1∧a.tmod W < W - 1)∨b=a + W):=by
 unfold beside
 rw [Int.tdiv_eq_ediv_of_nonneg ha,Int.tdiv_eq_ediv_of_nonneg hb,Int.tmod_eq_emod_of_nonneg ha]
 have:W=1∨W=2∨W=3∨W=4∨W=5∨W=6∨W=7∨W=8:=by omega
 rcases this with rfl | rfl | rfl | rfl | rfl | rfl | rfl | rfl <;>
  (split<;>simp only [Bool.or_eq_true,decide_eq_true_eq]<;>omega)
theorem beside_symm (W a b:Int):beside W a b=beside W b a:=by
 unfold beside
 by_cases h:a.tdiv W=b.tdiv W
 ·rw [if_pos h,if_pos h.symm,Bool.or_comm]
 ·rw [if_neg h,if_neg (fun e=>h e.symm),Bool.or_comm]
theorem near_iff {W:Int} {S:ByteArray} {a b:Int} (hW:1≤W∧W≤8) (ha:opn S a=true):b ∈ nearL W S a↔opn S b=true∧beside W a b=true:=by
 rw [mem_near]
 constructor
 ·rintro ⟨h1,h2⟩;exact ⟨h1,(beside_iff hW (opn_lt ha).1 (opn_lt h1).1).2 h2⟩
 ·rintro ⟨h1,h2⟩;exact ⟨h1,(beside_iff hW (opn_lt ha).1 (opn_lt h1).1).1 h2⟩
theorem near_symm {W:Int} {S:ByteArray} {a b:Int} (hW:1≤W∧W≤8) (ha:opn S a=true) (h:b ∈ nearL W S a):a ∈ nearL W S b:=by
 have h1:=(near_iff hW ha).1 h
 exact (near_iff hW h1.1).2 ⟨ha,by rw [beside_symm];exact h1.2⟩
theorem Reach.trans {W:Int} {S:ByteArray} {a b c:Int} (h:Reach W S a b) (k:Reach W S b c):Reach W S a c:=by
 induction k with
 | here=>exact h
 | step _ hn ih=>exact .step ih hn
theorem Reach.opn {W:Int} {S:ByteArray} {a b:Int} (ha:opn S a=true) (h:Reach W S a b):Go.Proofs.YtoejdgoicoaomaaGreatDoor.opn S b=true:=by
 cases h with
 | here=>exact ha
 | step _ hn=>exact near_opn hn
theorem Reach.symm {W:Int} {S:ByteArray} {a b:Int} (hW:1≤W∧W≤8) (ha:Go.Proofs.YtoejdgoicoaomaaGreatDoor.opn S a=true) (h:Reach W S a b):Reach W S b a:=by
 induction h with
 | here=>exact .here
 | step h hn ih=>exact (Reach.step .here (near_symm hW (h.opn ha) hn)).trans ih
theorem gr_all {W Hh:Int} {S:ByteArray} (h:gr W Hh S=true):szd W Hh S=true∧∃ c:Nat,c < S.size∧S.data.toList.getD c 0=67∧∀ x,opn S x=true→Reach W S c x:=by
 obtain ⟨h1,h2,h3⟩:=gr_iff.1 h
 rcases first_c S with ⟨k1,_⟩ | ⟨o,k1,k2,k3,_⟩
 ·omega
 ·exact ⟨h1,o,k2,k3,by rw [k1] at h3;exact h3⟩
theorem gr21:gr 2 1 ⟨#[46,67]⟩=true:=by
 have h1:opn ⟨#[46,67]⟩ 1=true:=by decide +kernel
 rw [gr_iff]
 refine ⟨by decide +kernel,by decide +kernel,fun x hx=>?_⟩
 have e:Lib.indexByte (⟨#[46,67]⟩:ByteArray).data.toList 67=1:=by decide +kernel
 rw [e]
 have hlt:=opn_lt hx
 have hs:((⟨#[46,67]⟩:ByteArray).size:Int)=2:=by decide +kernel
 have hx2:x=0∨x=1:=by omega
 rcases hx2 with rfl | rfl
 ·exact .step .here (by decide +kernel)
 ·exact .here
end Go.Proofs.YtoejdgoicoaomaaGreatDoor
namespace Go.Proofs.YtoejdgoicoaomaaGreatDoor
theorem Wk.min {W:Int} {S:ByteArray} {src:List Int} {k:Nat} {x:Int} (h:Wk W S src k x):∃ m,m≤k∧Wk W S src m x∧∀ j,Wk W S src j x→m≤j:=by
 induction k using Nat.strongRecOn with
 | ind k ih=>
   by_cases hc:∃ j,j < k∧Wk W S src j x
   ·obtain ⟨j,hj,hw⟩:=hc
    obtain ⟨m,h1,h2,h3⟩:=ih j hj hw
    exact ⟨m,by omega,h2,h3⟩
   ·exact ⟨k,Nat.le_refl _,h,fun j hj=>Nat.le_of_not_lt fun hlt=>hc ⟨j,hlt,hj⟩⟩
theorem Wk.chain {W:Int} {S:ByteArray} {src:List Int}:∀ {k:Nat} {x:Int},Wk W S src k x→(∀ j,Wk W S src j x→k≤j)→∃ l:List Int,l.length=k + 1∧l.Nodup∧∀ y ∈ l,Go.Proofs.YtoejdgoicoaomaaGreatDoor.opn S y=true∧∃ j,j≤k∧Wk W S src j y:=by
 intro k x h
 induction h with
 | @src x h ho=>exact fun _=>⟨[x],rfl,by simp,fun y hy=>by rw [List.mem_singleton] at hy;subst hy;exact ⟨ho,0,Nat.le_refl _,.src h ho⟩⟩
 | @step k y x h hn ih=>
   intro hm
   obtain ⟨l,h1,h2,h3⟩:=ih (fun j hj=>by have:=hm (j + 1) (.step hj hn);omega)
   refine ⟨x :: l,by simp [h1],List.nodup_cons.2 ⟨fun hx=>?_,h2⟩,fun z hz=>?_⟩
   ·obtain ⟨_,j,hj,hw⟩:=h3 x hx
    have:=hm j hw;omega
   ·rcases List.mem_cons.1 hz with rfl | hz
    ·exact ⟨near_opn hn,k + 1,Nat.le_refl _,.step h hn⟩
    ·obtain ⟨a,j,b,c⟩:=h3 z hz;exact ⟨a,j,by omega,c⟩
theorem Wk.short {W:Int} {S:ByteArray} {src:List Int} {k:Nat} {x:Int} (h:Wk W S src k x) (hm:∀ j,Wk W S src j x→k≤j):k < S.size:=by
 obtain ⟨l,h1,h2,h3⟩:=h.chain hm
 have:=nodup_len (n:=S.size) h2 (fun x hx=>opn_lt (h3 x hx).1)
 omega
structure Snd (W:Int) (S:ByteArray) (src:List Int) (step:Int) (out:List Int):Prop where
 len:out.length=S.size
 snd:∀ i:Nat,i < S.size→out.getD i 0=-1∨∃ k:Nat,Wk W S src k i∧out.getD i 0=step * k
 bnd:∀ i:Nat,i < S.size→out.getD i 0≤step * ((S.size - unf out:Nat):Int)
def Cmp (W:Int) (S:ByteArray) (src:List Int) (step:Int) (r:Nat) (out:List Int):Prop:=∀ k,k≤r→∀ x,Wk W S src k x→0≤out.getD x.toNat 0∧out.getD x.toNat 0≤step * k
def P1 (W:Int) (S:ByteArray) (src:List Int) (step:Int) (r i:Nat) (out:List Int):Prop:=
 Snd W S src step out∧Cmp W S src step r out∧∀ x:Int,x < i→Wk W S src (r + 1) x→0≤out.getD x.toNat 0∧out.getD x.toNat 0≤step * ((r + 1:Nat):Int)
def P2 (W:Int) (S:ByteArray) (src:List Int) (step:Int) (r i j:Nat) (out:List Int):Prop:=
 P1 W S src step r i out∧∀ y:Int,y < j→Wk W S src r y→(i:Int) ∈ nearL W S y→0≤out.getD i 0∧out.getD i 0≤step * ((r + 1:Nat):Int)
section
variable {W:Int} {S:ByteArray} {src:List Int} {step:Int} {out:List Int} {r i j:Nat}
theorem P2.start (h:P1 W S src step r i out):P2 W S src step r i 0 out:=⟨h,fun y hy hw _=>by have:=(opn_lt hw.opn).1;omega⟩
theorem P2.done (h:P2 W S src step r i S.size out):P1 W S src step r (i + 1) out:=by
 refine ⟨h.1.1,h.1.2.1,fun x hx hw=>?_⟩
 by_cases he:x < i
 ·exact h.1.2.2 x he hw
 ·have hx0:=opn_lt hw.opn
  have:x=(i:Int):=by omega
  subst this
  cases hw with
  | step hw hn=>exact h.2 _ (opn_lt hw.opn).2 hw hn
theorem P1.wall (h:P1 W S src step r i out) (ho:opn S i=false):P1 W S src step r (i + 1) out:=by
 refine ⟨h.1,h.2.1,fun x hx hw=>?_⟩
 by_cases he:x < i
 ·exact h.2.2 x he hw
 ·have hx0:=opn_lt hw.opn
  have:x=(i:Int):=by omega
  subst this
  rw [hw.opn] at ho;cases ho
theorem P1.start (h:Snd W S src step out) (hc:Cmp W S src step r out):P1 W S src step r 0 out:=⟨h,hc,fun x hx hw=>by have:=(opn_lt hw.opn).1;omega⟩
theorem P1.done (h:P1 W S src step r S.size out):Snd W S src step out∧Cmp W S src step (r + 1) out:=
 ⟨h.1,fun k hk x hw=>by
  by_cases he:k≤r
  ·exact h.2.1 k he x hw
  ·have:k=r + 1:=by omega
   subst this
   exact h.2.2 x (opn_lt hw.opn).2 hw⟩
theorem P2.skip (hW:1≤W∧W≤8) (h:P2 W S src step r i j out) (ho:opn S i=true)
 (hn:¬ (beside W i j=true∧0≤out.getD j 0∧(out.getD i 0 < 0∨out.getD j 0 + step < out.getD i 0))):P2 W S src step r i (j + 1) out:=by
 refine ⟨h.1,fun y hy hw hm=>?_⟩
 by_cases he:y < j
 ·exact h.2 y he hw hm
 ·have hy0:=opn_lt hw.opn
  have:y=(j:Int):=by omega
  subst this
  have hb:=(near_iff hW hw.opn).1 hm
  have hc:=h.1.2.1 r (Nat.le_refl _) _ hw
  rw [Int.toNat_natCast] at hc
  have e:step * ((r + 1:Nat):Int)=step * (r:Int) + step:=by rw [Int.natCast_add,Int.mul_add];simp
  rw [beside_symm] at hb
  rw [e]
  have:¬ (out.getD i 0 < 0∨out.getD j 0 + step < out.getD i 0):=fun h=>hn ⟨hb.2,hc.1,h⟩
  omega
theorem P2.set (hW:1≤W∧W≤8) (h1:1≤step) (h:P2 W S src step r i j out) (ho:opn S i=true) (hj:j < S.size)
 (hb:beside W i j=true) (h0:0≤out.getD j 0) (hlt:out.getD i 0 < 0∨out.getD j 0 + step < out.getD i 0):P2 W S src step r i (j + 1) (out.set i (out.getD j 0 + step)):=by
 have hlen:=h.1.1.len
 have hi:i < S.size:=by have:=(opn_lt ho).2;omega
 have hil:i < out.length:=by omega
 have G':∀ (c:Int) (m:Nat),(out.set i c).getD m 0=if m=i then c else out.getD m 0:=fun c m=>by
  rw [List.getD_eq_getElem?_getD,List.getElem?_set,List.getD_eq_getElem?_getD]
  by_cases e:m=i
  ·subst e;simp [hil]
  ·rw [if_neg (Ne.symm e),if_neg e]
 have G:=G' (out.getD j 0 + step)
 have mono:∀ {m:Nat} {b:Int},0≤out.getD m 0∧out.getD m 0≤b→0≤(out.set i (out.getD j 0 + step)).getD m 0∧(out.set i (out.getD j 0 + step)).getD m 0≤b:=fun {m b} hm=>by
  rw [G];split
  ·rename_i e;subst e;omega
  ·exact hm
 have hu:unf (out.set i (out.getD j 0 + step))≤unf out∧(out.getD i 0 < 0→unf (out.set i (out.getD j 0 + step)) + 1=unf out):=by
  by_cases hneg:out.getD i 0 < 0
  ·have:=unf_set (c:=out.getD j 0 + step) hil hneg (by omega);exact ⟨by omega,fun _=>this⟩
  ·refine ⟨?_,fun h=>absurd h hneg⟩
   unfold unf
   rw [List.countP_set hil]
   have e:out.getD i 0=out[i]:=by rw [List.getD_eq_getElem?_getD,List.getElem?_eq_getElem hil];rfl
   rw [e] at hneg
   simp only [hneg,decide_false,Bool.false_eq_true,if_false,Nat.sub_zero]
   rw [if_neg (by rw [decide_eq_true_eq];omega)]
   exact Nat.le_refl _
 have hus:unf out≤S.size:=by rw [← hlen];exact List.countP_le_length
 refine ⟨⟨⟨by simp [hlen],fun m hm=>?_,fun m hm=>?_⟩,fun k hk x hw=>mono (h.1.2.1 k hk x hw),fun x hx hw=>mono (h.1.2.2 x hx hw)⟩,fun y hy hw hm=>?_⟩
 ·rw [G];split
  ·rename_i e;subst e
   rcases h.1.1.snd j hj with h2 | ⟨k,h2,h3⟩
   ·omega
   ·have hbs:=hb
    rw [beside_symm] at hbs
    exact .inr ⟨k + 1,.step h2 ((near_iff hW h2.opn).2 ⟨ho,hbs⟩),by rw [h3,Int.natCast_add,Int.mul_add];simp⟩
  ·exact h.1.1.snd m hm
 ·have hmul:∀ {a b:Nat},a≤b→step * (a:Int)≤step * (b:Int):=fun hab=>Int.mul_le_mul_of_nonneg_left (by omega) (by omega)
  rw [G];split
  ·rename_i e;subst e
   by_cases hneg:out.getD m 0 < 0
   ·have h3:=hu.2 hneg
    have h4:=h.1.1.bnd j hj
    have e:(S.size - unf (out.set m (out.getD j 0 + step)):Nat)=(S.size - unf out:Nat) + 1:=by omega
    rw [e,Int.natCast_add,Int.mul_add];simp;exact h4
   ·have h4:=h.1.1.bnd m hm
    have h5:=hmul (show S.size - unf out≤S.size - unf (out.set m (out.getD j 0 + step)) by have:=hu.1;omega)
    omega
  ·have h4:=h.1.1.bnd m hm
   have h5:=hmul (show S.size - unf out≤S.size - unf (out.set i (out.getD j 0 + step)) by have:=hu.1;omega)
   omega
 ·by_cases he:y < j
  ·exact mono (h.2 y he hw hm)
  ·have hy0:=opn_lt hw.opn
   have:y=(j:Int):=by omega
   subst this
   have hc:=h.1.2.1 r (Nat.le_refl _) _ hw
   rw [Int.toNat_natCast] at hc
   have e:step * ((r + 1:Nat):Int)=step * (r:Int) + step:=by rw [Int.natCast_add,Int.mul_add];simp
   rw [G,if_pos rfl,e];omega
theorem Cmp.all (h1:1≤step) (h:Snd W S src step out) (hc:Cmp W S src step S.size out):Cst W S src step out:=by
 refine ⟨h.len,fun i hi=>?_⟩
 rcases h.snd i hi with h2 | ⟨k,h2,h3⟩
 ·refine .inl ⟨h2,fun k hw=>?_⟩
  obtain ⟨m,_,hm1,hm2⟩:=hw.min
  have:=hc m (Nat.le_of_lt (hm1.short hm2)) _ hm1
  rw [Int.toNat_natCast] at this
  omega
 ·obtain ⟨m,hmk,hm1,hm2⟩:=h2.min
  have h4:=hc m (Nat.le_of_lt (hm1.short hm2)) _ hm1
  rw [Int.toNat_natCast,h3] at h4
  have h5:=Int.le_of_mul_le_mul_left h4.2 (by omega)
  have:k=m:=by omega
  subst this
  exact .inr ⟨k,hm1,hm2,h3⟩
theorem Snd.start (h1:1≤step) (hl:out.length=S.size) (h:∀ i:Nat,i < S.size→out.getD i 0=if (i:Int) ∈ src∧opn S i=true then 0 else -1):
 Snd W S src step out∧Cmp W S src step 0 out:=by
 refine ⟨⟨hl,fun i hi=>?_,fun i hi=>?_⟩,fun k hk x hw=>?_⟩
 ·rw [h i hi]
  split
  ·rename_i hc;exact .inr ⟨0,.src hc.1 hc.2,by simp⟩
  ·exact .inl rfl
 ·have:0≤step * ((S.size - unf out:Nat):Int):=Int.mul_nonneg (by omega) (by omega)
  rw [h i hi];split<;>omega
 ·have:k=0:=by omega
  subst this
  cases hw with
  | src hx ho=>
    have hx0:=opn_lt ho
    have e:((x.toNat:Nat):Int)=x:=Int.toNat_of_nonneg hx0.1
    rw [h x.toNat (by omega),e,if_pos ⟨hx,ho⟩];simp
end
end Go.Proofs.YtoejdgoicoaomaaGreatDoor
namespace Go.Proofs.YtoejdgoicoaomaaGreatDoor
open Go.Mini
open Go.Proofs.YtoejdgoicoaomaaGreatDoor.Code
attribute [local irreducible] mx ml mld mstep MCalls Ex.thn Ex.inb
variable {E:World→Prop}
theorem rBeside_c (W a b:Int) (σ:H) (hW:1≤W∧W≤8) (ha:0≤a∧a≤1000) (hb:0≤b∧b≤1000):
 MCalls E Tryz.prog 24 [.int .i64 W,.int .i64 a,.int .i64 b] σ (fun v τ=>v=.bool (beside W a b)∧τ=σ):=by
 refine mcalls_of fn24 (by simp) ?_
 unfold c24 r24 beside
 have h0:W≠0:=by omega
 have d1:0≤a.tdiv W∧a.tdiv W≤a:=⟨Int.tdiv_nonneg ha.1 (by omega),Int.tdiv_le_self _ ha.1⟩
 have d2:0≤b.tdiv W∧b.tdiv W≤b:=⟨Int.tdiv_nonneg hb.1 (by omega),Int.tdiv_le_self _ hb.1⟩
 by_cases h:a.tdiv W=b.tdiv W
 ·have h1:(a.tdiv W == b.tdiv W)=true:=by simpa using h
  rw [if_pos h]
  generalize hq1:a.tdiv W=q1 at *
  generalize hq2:b.tdiv W=q2 at *
  by_cases h2:a=b + 1
  ·have h2':(a == b + 1)=true:=by simpa using h2
   refine stepR (An hq1 (An hq2 (An h1 h2'))) ?_
   refine fin1 ⟨?_,rfl⟩
   simp only [go_sem,reduceIte,Nat.reduceEqDiff,reduceCtorEq,Nat.reduceAdd,Nat.reduceLeDiff,Int.reduceNeg,Int.reduceToNat,Int.reduceBEq,Int.reduceBNe,Int.reduceLT,Int.reduceLE,Int.reduceAdd,Int.reduceSub,h2',h2,Bool.true_or]
  ·have h2':(a == b + 1)=false:=by simpa using h2
   refine stepR (An hq1 (An hq2 (An h1 h2'))) ?_
   refine fin1 ⟨?_,rfl⟩
   simp only [go_sem,reduceIte,Nat.reduceEqDiff,reduceCtorEq,Nat.reduceAdd,Nat.reduceLeDiff,Int.reduceNeg,Int.reduceToNat,Int.reduceBEq,Int.reduceBNe,Int.reduceLT,Int.reduceLE,Int.reduceAdd,Int.reduceSub,h2',h2,Bool.false_or]
   rw [Value.bool.injEq,Bool.eq_iff_iff];simp
 ·have h1:(a.tdiv W == b.tdiv W)=false:=by simpa using h
  rw [if_neg h]
  generalize hq1:a.tdiv W=q1 at *
  generalize hq2:b.tdiv W=q2 at *
  by_cases h2:a=b + W
  ·have h2':(a == b + W)=true:=by simpa using h2
   refine stepR (An hq1 (An hq2 (An h1 h2'))) ?_
   refine fin1 ⟨?_,rfl⟩
   simp only [go_sem,reduceIte,Nat.reduceEqDiff,reduceCtorEq,Nat.reduceAdd,Nat.reduceLeDiff,Int.reduceNeg,Int.reduceToNat,Int.reduceBEq,Int.reduceBNe,Int.reduceLT,Int.reduceLE,Int.reduceAdd,Int.reduceSub,h2',h2,Bool.true_or]
  ·have h2':(a == b + W)=false:=by simpa using h2
   refine stepR (An hq1 (An hq2 (An h1 h2'))) ?_
   refine fin1 ⟨?_,rfl⟩
   simp only [go_sem,reduceIte,Nat.reduceEqDiff,reduceCtorEq,Nat.reduceAdd,Nat.reduceLeDiff,Int.reduceNeg,Int.reduceToNat,Int.reduceBEq,Int.reduceBNe,Int.reduceLT,Int.reduceLE,Int.reduceAdd,Int.reduceSub,h2',h2,Bool.false_or]
   rw [Value.bool.injEq,Bool.eq_iff_iff];simp
structure RS (σ0:H) (mid oid:Nat) (mv out:List Value) (τ:H):Prop where
 ext:Ext σ0 τ
 out:τ.get oid=.cells 1 out
 map:τ.get mid=.cells 0 mv
 ho:σ0.size≤oid
theorem RS.set {σ0 τ τ':H} {mid oid:Nat} {mv out out':List Value} (h:RS σ0 mid oid mv out τ) (t:SetTo τ oid (.cells 1 out') τ'):RS σ0 mid oid mv out' τ':=
 ⟨t.ext h.ext h.ho,t.self,t.cells h.map (fun e=>by have:=h.map;rw [e,h.out] at this;cases this),h.ho⟩
theorem opn_nat {S:ByteArray} {i:Nat} (hi:i < S.size):((((S.data.toList.getD i 0).toNat:Nat):Int) != 35)=opn S i:=by
 have:=u8ne (S.data.toList.getD i 0) 35 (by omega)
 simp only [opn,bAt,Int.toNat_natCast]
 rw [decide_eq_true (show (0:Int)≤(i:Int) by omega),decide_eq_true (show (i:Int) < (S.size:Int) by omega)]
 simpa using this
end Go.Proofs.YtoejdgoicoaomaaGreatDoor
namespace Go.Proofs.YtoejdgoicoaomaaGreatDoor
open Go.Mini
open Go.Proofs.YtoejdgoicoaomaaGreatDoor.Code
attribute [local irreducible] mx ml mld mstep MCalls Ex.thn Ex.inb
structure MS (W:Int) (S:ByteArray) (src:List Int) (met:List Bool):Prop where
 len:met.length=S.size
 snd:∀ i:Nat,met.getD i false=true→∃ k:Nat,Wk W S src k i
def MCm (W:Int) (S:ByteArray) (src:List Int) (r:Nat) (met:List Bool):Prop:=∀ k,k≤r→∀ x,Wk W S src k x→met.getD x.toNat false=true
def M1 (W:Int) (S:ByteArray) (src:List Int) (r i:Nat) (met:List Bool):Prop:=MS W S src met∧MCm W S src r met∧∀ x:Int,x < i→Wk W S src (r + 1) x→met.getD x.toNat false=true
def M2 (W:Int) (S:ByteArray) (src:List Int) (r i j:Nat) (met:List Bool):Prop:=M1 W S src r i met∧∀ y:Int,y < j→Wk W S src r y→(i:Int) ∈ nearL W S y→met.getD i false=true
section
variable {W:Int} {S:ByteArray} {src:List Int} {met:List Bool} {r i j:Nat}
theorem M2.start (h:M1 W S src r i met):M2 W S src r i 0 met:=⟨h,fun y hy hw _=>by have:=(opn_lt hw.opn).1;omega⟩
theorem M2.done (h:M2 W S src r i S.size met):M1 W S src r (i + 1) met:=by
 refine ⟨h.1.1,h.1.2.1,fun x hx hw=>?_⟩
 by_cases he:x < i
 ·exact h.1.2.2 x he hw
 ·have hx0:=opn_lt hw.opn
  have:x=(i:Int):=by omega
  subst this
  cases hw with
  | step hw hn=>exact h.2 _ (opn_lt hw.opn).2 hw hn
theorem M1.wall (h:M1 W S src r i met) (ho:opn S i=false):M1 W S src r (i + 1) met:=by
 refine ⟨h.1,h.2.1,fun x hx hw=>?_⟩
 by_cases he:x < i
 ·exact h.2.2 x he hw
 ·have hx0:=opn_lt hw.opn
  have:x=(i:Int):=by omega
  subst this
  rw [hw.opn] at ho;cases ho
theorem M1.start (h:MS W S src met) (hc:MCm W S src r met):M1 W S src r 0 met:=⟨h,hc,fun x hx hw=>by have:=(opn_lt hw.opn).1;omega⟩
theorem M1.done (h:M1 W S src r S.size met):MS W S src met∧MCm W S src (r + 1) met:=
 ⟨h.1,fun k hk x hw=>by
  by_cases he:k≤r
  ·exact h.2.1 k he x hw
  ·have:k=r + 1:=by omega
   subst this
   exact h.2.2 x (opn_lt hw.opn).2 hw⟩
theorem M2.skip (hW:1≤W∧W≤8) (h:M2 W S src r i j met) (ho:opn S i=true) (hn:¬ (met.getD j false=true∧beside W i j=true)):M2 W S src r i (j + 1) met:=by
 refine ⟨h.1,fun y hy hw hm=>?_⟩
 by_cases he:y < j
 ·exact h.2 y he hw hm
 ·have hy0:=opn_lt hw.opn
  have:y=(j:Int):=by omega
  subst this
  have hb:=(near_iff hW hw.opn).1 hm
  have hc:=h.1.2.1 r (Nat.le_refl _) _ hw
  rw [Int.toNat_natCast] at hc
  rw [beside_symm] at hb
  exact absurd ⟨hc,hb.2⟩ hn
theorem M2.set (hW:1≤W∧W≤8) (h:M2 W S src r i j met) (ho:opn S i=true) (hm:met.getD j false=true) (hb:beside W i j=true):M2 W S src r i (j + 1) (met.set i true):=by
 have hlen:=h.1.1.len
 have hi:i < S.size:=by have:=(opn_lt ho).2;omega
 have G:∀ m:Nat,(met.set i true).getD m false=if m=i then true else met.getD m false:=fun m=>getD_set _ _ _ _ _ (by omega)
 have mono:∀ {m:Nat},met.getD m false=true→(met.set i true).getD m false=true:=fun {m} hm=>by
  rw [G];split
  ·rfl
  ·exact hm
 refine ⟨⟨⟨by simp [hlen],fun m hm2=>?_⟩,fun k hk x hw=>mono (h.1.2.1 k hk x hw),fun x hx hw=>mono (h.1.2.2 x hx hw)⟩,fun y hy hw hm2=>?_⟩
 ·rw [G] at hm2
  split at hm2
  ·rename_i e;subst e
   obtain ⟨k,hk⟩:=h.1.1.snd j hm
   have hbs:=hb
   rw [beside_symm] at hbs
   exact ⟨k + 1,.step hk ((near_iff hW hk.opn).2 ⟨ho,hbs⟩)⟩
  ·exact h.1.1.snd m hm2
 ·rw [G,if_pos rfl]
theorem MCm.all (hc:MCm W S src S.size met) {k:Nat} {x:Int} (h:Wk W S src k x):met.getD x.toNat false=true:=by
 obtain ⟨m,_,hm1,hm2⟩:=h.min
 exact hc m (Nat.le_of_lt (hm1.short hm2)) _ hm1
end
theorem wk_reach {W:Int} {S:ByteArray} {c x:Int} {k:Nat} (h:Wk W S [c] k x):Reach W S c x:=by
 induction h with
 | src h ho=>rw [List.mem_singleton] at h;subst h;exact .here
 | step _ hn ih=>exact .step ih hn
theorem reach_wk {W:Int} {S:ByteArray} {c x:Int} (ho:opn S c=true) (h:Reach W S c x):∃ k,Wk W S [c] k x:=by
 induction h with
 | here=>exact ⟨0,.src (by simp) ho⟩
 | step _ hn ih=>obtain ⟨k,hk⟩:=ih;exact ⟨k + 1,.step hk hn⟩
def firstS (S:ByteArray):List Int:=if 0≤Lib.indexByte S.data.toList 67 then [Lib.indexByte S.data.toList 67] else []
def met0 (S:ByteArray) (i:Nat):List Bool:=(List.range S.size).map fun (j:Nat)=>decide ((j:Int)=Lib.indexByte S.data.toList 67) && decide (j < i)
def flag0 (S:ByteArray) (i:Nat):Bool:=decide (0≤Lib.indexByte S.data.toList 67) && decide (Lib.indexByte S.data.toList 67 < i)
theorem met0_get (S:ByteArray) (i j:Nat):(met0 S i).getD j false=(decide (j < S.size) && (decide ((j:Int)=Lib.indexByte S.data.toList 67) && decide (j < i))):=by
 unfold met0
 rw [List.getD_eq_getElem?_getD,List.getElem?_map]
 by_cases h:j < S.size
 ·rw [List.getElem?_range h];simp [h]
 ·rw [List.getElem?_eq_none (by simp;omega)];simp [h]
theorem met0_len (S:ByteArray) (i:Nat):(met0 S i).length=S.size:=by simp [met0]
theorem met0_zero (S:ByteArray):met0 S 0=List.replicate S.size false:=by
 apply List.ext_getElem?
 intro i
 unfold met0
 rw [List.getElem?_map,List.getElem?_replicate]
 by_cases h:i < S.size
 ·rw [List.getElem?_range h,if_pos h];simp
 ·rw [List.getElem?_eq_none (by simp;omega),if_neg h];rfl
theorem met0_step {S:ByteArray} {i:Nat} (hi:i < S.size):met0 S (i + 1)=if S.data.toList.getD i 0=67∧flag0 S i=false then (met0 S i).set i true else met0 S i:=by
 apply List.ext_getElem?
 intro j
 have e:∀ (l:List Bool),l.length=S.size→l[j]?=if j < S.size then some (l.getD j false) else none:=fun l hl=>by
  split
  ·rw [List.getD_eq_getElem?_getD,List.getElem?_eq_getElem (by omega)];rfl
  ·exact List.getElem?_eq_none (by omega)
 rw [e _ (met0_len S _)]
 have hR:(if S.data.toList.getD i 0=67∧flag0 S i=false then (met0 S i).set i true else met0 S i).length=S.size:=by split<;>simp [met0_len]
 rw [e _ hR]
 split
 ·rename_i hj
  congr 1
  rw [met0_get]
  have hc:=first_c S
  by_cases h:S.data.toList.getD i 0=67∧flag0 S i=false
  ·rw [if_pos h]
   unfold flag0 at h
   rw [getD_set _ _ _ _ _ (by rw [met0_len];exact hi),met0_get]
   rcases hc with ⟨_,h2⟩ | ⟨o,h1,h2,h3,h4⟩
   ·exact absurd h.1 (h2 i hi)
   ·rw [h1] at h ⊢
    have:o=i:=by
     have:=h.2
     simp only [Bool.and_eq_false_iff,decide_eq_false_iff_not] at this
     rcases Nat.lt_or_ge i o with hlt | hge
     ·exact absurd h.1 (h4 i hlt)
     ·omega
    subst this
    by_cases e:j=o
    ·subst e;simp [hj]
    ·rw [if_neg e];have:¬ (j:Int)=(o:Int):=by omega
     simp [this]
  ·rw [if_neg h,met0_get]
   unfold flag0 at h
   rcases hc with ⟨h1,h2⟩ | ⟨o,h1,h2,h3,h4⟩
   ·rw [h1];have:¬ (j:Int)=-1:=by omega
    simp [this]
   ·rw [h1] at h ⊢
    have hne:o≠i:=fun e=>h (by subst e;exact ⟨h3,by simp⟩)
    by_cases e:j=o
    ·subst e
     have:(j < i + 1)↔(j < i):=by omega
     simp [this]
    ·have:¬ (j:Int)=(o:Int):=by omega
     simp [this]
 ·rfl
theorem flag0_step {S:ByteArray} {i:Nat} (hi:i < S.size):flag0 S (i + 1)=(flag0 S i || (S.data.toList.getD i 0 == 67)):=by
 unfold flag0
 rcases first_c S with ⟨h1,h2⟩ | ⟨o,h1,h2,h3,h4⟩
 ·rw [h1,beq_eq_false_iff_ne.2 (h2 i hi)];simp
 ·rw [h1]
  rcases Nat.lt_trichotomy i o with h | h | h
  ·have:=h4 i h
   have a:¬ (o < i):=by omega
   have b:¬ (o < i + 1):=by omega
   have a':¬ ((o:Int) < (i:Int)):=by omega
   have b':¬ ((o:Int) < ((i + 1:Nat):Int)):=by omega
   simp only [a',b',decide_false,Bool.and_false,Bool.false_or]
   exact (beq_eq_false_iff_ne.2 this).symm
  ·subst h
   have b':((i:Int) < ((i + 1:Nat):Int)):=by omega
   simp only [b',decide_true,Bool.and_true]
   rw [h3];simp
  ·have a':((o:Int) < (i:Int)):=by omega
   have b':((o:Int) < ((i + 1:Nat):Int)):=by omega
   simp only [a',b',decide_true,Bool.and_true];simp
theorem met0_ok (W:Int) (S:ByteArray):MS W S (firstS S) (met0 S S.size)∧MCm W S (firstS S) 0 (met0 S S.size):=by
 unfold firstS
 refine ⟨⟨met0_len S _,fun i hi=>?_⟩,fun k hk x hw=>?_⟩
 ·rw [met0_get] at hi
  simp only [Bool.and_eq_true,decide_eq_true_eq] at hi
  rcases first_c S with ⟨h1,h2⟩ | ⟨o,h1,h2,h3,h4⟩
  ·omega
  ·rw [h1] at hi ⊢
   have:i=o:=by omega
   subst this
   rw [if_pos (by omega)]
   refine ⟨0,.src (by simp) ?_⟩
   simp only [opn,bAt,Int.toNat_natCast,h3];simp [h2]
 ·have:k=0:=by omega
  subst this
  cases hw with
  | src hx ho=>
    split at hx
    ·rename_i h0
     rw [List.mem_singleton] at hx
     have:=opn_lt ho
     rw [met0_get]
     simp only [Bool.and_eq_true,decide_eq_true_eq]
     omega
    ·cases hx
end Go.Proofs.YtoejdgoicoaomaaGreatDoor
namespace Go.Proofs.YtoejdgoicoaomaaGreatDoor
open Go.Mini
open Go.Proofs.YtoejdgoicoaomaaGreatDoor.Code
attribute [local irreducible] mx ml mld mstep MCalls Ex.thn Ex.inb
variable {E:World→Prop}
def sizeOK (W Hh:Int) (S:ByteArray):Bool:=(decide (1≤W) && decide (W≤8)) && (decide (1≤Hh) && decide (Hh≤8)) && ((S.size:Int) == W * Hh)
theorem sizeOK_iff {W Hh:Int} {S:ByteArray}:sizeOK W Hh S=true↔(1≤W∧W≤8)∧(1≤Hh∧Hh≤8)∧(S.size:Int)=W * Hh:=by
 simp only [sizeOK,Bool.and_eq_true,decide_eq_true_eq,beq_iff_eq,and_assoc]
theorem gr_false {W Hh:Int} {S:ByteArray} (h:szd W Hh S=false):gr W Hh S=false:=by
 rw [← Bool.not_eq_true,gr_iff];intro h2;rw [h2.1] at h;cases h
set_option maxHeartbeats 4000000 in
theorem rRight_c (W Hh:Int) (S:ByteArray) (σ:H):
 MCalls E Tryz.prog 16 [mapV W Hh S] σ (fun v τ=>v=.bool (gr W Hh S)∧Ext σ τ):=by
 refine mcalls_of fn16 (by simp) ?_
 unfold c16 r16 mapV
 refine stepR0 ?_
 generalize hτ:H.push _ _=τ
 have gm:τ.get σ.size=.cells 0 (mapC W Hh S):=by rw [← hτ];exact H.get_push_self _ _
 have e1:Ext σ τ:=hτ ▸ Ext.push _ _
 clear hτ
 refine ml_mid (fun ts τ'=>τ'=τ∧ts 1=.pointer (some ⟨σ.size,0,none⟩)∧ts 39=.bool (!sizeOK W Hh S)) ?_ ?_
 ·by_cases h1:W < 1
  ·have h1':¬ 1≤W:=by omega
   refine stepR (An gm h1) ?_
   exact ⟨rfl,Sd0,(by first | with_reducible rfl | (simp only [go_sem,reduceIte,Nat.reduceEqDiff,reduceCtorEq,Nat.reduceAdd,Nat.reduceLeDiff,Int.reduceNeg,Int.reduceToNat,Int.reduceBEq,Int.reduceBNe,Int.reduceLT,Int.reduceLE,Int.reduceAdd,Int.reduceSub,sizeOK,h1,h1'];done) | (simp only [go_sem,reduceIte,Nat.reduceEqDiff,reduceCtorEq,Nat.reduceAdd,Nat.reduceLeDiff,Int.reduceNeg,Int.reduceToNat,Int.reduceBEq,Int.reduceBNe,Int.reduceLT,Int.reduceLE,Int.reduceAdd,Int.reduceSub,sizeOK,h1,h1'];with_reducible rfl) | (simp only [go_sem,reduceIte,Nat.reduceEqDiff,reduceCtorEq,Nat.reduceAdd,Nat.reduceLeDiff,Int.reduceNeg,Int.reduceToNat,Int.reduceBEq,Int.reduceBNe,Int.reduceLT,Int.reduceLE,Int.reduceAdd,Int.reduceSub,sizeOK,h1,h1'];(try simp (disch:=omega) only [i64wrap,u64wrap,u8wrap,u32wrap,i32wrap]);first | with_reducible rfl | done | (refine congrArg (Value.int _) ?_;omega)) | (simp only [go_sem,reduceIte,Nat.reduceEqDiff,reduceCtorEq,Nat.reduceAdd,Nat.reduceLeDiff,Int.reduceNeg,Int.reduceToNat,Int.reduceBEq,Int.reduceBNe,Int.reduceLT,Int.reduceLE,Int.reduceAdd,Int.reduceSub,sizeOK,h1,h1'];rfl))⟩
  have h1':1≤W:=by omega
  by_cases h2:8 < W
  ·have h2':¬ W≤8:=by omega
   refine stepR (An gm (An h1 h2)) ?_
   exact ⟨rfl,Sd0,(by first | with_reducible rfl | (simp only [go_sem,reduceIte,Nat.reduceEqDiff,reduceCtorEq,Nat.reduceAdd,Nat.reduceLeDiff,Int.reduceNeg,Int.reduceToNat,Int.reduceBEq,Int.reduceBNe,Int.reduceLT,Int.reduceLE,Int.reduceAdd,Int.reduceSub,sizeOK,h1,h1',h2,h2'];done) | (simp only [go_sem,reduceIte,Nat.reduceEqDiff,reduceCtorEq,Nat.reduceAdd,Nat.reduceLeDiff,Int.reduceNeg,Int.reduceToNat,Int.reduceBEq,Int.reduceBNe,Int.reduceLT,Int.reduceLE,Int.reduceAdd,Int.reduceSub,sizeOK,h1,h1',h2,h2'];with_reducible rfl) | (simp only [go_sem,reduceIte,Nat.reduceEqDiff,reduceCtorEq,Nat.reduceAdd,Nat.reduceLeDiff,Int.reduceNeg,Int.reduceToNat,Int.reduceBEq,Int.reduceBNe,Int.reduceLT,Int.reduceLE,Int.reduceAdd,Int.reduceSub,sizeOK,h1,h1',h2,h2'];(try simp (disch:=omega) only [i64wrap,u64wrap,u8wrap,u32wrap,i32wrap]);first | with_reducible rfl | done | (refine congrArg (Value.int _) ?_;omega)) | (simp only [go_sem,reduceIte,Nat.reduceEqDiff,reduceCtorEq,Nat.reduceAdd,Nat.reduceLeDiff,Int.reduceNeg,Int.reduceToNat,Int.reduceBEq,Int.reduceBNe,Int.reduceLT,Int.reduceLE,Int.reduceAdd,Int.reduceSub,sizeOK,h1,h1',h2,h2'];rfl))⟩
  have h2':W≤8:=by omega
  by_cases h3:Hh < 1
  ·have h3':¬ 1≤Hh:=by omega
   refine stepR (An gm (An h1 (An h2 h3))) ?_
   exact ⟨rfl,Sd0,(by first | with_reducible rfl | (simp only [go_sem,reduceIte,Nat.reduceEqDiff,reduceCtorEq,Nat.reduceAdd,Nat.reduceLeDiff,Int.reduceNeg,Int.reduceToNat,Int.reduceBEq,Int.reduceBNe,Int.reduceLT,Int.reduceLE,Int.reduceAdd,Int.reduceSub,sizeOK,h1,h1',h2,h2',h3,h3'];done) | (simp only [go_sem,reduceIte,Nat.reduceEqDiff,reduceCtorEq,Nat.reduceAdd,Nat.reduceLeDiff,Int.reduceNeg,Int.reduceToNat,Int.reduceBEq,Int.reduceBNe,Int.reduceLT,Int.reduceLE,Int.reduceAdd,Int.reduceSub,sizeOK,h1,h1',h2,h2',h3,h3'];with_reducible rfl) | (simp only [go_sem,reduceIte,Nat.reduceEqDiff,reduceCtorEq,Nat.reduceAdd,Nat.reduceLeDiff,Int.reduceNeg,Int.reduceToNat,Int.reduceBEq,Int.reduceBNe,Int.reduceLT,Int.reduceLE,Int.reduceAdd,Int.reduceSub,sizeOK,h1,h1',h2,h2',h3,h3'];(try simp (disch:=omega) only [i64wrap,u64wrap,u8wrap,u32wrap,i32wrap]);first | with_reducible rfl | done | (refine congrArg (Value.int _) ?_;omega)) | (simp only [go_sem,reduceIte,Nat.reduceEqDiff,reduceCtorEq,Nat.reduceAdd,Nat.reduceLeDiff,Int.reduceNeg,Int.reduceToNat,Int.reduceBEq,Int.reduceBNe,Int.reduceLT,Int.reduceLE,Int.reduceAdd,Int.reduceSub,sizeOK,h1,h1',h2,h2',h3,h3'];rfl))⟩
  have h3':1≤Hh:=by omega
  by_cases h4:8 < Hh
  ·have h4':¬ Hh≤8:=by omega
   refine stepR (An gm (An h1 (An h2 (An h3 h4)))) ?_
   exact ⟨rfl,Sd0,(by first | with_reducible rfl | (simp only [go_sem,reduceIte,Nat.reduceEqDiff,reduceCtorEq,Nat.reduceAdd,Nat.reduceLeDiff,Int.reduceNeg,Int.reduceToNat,Int.reduceBEq,Int.reduceBNe,Int.reduceLT,Int.reduceLE,Int.reduceAdd,Int.reduceSub,sizeOK,h1,h1',h2,h2',h3,h3',h4,h4'];done) | (simp only [go_sem,reduceIte,Nat.reduceEqDiff,reduceCtorEq,Nat.reduceAdd,Nat.reduceLeDiff,Int.reduceNeg,Int.reduceToNat,Int.reduceBEq,Int.reduceBNe,Int.reduceLT,Int.reduceLE,Int.reduceAdd,Int.reduceSub,sizeOK,h1,h1',h2,h2',h3,h3',h4,h4'];with_reducible rfl) | (simp only [go_sem,reduceIte,Nat.reduceEqDiff,reduceCtorEq,Nat.reduceAdd,Nat.reduceLeDiff,Int.reduceNeg,Int.reduceToNat,Int.reduceBEq,Int.reduceBNe,Int.reduceLT,Int.reduceLE,Int.reduceAdd,Int.reduceSub,sizeOK,h1,h1',h2,h2',h3,h3',h4,h4'];(try simp (disch:=omega) only [i64wrap,u64wrap,u8wrap,u32wrap,i32wrap]);first | with_reducible rfl | done | (refine congrArg (Value.int _) ?_;omega)) | (simp only [go_sem,reduceIte,Nat.reduceEqDiff,reduceCtorEq,Nat.reduceAdd,Nat.reduceLeDiff,Int.reduceNeg,Int.reduceToNat,Int.reduceBEq,Int.reduceBNe,Int.reduceLT,Int.reduceLE,Int.reduceAdd,Int.reduceSub,sizeOK,h1,h1',h2,h2',h3,h3',h4,h4'];rfl))⟩
  have h4':Hh≤8:=by omega
  have hm:=mul_le64 ⟨h1',h2'⟩ ⟨h3',h4'⟩
  have hw:IntKind.i64.wrap (W * Hh)=W * Hh:=i64wrap (by omega) (by omega)
  refine stepR (An gm (An h1 (An h2 (An h3 (An h4 hw))))) ?_
  refine ⟨rfl,Sd0,?_⟩
  simp only [go_sem,reduceIte,Nat.reduceEqDiff,reduceCtorEq,Nat.reduceAdd,Nat.reduceLeDiff,Int.reduceNeg,Int.reduceToNat,Int.reduceBEq,Int.reduceBNe,Int.reduceLT,Int.reduceLE,Int.reduceAdd,Int.reduceSub,sizeOK,h1,h1',h2,h2',h3,h3',h4,h4',hw,Bool.and_self,Bool.true_and,bne]
 rintro ts τ ⟨rfl,t1,t39⟩
 rcases Bool.eq_false_or_eq_true (sizeOK W Hh S) with hok | hok
 rotate_left
 ·rw [hok] at t39
  refine stepR t39 ?_
  refine fin1 ⟨?_,e1⟩
  have:gr W Hh S=false:=gr_false (by
   unfold sizeOK at hok;unfold szd;rw [hok];rfl)
  simp only [go_sem,reduceIte,Nat.reduceEqDiff,reduceCtorEq,Nat.reduceAdd,Nat.reduceLeDiff,Int.reduceNeg,Int.reduceToNat,Int.reduceBEq,Int.reduceBNe,Int.reduceLT,Int.reduceLE,Int.reduceAdd,Int.reduceSub,this]
 rw [hok] at t39
 obtain ⟨hW,hH,hS⟩:=sizeOK_iff.1 hok
 have hWH:=mul_le64 hW hH
 have hN:1≤S.size∧S.size≤64:=by omega
 have hszd:szd W Hh S=S.data.toList.all sign:=by
  unfold sizeOK at hok;unfold szd;rw [hok];rfl
 refine stepR (An t1 (An t39 gm)) ?_
 refine ml_op Sd0 (o_mks1 Sd0 Sd0 (by omega) (by omega)) ?_
 refine stepR0 ?_
 generalize hτ:H.push _ _=τ2
 have rs:RS σ σ.size τ.size (mapC W Hh S) (bools (met0 S 0)) τ2:=by
  refine ⟨e1.trans (hτ ▸ Ext.push _ _),?_,(hτ ▸ Ext.push _ _:Ext τ τ2).cells gm,e1.size⟩
  rw [met0_zero,← hτ];unfold bools;rw [List.map_replicate];exact H.get_push_self _ _
 clear hτ gm e1
 generalize hmid:σ.size=mid at *
 generalize hoid:τ.size=oid at *
 refine mx_loop (fun n ts τ=>∃ i:Nat,n=S.size - i∧i≤S.size∧RS σ mid oid (mapC W Hh S) (bools (met0 S i)) τ∧(∀ j,j < i→sign (S.data.toList.getD j 0)=true)∧
  ts 1=.pointer (some ⟨mid,0,none⟩)∧ts 3=.slice (some ⟨oid,0,none⟩) S.size S.size∧ts 4=.bool (flag0 S i)∧ts 5=.int .i64 ((i:Nat):Int)) S.size ?_ ?_
 ·refine ⟨0,rfl,Nat.zero_le _,rs,fun j hj=>absurd hj (Nat.not_lt_zero _),(Sw t1),Sd0,?_,Sd0⟩
  have:flag0 S 0=false:=by unfold flag0;simp
  exact (Sw this)
 clear rs t1 t39
 rintro n ts τ ⟨i,rfl,hi,rs,hsg,t1,t3,t4,t5⟩
 have hmap:=rs.map
 rcases Nat.lt_or_ge i S.size with hlt | hge
 ·have hb35:(((S.data.toList.getD i 0).toNat:Int) != 35)=(S.data.toList.getD i 0 != UInt8.ofNat 35):=u8ne (S.data.toList.getD i 0) 35 (by omega)
  have hb46:(((S.data.toList.getD i 0).toNat:Int) != 46)=(S.data.toList.getD i 0 != UInt8.ofNat 46):=u8ne (S.data.toList.getD i 0) 46 (by omega)
  have hb67:(((S.data.toList.getD i 0).toNat:Int) != 67)=(S.data.toList.getD i 0 != UInt8.ofNat 67):=u8ne (S.data.toList.getD i 0) 67 (by omega)
  have hb80:(((S.data.toList.getD i 0).toNat:Int) != 80)=(S.data.toList.getD i 0 != UInt8.ofNat 80):=u8ne (S.data.toList.getD i 0) 80 (by omega)
  have hc67:(((S.data.toList.getD i 0).toNat:Int) == 67)=(S.data.toList.getD i 0 == UInt8.ofNat 67):=u8eq (S.data.toList.getD i 0) 67 (by omega)
  have hmst:=met0_step hlt
  have hfst:=flag0_step hlt
  have hsi:sign (S.data.toList.getD i 0)=(!(S.data.toList.getD i 0 != UInt8.ofNat 35 && S.data.toList.getD i 0 != UInt8.ofNat 46 && S.data.toList.getD i 0 != UInt8.ofNat 67 && S.data.toList.getD i 0 != UInt8.ofNat 80)):=by
   simp only [sign,bne,← Bool.not_or,Bool.not_not];rfl
  refine stepR (An t1 (An t5 hmap)) ?_
  refine ml_mid (fun ts' τ'=>τ'=τ∧ts' 1=ts 1∧ts' 3=ts 3∧ts' 4=ts 4∧ts' 5=ts 5∧ts' 6=.int .u8 (S.data.toList.getD i 0).toNat∧ts' 68=.bool (!sign (S.data.toList.getD i 0))) ?_ ?_
  ·rw [hsi]
   generalize S.data.toList.getD i 0=c at *
   cases a1:(c != UInt8.ofNat 35)
   ·rw [a1] at hb35
    refine stepR (An hb35 (An t1 (An t3 (An t4 t5)))) ?_
    exact ⟨rfl,(Sw t1),(Sw t3),(Sw t4),(Sw t5),Sd0,(Sw (An hb35 a1))⟩
   rw [a1] at hb35
   cases a2:(c != UInt8.ofNat 46)
   ·rw [a2] at hb46
    refine stepR (An hb35 (An hb46 (An t1 (An t3 (An t4 t5))))) ?_
    exact ⟨rfl,(Sw t1),(Sw t3),(Sw t4),(Sw t5),Sd0,(Sw (An hb35 (An hb46 (An a1 a2))))⟩
   rw [a2] at hb46
   cases a3:(c != UInt8.ofNat 67)
   ·rw [a3] at hb67
    refine stepR (An hb35 (An hb46 (An hb67 (An t1 (An t3 (An t4 t5)))))) ?_
    exact ⟨rfl,(Sw t1),(Sw t3),(Sw t4),(Sw t5),Sd0,(Sw (An hb35 (An hb46 (An hb67 (An a1 (An a2 a3))))))⟩
   rw [a3] at hb67
   cases a4:(c != UInt8.ofNat 80)
   ·rw [a4] at hb80
    refine stepR (An hb35 (An hb46 (An hb67 (An hb80 (An t1 (An t3 (An t4 t5))))))) ?_
    exact ⟨rfl,(Sw t1),(Sw t3),(Sw t4),(Sw t5),Sd0,(Sw (An hb35 (An hb46 (An hb67 (An hb80 (An a1 (An a2 (An a3 a4))))))))⟩
   ·rw [a4] at hb80
    refine stepR (An hb35 (An hb46 (An hb67 (An hb80 (An t1 (An t3 (An t4 t5))))))) ?_
    exact ⟨rfl,(Sw t1),(Sw t3),(Sw t4),(Sw t5),Sd0,(Sw (An hb35 (An hb46 (An hb67 (An hb80 (An a1 (An a2 (An a3 a4))))))))⟩
  rintro ts' _ ⟨rfl,u1,u3,u4,u5,u6,u68⟩
  rw [t1] at u1;rw [t3] at u3;rw [t4] at u4;rw [t5] at u5
  clear t1 t3 t4 t5
  rcases Bool.eq_false_or_eq_true (sign (S.data.toList.getD i 0)) with hs | hs
  rotate_left
  ·rw [hs] at u68
   refine stepR u68 ?_
   refine fin1 ⟨?_,rs.ext⟩
   have:gr W Hh S=false:=gr_false (by
    rw [hszd,← Bool.not_eq_true,all_getD];intro h;rw [h i hlt] at hs;cases hs)
   simp only [go_sem,reduceIte,Nat.reduceEqDiff,reduceCtorEq,Nat.reduceAdd,Nat.reduceLeDiff,Int.reduceNeg,Int.reduceToNat,Int.reduceBEq,Int.reduceBNe,Int.reduceLT,Int.reduceLE,Int.reduceAdd,Int.reduceSub,this]
  rw [hs] at u68
  have hsg':∀ j,j < i + 1→sign (S.data.toList.getD j 0)=true:=fun j hj=>by
   by_cases e:j < i
   ·exact hsg j e
   ·have:j=i:=by omega
    subst this;exact hs
  by_cases h67:S.data.toList.getD i 0=67
  ·have hq:(((S.data.toList.getD i 0).toNat:Int) == 67)=true:=by rw [h67];rfl
   have ho:=rs.out
   rcases Bool.eq_false_or_eq_true (flag0 S i) with hf | hf
   ·rw [if_neg (by rw [hf];simp)] at hmst
    rw [hf] at u4
    refine stepR (An u1 (An u3 (An u4 (An u5 (An u6 (An u68 hq)))))) ?_
    refine ⟨_,?_,i + 1,rfl,hlt,hmst ▸ rs,hsg',(Sw u1),(Sw u3),?_,Sd0⟩
    ·omega
    ·rw [hfst,hf];exact (Sw u4)
   ·rw [if_pos ⟨h67,hf⟩] at hmst
    rw [hf] at u4
    refine stepR (An u1 (An u3 (An u4 (An u5 (An u6 (An u68 hq)))))) ?_
    refine ml_setB (off:=i) (c:=true) Sd0 (Sw u5) Sd0 ho (by rw [met0_len];exact hlt) fun τ3 s3=>?_
    refine stepR u5 ?_
    refine ⟨_,?_,i + 1,rfl,hlt,hmst ▸ rs.set s3,hsg',(Sw u1),(Sw u3),?_,Sd0⟩
    ·omega
    ·rw [hfst,h67];exact Sd0
  ·have hq:(((S.data.toList.getD i 0).toNat:Int) == 67)=false:=by rw [hc67];simpa using h67
   rw [if_neg (fun h=>h67 h.1)] at hmst
   refine stepR (An u1 (An u3 (An u4 (An u5 (An u6 (An u68 hq)))))) ?_
   refine ⟨_,?_,i + 1,rfl,hlt,hmst ▸ rs,hsg',(Sw u1),(Sw u3),?_,Sd0⟩
   ·omega
   ·have:(S.data.toList.getD i 0 == 67)=false:=beq_eq_false_iff_ne.2 h67
    rw [hfst,this,Bool.or_false];exact (Sw u4)
 ·have:i=S.size:=by omega
  subst this
  obtain ⟨hms,hmc⟩:=met0_ok W S
  have hall:szd W Hh S=true:=by rw [hszd,all_getD];exact hsg
  generalize met0 S S.size=met at rs hms hmc
  refine stepR (An t1 (An t3 (An t5 hmap))) ?_
  clear hsg hi hge t5
  refine mx_loop (fun n ts τ=>∃ (r:Nat) (met:List Bool),n=S.size - r∧r≤S.size∧RS σ mid oid (mapC W Hh S) (bools met) τ∧MS W S (firstS S) met∧MCm W S (firstS S) r met∧
   ts 1=.pointer (some ⟨mid,0,none⟩)∧ts 3=.slice (some ⟨oid,0,none⟩) S.size S.size∧ts 4=.bool (flag0 S S.size)∧ts 7=.int .i64 ((r:Nat):Int)) S.size ?_ ?_
  ·exact ⟨0,met,rfl,Nat.zero_le _,rs,hms,hmc,(Sw t1),(Sw t3),(Sw t4),Sd0⟩
  clear rs t1 t3 t4 hms hmc met hmap
  rintro n ts τ ⟨r,met,rfl,hrn,rs,hms,hmc,t1,t3,t4,t7⟩
  rcases Nat.lt_or_ge r S.size with hlt | hge
  ·refine stepR (An t1 (An t3 t7)) ?_
   refine mx_loop (fun n ts τ=>∃ (i:Nat) (met:List Bool),n=S.size - i∧i≤S.size∧RS σ mid oid (mapC W Hh S) (bools met) τ∧M1 W S (firstS S) r i met∧
    ts 1=.pointer (some ⟨mid,0,none⟩)∧ts 3=.slice (some ⟨oid,0,none⟩) S.size S.size∧ts 4=.bool (flag0 S S.size)∧ts 7=.int .i64 ((r:Nat):Int)∧ts 8=.int .i64 ((i:Nat):Int)) S.size ?_ ?_
   ·exact ⟨0,met,rfl,Nat.zero_le _,rs,M1.start hms hmc,(Sw t1),(Sw t3),(Sw t4),(Sw t7),Sd0⟩
   clear rs t1 t3 t4 t7 hms hmc met
   rintro n ts τ ⟨i,met,rfl,hin,rs,hp1,t1,t3,t4,t7,t8⟩
   rcases Nat.lt_or_ge i S.size with hilt | hige
   ·have hopn:=opn_nat hilt
    refine stepR (An t1 (An t3 (An t7 t8))) ?_
    refine mx_loop (fun n ts τ=>∃ (j:Nat) (met:List Bool),n=S.size - j∧j≤S.size∧RS σ mid oid (mapC W Hh S) (bools met) τ∧M2 W S (firstS S) r i j met∧(opn S i=false→j=0)∧
     ts 1=.pointer (some ⟨mid,0,none⟩)∧ts 3=.slice (some ⟨oid,0,none⟩) S.size S.size∧ts 4=.bool (flag0 S S.size)∧ts 7=.int .i64 ((r:Nat):Int)∧ts 8=.int .i64 ((i:Nat):Int)∧ts 9=.int .i64 ((j:Nat):Int)) S.size ?_ ?_
    ·exact ⟨0,met,rfl,Nat.zero_le _,rs,M2.start hp1,fun _=>rfl,(Sw t1),(Sw t3),(Sw t4),(Sw t7),(Sw t8),Sd0⟩
    clear rs t1 t3 t4 t7 t8 hp1 met
    rintro n ts τ ⟨j,met,rfl,hjn,rs,hp2,hj0,t1,t3,t4,t7,t8,t9⟩
    have hmap:=rs.map
    rcases Bool.eq_false_or_eq_true (opn S i) with hop | hop
    ·rw [hop] at hopn
     rcases Nat.lt_or_ge j S.size with hjlt | hjge
     ·have hjI:(j:Int) < (S.size:Int):=by omega
      have hlen:=hp2.1.1.len
      have ho:=rs.out
      refine stepR (An t1 (An t3 (An t8 (An t9 (An hmap (An hopn hjI)))))) ?_
      refine ml_getB (off:=j) Sd0 (Sw t9) ho (by omega) ?_
      rcases Bool.eq_false_or_eq_true (met.getD j false) with hm | hm
      rotate_left
      ·refine stepR (An hm t9) ?_
       exact ⟨_,by omega,j + 1,met,rfl,hjlt,rs,M2.skip hW hp2 hop (fun h=>nomatch hm.symm.trans h.1),(fun h=>nomatch hop.symm.trans h),(Sw t1),(Sw t3),(Sw t4),(Sw t7),(Sw t8),Sd0⟩
      refine stepR (An hm (An t1 (An hmap (An t8 t9)))) ?_
      refine ml_call (Sw hm) (Sw (An t8 t9)) (rBeside_c W i j τ hW (by omega) (by omega)) ?_
      rintro _ τ ⟨rfl,rfl⟩
      rcases Bool.eq_false_or_eq_true (beside W i j) with hb | hb
      rotate_left
      ·refine stepR (An hm (An hb t9)) ?_
       exact ⟨_,by omega,j + 1,met,rfl,hjlt,rs,M2.skip hW hp2 hop (fun h=>nomatch hb.symm.trans h.2),(fun h=>nomatch hop.symm.trans h),(Sw t1),(Sw t3),(Sw t4),(Sw t7),(Sw t8),Sd0⟩
      ·refine stepR (An hm (An hb (An t3 t8))) ?_
       refine ml_setB (off:=i) (c:=true) Sd0 (Sw t8) Sd0 ho (by omega) fun τ2 s2=>?_
       refine stepR t9 ?_
       exact ⟨_,by omega,j + 1,_,rfl,hjlt,rs.set s2,M2.set hW hp2 hop hm hb,(fun h=>nomatch hop.symm.trans h),(Sw t1),(Sw t3),(Sw t4),(Sw t7),(Sw t8),Sd0⟩
     ·have:j=S.size:=by omega
      subst this
      have hjI:¬ (S.size:Int) < (S.size:Int):=by omega
      refine stepR (An t1 (An t3 (An t8 (An t9 hjI)))) ?_
      exact ⟨_,by omega,i + 1,met,rfl,hilt,rs,M2.done hp2,(Sw t1),(Sw t3),(Sw t4),(Sw t7),Sd0⟩
    ·rw [hop] at hopn
     have hj00:=hj0 hop
     have hjI:(j:Int) < (S.size:Int):=by omega
     refine stepR (An t1 (An t3 (An t8 (An t9 (An hmap (An hopn hjI)))))) ?_
     exact ⟨_,by omega,i + 1,met,rfl,hilt,rs,M1.wall hp2.1 hop,(Sw t1),(Sw t3),(Sw t4),(Sw t7),Sd0⟩
   ·have:i=S.size:=by omega
    subst this
    obtain ⟨hs',hc'⟩:=M1.done hp1
    refine stepR (An t3 (An t7 t8)) ?_
    exact ⟨_,by omega,r + 1,met,rfl,hlt,rs,hs',hc',(Sw t1),(Sw t3),(Sw t4),Sd0⟩
  ·have:r=S.size:=by omega
   subst this
   have hlen:=hms.len
   have hreach:∀ x,gr W Hh S=true→opn S x=true→met.getD x.toNat false=true:=fun x hg hx=>by
    have h:=gr_iff.1 hg
    have hc:=h.2.2 x hx
    have hf:opn S (Lib.indexByte S.data.toList 67)=true:=by
     rcases first_c S with ⟨h1,_⟩ | ⟨o,h1,h2,h3,_⟩
     ·have:=h.2.1;omega
     ·rw [h1];simp only [opn,bAt,Int.toNat_natCast,h3];simp [h2]
    obtain ⟨k,hk⟩:=reach_wk hf hc
    refine hmc.all (k:=k) ?_
    unfold firstS;rw [if_pos h.2.1];exact hk
   refine stepR (An t1 (An t3 t7)) ?_
   refine mx_loop (fun n ts τ=>∃ (i:Nat),n=S.size - i∧i≤S.size∧RS σ mid oid (mapC W Hh S) (bools met) τ∧(∀ j:Nat,j < i→opn S j=true→met.getD j false=true)∧
    ts 1=.pointer (some ⟨mid,0,none⟩)∧ts 3=.slice (some ⟨oid,0,none⟩) S.size S.size∧ts 4=.bool (flag0 S S.size)∧ts 10=.int .i64 ((i:Nat):Int)) S.size ?_ ?_
   ·exact ⟨0,rfl,Nat.zero_le _,rs,fun j hj=>absurd hj (Nat.not_lt_zero _),(Sw t1),(Sw t3),(Sw t4),Sd0⟩
   clear rs t1 t3 t4 t7
   rintro n ts τ ⟨i,rfl,hin,rs,hal,t1,t3,t4,t10⟩
   have hmap:=rs.map
   rcases Nat.lt_or_ge i S.size with hilt | hige
   ·have hopn:=opn_nat hilt
    have next:(opn S i=true→met.getD i false=true)→∀ j:Nat,j < i + 1→opn S j=true→met.getD j false=true:=fun h j hj ho=>by
     by_cases e:j < i
     ·exact hal j e ho
     ·have:j=i:=by omega
      subst this;exact h ho
    refine stepR (An t1 (An t3 t10)) ?_
    refine ml_getB (off:=i) Sd0 (Sw t10) rs.out (by omega) ?_
    rcases Bool.eq_false_or_eq_true (met.getD i false) with hm | hm
    ·refine stepR (An hm t10) ?_
     exact ⟨_,by omega,i + 1,rfl,hilt,rs,next fun _=>hm,(Sw t1),(Sw t3),(Sw t4),Sd0⟩
    rcases Bool.eq_false_or_eq_true (opn S i) with hop | hop
    ·rw [hop] at hopn
     refine stepR (An hm (An t1 (An t10 (An hmap hopn)))) ?_
     refine fin1 ⟨?_,rs.ext⟩
     have:gr W Hh S=false:=by
      rw [← Bool.not_eq_true];intro hg
      have:=hreach i hg hop
      rw [Int.toNat_natCast,hm] at this;cases this
     simp only [go_sem,reduceIte,Nat.reduceEqDiff,reduceCtorEq,Nat.reduceAdd,Nat.reduceLeDiff,Int.reduceNeg,Int.reduceToNat,Int.reduceBEq,Int.reduceBNe,Int.reduceLT,Int.reduceLE,Int.reduceAdd,Int.reduceSub,this]
    ·rw [hop] at hopn
     refine stepR (An hm (An t1 (An t10 (An hmap hopn)))) ?_
     exact ⟨_,by omega,i + 1,rfl,hilt,rs,next fun h=>(nomatch hop.symm.trans h),(Sw t1),(Sw t3),(Sw t4),Sd0⟩
   ·have:i=S.size:=by omega
    subst this
    refine stepR (An t1 (An t3 (An t4 t10))) ?_
    refine fin1 ⟨?_,rs.ext⟩
    simp only [go_sem,reduceIte,Nat.reduceEqDiff,reduceCtorEq,Nat.reduceAdd,Nat.reduceLeDiff,Int.reduceNeg,Int.reduceToNat,Int.reduceBEq,Int.reduceBNe,Int.reduceLT,Int.reduceLE,Int.reduceAdd,Int.reduceSub,t4]
    rw [Value.bool.injEq,Bool.eq_iff_iff,gr_iff]
    unfold flag0
    simp only [Bool.and_eq_true,decide_eq_true_eq]
    constructor
    ·rintro ⟨h0,h1⟩
     refine ⟨hall,h0,fun x hx=>?_⟩
     have hx0:=opn_lt hx
     have e:((x.toNat:Nat):Int)=x:=Int.toNat_of_nonneg hx0.1
     obtain ⟨k,hk⟩:=hms.snd x.toNat (hal x.toNat (by omega) (by rw [e];exact hx))
     rw [e] at hk
     unfold firstS at hk;rw [if_pos h0] at hk
     exact wk_reach hk
    ·rintro ⟨_,h0,_⟩
     refine ⟨h0,?_⟩
     rcases first_c S with ⟨h1,_⟩ | ⟨o,h1,h2,_,_⟩<;>omega
end Go.Proofs.YtoejdgoicoaomaaGreatDoor
