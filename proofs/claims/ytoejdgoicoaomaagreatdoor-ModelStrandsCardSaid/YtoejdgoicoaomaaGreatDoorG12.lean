/- rec and pack: what can be recorded. -/
import Derived.Test.YtoejdgoicoaomaaGreatDoorG11
import Derived.Test.YtoejdgoicoaomaaGreatDoorG6
set_option linter.unusedVariables false
set_option linter.unusedSimpArgs false
namespace Go.Proofs.YtoejdgoicoaomaaGreatDoor
open Go.Mini
open Go.Proofs.YtoejdgoicoaomaaGreatDoor.Code
attribute [local irreducible] mx ml mld mstep MCalls Ex.thn Ex.inb
variable {E:World→Prop}
theorem _root_.Go.Mini.o_shr {ts:Fr} {σ:H} {x y:Opd} {k k':IntKind} {a b:Int} (hx:mev ts x=.int k a) (hy:mev ts y=.int k' b) (h0:0≤b):mop ts σ (.bin .shr x y)=some (.int k (a.fdiv (2 ^ (min b.toNat k.bits))),σ):=by
 simp only [mop,hx,hy,mbin,if_pos h0,Option.map_some]
theorem _root_.Go.Mini.o_slcA0 {ts:Fr} {σ:H} {x:Opd} {id off n:Nat} {cs:List Value} (hx:mev ts x=.pointer (some ⟨id,off,none⟩)) (hg:σ.get id=.cells 0 cs):mop ts σ (.slcA n 1 x none none)=some (.slice (some ⟨id,off,none⟩) n n,σ):=by
 simp [mop,hx,bnds,okSz,hg]
theorem wrap_u8 (x:Int):∃ b:UInt8,IntKind.u8.wrap x=(b.toNat:Int):=by
 refine ⟨UInt8.ofNat (x % 256).toNat,?_⟩
 show (if false && decide (x % (2 ^ 8:Int)≥2 ^ 7) then x % (2 ^ 8:Int) - 2 ^ 8 else x % (2 ^ 8:Int))=_
 rw [if_neg (by simp)]
 have h1:0≤x % 256:=Int.emod_nonneg _ (by omega)
 have h2:x % 256 < 256:=Int.emod_lt_of_pos _ (by omega)
 rw [UInt8.toNat_ofNat_of_lt' (by show _ < 256;omega)]
 show x % 256=_
 omega
theorem rcIn_c (n a b:Int) (σ:H):MCalls E Tryz.prog 88 [.int .i64 n,.int .i64 a,.int .i64 b] σ (fun v τ=>v=.bool (inB n a b)∧τ=σ):=by
 refine mcalls_of fn88 (by simp) ?_
 unfold c88 r88 inB
 by_cases h:a≤n
 ·have h':n≥a:=h
  refine stepR h' ?_
  refine fin1 ⟨?_,rfl⟩
  simp only [go_sem,reduceIte,Nat.reduceEqDiff,reduceCtorEq,Nat.reduceAdd,Nat.reduceLeDiff,Int.reduceNeg,Int.reduceToNat,Int.reduceBEq,Int.reduceBNe,Int.reduceLT,Int.reduceLE,Int.reduceAdd,Int.reduceSub,decide_eq_true h]
 ·have h':¬ n≥a:=h
  refine stepR h' ?_
  refine fin1 ⟨?_,rfl⟩
  simp only [go_sem,reduceIte,Nat.reduceEqDiff,reduceCtorEq,Nat.reduceAdd,Nat.reduceLeDiff,Int.reduceNeg,Int.reduceToNat,Int.reduceBEq,Int.reduceBNe,Int.reduceLT,Int.reduceLE,Int.reduceAdd,Int.reduceSub,decide_eq_false h]
theorem rcAll_c {σ:H} {v:Value} {l:List Bool} (hr:Rd σ v (bools l)) (hl:l.length≤100):MCalls E Tryz.prog 91 [v] σ (fun r τ=>r=.bool (l.all id)∧τ=σ):=by
 refine mcalls_of fn91 (by simp) ?_
 unfold c91 r91
 refine stepR0 ?_
 refine ml_len Sd0 hr Sd0 ?_
 rw [bools_len]
 refine stepR0 ?_
 refine mx_loop (fun n ts τ=>∃ i,n=l.length - i∧i≤l.length∧τ=σ∧(∀ b ∈ l.take i,b=true)∧ts 5=v∧ts 6=.int .i64 ((l.length:Nat):Int)∧ts 7=.int .i64 ((i:Nat):Int)) l.length ?_ ?_
 ·exact ⟨0,rfl,Nat.zero_le _,rfl,by simp,Sd0,Sd0,Sd0⟩
 rintro _ ts τ ⟨i,rfl,hi,rfl,hall,t5,t6,t7⟩
 rcases Nat.lt_or_ge i l.length with hil | hig
 ·have hil':((i:Nat):Int) < ((l.length:Nat):Int):=by omega
  refine stepR (An t6 (An t7 hil')) ?_
  refine ml_getS hr (Sw t5) (Sw t7) (by omega) (bools_at (by rw [Int.toNat_natCast];exact hil)) fun p=>?_
  rw [Int.toNat_natCast]
  have hg:l.getD i false=l[i]:=by rw [List.getD_eq_getElem?_getD,List.getElem?_eq_getElem hil];rfl
  cases hb:l.getD i false
  ·refine stepR0 ?_
   refine fin1 ⟨?_,rfl⟩
   have:l.all id=false:=by rw [List.all_eq_false];exact ⟨l[i],List.getElem_mem hil,by rw [← hg,hb];simp⟩
   rw [this];exact Sd0
  ·refine stepR t7 ?_
   refine ⟨l.length - (i + 1),by omega,i + 1,rfl,by omega,rfl,fun b hm=>?_,(Sw t5),(Sw t6),Sd0⟩
   rw [List.take_add_one,List.getElem?_eq_getElem hil] at hm
   rcases List.mem_append.1 hm with hm | hm
   ·exact hall b hm
   ·simp at hm;rw [hm,← hg,hb]
 ·obtain rfl:i=l.length:=by omega
  have hil':¬ ((l.length:Nat):Int) < ((l.length:Nat):Int):=by omega
  have:l.all id=true:=by rw [List.all_eq_true];intro b hb;exact hall b (by rw [List.take_length];exact hb)
  refine stepR (An t6 (An t7 hil')) ?_
  refine fin1 ⟨?_,rfl⟩
  rw [this];exact Sd0
theorem rcSize_c (σ:H):MCalls E Tryz.prog 89 [] σ (fun v τ=>TagE τ v ⟨#[114,101,99]⟩ 8∧Ext σ τ):=by
 refine mcalls_of fn89 (by simp) ?_
 unfold c89 r89
 refine stepR0 ?_
 refine ml_call Sd0 Sd0 (tag_c _ _ _) ?_
 rintro _ τ ⟨he,e⟩
 refine stepR0 ?_
 refine fin1 ⟨?_,e⟩
 obtain ⟨id,rfl,h⟩:=he
 exact ⟨id,Sd0,h⟩
theorem pkMay_c (w:Int) (σ:H):MCalls E Tryz.prog 151 [.int .i64 w] σ (fun v τ=>v=.bool (inB w 1 4)∧τ=σ):=by
 refine mcalls_of fn151 (by simp) ?_
 unfold c151 r151 inB
 by_cases h:1≤w
 ·have h':w≥1:=h
  refine stepR h' ?_
  refine fin1 ⟨?_,rfl⟩
  simp only [go_sem,reduceIte,Nat.reduceEqDiff,reduceCtorEq,Nat.reduceAdd,Nat.reduceLeDiff,Int.reduceNeg,Int.reduceToNat,Int.reduceBEq,Int.reduceBNe,Int.reduceLT,Int.reduceLE,Int.reduceAdd,Int.reduceSub,decide_eq_true h]
 ·have h':¬ w≥1:=h
  refine stepR h' ?_
  refine fin1 ⟨?_,rfl⟩
  simp only [go_sem,reduceIte,Nat.reduceEqDiff,reduceCtorEq,Nat.reduceAdd,Nat.reduceLeDiff,Int.reduceNeg,Int.reduceToNat,Int.reduceBEq,Int.reduceBNe,Int.reduceLT,Int.reduceLE,Int.reduceAdd,Int.reduceSub,decide_eq_false h]
def fitsB (w:Nat) (n:Int):Bool:=inB n 0 (2 ^ (8 * w) - 1)
theorem fits_shr {w:Nat} (hw:1≤w) (h4:w≤4) {n:Int} (h0:0≤n):(n.fdiv (2 ^ (8 * w)) == 0)=decide (n≤2 ^ (8 * w) - 1):=by
 have:w=1∨w=2∨w=3∨w=4:=by omega
 rw [Bool.eq_iff_iff,beq_iff_eq,decide_eq_true_eq]
 rcases this with rfl | rfl | rfl | rfl
 ·rw [show (2:Int) ^ (8 * 1)=256 from rfl,Int.fdiv_eq_ediv_of_nonneg _ (by omega)];omega
 ·rw [show (2:Int) ^ (8 * 2)=65536 from rfl,Int.fdiv_eq_ediv_of_nonneg _ (by omega)];omega
 ·rw [show (2:Int) ^ (8 * 3)=16777216 from rfl,Int.fdiv_eq_ediv_of_nonneg _ (by omega)];omega
 ·rw [show (2:Int) ^ (8 * 4)=4294967296 from rfl,Int.fdiv_eq_ediv_of_nonneg _ (by omega)];omega
theorem pkFits_c (w:Nat) (hw:1≤w) (h4:w≤4) (n:Int) (σ:H):MCalls E Tryz.prog 126 [.int .i64 (w:Int),.int .i64 n] σ (fun v τ=>v=.bool (fitsB w n)∧τ=σ):=by
 refine mcalls_of fn126 (by simp) ?_
 unfold c126 r126
 refine stepR0 ?_
 refine ml_call Sd0 Sd0 (pkMay_c _ _) ?_
 rintro _ τ ⟨rfl,rfl⟩
 have hi:inB (w:Int) 1 4=true:=by simp [inB];omega
 rw [hi]
 unfold fitsB inB
 by_cases h:0≤n
 ·have h':n≥0:=h
  have hs:=fits_shr hw h4 h
  have hmin:min ((8 * (w:Int)).toNat) IntKind.i64.bits=8 * w:=by
   have:IntKind.i64.bits=64:=rfl
   omega
  refine stepR h' ?_
  refine ml_op Sd0 (o_shr (a:=n) (b:=8 * (w:Int)) Sd0 Sd0 (by omega)) ?_
  rw [hmin]
  refine stepR hs ?_
  refine fin1 ⟨?_,rfl⟩
  simp only [go_sem,reduceIte,Nat.reduceEqDiff,reduceCtorEq,Nat.reduceAdd,Nat.reduceLeDiff,Int.reduceNeg,Int.reduceToNat,Int.reduceBEq,Int.reduceBNe,Int.reduceLT,Int.reduceLE,Int.reduceAdd,Int.reduceSub,decide_eq_true h]
 ·have h':¬ n≥0:=h
  refine stepR h' ?_
  refine fin1 ⟨?_,rfl⟩
  simp only [go_sem,reduceIte,Nat.reduceEqDiff,reduceCtorEq,Nat.reduceAdd,Nat.reduceLeDiff,Int.reduceNeg,Int.reduceToNat,Int.reduceBEq,Int.reduceBNe,Int.reduceLT,Int.reduceLE,Int.reduceAdd,Int.reduceSub,decide_eq_false h]
theorem pkSize_c {σ:H} {v:Value} {l:List Int} (hr:Rd σ v (ints l)) (hl:l.length≤40) (hw:∀ w ∈ l,1≤w∧w≤4):MCalls E Tryz.prog 127 [v] σ (fun r τ=>(∃ n:Nat,r=.int .i64 (n:Int))∧τ=σ):=by
 refine mcalls_of fn127 (by simp) ?_
 unfold c127 r127
 have hl':¬ (40:Int) < ((l.length:Nat):Int):=by omega
 refine stepR0 ?_
 refine ml_len Sd0 hr Sd0 ?_
 rw [ints_len]
 refine stepR hl' ?_
 refine ml_len Sd0 hr Sd0 ?_
 rw [ints_len]
 refine stepR0 ?_
 refine mx_loop (fun n ts τ=>∃ (i:Nat) (m:Nat),n=l.length - i∧i≤l.length∧τ=σ∧m≤4 * i∧ts 3=.int .i64 (m:Int)∧ts 9=v∧ts 10=.int .i64 ((l.length:Nat):Int)∧ts 11=.int .i64 ((i:Nat):Int)) l.length ?_ ?_
 ·exact ⟨0,0,rfl,Nat.zero_le _,rfl,Nat.le_refl _,Sd0,Sd0,Sd0,Sd0⟩
 rintro _ ts τ ⟨i,m,rfl,hi,rfl,hm,t3,t9,t10,t11⟩
 rcases Nat.lt_or_ge i l.length with hil | hig
 ·have hil':((i:Nat):Int) < ((l.length:Nat):Int):=by omega
  refine stepR (An t10 (An t11 hil')) ?_
  refine ml_getS hr (Sw t9) (Sw t11) (by omega) (by rw [Int.toNat_natCast];exact ints_at hil) fun p=>?_
  have hwi:=hw _ (List.getElem_mem hil)
  have hg:l.getD i 0=l[i]:=by rw [List.getD_eq_getElem?_getD,List.getElem?_eq_getElem hil];rfl
  rw [← hg] at hwi
  generalize l.getD i 0=x at hwi
  have hib:inB x 1 4=true:=by simp [inB];omega
  refine stepR0 ?_
  refine ml_call Sd0 Sd0 (pkMay_c _ _) ?_
  rintro _ τ ⟨rfl,rfl⟩
  rw [hib]
  obtain ⟨k,rfl⟩:=Int.eq_ofNat_of_zero_le (show 0≤x by omega)
  refine stepR (An t3 t11) ?_
  exact ⟨l.length - (i + 1),by omega,i + 1,m + k,rfl,by omega,rfl,by omega,Sd0,(Sw t9),(Sw t10),Sd0⟩
 ·obtain rfl:i=l.length:=by omega
  have hil':¬ ((l.length:Nat):Int) < ((l.length:Nat):Int):=by omega
  refine stepR (An t10 (An t11 (An hil' t3))) ?_
  exact fin1 ⟨⟨m,Sd0⟩,rfl⟩
theorem pkPut_c (w:Nat) (hw:1≤w) (h4:w≤4) (n:Int) (hf:fitsB w n=true) (σ:H):MCalls E Tryz.prog 90 [.int .i64 (w:Int),.int .i64 n] σ (fun v τ=>(∃ B:ByteArray,v=.string B∧B.size=w)∧Ext σ τ):=by
 refine mcalls_of fn90 (by simp) ?_
 unfold c90 r90
 refine stepR0 ?_
 refine ml_call Sd0 Sd0 (pkFits_c w hw h4 n σ) ?_
 rintro _ τ ⟨rfl,rfl⟩
 rw [hf]
 have hn:0≤n:=by
  unfold fitsB inB at hf
  rw [Bool.and_eq_true,decide_eq_true_eq] at hf
  exact hf.1
 refine stepR0 ?_
 refine mx_loop (fun k ts τ'=>∃ (i:Nat) (bv:Value) (oj:Option Nat) (L:List UInt8),k=w - i∧i≤w∧L.length=i∧Ext τ τ'∧Own τ' 1 bv oj (bytesL L)∧(∀ j,oj=some j→τ.size≤j)∧ts 0=.int .i64 (w:Int)∧ts 1=.int .i64 n∧ts 5=bv∧ts 11=.int .i64 (w:Int)∧ts 12=.int .i64 ((i:Nat):Int)) w ?_ ?_
 ·exact ⟨0,_,_,[],rfl,Nat.zero_le _,rfl,Ext.refl _,.nil,fun j h=>(by cases h),Sd0,Sd0,Sd0,Sd0,Sd0⟩
 rintro _ ts τ1 ⟨i,bv,oj,L,rfl,hi,hL,e,own,hoj,t0,t1,t5,t11,t12⟩
 rcases Nat.lt_or_ge i w with hil | hig
 ·have hil':((i:Nat):Int) < (w:Int):=by omega
  refine stepR (An t0 (An t1 (An t5 (An t11 (An t12 hil'))))) ?_
  refine ml_op Sd0 (o_shr (a:=n) (b:=8 * ((w:Int) - 1 - (i:Int))) Sd0 Sd0 (by omega)) ?_
  generalize n.fdiv _=x
  obtain ⟨b,hb⟩:=wrap_u8 x
  have hbl:=UInt8.toNat_lt b
  refine stepR hb ?_
  have gl:(τ1.push (.cells 1 [.int .u8 (b.toNat:Int)])).get τ1.size=.cells 1 [.int .u8 (b.toNat:Int)]:=H.get_push_self _ _
  have hone:(bytesL L ++ [Value.int .u8 (b.toNat:Int)]).all one=true:=by
   rw [List.all_append,bytesL,List.all_map,Bool.and_eq_true,List.all_eq_true]
   exact ⟨fun _ _=>rfl,rfl⟩
  have hps:(τ1.push (.cells 1 [.int .u8 (b.toNat:Int)])).size=τ1.size + 1:=H.size_push _ _
  refine ml_app1 (vs:=[.int .u8 (b.toNat:Int)]) Sd0 Sd0 Sd0 (own.of_ext (Ext.push _ _)) gl rfl (by omega) hone (by omega) (by rw [bytesL,List.length_map,hL];simp only [appMax];omega) fun v' τ2 own2 hs2 hk2=>?_
  rw [show bytesL L ++ [Value.int .u8 (b.toNat:Int)]=bytesL (L ++ [b]) by simp [bytesL]] at own2
  have hz:=e.size
  refine stepR t12 ?_
  refine ⟨w - (i + 1),by omega,i + 1,v',_,L ++ [b],rfl,by omega,by simp [hL],⟨by omega,fun k hk=>?_⟩,own2,fun j hj=>by injection hj with hj;omega,(Sw t0),(Sw t1),Sd0,(Sw t11),Sd0⟩
  rw [hk2 k (by omega) (fun e=>by have:=hoj k e;omega),H.get_push_lt (by omega)]
  exact e.get k hk
 ·obtain rfl:i=w:=by omega
  have hil':¬ ((i:Nat):Int) < (i:Int):=by omega
  have hne:L≠[]:=fun e=>by rw [e] at hL;simp at hL;omega
  obtain ⟨id,m,rfl,hg,hm⟩:∃ id m,bv=.slice (some ⟨id,0,none⟩) m m∧τ1.get id=.cells 1 (bytesL L)∧L.length=m * 1:=by
   rcases own.inv with ⟨_,_,h⟩ | ⟨id,m,h1,_,h2,h3⟩
   ·exfalso;apply hne;simpa [bytesL] using h
   ·exact ⟨id,m,h1,h2,by simpa [bytesL] using h3⟩
  obtain rfl:m=L.length:=by omega
  have hrow:τ1.row id 0 L.length=some (bytesL L):=row_of hg (rowAll (by simp [bytesL]))
  refine stepR (An t11 (An t12 (An hil' t5))) ?_
  refine ml_op Sd0 (o_b2sR Sd0 hrow) ?_
  refine stepR0 ?_
  exact fin1 ⟨⟨⟨L.toArray⟩,Sd0,hL⟩,e⟩
def fitsL:List Nat→List Int→Bool
 | w :: ws,n :: ns=>fitsB w n && fitsL ws ns
 | _,_=>true
theorem fitsL_at:∀ {ws:List Nat} {ns:List Int},ws.length=ns.length→(fitsL ws ns=true↔∀ i,i < ns.length→fitsB (ws.getD i 0) (ns.getD i 0)=true)
 | [],[],_=>by simp [fitsL]
 | w :: ws,n :: ns,h=>by
   have ih:=fitsL_at (ws:=ws) (ns:=ns) (by simpa using h)
   rw [fitsL,Bool.and_eq_true,ih]
   constructor
   ·rintro ⟨h1,h2⟩ i hi
    cases i with
    | zero=>exact h1
    | succ i=>simpa using h2 i (by simpa using hi)
   ·intro h1
    exact ⟨h1 0 (by simp),fun i hi=>by simpa using h1 (i + 1) (by simpa using hi)⟩
def natI (l:List Nat):List Int:=l.map Int.ofNat
theorem natI_getD {l:List Nat} {i:Nat} (hi:i < l.length):(natI l).getD i 0=((l.getD i 0:Nat):Int):=by
 simp [natI,List.getD_eq_getElem?_getD,List.getElem?_eq_getElem hi]
def fieldsB:ByteArray:=⟨#[102,105,101,108,100,115]⟩
set_option maxHeartbeats 2000000 in
theorem pkFields_c {σ:H} {wv nv:Value} {ws:List Nat} {ns:List Int} (hw:Rd σ wv (ints (natI ws))) (hn:Rd σ nv (ints ns)) (hl:ws.length=ns.length) (h40:ws.length≤40) (hok:∀ w ∈ ws,1≤w∧w≤4) (hne:ns≠[]):
 MCalls E Tryz.prog 92 [wv,nv] σ (fun v τ=>Ext σ τ∧if fitsL ws ns then ∃ B,v=.tuple #[.string B,.nilIface] else ∃ e,v=.tuple #[.string ⟨#[]⟩,e]∧TagE τ e fieldsB 8):=by
 refine mcalls_of fn92 (by simp) ?_
 unfold c92 r92
 have hwl:(natI ws).length=ws.length:=by simp [natI]
 refine stepR0 ?_
 refine ml_call Sd0 Sd0 (pkSize_c hw (by omega) (fun w hm=>by
  obtain ⟨k,hk,rfl⟩:=List.mem_map.1 hm
  have:=hok k hk
  constructor<;>(show _≤_;simp;omega))) ?_
 rintro _ τ ⟨⟨sz,rfl⟩,rfl⟩
 have hneg:¬ ((sz:Nat):Int) < 0:=by omega
 have hlen:(((ns.length:Nat):Int) != ((ws.length:Nat):Int))=false:=by rw [hl];simp
 refine stepR hneg ?_
 refine ml_len (Sw hneg) hn (Sw hneg) ?_
 rw [ints_len]
 refine stepR hneg ?_
 refine ml_len (Sw hneg) hw (Sw hneg) ?_
 rw [ints_len,hwl]
 refine stepR (An hneg hlen) ?_
 refine ml_len Sd0 (hn.of_ext (Ext.push _ _)) Sd0 ?_
 rw [ints_len]
 refine stepR0 ?_
 refine mx_loop (fun k ts τ'=>∃ (i:Nat) (oj:Option Nat) (l:List UInt8),k=ns.length - i∧i≤ns.length∧Ext τ τ'∧τ.size < τ'.size∧Bld τ' τ.size oj l∧l.length≤4 * i∧(∀ j,oj=some j→τ.size < j)∧(∀ j,j < i→fitsB (ws.getD j 0) (ns.getD j 0)=true)∧
  ts 0=wv∧ts 6=.pointer (some ⟨τ.size,0,none⟩)∧ts 21=nv∧ts 22=.int .i64 ((ns.length:Nat):Int)∧ts 23=.int .i64 ((i:Nat):Int)) ns.length ?_ ?_
 ·exact ⟨0,_,[],rfl,Nat.zero_le _,Ext.push _ _,by simp,.fresh (H.get_push_self _ _),Nat.le_refl _,fun j h=>(by cases h),fun j h=>(by omega),Sd0,Sd0,Sd0,Sd0,Sd0⟩
 rintro _ ts τ1 ⟨i,oj,l,rfl,hi,e,hsz,hb,hll,hoj,hfit,t0,t6,t21,t22,t23⟩
 have hn1:=hn.of_ext e
 have hw1:=hw.of_ext e
 rcases Nat.lt_or_ge i ns.length with hil | hig
 ·have hil':((i:Nat):Int) < ((ns.length:Nat):Int):=by omega
  have hw40:ws.getD i 0 ∈ ws:=by rw [List.getD_eq_getElem?_getD,List.getElem?_eq_getElem (by omega)];exact List.getElem_mem _
  obtain ⟨hw1',hw4'⟩:=hok _ hw40
  have hgw:=natI_getD (l:=ws) (i:=i) (by omega)
  refine stepR (An t21 (An t22 (An t23 hil'))) ?_
  refine ml_getS hn1 (Sw t21) (Sw t23) (by omega) (by rw [Int.toNat_natCast];exact ints_at hil) fun p=>?_
  refine stepR (An t0 t23) ?_
  refine ml_getS hw1 (Sw t0) (Sw t23) (by omega) (by rw [Int.toNat_natCast];exact ints_at (by omega)) fun p2=>?_
  rw [hgw]
  refine stepR0 ?_
  refine ml_call Sd0 Sd0 (pkFits_c _ hw1' hw4' _ τ1) ?_
  rintro _ τ2 ⟨rfl,rfl⟩
  cases hf:fitsB (ws.getD i 0) (ns.getD i 0)
  ·have hF:fitsL ws ns=false:=by
    rw [Bool.eq_false_iff]
    intro h
    have:=(fitsL_at hl).1 h i hil
    rw [hf] at this;cases this
   refine stepR0 ?_
   refine ml_call Sd0 Sd0 (tag_c _ _ _) ?_
   rintro ev τ3 ⟨he,e3⟩
   obtain ⟨id,rfl,hid⟩:=he
   refine stepR0 ?_
   refine fin2 ⟨e.trans e3,?_⟩
   rw [hF]
   exact ⟨.iface 92 (.pointer (some ⟨id,0,none⟩)),Sd0,id,rfl,hid⟩
  ·refine stepR (An t0 t23) ?_
   refine ml_getS hw1 (Sw t0) (Sw t23) (by omega) (by rw [Int.toNat_natCast];exact ints_at (by omega)) fun p3=>?_
   rw [hgw]
   refine stepR0 ?_
   refine ml_call Sd0 Sd0 (pkPut_c _ hw1' hw4' _ hf _) ?_
   rintro _ τ3 ⟨⟨B,rfl,hB⟩,e3⟩
   have hb3:Bld τ3 τ.size oj l:=hb.of_eq (e3.get _ hsz) fun j hj=>e3.get j (hb.lt j hj)
   have hz3:=e3.size
   refine ml_call Sd0 (Sw t6) (bWrite_c hb3 B (by omega) (by omega)) ?_
   rintro _ τ4 ⟨rfl,oj',hb4,hs4,hj4,hk4⟩
   have he3:=e.trans e3
   have hBl:B.data.toList.length=B.size:=Array.length_toList
   refine stepR t23 ?_
   refine ⟨ns.length - (i + 1),by omega,i + 1,oj',_,rfl,by omega,⟨by have:=he3.size;omega,fun k hk=>?_⟩,by omega,hb4,by rw [List.length_append,hBl];omega,fun j hj=>?_,fun j hj=>?_,(Sw t0),(Sw t6),(Sw t21),(Sw t22),Sd0⟩
   ·rw [hk4 k (by omega) (by omega) (fun e=>by have:=hoj k e;omega)]
    exact he3.get k hk
   ·rcases hj4 with h | h
    ·exact hoj j (h ▸ hj)
    ·rw [h] at hj;injection hj with hj;omega
   ·by_cases h:j=i
    ·rw [h];exact hf
    ·exact hfit j (by omega)
 ·obtain rfl:i=ns.length:=by omega
  have hil':¬ ((ns.length:Nat):Int) < ((ns.length:Nat):Int):=by omega
  have hF:fitsL ws ns=true:=(fitsL_at hl).2 hfit
  refine stepR (An t22 (An t23 (An hil' t6))) ?_
  refine ml_call Sd0 (Sw t6) (bString_c hb) ?_
  rintro _ τ2 ⟨rfl,hs2,hk2⟩
  refine stepR0 ?_
  refine fin2 ⟨⟨by have:=e.size;omega,fun k hk=>?_⟩,?_⟩
  ·rw [hk2 k (by omega) (fun e2=>by have:=hoj k e2;omega)]
   exact e.get k hk
  ·rw [hF];exact ⟨_,Sd0⟩
def ErrR (τ:H) (ok:Bool) (v:Value):Prop:=if ok then v=.nilIface else ∃ nm,TagE τ v nm 8
theorem u8C_bytes {o:List Nat} (hb:∀ b ∈ o,b < 256):u8C o=bytesL (o.map UInt8.ofNat):=by
 unfold u8C bytesL
 rw [List.map_map]
 refine List.map_congr_left fun b h=>?_
 show Value.int .u8 (b:Int)=.int .u8 ((UInt8.ofNat b).toNat:Int)
 rw [UInt8.toNat_ofNat_of_lt' (hb b h)]
set_option maxHeartbeats 1000000 in
theorem rcLayAll_c (t:Int) (o:List Nat) (ho:o.length=8) (hb:∀ b ∈ o,b < 256) (σ:H):MCalls E Tryz.prog 57 [.agg (.int .i64 t :: u8C o).toArray] σ (fun v τ=>Ext σ τ∧∃ B e,v=.tuple #[.string B,e]∧ErrR τ (tickOK t) e):=by
 refine mcalls_of fn57 (by simp) ?_
 unfold c57 r57
 have g0:(σ.push (.cells 0 (.int .i64 t :: u8C o))).get σ.size=.cells 0 (.int .i64 t :: u8C o):=H.get_push_self _ _
 have e0:=Ext.push σ (.cells 0 (.int .i64 t :: u8C o))
 refine stepR0 ?_
 generalize σ.push (.cells 0 (.int .i64 t :: u8C o))=τ0 at *
 refine ml_call Sd0 Sd0 (rcIn_c t 0 2147483647 τ0) ?_
 rintro _ τ ⟨rfl,rfl⟩
 have hin:inB t 0 2147483647=tickOK t:=rfl
 cases ht:tickOK t
 ·rw [hin,ht]
  refine stepR0 ?_
  refine ml_call Sd0 Sd0 (rcSize_c τ) ?_
  rintro _ τ2 ⟨he,e2⟩
  refine stepR0 ?_
  exact fin2 ⟨e0.trans e2,_,_,Sd0,_,he⟩
 ·rw [hin,ht]
  refine stepR0 ?_
  refine mld_op Sd0 (o_load1q (off:=0) (v:=.int .i64 t) Sd0 g0 rfl) ?_
  have hrow:τ.row σ.size 1 8=some (bytesL (o.map UInt8.ofNat)):=by
   rw [← u8C_bytes hb]
   refine row_of g0 ?_
   rw [rowL_some _ _ _ (by simp [u8C,ho]),List.drop_succ_cons,List.drop_zero,List.take_of_length_le (by simp [u8C,ho])]
  have hfit:fitsB 4 t=true:=by
   unfold tickOK at ht
   rw [Bool.and_eq_true,decide_eq_true_eq,decide_eq_true_eq] at ht
   unfold fitsB inB
   rw [Bool.and_eq_true,decide_eq_true_eq,decide_eq_true_eq]
   omega
  refine stepR0 ?_
  refine mld_op Sd0 (o_slcA0 (id:=σ.size) (off:=1) (n:=8) Sd0 g0) ?_
  refine mld_op Sd0 (o_b2sR Sd0 hrow) ?_
  refine mld_call Sd0 Sd0 (pkPut_c 4 (by omega) (by omega) t hfit τ) (fun _ _ h=>h.2) ?_
  rintro _ τ2 ⟨⟨B,rfl,hB⟩,e2⟩
  have hz:(⟨(o.map UInt8.ofNat).toArray⟩:ByteArray).size=8:=by show (o.map UInt8.ofNat).length=8;simp [ho]
  generalize (⟨(o.map UInt8.ofNat).toArray⟩:ByteArray)=C at hz
  refine mld_op Sd0 (o_cat (a:=B) (b:=C) Sd0 Sd0 (by omega)) ?_
  refine stepR0 ?_
  exact fin2 ⟨e0.trans e2,_,_,Sd0,rfl⟩
def rwL:List Nat:=[1,1,1,1,3,3,2]
def twL:List Nat:=[1,1,1,4,4,1]
theorem rcRW_c (σ:H):MCalls E Tryz.prog 93 [] σ (fun v τ=>Rd τ v (ints (natI rwL))∧Ext σ τ):=by
 refine mcalls_of fn93 (by simp) ?_
 unfold c93 r93
 refine stepR0 ?_
 refine fin1 ⟨?_,Ext.push _ _⟩
 have:Own (σ.push (.cells 1 (ints (natI rwL)))) 1 (.slice (some ⟨σ.size,0,none⟩) 7 7) (some σ.size) (ints (natI rwL)):=.full (n:=7) (H.get_push_self _ _) rfl
 exact this.rd
theorem rcTW_c (σ:H):MCalls E Tryz.prog 94 [] σ (fun v τ=>Rd τ v (ints (natI twL))∧Ext σ τ):=by
 refine mcalls_of fn94 (by simp) ?_
 unfold c94 r94
 refine stepR0 ?_
 refine fin1 ⟨?_,Ext.push _ _⟩
 have:Own (σ.push (.cells 1 (ints (natI twL)))) 1 (.slice (some ⟨σ.size,0,none⟩) 6 6) (some σ.size) (ints (natI twL)):=.full (n:=6) (H.get_push_self _ _) rfl
 exact this.rd
theorem fitsB_iff {w:Nat} {n:Int}:fitsB w n=true↔0≤n∧n≤2 ^ (8 * w) - 1:=by unfold fitsB inB;simp
set_option maxHeartbeats 4000000 in
theorem rcLayRobot_c (r:Rob) (σ:H):MCalls E Tryz.prog 58 [.agg (robC r).toArray] σ (fun v τ=>Ext σ τ∧∃ B e,v=.tuple #[.string B,e]∧ErrR τ (robOK r) e):=by
 have hrok:robOK r=((inB r.cell 0 63 && inB r.charge 0 200 && inB r.phase 0 4 && inB r.task (-1) 19 && inB r.adj (-32768) 32767) && inB r.moved 0 16777215 && inB r.gained 0 16777215):=rfl
 obtain ⟨cell,charge,phase,task,moved,gained,adj⟩:=r
 refine mcalls_of fn58 (by simp) ?_
 unfold c58 r58 robC
 have e0:=Ext.push σ (.cells 0 [.int .i64 cell,.int .i64 charge,.int .i64 phase,.int .i64 task,.int .i64 moved,.int .i64 gained,.int .i64 adj])
 have g0:=H.get_push_self σ (.cells 0 [.int .i64 cell,.int .i64 charge,.int .i64 phase,.int .i64 task,.int .i64 moved,.int .i64 gained,.int .i64 adj])
 refine stepR0 ?_
 generalize σ.push (.cells 0 [.int .i64 cell,.int .i64 charge,.int .i64 phase,.int .i64 task,.int .i64 moved,.int .i64 gained,.int .i64 adj])=τ0 at *
 refine stepR g0 ?_
 simp only at hrok
 refine mld_call Sd0 Sd0 (rcIn_c cell 0 63 τ0) (fun _ _ h=>by rw [h.2];exact .refl _) ?_
 rintro _ τ ⟨rfl,rfl⟩
 refine stepR0 ?_
 refine mld_call Sd0 Sd0 (rcIn_c charge 0 200 τ) (fun _ _ h=>by rw [h.2];exact .refl _) ?_
 rintro _ τ ⟨rfl,rfl⟩
 refine stepR0 ?_
 refine mld_call Sd0 Sd0 (rcIn_c phase 0 4 τ) (fun _ _ h=>by rw [h.2];exact .refl _) ?_
 rintro _ τ ⟨rfl,rfl⟩
 refine stepR0 ?_
 refine mld_call Sd0 Sd0 (rcIn_c task (-1) 19 τ) (fun _ _ h=>by rw [h.2];exact .refl _) ?_
 rintro _ τ ⟨rfl,rfl⟩
 refine stepR0 ?_
 refine mld_callW Sd0 Sd0 (rcIn_c adj (-32768) 32767 τ) ?_
 rintro _ τ ⟨rfl,rfl⟩
 generalize h1:inB cell 0 63=b1 at *
 generalize h2:inB charge 0 200=b2 at *
 generalize h3:inB phase 0 4=b3 at *
 generalize h4:inB task (-1) 19=b4 at *
 generalize h5:inB adj (-32768) 32767=b5 at *
 have g1:=H.get_push_self τ (.cells 1 [.bool b1,.bool b2,.bool b3,.bool b4,.bool b5])
 have e1:=Ext.push τ (.cells 1 [.bool b1,.bool b2,.bool b3,.bool b4,.bool b5])
 have o1:Own (τ.push (.cells 1 [.bool b1,.bool b2,.bool b3,.bool b4,.bool b5])) 1 (.slice (some ⟨τ.size,0,none⟩) 5 5) (some τ.size) (bools [b1,b2,b3,b4,b5]):=.full (n:=5) g1 rfl
 refine stepR0 ?_
 refine mld_callW Sd0 Sd0 (rcAll_c (l:=[b1,b2,b3,b4,b5]) o1.rd (by simp)) ?_
 rintro _ τ2 ⟨rfl,rfl⟩
 have g2:=e1.cells g0
 have e2:=e0.trans e1
 have hall:[b1,b2,b3,b4,b5].all id=(b1 && b2 && b3 && b4 && b5):=by simp [Bool.and_assoc]
 rw [hall]
 rw [hrok]
 generalize τ.push (.cells 1 [.bool b1,.bool b2,.bool b3,.bool b4,.bool b5])=τ2 at *
 cases hb:b1 && b2 && b3 && b4 && b5
 ·refine stepR0 ?_
  refine ml_call Sd0 Sd0 (rcSize_c _) ?_
  rintro _ τ3 ⟨he,e3⟩
  refine stepR0 ?_
  exact fin2 ⟨e2.trans e3,_,_,Sd0,_,he⟩
 ·simp only [Bool.and_eq_true] at hb
  obtain ⟨⟨⟨⟨rfl,rfl⟩,rfl⟩,rfl⟩,rfl⟩:=hb
  rw [inB_iff] at h1 h2 h3 h4 h5
  refine stepR g2 ?_
  refine mld_call Sd0 Sd0 (rcRW_c _) (fun _ _ h=>h.2) ?_
  rintro wv τ3 ⟨hw,e3⟩
  refine stepR0 ?_
  have g3:=H.get_push_self τ3 (.cells 1 (ints [cell,charge,phase,task + 1,moved,gained,adj + 32768]))
  have e3':=Ext.push τ3 (.cells 1 (ints [cell,charge,phase,task + 1,moved,gained,adj + 32768]))
  have o3:Own (τ3.push (.cells 1 (ints [cell,charge,phase,task + 1,moved,gained,adj + 32768]))) 1 (.slice (some ⟨τ3.size,0,none⟩) 7 7) (some τ3.size) (ints [cell,charge,phase,task + 1,moved,gained,adj + 32768]):=.full (n:=7) g3 rfl
  refine mld_callW Sd0 Sd0 (pkFields_c (ws:=rwL) (ns:=[cell,charge,phase,task + 1,moved,gained,adj + 32768]) (hw.of_ext e3') o3.rd rfl (by decide) (by decide) (by simp)) ?_
  rintro v τ4 ⟨e4,hif⟩
  have hfit:fitsL rwL [cell,charge,phase,task + 1,moved,gained,adj + 32768]=(inB moved 0 16777215 && inB gained 0 16777215):=by
   rw [Bool.eq_iff_iff]
   simp only [rwL,fitsL,Bool.and_eq_true,fitsB_iff,inB_iff,and_true]
   simp
   omega
  have e5:=(e2.trans e3).trans (e3'.trans e4)
  rw [hfit] at hif
  simp only [Bool.true_and]
  cases hm:inB moved 0 16777215 && inB gained 0 16777215
  ·rw [hm] at hif
   obtain ⟨ev,rfl,nm,rfl,hid⟩:=hif
   refine stepR0 ?_
   refine ml_call Sd0 Sd0 (rcSize_c _) ?_
   rintro _ τ5 ⟨he,e6⟩
   refine stepR0 ?_
   exact fin2 ⟨e5.trans e6,_,_,Sd0,_,he⟩
  ·rw [hm] at hif
   obtain ⟨B,rfl⟩:=hif
   refine stepR0 ?_
   exact fin2 ⟨e5,_,_,Sd0,rfl⟩
set_option maxHeartbeats 4000000 in
theorem rcLayTask_c (t:Tsk) (σ:H):MCalls E Tryz.prog 59 [.agg (tskC t).toArray] σ (fun v τ=>Ext σ τ∧∃ B e,v=.tuple #[.string B,e]∧ErrR τ (tskOK t) e):=by
 have hrok:tskOK t=(inB t.fr 0 63 && inB t.dst 0 63 && inB t.st 0 3):=rfl
 obtain ⟨fr,dst,st⟩:=t
 refine mcalls_of fn59 (by simp) ?_
 unfold c59 r59 tskC
 have e0:=Ext.push σ (.cells 0 [.int .i64 fr,.int .i64 dst,.int .i64 st])
 have g0:=H.get_push_self σ (.cells 0 [.int .i64 fr,.int .i64 dst,.int .i64 st])
 refine stepR0 ?_
 generalize σ.push (.cells 0 [.int .i64 fr,.int .i64 dst,.int .i64 st])=τ0 at *
 refine stepR g0 ?_
 simp only at hrok
 refine mld_call Sd0 Sd0 (rcIn_c fr 0 63 τ0) (fun _ _ h=>by rw [h.2];exact .refl _) ?_
 rintro _ τ ⟨rfl,rfl⟩
 refine stepR0 ?_
 refine mld_call Sd0 Sd0 (rcIn_c dst 0 63 τ) (fun _ _ h=>by rw [h.2];exact .refl _) ?_
 rintro _ τ ⟨rfl,rfl⟩
 refine stepR0 ?_
 refine mld_callW Sd0 Sd0 (rcIn_c st 0 3 τ) ?_
 rintro _ τ ⟨rfl,rfl⟩
 generalize h1:inB fr 0 63=b1 at *
 generalize h2:inB dst 0 63=b2 at *
 generalize h3:inB st 0 3=b3 at *
 have g1:=H.get_push_self τ (.cells 1 [.bool b1,.bool b2,.bool b3])
 have e1:=Ext.push τ (.cells 1 [.bool b1,.bool b2,.bool b3])
 have o1:Own (τ.push (.cells 1 [.bool b1,.bool b2,.bool b3])) 1 (.slice (some ⟨τ.size,0,none⟩) 3 3) (some τ.size) (bools [b1,b2,b3]):=.full (n:=3) g1 rfl
 refine stepR0 ?_
 refine mld_callW Sd0 Sd0 (rcAll_c (l:=[b1,b2,b3]) o1.rd (by simp)) ?_
 rintro _ τ2 ⟨rfl,rfl⟩
 have g2:=e1.cells g0
 have e2:=e0.trans e1
 have hall:[b1,b2,b3].all id=(b1 && b2 && b3):=by simp [Bool.and_assoc]
 rw [hall]
 rw [hrok]
 generalize τ.push (.cells 1 [.bool b1,.bool b2,.bool b3])=τ2 at *
 cases hb:b1 && b2 && b3
 ·refine stepR0 ?_
  refine ml_call Sd0 Sd0 (rcSize_c _) ?_
  rintro _ τ3 ⟨he,e3⟩
  refine stepR0 ?_
  exact fin2 ⟨e2.trans e3,_,_,Sd0,_,he⟩
 ·simp only [Bool.and_eq_true] at hb
  obtain ⟨⟨rfl,rfl⟩,rfl⟩:=hb
  rw [inB_iff] at h1 h2 h3
  refine stepR g2 ?_
  refine mld_call Sd0 Sd0 (rcTW_c _) (fun _ _ h=>h.2) ?_
  rintro wv τ3 ⟨hw,e3⟩
  refine stepR0 ?_
  have g3:=H.get_push_self τ3 (.cells 1 (ints [fr,dst,st,0,0,0]))
  have e3':=Ext.push τ3 (.cells 1 (ints [fr,dst,st,0,0,0]))
  have o3:Own (τ3.push (.cells 1 (ints [fr,dst,st,0,0,0]))) 1 (.slice (some ⟨τ3.size,0,none⟩) 6 6) (some τ3.size) (ints [fr,dst,st,0,0,0]):=.full (n:=6) g3 rfl
  refine mld_callW Sd0 Sd0 (pkFields_c (ws:=twL) (ns:=[fr,dst,st,0,0,0]) (hw.of_ext e3') o3.rd rfl (by decide) (by decide) (by simp)) ?_
  rintro v τ4 ⟨e4,hif⟩
  have hfit:fitsL twL [fr,dst,st,0,0,0]=true:=by
   simp only [twL,fitsL,Bool.and_eq_true,fitsB_iff,and_true]
   simp
   omega
  have e5:=(e2.trans e3).trans (e3'.trans e4)
  rw [hfit] at hif
  obtain ⟨B,rfl⟩:=hif
  refine stepR0 ?_
  exact fin2 ⟨e5,_,_,Sd0,rfl⟩
end Go.Proofs.YtoejdgoicoaomaaGreatDoor
namespace Go.Proofs.YtoejdgoicoaomaaGreatDoor
open Go.Mini
def Dist (s:St):Prop:=∀ i j,i < 10→j < 10→i≠j→s.o i=true→s.o j=true→(s.r i).cell≠(s.r j).cell
theorem clash_iff {was now:List Int} {i k:Nat}:clash was now i k=false↔(now.getD i 0=-1∨now.getD i 0≠now.getD k 0)∧(now.getD i 0=-1∨now.getD k 0=-1∨now.getD i 0≠was.getD k (-1)∨now.getD k 0≠was.getD i (-1)∨now.getD i 0=was.getD i (-1)):=by
 unfold clash
 simp only [Bool.or_eq_false_iff,Bool.and_eq_false_iff,bne_eq_false_iff_eq,beq_eq_false_iff_ne,ne_eq]
 constructor
 ·rintro ⟨h1,h2⟩;refine ⟨h1,?_⟩;omega
 ·rintro ⟨h1,h2⟩;refine ⟨h1,?_⟩;omega
theorem Inv.pl0 {s:St} (h:Inv s) {i:Nat} (hi:i < 10):(s.o i=true∧s.pl i=(s.r i).cell∧0≤s.pl i)∨(s.o i=false∧s.pl i=-1):=by
 unfold St.pl
 cases ho:s.o i
 ·exact .inr ⟨rfl,rfl⟩
 ·exact .inl ⟨rfl,rfl,(opn_lt (h.cell i hi ho)).1⟩
theorem ap_dist {s:St} (h:Inv s):Ap [] (placeL s)↔Dist s:=by
 constructor
 ·intro ha i j hi hj hne oi oj e
  have key:∀ i j,i < 10→j < i→s.o i=true→s.o j=true→(s.r i).cell=(s.r j).cell→False:=fun i j hi hj oi oj e=>by
   have h1:=(clash_iff.1 (ha i hi j hj)).1
   rw [placeL_get s hi,placeL_get s (by omega)] at h1
   unfold St.pl at h1
   rw [if_pos oi,if_pos oj] at h1
   have:=(opn_lt (h.cell i hi oi)).1
   omega
  rcases Nat.lt_or_gt_of_ne hne with hlt | hlt
  ·exact key j i hj hlt oj oi e.symm
  ·exact key i j hi hlt oi oj e
 ·intro hd i hi k hk
  refine clash_iff.2 ?_
  rw [placeL_get s hi,placeL_get s (by omega)]
  have n1:([]:List Int).getD k (-1)=-1:=by simp
  have n2:([]:List Int).getD i (-1)=-1:=by simp
  rw [n1,n2]
  rcases h.pl0 hi with ⟨o1,p1,g1⟩ | ⟨o1,p1⟩
  ·rcases h.pl0 (show k < 10 by omega) with ⟨o2,p2,g2⟩ | ⟨o2,p2⟩
   ·have:=hd i k hi (by omega) (by omega) o1 o2
    rw [p1,p2] at *
    omega
   ·omega
  ·omega
inductive RobT (s:St) (on:List Int) (i:Nat) (r':Rob):Prop where
 | stay (h1:r'.cell=(s.r i).cell) (h2:r'.moved=(s.r i).moved) (h3:r'.adj=(s.r i).adj) (h4:r'.charge - r'.gained=(s.r i).charge - (s.r i).gained) (h5:(s.r i).gained≤r'.gained∧r'.gained≤(s.r i).gained + 20)
 | goes (k:Int) (h0:s.o i=true) (h1:r'.charge=(s.r i).charge - k∧r'.moved=(s.r i).moved + k∧r'.gained=(s.r i).gained∧r'.adj=(s.r i).adj) (h2:k=1∨k=2) (h3:opn s.S r'.cell=true) (h4:r'.cell ∈ nearL s.W s.S (s.r i).cell) (h5:r'.cell ∉ placeL s) (h7:safeB s.W s.H s.S on k r'.cell r'.charge=true)
theorem Qu.robT {a b:St} (h:Qu a b) {on:List Int} {i:Nat} {r':Rob} (k:RobT b on i r'):RobT a on i r':=by
 obtain ⟨e1,e2,e3,e4,e5⟩:=h.rob i
 cases k with
 | stay h1 h2 h3 h4 h5=>exact .stay (h1.trans e1) (h2.trans e3) (h3.trans e5) (by rw [h4,e2,e4]) (by rw [← e4];exact h5)
 | goes k h0 h1 h2 h3 h4 h5 h7=>
   refine .goes k (by rw [← h.keep.o];exact h0) ⟨by rw [h1.1,e2],by rw [h1.2.1,e3],by rw [h1.2.2.1,e4],by rw [h1.2.2.2,e5]⟩ h2 (by rw [← h.keep.S];exact h3) (by rw [← h.keep.W,← h.keep.S,← e1];exact h4) (by rw [← h.place];exact h5) (by rw [← h.keep.W,← h.keep.H,← h.keep.S];exact h7)
structure ActF (on:List Int) (n:Nat) (s t:St):Prop where
 inv:Inv t
 keep:Keep s t
 tick:t.tick=s.tick
 later:∀ j,n≤j→t.r j=s.r j
 rob:∀ j,j < 10→RobT s on j (t.r j)
 dist:Dist t
 tsk:∀ k,(t.t k).fr=(s.t k).fr∧(t.t k).dst=(s.t k).dst∧((t.t k).st=(s.t k).st∨((∃ j,j < n∧s.o j=true∧(s.r j).task=(k:Int))∧((s.t k).st=1∨(s.t k).st=2)∧(t.t k).st=(s.t k).st + 1))
 roff:∀ i,i < 10→s.o i=false→t.r i=s.r i
 toff:∀ k,s.i k=false→t.t k=s.t k
theorem acts_all {s:St} (h:Inv s) (hd:Dist s) (on:List Int):ActF on 10 s (iter (act1 on (placeL s)) 10 s):=by
 refine iter_ind (P:=fun n t=>ActF on n s t) ⟨h,.refl s,rfl,fun _ _=>rfl,fun _ _=>.stay rfl rfl rfl rfl ⟨by omega,by omega⟩,hd,fun _=>⟨rfl,rfl,.inl rfl⟩,fun _ _ _=>rfl,fun _ _=>rfl⟩ fun i t hi ⟨h1,h2,h3,h4,h5,h6,h7,h8,h9⟩=>?_
 obtain ⟨k1,k2⟩:=act1_inv h1 on (placeL s) hi
 generalize act1 on (placeL s) i t=t' at k1 k2
 have hri:=h4 i (Nat.le_refl _)
 refine ⟨k1,h2.trans k2.keep,k2.tick.trans h3,fun j hj=>by rw [k2.oth j (by omega),h4 j (by omega)],fun j hj=>?_,fun j l hj hl hne oj ol=>?_,fun k=>?_,fun j hj oj=>?_,fun k ik=>(k2.toff k (by rw [h2.i];exact ik)).trans (h9 k ik)⟩
 ·by_cases hji:j=i
  ·subst hji
   rcases k2.rob with ⟨a1,a2,a3,a4,a5⟩ | ⟨n,k,a0,a1,a2,a3,a4,a5,a6,a7⟩
   ·rw [hri] at a1 a2 a3 a4 a5;exact .stay a1 a2 a3 a4 a5
   ·rw [hri] at a1 a4 a7
    rw [h2.W,h2.S] at a4;rw [h2.S] at a3;rw [h2.W,h2.H,h2.S] at a7;rw [h2.o] at a0
    rw [a1]
    exact .goes k a0 ⟨rfl,rfl,rfl,rfl⟩ a2 a3 a4 a5 a7
  ·rw [k2.oth j hji];exact h5 j hj
 ·rw [k2.keep.o] at oj ol
  have key:∀ l,l < 10→l≠i→t.o l=true→t.o i=true→(t'.r i).cell≠(t'.r l).cell:=fun l hl hne ol oi=>by
   rw [k2.oth l hne]
   rcases k2.rob with ⟨a1,_⟩ | ⟨n,k,a0,a1,a2,a3,a4,a5,a6,a7⟩
   ·rw [a1];exact h6 i l hi hl (fun e=>hne e.symm) oi ol
   ·rw [a1]
    intro e
    refine a6 (placeL_mem.2 ⟨l,hl,?_⟩)
    unfold St.pl;rw [if_pos ol];exact e.symm
  by_cases hji:j=i
  ·subst hji;exact key l hl (fun e=>hne e.symm) ol oj
  ·by_cases hli:l=i
   ·subst hli;exact (key j hj hji oj ol).symm
   ·rw [k2.oth j hji,k2.oth l hli];exact h6 j l hj hl hne oj ol
 ·obtain ⟨a1,a2,a3⟩:=k2.tsk k
  obtain ⟨b1,b2,b3⟩:=h7 k
  refine ⟨a1.trans b1,a2.trans b2,?_⟩
  rcases a3 with a3 | ⟨c1,c2,c3,c4⟩
  ·rw [a3]
   rcases b3 with b3 | ⟨⟨j,hj,oj,tj⟩,d2,d3⟩
   ·exact .inl b3
   ·exact .inr ⟨⟨j,by omega,oj,tj⟩,d2,d3⟩
  ·rw [hri] at c2;rw [h2.o] at c1
   rcases b3 with b3 | ⟨⟨j,hj,oj,tj⟩,d2,d3⟩
   ·rw [b3] at c3 c4
    exact .inr ⟨⟨i,by omega,c1,c2⟩,c3,c4⟩
   ·have:=h.uniq j i (by omega) hi oj c1 (by rw [tj,c2]) (by rw [tj];omega)
    omega
 ·by_cases hji:j=i
  ·subst hji;rw [k2.roff (by rw [h2.o];exact oj)];exact h8 j hj oj
  ·rw [k2.oth j hji];exact h8 j hj oj
structure TickF (s t:St):Prop where
 inv:Inv t
 keep:Keep s t
 tick:t.tick=s.tick + 1
 rob:∀ i,i < 10→RobT s (onL s.S s.off (gr s.W s.H s.S)) i (t.r i)
 dist:Dist t
 tsk:∀ k,(t.t k).fr=(s.t k).fr∧(t.t k).dst=(s.t k).dst∧((t.t k).st=(s.t k).st∨((t.t k).st=(s.t k).st + 1∧0≤(s.t k).st∧(s.t k).st≤2)∨((s.t k).st=0∧(t.t k).st=2))
 roff:∀ i,i < 10→s.o i=false→t.r i=s.r i
 toff:∀ k,s.i k=false→t.t k=s.t k
theorem Inv.tk {s:St} (h:Inv s) (n:Int):Inv { s with tick:=n }:=⟨⟨h.wf.off,h.wf.byte,h.wf.rob,h.wf.on,h.wf.tsk,h.wf.is⟩,h.g,h.cell,h.chg,h.tsk,h.uniq,h.ends,h.own⟩
theorem Inv.of {s:St} (h:Inv s) (o:List Nat) (ho:o.length=8) (hb:∀ b ∈ o,b < 256):Inv { s with off:=o }:=⟨⟨ho,hb,h.wf.rob,h.wf.on,h.wf.tsk,h.wf.is⟩,h.g,h.cell,h.chg,h.tsk,h.uniq,h.ends,h.own⟩
theorem Qu.dist {a b:St} (h:Qu a b) (hd:Dist a):Dist b:=fun i j hi hj hne oi oj=>by
 rw [h.keep.o] at oi oj
 rw [(h.rob i).1,(h.rob j).1]
 exact hd i j hi hj hne oi oj
theorem tick_inv {s:St} (h:Inv s) (hd:Dist s):TickF s (tickS s):=by
 unfold tickS
 simp only
 generalize hon:onL s.S s.off (gr s.W s.H s.S)=on
 obtain ⟨i1,q1,t1⟩:=strand_inv (h.tk (s.tick + 1)) on
 generalize hs1:iter (strand1 on) 10 { s with tick:=s.tick + 1 }=s1 at *
 obtain ⟨i2,q2,t2⟩:=assign_inv i1 on
 generalize assign on s1=s2 at *
 have hd2:Dist s2:=q2.dist (q1.dist hd)
 have a:=acts_all i2 hd2 on
 have q:=q1.trans q2
 have k0:Keep s { s with tick:=s.tick + 1 }:=⟨rfl,rfl,rfl,rfl,rfl,rfl⟩
 refine ⟨a.inv,k0.trans (q.keep.trans a.keep),a.tick.trans q.tick,fun i hi=>?_,a.dist,fun k=>?_,fun i hi oi=>(a.roff i hi (by rw [q.keep.o];exact oi)).trans (q.roff i oi),fun k ik=>(a.toff k (by rw [q.keep.i];exact ik)).trans (q.toff k ik)⟩
 ·rw [hon]
  rcases q.robT (a.rob i hi) with ⟨a1,a2,a3,a4,a5⟩ | ⟨c,a0,a1,a2,a3,a4,a5,a6⟩
  ·exact .stay a1 a2 a3 a4 a5
  ·exact .goes c a0 a1 a2 a3 a4 a5 a6
 ·obtain ⟨b1,b2,b3⟩:=a.tsk k
  obtain ⟨c1,c2⟩:=q.tsk k
  refine ⟨b1.trans c1,b2.trans c2,?_⟩
  have e1:(s1.t k).st=(s.t k).st:=by rw [t1 k];rfl
  rcases t2 k with e | ⟨e2,e3⟩
  ·rw [e,e1] at b3
   rcases b3 with b3 | ⟨_,b4,b3⟩
   ·exact .inl b3
   ·exact .inr (.inl ⟨b3,by omega,by omega⟩)
  ·rw [e1] at e2
   rw [e3] at b3
   rcases b3 with b3 | ⟨_,_,b3⟩
   ·exact .inr (.inl ⟨by rw [b3,e2];rfl,by omega,by omega⟩)
   ·exact .inr (.inr ⟨e2,by rw [b3];rfl⟩)
theorem tick_ap {s t:St} (h:Inv s) (hd:Dist s) (k:TickF s t):Ap (placeL s) (placeL t):=by
 intro i hi j hj
 refine clash_iff.2 ?_
 rw [placeL_get t hi,placeL_get t (by omega),placeL_get s hi,placeL_get s (by omega)]
 have hj10:j < 10:=by omega
 refine ⟨?_,?_⟩
 ·rcases k.inv.pl0 hi with ⟨o1,p1,g1⟩ | ⟨o1,p1⟩
  ·rcases k.inv.pl0 hj10 with ⟨o2,p2,g2⟩ | ⟨o2,p2⟩
   ·have:=k.dist i j hi hj10 (by omega) o1 o2
    rw [p1,p2];exact .inr this
   ·rw [p2];omega
  ·exact .inl p1
 ·rcases k.rob i hi with ⟨a1,_⟩ | ⟨c,a0,_,_,_,_,a5,_⟩
  ·refine .inr (.inr (.inr (.inr ?_)))
   unfold St.pl;rw [k.keep.o,a1]
  ·refine .inr (.inr (.inl ?_))
   intro e
   refine a5 (placeL_mem.2 ⟨j,hj10,?_⟩)
   rw [← e]
   unfold St.pl;rw [k.keep.o,if_pos a0]
noncomputable def isChg (s:St) (b:Int):Bool:=decide (b ∈ gkind s.S 67 (gr s.W s.H s.S))
noncomputable def madeS (s:St) (nm:Nat) (a b c:Int):St × List (Int × Int) × Int:=
 if nm=1 then ((robotA s a b c).1,[],(robotA s a b c).2)
 else if nm=2 then ((taskA s a b c).1,[],(taskA s a b c).2)
 else if nm=5 then ((tellA s a b).1,[],(tellA s a b).2)
 else if nm=3∨nm=4 then
  if isChg s b=true then ({ s with off:=turn s.off b (nm == 3) },[],0) else (s,[],1)
 else if nm=6 then (tickS s,cmdsL (tickS s) 10,0)
 else (s,[],1)
noncomputable def doE (s:St) (nm:Nat) (a b c:Int):Int:=
 if rightS s=true then
  if (madeS s nm a b c).2.2=0 then if recd (madeS s nm a b c).1=true then 0 else 8 else (madeS s nm a b c).2.2
 else 1
theorem doE_zero {s:St} {nm:Nat} {a b c:Int} (h:doE s nm a b c=0):rightS s=true∧(madeS s nm a b c).2.2=0∧recd (madeS s nm a b c).1=true:=by
 unfold doE at h
 split at h
 ·rename_i h1
  split at h
  ·rename_i h2
   split at h
   ·rename_i h3;exact ⟨h1,h2,h3⟩
   ·omega
  ·rename_i h2;exact absurd h h2
 ·omega
structure Rt (s:St):Prop where
 inv:Inv s
 rcd:recd s=true
 dist:Dist s
theorem right_rt {s:St} (hw:s.WF):rightS s=true↔Rt s:=by
 rw [right_inv hw]
 constructor
 ·rintro ⟨h1,h2,h3⟩;exact ⟨h1,h2,(ap_dist h1).1 h3⟩
 ·rintro ⟨h1,h2,h3⟩;exact ⟨h1,h2,(ap_dist h1).2 h3⟩
theorem ap_same {s t:St} (h:Inv t) (hd:Dist t) (hp:∀ i,i < 10→s.pl i=t.pl i∨s.pl i=-1):Ap (placeL s) (placeL t):=by
 intro i hi j hj
 have hj10:j < 10:=by omega
 refine clash_iff.2 ?_
 rw [placeL_get t hi,placeL_get t hj10,placeL_get s hi,placeL_get s hj10]
 have h1:=hp i hi
 have h2:=hp j hj10
 rcases h.pl0 hi with ⟨o1,p1,g1⟩ | ⟨o1,p1⟩
 ·rcases h.pl0 hj10 with ⟨o2,p2,g2⟩ | ⟨o2,p2⟩
  ·have:=hd i j hi hj10 (by omega) o1 o2
   rw [← p1,← p2] at this
   omega
  ·omega
 ·omega
structure DoF (s:St) (nm:Nat) (a b c:Int) (t:St):Prop where
 W:t.W=s.W
 H:t.H=s.H
 S:t.S=s.S
 rt:Rt t
 ap:Ap (placeL s) (placeL t)
theorem robotA_ok {s:St} {a b c:Int} (h:(robotA s a b c).2=0):0≤a∧a < 10∧opnG s b=true∧0≤c∧c≤200∧s.o a.toNat=false∧freeB s b=true∧(robotA s a b c).1={ s.setR a.toNat ⟨b,c,0,-1,0,0,0⟩ with on:=s.on.set a.toNat true }:=by
 unfold robotA at *
 split at h
 ·simp at h
 ·rename_i h1
  rw [if_neg h1]
  simp only [not_or,Bool.not_eq_false] at h1
  split at h
  ·simp at h
  ·rename_i h2
   rw [if_neg h2]
   split at h
   ·simp at h
   ·rename_i h3
    rw [if_neg h3]
    refine ⟨by omega,by omega,h1.2.2.1,by omega,by omega,by simpa using h2,by simpa using h3,rfl⟩
theorem taskA_ok {s:St} {a b c:Int} (h:(taskA s a b c).2=0):0≤a∧a < 20∧opnG s b=true∧opnG s c=true∧s.i a.toNat=false∧(taskA s a b c).1={ s.setT a.toNat ⟨b,c,0⟩ with is:=s.is.set a.toNat true }:=by
 unfold taskA at *
 split at h
 ·simp at h
 ·rename_i h1
  rw [if_neg h1]
  simp only [not_or,Bool.not_eq_false] at h1
  split at h
  ·simp at h
  ·rename_i h2
   rw [if_neg h2]
   exact ⟨by omega,by omega,h1.2.2.1,h1.2.2.2,by simpa using h2,rfl⟩
theorem tellA_ok {s:St} {a b:Int} (h:(tellA s a b).2=0):0≤a∧a < 10∧0≤b∧b≤200∧s.o a.toNat=true∧(tellA s a b).1=s.setR a.toNat ((setR (s.r a.toNat) b).getD (s.r a.toNat)):=by
 unfold tellA at *
 split at h
 ·simp at h
 ·rename_i h1
  rw [if_neg h1]
  simp only [not_or] at h1
  split at h
  ·simp at h
  ·rename_i h2
   rw [if_neg h2]
   exact ⟨by omega,by omega,by omega,by omega,by simpa using h2,rfl⟩
theorem Rt.robOK {s:St} (h:Rt s) {i:Nat} (hi:i < 10) (o:s.o i=true):robOK (s.r i)=true:=by
 have:=(recd_iff.1 h.rcd).2.1 i hi
 rwa [if_pos o] at this
theorem Rt.rob0 {s:St} (h:Rt s) {i:Nat} (hi:i < 10) (o:s.o i=false):(s.r i).is0=true:=by
 have:=(recd_iff.1 h.rcd).2.1 i hi
 rwa [if_neg (by rw [o];simp)] at this
theorem Rt.tsk0 {s:St} (h:Rt s) {k:Nat} (hk:k < 20) (o:s.i k=false):(s.t k).is0=true:=by
 have:=(recd_iff.1 h.rcd).2.2 k hk
 rwa [if_neg (by rw [o];simp)] at this
theorem setR_good {r:Rob} {b:Int} (hr:robOK r=true) (h0:0≤b) (h2:b≤200):setR r b=some { r with charge:=b,adj:=r.adj + (b - r.charge) }:=by
 unfold setR
 obtain ⟨_,h3,_,_,h4,h5,h6⟩:=robOK_iff.1 hr
 rw [if_pos]
 simp only [Bool.and_eq_true,accOK_iff,inB_iff,great]
 refine ⟨⟨⟨by omega,by omega,by omega,by omega⟩,by omega⟩,by omega,by omega,by omega,by omega⟩
def newS (W Hh:Int) (S:ByteArray):St:=⟨W,Hh,S,0,List.replicate 8 0,List.replicate 10 zR,List.replicate 10 false,List.replicate 20 zT,List.replicate 20 false⟩
theorem newS_o {W Hh:Int} {S:ByteArray} (i:Nat):(newS W Hh S).o i=false:=by
 unfold newS St.o
 simp only [List.getD_eq_getElem?_getD,List.getElem?_replicate]
 split<;>rfl
theorem newS_i {W Hh:Int} {S:ByteArray} (i:Nat):(newS W Hh S).i i=false:=by
 unfold newS St.i
 simp only [List.getD_eq_getElem?_getD,List.getElem?_replicate]
 split<;>rfl
theorem newS_r {W Hh:Int} {S:ByteArray} (i:Nat):(newS W Hh S).r i=zR:=by
 unfold newS St.r
 simp only [List.getD_eq_getElem?_getD,List.getElem?_replicate]
 split<;>rfl
theorem newS_t {W Hh:Int} {S:ByteArray} (i:Nat):(newS W Hh S).t i=zT:=by
 unfold newS St.t
 simp only [List.getD_eq_getElem?_getD,List.getElem?_replicate]
 split<;>rfl
theorem newS_wf {W Hh:Int} {S:ByteArray}:(newS W Hh S).WF:=⟨rfl,fun b hb=>by simp [newS] at hb;omega,rfl,rfl,rfl,rfl⟩
theorem newS_rt {W Hh:Int} {S:ByteArray} (hg:gr W Hh S=true):Rt (newS W Hh S):=by
 refine ⟨⟨newS_wf,hg,fun i _ o=>?_,fun i _ o=>?_,fun i _ o=>?_,fun i j _ _ o=>?_,fun i _ o=>?_,fun i _ o=>?_⟩,recd_iff.2 ⟨⟨Int.le_refl _,by show (0:Int)≤_;omega⟩,fun i hi=>?_,fun k hk=>?_⟩,fun i j _ _ _ o=>?_⟩
 ·rw [newS_o] at o;cases o
 ·rw [newS_o] at o;cases o
 ·rw [newS_o] at o;cases o
 ·rw [newS_o] at o;cases o
 ·rw [newS_i] at o;cases o
 ·rw [newS_i] at o;cases o
 ·rw [if_neg (by rw [newS_o];simp),newS_r];rfl
 ·rw [if_neg (by rw [newS_i];simp),newS_t];rfl
 ·rw [newS_o] at o;cases o
section
variable {s:St}
theorem on_set (h:s.WF) {i:Nat} (hi:i < 10) (s':St) (e:s'.on=s.on.set i true) (j:Nat):s'.o j=if j=i then true else s.o j:=by
 unfold St.o;rw [e];exact getDset (by rw [h.on];exact hi)
theorem is_set (h:s.WF) {i:Nat} (hi:i < 20) (s':St) (e:s'.is=s.is.set i true) (j:Nat):s'.i j=if j=i then true else s.i j:=by
 unfold St.i;rw [e];exact getDset (by rw [h.is];exact hi)
end
theorem robot_rt {s:St} (h:Rt s) {a b c:Int} (he:(robotA s a b c).2=0):let t:=(robotA s a b c).1;Inv t∧Dist t∧(∀ i,i < 10→s.pl i=t.pl i∨s.pl i=-1)∧robOK (t.r a.toNat)=true:=by
 obtain ⟨h0,h1,h2,h3,h4,h5,h6,h7⟩:=robotA_ok he
 rw [h7]
 simp only
 have ha:a.toNat < 10:=by omega
 have hw:=h.inv.wf
 generalize ht:({ s.setR a.toNat ⟨b,c,0,-1,0,0,0⟩ with on:=s.on.set a.toNat true }:St)=t
 have to:=on_set hw ha t (by rw [← ht])
 have tr:∀ j,t.r j=if j=a.toNat then ⟨b,c,0,-1,0,0,0⟩ else s.r j:=fun j=>by rw [← ht];exact hw.setR_r ha _ j
 have tt:∀ j,t.t j=s.t j:=fun j=>by rw [← ht];rfl
 have ti:∀ j,t.i j=s.i j:=fun j=>by rw [← ht];rfl
 have tS:t.S=s.S:=by rw [← ht];rfl
 have tw:t.WF:=by rw [← ht];exact ⟨hw.off,hw.byte,by simpa [St.setR] using hw.rob,by simpa using hw.on,hw.tsk,hw.is⟩
 have tg:gr t.W t.H t.S=true:=by rw [← ht];exact h.inv.g
 have hfree:∀ j,j < 10→s.o j=true→(s.r j).cell≠b:=fun j hj oj e=>by
  unfold freeB at h6
  rw [Bool.or_eq_true,decide_eq_true_eq,Bool.not_eq_true',decide_eq_false_iff_not] at h6
  rcases h6 with h6 | h6
  ·have:=(opn_lt (opnG_iff.1 h2).2).1;omega
  ·exact h6 (placeL_mem.2 ⟨j,hj,by unfold St.pl;rw [if_pos oj];exact e⟩)
 refine ⟨⟨tw,tg,fun j hj oj=>?_,fun j hj oj=>?_,fun j hj oj=>?_,fun j l hj hl oj ol e hne=>?_,fun k hk ik=>?_,fun k hk ik hst=>?_⟩,fun j l hj hl hne oj ol=>?_,fun j hj=>?_,?_⟩
 ·rw [tr,tS];rw [to] at oj
  split
  ·exact (opnG_iff.1 h2).2
  ·rename_i hne;rw [if_neg hne] at oj;exact h.inv.cell j hj oj
 ·rw [tr];rw [to] at oj
  split
  ·exact ⟨h3,h4⟩
  ·rename_i hne;rw [if_neg hne] at oj;exact h.inv.chg j hj oj
 ·rw [tr];rw [to] at oj
  split
  ·exact .inl ⟨rfl,.inl rfl⟩
  ·rename_i hne;rw [if_neg hne] at oj
   rcases h.inv.tsk j hj oj with h1 | ⟨k,hk,hkt,hik,hc⟩
   ·exact .inl h1
   ·exact .inr ⟨k,hk,hkt,by rw [ti];exact hik,by rw [tt];exact hc⟩
 ·rw [to] at oj ol
  rw [tr j] at e hne
  by_cases hja:j=a.toNat
  ·rw [if_pos hja] at hne;exact absurd rfl hne
  ·rw [if_neg hja] at e hne oj
   rw [tr l] at e
   by_cases hla:l=a.toNat
   ·rw [if_pos hla] at e;exact absurd e hne
   ·rw [if_neg hla] at e ol;exact h.inv.uniq j l hj hl oj ol e hne
 ·rw [tt,tS];rw [ti] at ik;exact h.inv.ends k hk ik
 ·rw [ti] at ik;rw [tt] at hst
  obtain ⟨j,hj,oj,tj⟩:=h.inv.own k hk ik hst
  have hne:j≠a.toNat:=fun e=>by rw [e,h5] at oj;cases oj
  exact ⟨j,hj,by rw [to,if_neg hne];exact oj,by rw [tr,if_neg hne];exact tj⟩
 ·rw [to] at oj ol
  rw [tr j,tr l]
  by_cases hja:j=a.toNat
  ·rw [if_pos hja]
   have hla:l≠a.toNat:=fun e=>hne (by rw [hja,e])
   rw [if_neg hla] at ol ⊢
   exact (hfree l hl ol).symm
  ·rw [if_neg hja] at oj ⊢
   by_cases hla:l=a.toNat
   ·rw [if_pos hla];exact hfree j hj oj
   ·rw [if_neg hla] at ol ⊢;exact h.dist j l hj hl hne oj ol
 ·unfold St.pl
  rw [to,tr]
  by_cases hja:j=a.toNat
  ·right;rw [hja,h5];rfl
  ·left;rw [if_neg hja,if_neg hja]
 ·rw [tr,if_pos rfl]
  refine robOK_iff.2 ?_
  have hb:=opn_lt (opnG_iff.1 h2).2
  have hS:=gr_size h.inv.g
  refine ⟨⟨hb.1,?_⟩,⟨h3,h4⟩,⟨?_,?_⟩,⟨?_,?_⟩,⟨?_,?_⟩,⟨?_,?_⟩,⟨?_,?_⟩⟩<;>simp only<;>omega
theorem task_rt {s:St} (h:Rt s) {a b c:Int} (he:(taskA s a b c).2=0):let t:=(taskA s a b c).1;Inv t∧Dist t∧(∀ i,t.r i=s.r i)∧(∀ i,t.o i=s.o i):=by
 obtain ⟨h0,h1,h2,h3,h5,h7⟩:=taskA_ok he
 rw [h7]
 simp only
 have ha:a.toNat < 20:=by omega
 have hw:=h.inv.wf
 generalize ht:({ s.setT a.toNat ⟨b,c,0⟩ with is:=s.is.set a.toNat true }:St)=t
 have ti:=is_set hw ha t (by rw [← ht])
 have tt:∀ j,t.t j=if j=a.toNat then ⟨b,c,0⟩ else s.t j:=fun j=>by rw [← ht];exact hw.setT_t ha _ j
 have tr:∀ j,t.r j=s.r j:=fun j=>by rw [← ht];rfl
 have to:∀ j,t.o j=s.o j:=fun j=>by rw [← ht];rfl
 have tS:t.S=s.S:=by rw [← ht];rfl
 have tw:t.WF:=by rw [← ht];exact ⟨hw.off,hw.byte,hw.rob,hw.on,by simpa [St.setT] using hw.tsk,by simpa using hw.is⟩
 have tg:gr t.W t.H t.S=true:=by rw [← ht];exact h.inv.g
 refine ⟨⟨tw,tg,fun j hj oj=>?_,fun j hj oj=>?_,fun j hj oj=>?_,fun j l hj hl oj ol e hne=>?_,fun k hk ik=>?_,fun k hk ik hst=>?_⟩,fun j l hj hl hne oj ol=>?_,tr,to⟩
 ·rw [tr,tS];rw [to] at oj;exact h.inv.cell j hj oj
 ·rw [tr];rw [to] at oj;exact h.inv.chg j hj oj
 ·rw [tr];rw [to] at oj
  rcases h.inv.tsk j hj oj with h1 | ⟨k,hk,hkt,hik,hc⟩
  ·exact .inl h1
  ·have hne:k≠a.toNat:=fun e=>by rw [e,h5] at hik;cases hik
   exact .inr ⟨k,hk,hkt,by rw [ti,if_neg hne];exact hik,by rw [tt,if_neg hne];exact hc⟩
 ·rw [to] at oj ol;rw [tr,tr] at e;rw [tr] at hne;exact h.inv.uniq j l hj hl oj ol e hne
 ·rw [tt,tS];rw [ti] at ik
  split
  ·exact ⟨(opnG_iff.1 h2).2,(opnG_iff.1 h3).2⟩
  ·rename_i hne;rw [if_neg hne] at ik;exact h.inv.ends k hk ik
 ·rw [ti] at ik;rw [tt] at hst
  by_cases hka:k=a.toNat
  ·rw [if_pos hka] at hst
   have:(0:Int)=1∨(0:Int)=2:=hst
   omega
  ·rw [if_neg hka] at hst ik
   obtain ⟨j,hj,oj,tj⟩:=h.inv.own k hk ik hst
   exact ⟨j,hj,by rw [to];exact oj,by rw [tr];exact tj⟩
 ·rw [to] at oj ol;rw [tr,tr];exact h.dist j l hj hl hne oj ol
theorem tell_rt {s:St} (h:Rt s) {a b:Int} (he:(tellA s a b).2=0):∃ i:Nat,a=i∧i < 10∧s.o i=true∧(tellA s a b).1=s.setR i { s.r i with charge:=b,adj:=(s.r i).adj + (b - (s.r i).charge) }∧0≤b∧b≤200:=by
 obtain ⟨h0,h1,h2,h3,h5,h7⟩:=tellA_ok he
 have ha:a.toNat < 10:=by omega
 refine ⟨a.toNat,by omega,ha,h5,?_,h2,h3⟩
 rw [h7,setR_good (h.robOK ha h5) h2 h3];rfl
theorem made_rt {s:St} (h:Rt s) {nm:Nat} {a b c:Int} (he:(madeS s nm a b c).2.2=0):let t:=(madeS s nm a b c).1;Inv t∧Dist t∧Ap (placeL s) (placeL t)∧t.W=s.W∧t.H=s.H∧t.S=s.S:=by
 unfold madeS at *
 by_cases n1:nm=1
 ·rw [if_pos n1] at he ⊢
  simp only at *
  obtain ⟨k1,k2,k3,_⟩:=robot_rt h he
  obtain ⟨_,_,_,_,_,_,_,h7⟩:=robotA_ok he
  refine ⟨k1,k2,ap_same k1 k2 k3,?_,?_,?_⟩<;>rw [h7]<;>rfl
 rw [if_neg n1] at he ⊢
 by_cases n2:nm=2
 ·rw [if_pos n2] at he ⊢
  simp only at *
  obtain ⟨k1,k2,k3,k4⟩:=task_rt h he
  obtain ⟨_,_,_,_,_,h7⟩:=taskA_ok he
  refine ⟨k1,k2,ap_same k1 k2 (fun i _=>.inl (by unfold St.pl;rw [k3,k4])),?_,?_,?_⟩<;>rw [h7]<;>rfl
 rw [if_neg n2] at he ⊢
 by_cases n5:nm=5
 ·rw [if_pos n5] at he ⊢
  simp only at *
  obtain ⟨i,rfl,hi,oi,h7,h8,h9⟩:=tell_rt h he
  rw [h7]
  have hr:=h.inv.wf.setR_r hi { s.r i with charge:=b,adj:=(s.r i).adj + (b - (s.r i).charge) }
  have ki:Inv (s.setR i { s.r i with charge:=b,adj:=(s.r i).adj + (b - (s.r i).charge) }):=h.inv.upd hi rfl (h.inv.cell i hi) (fun _=>⟨h8,h9⟩) (fun o=>h.inv.tsk i hi o)
  have hcell:∀ j,((s.setR i { s.r i with charge:=b,adj:=(s.r i).adj + (b - (s.r i).charge) }).r j).cell=(s.r j).cell:=fun j=>by
   rw [hr];split
   ·rename_i e;subst e;rfl
   ·rfl
  have kd:Dist (s.setR i { s.r i with charge:=b,adj:=(s.r i).adj + (b - (s.r i).charge) }):=fun j l hj hl hne oj ol=>by
   rw [hcell,hcell];exact h.dist j l hj hl hne oj ol
  exact ⟨ki,kd,ap_same ki kd (fun j _=>.inl (by unfold St.pl;rw [hcell];rfl)),by first | trivial | rfl,by first | trivial | rfl,by first | trivial | rfl⟩
 rw [if_neg n5] at he ⊢
 by_cases n34:nm=3∨nm=4
 ·rw [if_pos n34] at he ⊢
  by_cases hb:isChg s b=true
  ·rw [if_pos hb]
   have ki:=h.inv.of (turn s.off b (nm == 3)) (by rw [turn_len];exact h.inv.wf.off) (turn_lt h.inv.wf.byte _ _)
   generalize ht:({ s with off:=turn s.off b (nm == 3) }:St)=t at ki
   have kd:Dist t:=by rw [← ht];exact h.dist
   have kp:∀ j,s.pl j=t.pl j:=fun j=>by rw [← ht];rfl
   have kW:t.W=s.W∧t.H=s.H∧t.S=s.S:=by rw [← ht];exact ⟨rfl,rfl,rfl⟩
   exact ⟨ki,kd,ap_same ki kd (fun j _=>.inl (kp j)),kW⟩
  ·rw [if_neg hb] at he;simp at he
 rw [if_neg n34] at he ⊢
 by_cases n6:nm=6
 ·rw [if_pos n6]
  have k:=tick_inv h.inv h.dist
  generalize tickS s=t at k ⊢
  exact ⟨k.inv,k.dist,tick_ap h.inv h.dist k,k.keep.W,k.keep.H,k.keep.S⟩
 ·rw [if_neg n6] at he;simp at he
theorem do_rt {s:St} (hw:s.WF) {nm:Nat} {a b c:Int} (he:doE s nm a b c=0):DoF s nm a b c (madeS s nm a b c).1:=by
 obtain ⟨h1,h2,h3⟩:=doE_zero he
 obtain ⟨k1,k2,k3,k4,k5,k6⟩:=made_rt ((right_rt hw).1 h1) h2
 exact ⟨k4,k5,k6,⟨k1,h3,k2⟩,k3⟩
end Go.Proofs.YtoejdgoicoaomaaGreatDoor
namespace Go.Proofs.YtoejdgoicoaomaaGreatDoor
open Go.Mini
structure Bnd (n:Int) (s:St):Prop where
 tick:0≤s.tick∧s.tick≤n
 rob:∀ i,i < 10→s.o i=true→(-(200 * n)≤(s.r i).adj∧(s.r i).adj≤200 * n)∧(0≤(s.r i).moved∧(s.r i).moved≤2 * n)∧(0≤(s.r i).gained∧(s.r i).gained≤20 * n)
theorem Bnd.mono {n m:Int} {s:St} (h:Bnd n s) (hm:n≤m):Bnd m s:=by
 refine ⟨⟨h.tick.1,by have:=h.tick.2;omega⟩,fun i hi o=>?_⟩
 have:=h.rob i hi o
 omega
theorem newS_bnd {W Hh:Int} {S:ByteArray}:Bnd 0 (newS W Hh S):=⟨⟨Int.le_refl _,Int.le_refl _⟩,fun i _ o=>by rw [newS_o] at o;cases o⟩
theorem Rt.tskOK {s:St} (h:Rt s) {k:Nat} (hk:k < 20) (o:s.i k=true):tskOK (s.t k)=true:=by
 have:=(recd_iff.1 h.rcd).2.2 k hk
 rwa [if_pos o] at this
theorem SuitP.rng {s:St} {r:Rob} (h:SuitP s r):(0≤r.phase∧r.phase≤4)∧(-1≤r.task∧r.task≤19):=by
 rcases h with ⟨h1,h2⟩ | ⟨k,hk,hkt,_,hc⟩
 ·omega
 ·rcases hc with ⟨h,_⟩ | ⟨h,_⟩ | ⟨h,_⟩<;>omega
theorem recd_of {t:St} (h:Inv t) {n:Int} (hb:Bnd n t) (hn:n≤150) (hoff:∀ i,i < 10→t.o i=false→(t.r i).is0=true) (hst:∀ k,k < 20→t.i k=true→0≤(t.t k).st∧(t.t k).st≤3) (hto:∀ k,k < 20→t.i k=false→(t.t k).is0=true):recd t=true:=by
 have hS:=gr_size h.g
 refine recd_iff.2 ⟨⟨hb.tick.1,by have:=hb.tick.2;omega⟩,fun i hi=>?_,fun k hk=>?_⟩
 ·split
  ·rename_i o
   have hc:=opn_lt (h.cell i hi o)
   have hg:=h.chg i hi o
   have hs:=(h.tsk i hi o).rng
   have hr:=hb.rob i hi o
   exact robOK_iff.2 ⟨⟨hc.1,by omega⟩,hg,hs.1,hs.2,by omega,by omega,by omega⟩
  ·rename_i o;exact hoff i hi (by simpa using o)
 ·split
  ·rename_i o
   have he:=h.ends k hk o
   have h1:=opn_lt he.1
   have h2:=opn_lt he.2
   exact tskOK_iff.2 ⟨⟨h1.1,by omega⟩,⟨h2.1,by omega⟩,hst k hk o⟩
  ·rename_i o;exact hto k hk (by simpa using o)
theorem made_bnd {s:St} (h:Rt s) {n:Int} (hn:Bnd n s) (hn2:n + 1≤150) {nm:Nat} {a b c:Int} (he:(madeS s nm a b c).2.2=0):Bnd (n + 1) (madeS s nm a b c).1∧recd (madeS s nm a b c).1=true:=by
 obtain ⟨k1,_⟩:=made_rt h he
 have hn0:0≤n:=by have:=hn.tick;omega
 unfold madeS at *
 by_cases n1:nm=1
 ·rw [if_pos n1] at he k1 ⊢
  try simp only at *
  obtain ⟨h0,h1,h2,h3,h4,h5,h6,h7⟩:=robotA_ok he
  have ha:a.toNat < 10:=by omega
  have hw:=h.inv.wf
  rw [h7] at k1 ⊢
  generalize ht:({ s.setR a.toNat ⟨b,c,0,-1,0,0,0⟩ with on:=s.on.set a.toNat true }:St)=t at *
  have to:=on_set hw ha t (by rw [← ht])
  have tr:∀ j,t.r j=if j=a.toNat then ⟨b,c,0,-1,0,0,0⟩ else s.r j:=fun j=>by rw [← ht];exact hw.setR_r ha _ j
  have tt:∀ j,t.t j=s.t j:=fun j=>by rw [← ht];rfl
  have ti:∀ j,t.i j=s.i j:=fun j=>by rw [← ht];rfl
  have tk:t.tick=s.tick:=by rw [← ht];rfl
  have hb:Bnd (n + 1) t:=by
   refine ⟨by rw [tk];have:=hn.tick;omega,fun j hj oj=>?_⟩
   rw [to] at oj;rw [tr]
   split
   ·simp only;omega
   ·rename_i hne;rw [if_neg hne] at oj;have:=hn.rob j hj oj;omega
  refine ⟨hb,recd_of k1 hb hn2 (fun i hi oi=>?_) (fun k hk ik=>?_) fun k hk ik=>?_⟩
  ·rw [to] at oi;rw [tr]
   by_cases hia:i=a.toNat
   ·rw [if_pos hia] at oi;cases oi
   ·rw [if_neg hia] at oi ⊢;exact h.rob0 hi oi
  ·rw [ti] at ik;rw [tt];exact (tskOK_iff.1 (h.tskOK hk ik)).2.2
  ·rw [ti] at ik;rw [tt];exact h.tsk0 hk ik
 rw [if_neg n1] at he k1 ⊢
 by_cases n2:nm=2
 ·rw [if_pos n2] at he k1 ⊢
  try simp only at *
  obtain ⟨h0,h1,h2,h3,h5,h7⟩:=taskA_ok he
  obtain ⟨_,_,tr,to⟩:=task_rt h he
  try simp only at tr to
  have ha:a.toNat < 20:=by omega
  have hw:=h.inv.wf
  rw [h7] at k1 tr to ⊢
  generalize ht:({ s.setT a.toNat ⟨b,c,0⟩ with is:=s.is.set a.toNat true }:St)=t at *
  have ti:=is_set hw ha t (by rw [← ht])
  have tt:∀ j,t.t j=if j=a.toNat then ⟨b,c,0⟩ else s.t j:=fun j=>by rw [← ht];exact hw.setT_t ha _ j
  have tk:t.tick=s.tick:=by rw [← ht];rfl
  have hb:Bnd (n + 1) t:=by
   refine ⟨by rw [tk];have:=hn.tick;omega,fun j hj oj=>?_⟩
   rw [to] at oj;rw [tr];have:=hn.rob j hj oj;omega
  refine ⟨hb,recd_of k1 hb hn2 (fun i hi oi=>?_) (fun k hk ik=>?_) fun k hk ik=>?_⟩
  ·rw [to] at oi;rw [tr];exact h.rob0 hi oi
  ·rw [ti] at ik;rw [tt]
   split
   ·exact ⟨Int.le_refl _,by show (0:Int)≤3;omega⟩
   ·rename_i hne;rw [if_neg hne] at ik;exact (tskOK_iff.1 (h.tskOK hk ik)).2.2
  ·rw [ti] at ik;rw [tt]
   by_cases hka:k=a.toNat
   ·rw [if_pos hka] at ik;cases ik
   ·rw [if_neg hka] at ik ⊢;exact h.tsk0 hk ik
 rw [if_neg n2] at he k1 ⊢
 by_cases n5:nm=5
 ·rw [if_pos n5] at he k1 ⊢
  try simp only at *
  obtain ⟨i,rfl,hi,oi,h7,h8,h9⟩:=tell_rt h he
  have hch:=h.inv.chg i hi oi
  rw [h7] at k1 ⊢
  have tr:=h.inv.wf.setR_r hi { s.r i with charge:=b,adj:=(s.r i).adj + (b - (s.r i).charge) }
  have hb:Bnd (n + 1) (s.setR i { s.r i with charge:=b,adj:=(s.r i).adj + (b - (s.r i).charge) }):=by
   refine ⟨by have:=hn.tick;show 0≤s.tick∧s.tick≤n + 1;omega,fun j hj oj=>?_⟩
   have:=hn.rob j hj oj
   rw [tr]
   split
   ·rename_i e;subst e;simp only;omega
   ·omega
  refine ⟨hb,recd_of k1 hb hn2 (fun j hj oj=>?_) (fun k hk ik=>?_) fun k hk ik=>?_⟩
  ·rw [tr,if_neg]
   ·exact h.rob0 hj oj
   ·rintro rfl;rw [setR_o,oi] at oj;cases oj
  ·exact (tskOK_iff.1 (h.tskOK hk ik)).2.2
  ·exact h.tsk0 hk ik
 rw [if_neg n5] at he k1 ⊢
 by_cases n34:nm=3∨nm=4
 ·rw [if_pos n34] at he k1 ⊢
  by_cases hb:isChg s b=true
  ·rw [if_pos hb] at k1 ⊢
   try simp only at *
   have hb':Bnd (n + 1) { s with off:=turn s.off b (nm == 3) }:=⟨(hn.mono (show n≤n + 1 by omega)).tick,(hn.mono (show n≤n + 1 by omega)).rob⟩
   exact ⟨hb',recd_of k1 hb' hn2 (fun i hi oi=>h.rob0 hi oi) (fun k hk ik=>(tskOK_iff.1 (h.tskOK hk ik)).2.2) fun k hk ik=>h.tsk0 hk ik⟩
  ·rw [if_neg hb] at he;simp at he
 rw [if_neg n34] at he k1 ⊢
 by_cases n6:nm=6
 ·rw [if_pos n6] at k1 ⊢
  try simp only at *
  have k:=tick_inv h.inv h.dist
  generalize tickS s=t at *
  have hb:Bnd (n + 1) t:=by
   refine ⟨by rw [k.tick];have:=hn.tick;omega,fun j hj oj=>?_⟩
   rw [k.keep.o] at oj
   have:=hn.rob j hj oj
   rcases k.rob j hj with ⟨a1,a2,a3,a4,a5⟩ | ⟨c,a0,a1,a2,_⟩
   ·rw [a2,a3];omega
   ·rw [a1.2.1,a1.2.2.1,a1.2.2.2];omega
  refine ⟨hb,recd_of k1 hb hn2 (fun i hi oi=>?_) (fun j hj ij=>?_) fun j hj ij=>?_⟩
  ·rw [k.keep.o] at oi;rw [k.roff i hi oi];exact h.rob0 hi oi
  ·rw [k.keep.i] at ij
   have h1:=(tskOK_iff.1 (h.tskOK hj ij)).2.2
   rcases (k.tsk j).2.2 with e | ⟨e,e2,e3⟩ | ⟨e,e2⟩
   ·rw [e];exact h1
   ·omega
   ·omega
  ·rw [k.keep.i] at ij;rw [k.toff j ij];exact h.tsk0 hj ij
 ·rw [if_neg n6] at he;simp at he
theorem doE_few {s:St} (h:Rt s) {n:Int} (hn:Bnd n s) (hn2:n + 1≤150) (nm:Nat) (a b c:Int):doE s nm a b c=(madeS s nm a b c).2.2:=by
 unfold doE
 rw [if_pos ((right_rt h.inv.wf).2 h)]
 split
 ·rename_i h2
  rw [if_pos (made_bnd h hn hn2 h2).2,h2]
 ·rfl
def Rob.sum (r:Rob):Int:=r.charge + r.moved - r.gained - r.adj
theorem made_sum {s:St} (h:Rt s) {nm:Nat} {a b c:Int} (he:(madeS s nm a b c).2.2=0) (hr:recd (madeS s nm a b c).1=true) {i:Nat} (hi:i < 10) (ho:(madeS s nm a b c).1.o i=true):
 (s.o i=true∧((madeS s nm a b c).1.r i).sum=(s.r i).sum)∨(s.o i=false∧((madeS s nm a b c).1.r i).sum=((madeS s nm a b c).1.r i).charge):=by
 unfold madeS at *
 by_cases n1:nm=1
 ·rw [if_pos n1] at he hr ho ⊢
  try simp only at *
  obtain ⟨h0,h1,h2,h3,h4,h5,h6,h7⟩:=robotA_ok he
  have ha:a.toNat < 10:=by omega
  have hw:=h.inv.wf
  rw [h7] at ho ⊢
  have to:=on_set hw ha { s.setR a.toNat ⟨b,c,0,-1,0,0,0⟩ with on:=s.on.set a.toNat true } rfl i
  have tr:({ s.setR a.toNat ⟨b,c,0,-1,0,0,0⟩ with on:=s.on.set a.toNat true }:St).r i=if i=a.toNat then ⟨b,c,0,-1,0,0,0⟩ else s.r i:=hw.setR_r ha _ i
  rw [to] at ho;rw [tr]
  by_cases hia:i=a.toNat
  ·right;rw [if_pos hia,hia];exact ⟨h5,by simp [Rob.sum]⟩
  ·left;rw [if_neg hia] at ho ⊢;exact ⟨ho,rfl⟩
 rw [if_neg n1] at he hr ho ⊢
 by_cases n2:nm=2
 ·rw [if_pos n2] at he hr ho ⊢
  try simp only at *
  obtain ⟨_,_,tr,to⟩:=task_rt h he
  try simp only at tr to
  rw [to] at ho;rw [tr];exact .inl ⟨ho,rfl⟩
 rw [if_neg n2] at he hr ho ⊢
 by_cases n5:nm=5
 ·rw [if_pos n5] at he hr ho ⊢
  try simp only at *
  obtain ⟨j,rfl,hj,oj,h7,h8,h9⟩:=tell_rt h he
  rw [h7] at ho ⊢
  rw [h.inv.wf.setR_r hj]
  left
  refine ⟨ho,?_⟩
  split
  ·rename_i e;subst e;simp only [Rob.sum];omega
  ·rfl
 rw [if_neg n5] at he hr ho ⊢
 by_cases n34:nm=3∨nm=4
 ·rw [if_pos n34] at he hr ho ⊢
  by_cases hb:isChg s b=true
  ·rw [if_pos hb] at ho ⊢;exact .inl ⟨ho,rfl⟩
  ·rw [if_neg hb] at he;simp at he
 rw [if_neg n34] at he hr ho ⊢
 by_cases n6:nm=6
 ·rw [if_pos n6] at ho ⊢
  try simp only at *
  have k:=tick_inv h.inv h.dist
  rw [k.keep.o] at ho
  refine .inl ⟨ho,?_⟩
  unfold Rob.sum
  rcases k.rob i hi with ⟨a1,a2,a3,a4,a5⟩ | ⟨c,a0,a1,a2,_⟩
  ·rw [a2,a3];omega
  ·rw [a1.1,a1.2.1,a1.2.2.1,a1.2.2.2];omega
 ·rw [if_neg n6] at he;simp at he
theorem made_tsk {s:St} (h:Rt s) {nm:Nat} {a b c:Int} (he:(madeS s nm a b c).2.2=0) (k:Nat) (hk:k < 20):
 (s.i k=true→(madeS s nm a b c).1.i k=true∧((madeS s nm a b c).1.t k).fr=(s.t k).fr∧((madeS s nm a b c).1.t k).dst=(s.t k).dst)∧
 (((madeS s nm a b c).1.t k).st=(s.t k).st∨(nm=6∧(((madeS s nm a b c).1.t k).st=(s.t k).st + 1∨((s.t k).st=0∧((madeS s nm a b c).1.t k).st=2)))):=by
 unfold madeS at *
 by_cases n1:nm=1
 ·rw [if_pos n1] at he ⊢
  try simp only at *
  obtain ⟨h0,h1,h2,h3,h4,h5,h6,h7⟩:=robotA_ok he
  rw [h7]
  exact ⟨fun ik=>⟨ik,rfl,rfl⟩,.inl rfl⟩
 rw [if_neg n1] at he ⊢
 by_cases n2:nm=2
 ·rw [if_pos n2] at he ⊢
  try simp only at *
  obtain ⟨h0,h1,h2,h3,h5,h7⟩:=taskA_ok he
  have ha:a.toNat < 20:=by omega
  have hw:=h.inv.wf
  rw [h7]
  have ti:=is_set hw ha { s.setT a.toNat ⟨b,c,0⟩ with is:=s.is.set a.toNat true } rfl k
  have tt:({ s.setT a.toNat ⟨b,c,0⟩ with is:=s.is.set a.toNat true }:St).t k=if k=a.toNat then ⟨b,c,0⟩ else s.t k:=hw.setT_t ha _ k
  rw [ti,tt]
  by_cases hka:k=a.toNat
  ·rw [if_pos hka,if_pos hka]
   have hk0:s.i k=false:=by rw [hka];exact h5
   refine ⟨fun ik=>(by rw [hk0] at ik;cases ik),.inl ?_⟩
   have:=h.tsk0 hk hk0
   simp only [Tsk.is0,Bool.and_eq_true,beq_iff_eq] at this
   rw [this.2]
  ·rw [if_neg hka,if_neg hka]
   exact ⟨fun ik=>⟨ik,rfl,rfl⟩,.inl rfl⟩
 rw [if_neg n2] at he ⊢
 by_cases n5:nm=5
 ·rw [if_pos n5] at he ⊢
  try simp only at *
  obtain ⟨j,rfl,hj,oj,h7,h8,h9⟩:=tell_rt h he
  rw [h7]
  exact ⟨fun ik=>⟨ik,rfl,rfl⟩,.inl rfl⟩
 rw [if_neg n5] at he ⊢
 by_cases n34:nm=3∨nm=4
 ·rw [if_pos n34] at he ⊢
  by_cases hb:isChg s b=true
  ·rw [if_pos hb];exact ⟨fun ik=>⟨ik,rfl,rfl⟩,.inl rfl⟩
  ·rw [if_neg hb] at he;simp at he
 rw [if_neg n34] at he ⊢
 by_cases n6:nm=6
 ·rw [if_pos n6]
  try simp only
  have q:=tick_inv h.inv h.dist
  obtain ⟨b1,b2,b3⟩:=q.tsk k
  refine ⟨fun ik=>⟨by rw [q.keep.i];exact ik,b1,b2⟩,?_⟩
  rcases b3 with b3 | ⟨b3,_⟩ | b3
  ·exact .inl b3
  ·exact .inr ⟨n6,.inl b3⟩
  ·exact .inr ⟨n6,.inr b3⟩
 ·rw [if_neg n6] at he;simp at he
end Go.Proofs.YtoejdgoicoaomaaGreatDoor
namespace Go.Proofs.YtoejdgoicoaomaaGreatDoor
open Go.Mini
open Go.Proofs.YtoejdgoicoaomaaGreatDoor.Code
attribute [local irreducible] mx ml mld mstep MCalls Ex.thn Ex.inb
variable {E:World→Prop}
section
variable {s:St}
theorem St.WF.on_at (h:s.WF) {i:Nat} (hi:i < 10):(stC s)[82 + i]?=some (.bool (s.o i)):=h.on_cell hi rfl
theorem St.WF.is_at (h:s.WF) {k:Nat} (hk:k < 20):(stC s)[152 + k]?=some (.bool (s.i k)):=h.is_cell hk rfl
theorem St.WF.rob_at (h:s.WF) {i j:Nat} (hi:i < 10) (hj:j < 7):(stC s)[12 + i * 7 + j]?=(robC (s.r i))[j]?:=h.rob_cell hi hj rfl
theorem St.WF.tsk_at (h:s.WF) {k j:Nat} (hk:k < 20) (hj:j < 3):(stC s)[92 + k * 3 + j]?=(tskC (s.t k))[j]?:=h.tsk_cell hk hj rfl
end
section
variable {ts:Fr} {σ:H} {s:St}
theorem o_idxRow {α:Type} {f:α→List Value} {m n:Nat} {l:List α} {x y:Opd} {i:Nat} (d:α) (hk:∀ a,(f a).length=m) (hl:l.length=n) (hx:mev ts x=.agg (l.flatMap f).toArray) (hy:mev ts y=.int .i64 ((i:Nat):Int)) (hi:i < n):
 mop ts σ (.idxA n m true x y)=some (.agg (f (l.getD i d)).toArray,σ):=by
 have h:=rows_row hk d (show i < l.length by omega)
 rw [rowL_some _ _ _ (by rw [rows_len hk];exact mul_lt_le (by omega) (Nat.le_refl _))] at h
 injection h with h
 simp only [mop,hx,hy]
 rw [if_pos ⟨by omega,by omega⟩,if_pos trivial,Int.toNat_natCast,h]
theorem o_idxRob (h:s.WF) {x y:Opd} {i:Nat} (hx:mev ts x=.agg (s.rob.flatMap robC).toArray) (hy:mev ts y=.int .i64 ((i:Nat):Int)) (hi:i < 10):mop ts σ (.idxA 10 7 true x y)=some (.agg (robC (s.r i)).toArray,σ):=o_idxRow zR robC_len h.rob hx hy hi
theorem o_idxTsk (h:s.WF) {x y:Opd} {k:Nat} (hx:mev ts x=.agg (s.tsk.flatMap tskC).toArray) (hy:mev ts y=.int .i64 ((k:Nat):Int)) (hk:k < 20):mop ts σ (.idxA 20 3 true x y)=some (.agg (tskC (s.t k)).toArray,σ):=o_idxRow zT tskC_len h.tsk hx hy hk
theorem o_box {x:Opd} {cs:List Value} (hx:mev ts x=.agg cs.toArray):mop ts σ (.box x)=some (.pointer (some ⟨σ.size,0,none⟩),σ.push (.cells 0 cs)):=by
 simp only [mop,hx,Value.cells]
theorem o_eqRob0 {x y:Opd} {r:Rob} (hx:mev ts x=.agg (robC r).toArray) (hy:mev ts y=.agg #[.int .i64 0,.int .i64 0,.int .i64 0,.int .i64 0,.int .i64 0,.int .i64 0,.int .i64 0]):mop ts σ (.eqA false [.int,.int,.int,.int,.int,.int,.int] x y)=some (.bool r.is0,σ):=by
 obtain ⟨a,b,c,d,e,f,g⟩:=r
 simp only [mop,hx,hy,robC,List.length_cons,List.length_nil,and_self,if_true,eqCells,eqCell,Rob.is0]
 cases a == 0<;>cases b == 0<;>cases c == 0<;>cases d == 0<;>cases e == 0<;>cases f == 0<;>cases g == 0<;>rfl
theorem o_eqTsk0 {x y:Opd} {t:Tsk} (hx:mev ts x=.agg (tskC t).toArray) (hy:mev ts y=.agg #[.int .i64 0,.int .i64 0,.int .i64 0]):mop ts σ (.eqA false [.int,.int,.int] x y)=some (.bool t.is0,σ):=by
 obtain ⟨a,b,c⟩:=t
 simp only [mop,hx,hy,tskC,List.length_cons,List.length_nil,and_self,if_true,eqCells,eqCell,Tsk.is0]
 cases a == 0<;>cases b == 0<;>cases c == 0<;>rfl
end
theorem app_ext {σ0 σ τ:H} {oj:Option Nat} (e:Ext σ0 σ) (ho:∀ j,oj=some j→σ0.size≤j) (hs:τ.size=σ.size + 1) (hk:∀ i,i < σ.size→oj≠some i→τ.get i=σ.get i):Ext σ0 τ∧∀ j,some σ.size=some j→σ0.size≤j:=by
 have hz:=e.size
 refine ⟨⟨by omega,fun k hk2=>?_⟩,fun j hj=>by injection hj with hj;omega⟩
 rw [hk k (by omega) (fun e2=>by have:=ho k e2;omega)]
 exact e.get k hk2
set_option maxRecDepth 100000 in
set_option maxHeartbeats 4000000 in
theorem mPlaces_c (s:St) (hw:s.WF) (σ:H):MCalls E Tryz.prog 22 [stV s] σ (fun v τ=>Out σ τ 1 v (ints (placeL s))):=by
 refine mcalls_of fn22 (by simp) ?_
 unfold c22 r22 stV
 have g0:=H.get_push_self σ (.cells 0 (stC s))
 have e0:=Ext.push σ (.cells 0 (stC s))
 refine mx_seq (mx_ops (ml_op Sd0 (o_box Sd0) ?_))
 generalize σ.push (.cells 0 (stC s))=τ0 at *
 refine stepR0 ?_
 refine ml_loadN Sd0 Sd0 (row_of g0 hw.robs_row) ?_
 refine stepR0 ?_
 refine mx_loop (fun n ts τ=>∃ (i:Nat) (v:Value) (oj:Option Nat),n=10 - i∧i≤10∧Ext τ0 τ∧Own τ 1 v oj (ints ((List.range i).map s.pl))∧(∀ j,oj=some j→τ0.size≤j)∧ts 1=.pointer (some ⟨σ.size,0,none⟩)∧ts 3=v∧ts 7=.agg (s.rob.flatMap robC).toArray∧ts 8=.int .i64 ((i:Nat):Int)) 10 ?_ ?_
 ·exact ⟨0,_,_,rfl,Nat.zero_le _,.refl _,.nil,fun j h=>(by cases h),Sd0,Sd0,Sd0,Sd0⟩
 rintro _ ts τ1 ⟨i,v,oj,rfl,hi,e1,own,hoj,t1,t3,t7,t8⟩
 rcases Nat.lt_or_ge i 10 with hil | hig
 ·have hil':((i:Nat):Int) < 10:=by omega
  refine stepR (An t1 (An t3 (An t7 (An t8 hil')))) ?_
  refine ml_op Sd0 (o_idxRob hw (Sw t7) (Sw t8) hil) ?_
  refine stepR (An t1 (An t3 (An t7 (An t8 hil')))) ?_
  refine ml_init (vs:=robC (s.r i)) Sd0 Sd0 Sd0 rfl rfl rfl fun τ2 e2 g2=>?_
  refine stepR (An t1 (An t3 (An t7 (An t8 hil')))) ?_
  refine ml_op Sd0 (o_load1q (off:=82 + i) (Sw t1) ((e1.trans e2).cells g0) (hw.on_at hil)) ?_
  have hs2:=e2.size
  have hl:ints ((List.range i).map s.pl) ++ [Value.int .i64 (s.pl i)]=ints ((List.range (i + 1)).map s.pl):=by rw [List.range_succ,List.map_append,ints_app];rfl
  have hn:(ints ((List.range i).map s.pl)).length < appMax:=by rw [ints_len,List.length_map,List.length_range];simp only [appMax];omega
  have hone:(ints ((List.range i).map s.pl) ++ [Value.int .i64 (s.pl i)]).all one=true:=by rw [hl];exact ints_one _
  cases ho:s.o i
  ·have hp:s.pl i=-1:=by unfold St.pl;rw [ho];rfl
   rw [hp] at hl hone
   refine stepR (An t1 (An t3 (An t7 t8))) ?_
   refine ml_app1 (vs:=[.int .i64 (-1)]) Sd0 Sd0 Sd0 (own.of_ext (e2.trans (Ext.push _ _))) (H.get_push_self _ _) rfl (by omega) hone (by omega) hn fun v' τ3 own3 hs3 hk3=>?_
   rw [hl] at own3
   have ⟨e3,hj3⟩:=app_ext (e1.trans (e2.trans (Ext.push _ _))) hoj hs3 hk3
   refine stepR t8 ?_
   exact ⟨10 - (i + 1),by omega,i + 1,v',_,rfl,by omega,e3,own3,hj3,(Sw t1),Sd0,(Sw t7),Sd0⟩
  ·have hp:s.pl i=(s.r i).cell:=by unfold St.pl;rw [ho];rfl
   rw [hp] at hl hone
   refine stepR (An t1 (An t3 (An t7 t8))) ?_
   refine ml_op Sd0 (o_load1q (off:=0) (v:=.int .i64 (s.r i).cell) Sd0 g2 rfl) ?_
   refine stepR (An t1 (An t3 (An t7 t8))) ?_
   refine ml_app1 (vs:=[.int .i64 (s.r i).cell]) Sd0 Sd0 Sd0 (own.of_ext (e2.trans (Ext.push _ _))) (H.get_push_self _ _) rfl (by omega) hone (by omega) hn fun v' τ3 own3 hs3 hk3=>?_
   rw [hl] at own3
   have ⟨e3,hj3⟩:=app_ext (e1.trans (e2.trans (Ext.push _ _))) hoj hs3 hk3
   refine stepR t8 ?_
   exact ⟨10 - (i + 1),by omega,i + 1,v',_,rfl,by omega,e3,own3,hj3,(Sw t1),Sd0,(Sw t7),Sd0⟩
 ·obtain rfl:i=10:=by omega
  have hil':¬ (((10:Nat):Nat):Int) < 10:=by omega
  refine stepR (An t3 (An t8 hil')) ?_
  refine fin1 ?_
  simp only [go_sem,reduceIte,Nat.reduceEqDiff,reduceCtorEq,Nat.reduceAdd,Nat.reduceLeDiff,Int.reduceNeg,Int.reduceToNat,Int.reduceBEq,Int.reduceBNe,Int.reduceLT,Int.reduceLE,Int.reduceAdd,Int.reduceSub,t3]
  exact ⟨e0.trans e1,oj,own,fun j hj=>Nat.le_trans e0.size (hoj j hj)⟩
theorem clPlace_c {σ:H} {v:Value} {l:List Int} (hr:Rd σ v (ints l)) (i:Nat):MCalls E Tryz.prog 38 [v,.int .i64 ((i:Nat):Int)] σ (fun r τ=>r=.int .i64 (l.getD i (-1))∧τ=σ):=by
 refine mcalls_of fn38 (by simp) ?_
 unfold c38 r38
 refine stepR0 ?_
 refine ml_len Sd0 hr Sd0 ?_
 rw [ints_len]
 by_cases h:l.length≤i
 ·have h':((i:Nat):Int)≥((l.length:Nat):Int):=by omega
  have hg:l.getD i (-1)=-1:=by rw [List.getD_eq_getElem?_getD,List.getElem?_eq_none h];rfl
  refine stepR h' ?_
  rw [hg]
  exact fin1 ⟨Sd0,rfl⟩
 ·have h':¬ ((i:Nat):Int)≥((l.length:Nat):Int):=by omega
  refine stepR h' ?_
  refine ml_getS hr Sd0 Sd0 (by omega) (by rw [Int.toNat_natCast];exact ints_at (by omega)) fun p=>?_
  have hg:l.getD i 0=l.getD i (-1):=by rw [List.getD_eq_getElem?_getD,List.getD_eq_getElem?_getD,List.getElem?_eq_getElem (by omega)];rfl
  rw [hg]
  refine stepR0 ?_
  exact fin1 ⟨Sd0,rfl⟩
end Go.Proofs.YtoejdgoicoaomaaGreatDoor
namespace Go.Proofs.YtoejdgoicoaomaaGreatDoor
open Go.Mini
open Go.Proofs.YtoejdgoicoaomaaGreatDoor.Code
attribute [local irreducible] mx ml mld mstep MCalls Ex.thn Ex.inb
variable {E:World→Prop}
theorem vMay_c (x:Int) (σ:H):MCalls E Tryz.prog 115 [.int .i64 x] σ (fun v τ=>v=.bool (inB x 0 200)∧τ=σ):=by
 refine mcalls_of fn115 (by simp) ?_
 unfold c115 r115 inB
 by_cases h:0≤x
 ·have h':x≥0:=h
  refine stepR h' ?_
  refine fin1 ⟨?_,rfl⟩
  simp only [go_sem,reduceIte,Nat.reduceEqDiff,reduceCtorEq,Nat.reduceAdd,Nat.reduceLeDiff,Int.reduceNeg,Int.reduceToNat,Int.reduceBEq,Int.reduceBNe,Int.reduceLT,Int.reduceLE,Int.reduceAdd,Int.reduceSub,decide_eq_true h]
 ·have h':¬ x≥0:=h
  refine stepR h' ?_
  refine fin1 ⟨?_,rfl⟩
  simp only [go_sem,reduceIte,Nat.reduceEqDiff,reduceCtorEq,Nat.reduceAdd,Nat.reduceLeDiff,Int.reduceNeg,Int.reduceToNat,Int.reduceBEq,Int.reduceBNe,Int.reduceLT,Int.reduceLE,Int.reduceAdd,Int.reduceSub,decide_eq_false h]
theorem vRight1_c (x y:Int) (σ:H):MCalls E Tryz.prog 141 [.int .i64 x,.int .i64 y] σ (fun v τ=>v=.bool (inB x y great)∧τ=σ):=by
 refine mcalls_of fn141 (by simp) ?_
 unfold c141 r141 inB great
 by_cases h:y≤x
 ·have h':x≥y:=h
  refine stepR h' ?_
  refine fin1 ⟨?_,rfl⟩
  simp only [go_sem,reduceIte,Nat.reduceEqDiff,reduceCtorEq,Nat.reduceAdd,Nat.reduceLeDiff,Int.reduceNeg,Int.reduceToNat,Int.reduceBEq,Int.reduceBNe,Int.reduceLT,Int.reduceLE,Int.reduceAdd,Int.reduceSub,decide_eq_true h]
 ·have h':¬ x≥y:=h
  refine stepR h' ?_
  refine fin1 ⟨?_,rfl⟩
  simp only [go_sem,reduceIte,Nat.reduceEqDiff,reduceCtorEq,Nat.reduceAdd,Nat.reduceLeDiff,Int.reduceNeg,Int.reduceToNat,Int.reduceBEq,Int.reduceBNe,Int.reduceLT,Int.reduceLE,Int.reduceAdd,Int.reduceSub,decide_eq_false h]
def accV (c sp g a:Int):Value:=.agg #[.int .i64 c,.int .i64 sp,.int .i64 g,.int .i64 a]
attribute [go_sem] accV stV
set_option maxHeartbeats 1000000 in
theorem vRight_c (c sp g a:Int) (σ:H):MCalls E Tryz.prog 114 [accV c sp g a] σ (fun v τ=>v=.bool (accOK c sp g a)∧Ext σ τ):=by
 refine mcalls_of fn114 (by simp) ?_
 unfold c114 r114 accV accOK
 have e:=Ext.push σ (.cells 0 [.int .i64 c,.int .i64 sp,.int .i64 g,.int .i64 a])
 have g1:=H.get_push_self σ (.cells 0 [.int .i64 c,.int .i64 sp,.int .i64 g,.int .i64 a])
 refine stepR0 ?_
 generalize σ.push (.cells 0 [.int .i64 c,.int .i64 sp,.int .i64 g,.int .i64 a])=τ at *
 refine stepR g1 ?_
 refine ml_call Sd0 Sd0 (vMay_c c τ) ?_
 rintro _ τ2 ⟨rfl,rfl⟩
 cases h1:inB c 0 200
 ·refine stepR0 ?_
  exact fin1 ⟨Sd0,e⟩
 refine stepR g1 ?_
 refine ml_callv Sd0 Sd0 Sd0 (vRight1_c sp 0 τ2) ?_
 rintro _ τ3 ⟨rfl,rfl⟩
 cases h2:inB sp 0 great
 ·refine stepR0 ?_
  exact fin1 ⟨Sd0,e⟩
 refine stepR g1 ?_
 refine ml_callv Sd0 Sd0 Sd0 (vRight1_c g 0 τ3) ?_
 rintro _ τ4 ⟨rfl,rfl⟩
 cases h3:inB g 0 great
 ·refine stepR0 ?_
  exact fin1 ⟨Sd0,e⟩
 refine stepR g1 ?_
 refine ml_callv Sd0 Sd0 Sd0 (vRight1_c a (-1099511627776) τ4) ?_
 rintro _ τ5 ⟨rfl,rfl⟩
 refine stepR0 ?_
 exact fin1 ⟨Sd0,e⟩
def AccR (τ:H) (o:Option (Int × Int × Int × Int)) (v:Value):Prop:=
 match o with
 | some (c,sp,g,a)=>v=.tuple #[accV c sp g a,.nilIface]
 | none=>∃ e nm n,v=.tuple #[accV 0 0 0 0,e]∧TagE τ e nm n
theorem AccR.err {τ:H} {e:Value} {nm:ByteArray} {n:Int} (h:TagE τ e nm n):AccR τ none (.tuple #[accV 0 0 0 0,e]):=⟨e,nm,n,rfl,h⟩
theorem TagE.set {σ τ:H} {v:Value} {nm:ByteArray} {n:Int} (h:TagE σ v nm n) {id:Nat} {o:MObj} (t:SetTo σ id o τ) {c:List Value} (hg:σ.get id=.cells 0 (.int .i64 0 :: c)):TagE τ v nm n:=by
 obtain ⟨i,rfl,hid⟩:=h
 exact ⟨i,rfl,t.cells hid (fun e=>by rw [e,hg] at hid;simp at hid)⟩
set_option maxHeartbeats 1000000 in
theorem vThen_c (c sp g a:Int) (σ:H):MCalls E Tryz.prog 116 [accV c sp g a] σ (fun v τ=>AccR τ (if accOK c sp g a then some (c,sp,g,a) else none) v∧Ext σ τ):=by
 refine mcalls_of fn116 (by simp) ?_
 unfold c116 r116 accV
 refine stepR0 ?_
 generalize hτ:H.push _ _=τ
 have g1:τ.get σ.size=.cells 0 [.int .i64 c,.int .i64 sp,.int .i64 g,.int .i64 a]:=by rw [← hτ,H.get_push_ne (by simp),H.get_push_self]
 have g2:τ.get (σ.size + 1)=.cells 0 [.int .i64 0,.int .i64 0,.int .i64 0,.int .i64 0]:=by rw [← hτ];exact H.get_push_self (σ.push _) _
 have e1:Ext σ τ:=hτ ▸ (Ext.push _ _).trans (Ext.push _ _)
 clear hτ
 refine stepR g1 ?_
 refine ml_call Sd0 Sd0 (vRight_c c sp g a τ) ?_
 rintro _ τ2 ⟨rfl,e2⟩
 have g1:=e2.cells g1
 have g2:=e2.cells g2
 have e:=e1.trans e2
 cases h:accOK c sp g a
 ·refine stepR0 ?_
  refine ml_call Sd0 Sd0 (tag_c _ _ _) ?_
  rintro ev τ3 ⟨he,e3⟩
  have g2:=e3.cells g2
  refine ml_storeA (off:=0) (vs:=[.int .i64 0,.int .i64 0,.int .i64 0,.int .i64 0]) Sd0 Sd0 Sd0 g2 rfl (by simp) rfl fun τ4 t4=>?_
  have hlt:=H.lt_of_cells g2
  refine stepR0 ?_
  refine finC1 Sd0 (row_of t4.self rfl) ⟨?_,t4.ext (e.trans e3) (by omega)⟩
  exact ⟨ev,_,_,Sd0,he.set t4 g2⟩
 ·refine stepR g1 ?_
  refine ml_storeA (off:=0) (vs:=[.int .i64 c,.int .i64 sp,.int .i64 g,.int .i64 a]) Sd0 Sd0 Sd0 g2 rfl (by simp) rfl fun τ4 t4=>?_
  refine stepR0 ?_
  refine finC1 Sd0 (row_of t4.self rfl) ⟨?_,t4.ext e (by omega)⟩
  show _=_
  simp only [go_sem,reduceIte,Nat.reduceEqDiff,reduceCtorEq,Nat.reduceAdd,Nat.reduceLeDiff,Int.reduceNeg,Int.reduceToNat,Int.reduceBEq,Int.reduceBNe,Int.reduceLT,Int.reduceLE,Int.reduceAdd,Int.reduceSub]
def spendA (c sp g a k:Int):Option (Int × Int × Int × Int):=if accOK c sp g a && decide (0≤k) && decide (k≤c) && accOK (c - k) (sp + k) g a then some (c - k,sp + k,g,a) else none
set_option maxHeartbeats 2000000 in
theorem vSpend_c (c sp g a k:Int) (hk:k≤1000) (σ:H):MCalls E Tryz.prog 150 [accV c sp g a,.int .i64 k] σ (fun v τ=>AccR τ (spendA c sp g a k) v∧Ext σ τ):=by
 refine mcalls_of fn150 (by simp) ?_
 unfold c150 r150 accV
 refine stepR0 ?_
 generalize hτ:H.push _ _=τ
 have g1:τ.get σ.size=.cells 0 [.int .i64 c,.int .i64 sp,.int .i64 g,.int .i64 a]:=by rw [← hτ,H.get_push_ne (by simp),H.get_push_self]
 have g2:τ.get (σ.size + 1)=.cells 0 [.int .i64 0,.int .i64 0,.int .i64 0,.int .i64 0]:=by rw [← hτ];exact H.get_push_self (σ.push _) _
 have e1:Ext σ τ:=hτ ▸ (Ext.push _ _).trans (Ext.push _ _)
 clear hτ
 refine stepR g1 ?_
 refine ml_call Sd0 Sd0 (vRight_c c sp g a τ) ?_
 rintro _ τ2 ⟨rfl,e2⟩
 have g1:=e2.cells g1
 have g2:=e2.cells g2
 have e:=e1.trans e2
 have err:∀ {τ3:H} {ev:Value} {nm:ByteArray} {n:Int} {ts:Fr},Ext τ2 τ3→TagE τ3 ev nm n→ts 4=.pointer (some ⟨σ.size + 1,0,none⟩)→ts 5=ev→spendA c sp g a k=none→∀ τ4,SetTo τ3 (σ.size + 1) (.cells 0 [.int .i64 0,.int .i64 0,.int .i64 0,.int .i64 0]) τ4→mpost [.cell 4 4 true,.t 5] (fun v τ=>AccR τ (spendA c sp g a k) v∧Ext σ τ) .ret ts τ4:=by
  intro τ3 ev nm n ts e3 he h4 h5 hs τ4 t4
  refine finC1 h4 (row_of t4.self rfl) ⟨?_,t4.ext (e.trans e3) (by omega)⟩
  rw [hs,h5]
  exact .err (he.set t4 (e3.cells g2))
 cases h:accOK c sp g a
 ·have hs:spendA c sp g a k=none:=by unfold spendA;rw [h];rfl
  refine stepR0 ?_
  refine ml_call Sd0 Sd0 (tag_c _ _ _) ?_
  rintro ev τ3 ⟨he,e3⟩
  refine ml_storeA (off:=0) (vs:=[.int .i64 0,.int .i64 0,.int .i64 0,.int .i64 0]) Sd0 Sd0 Sd0 (e3.cells g2) rfl (by simp) rfl fun τ4 t4=>?_
  refine stepR0 ?_
  exact err e3 he Sd0 Sd0 hs τ4 t4
 by_cases h0:k < 0
 ·have hs:spendA c sp g a k=none:=by unfold spendA;rw [h,decide_eq_false (by omega)];rfl
  refine stepR h0 ?_
  refine ml_call Sd0 Sd0 (tag_c _ _ _) ?_
  rintro ev τ3 ⟨he,e3⟩
  refine ml_storeA (off:=0) (vs:=[.int .i64 0,.int .i64 0,.int .i64 0,.int .i64 0]) Sd0 Sd0 Sd0 (e3.cells g2) rfl (by simp) rfl fun τ4 t4=>?_
  refine stepR0 ?_
  exact err e3 he Sd0 Sd0 hs τ4 t4
 by_cases h1:k≤c
 ·have h1':¬ k > c:=by omega
  obtain ⟨hc,hsp,hgg,ha⟩:=accOK_iff.1 h
  unfold great at hsp hgg ha
  refine stepR (An h0 (An h1' g1)) ?_
  refine ml_store1 (off:=0) (v:=.int .i64 (c - k)) Sd0 Sd0 Sd0 rfl rfl g1 (by simp) ?_
  have t3:SetTo τ2 σ.size (.cells 0 [.int .i64 (c - k),.int .i64 sp,.int .i64 g,.int .i64 a]) (τ2.set σ.size (.cells 0 ([.int .i64 c,.int .i64 sp,.int .i64 g,.int .i64 a].set 0 (.int .i64 (c - k))))):=.mk' (H.lt_of_cells g1)
  generalize τ2.set σ.size _=τ3 at *
  have g13:=t3.self
  refine stepR g13 ?_
  refine ml_store1 (off:=1) (v:=.int .i64 (sp + k)) Sd0 Sd0 Sd0 rfl rfl g13 (by simp) ?_
  have t4:SetTo τ3 σ.size (.cells 0 [.int .i64 (c - k),.int .i64 (sp + k),.int .i64 g,.int .i64 a]) (τ3.set σ.size (.cells 0 ([.int .i64 (c - k),.int .i64 sp,.int .i64 g,.int .i64 a].set 1 (.int .i64 (sp + k))))):=.mk' (H.lt_of_cells g13)
  generalize τ3.set σ.size _=τ4 at *
  have g14:=t4.self
  have g24:=t4.cells (t3.cells g2 (by omega)) (by omega)
  have e4:=t4.ext (t3.ext e (Nat.le_refl _)) (Nat.le_refl _)
  refine stepR g14 ?_
  refine ml_call Sd0 Sd0 (vThen_c (c - k) (sp + k) g a τ4) ?_
  rintro v τ5 ⟨hv,e5⟩
  have g25:=e5.cells g24
  have hsA:spendA c sp g a k=if accOK (c - k) (sp + k) g a then some (c - k,sp + k,g,a) else none:=by
   unfold spendA;rw [h,decide_eq_true (show 0≤k by omega),decide_eq_true h1];simp
  rw [hsA]
  cases h5:accOK (c - k) (sp + k) g a
  ·rw [h5] at hv
   obtain ⟨ev,nm,n,rfl,he⟩:=hv
   refine stepR0 ?_
   refine ml_storeA (off:=0) (vs:=[.int .i64 0,.int .i64 0,.int .i64 0,.int .i64 0]) Sd0 Sd0 Sd0 g25 rfl (by simp) rfl fun τ6 t6=>?_
   refine stepR0 ?_
   refine finC1 Sd0 (row_of t6.self rfl) ⟨?_,t6.ext (e4.trans e5) (by omega)⟩
   refine ⟨ev,nm,n,Sd0,he.set t6 g25⟩
  ·rw [h5] at hv
   have hv:v=.tuple #[accV (c - k) (sp + k) g a,.nilIface]:=hv
   subst hv
   refine stepR0 ?_
   refine ml_storeA (off:=0) (vs:=[.int .i64 (c - k),.int .i64 (sp + k),.int .i64 g,.int .i64 a]) Sd0 Sd0 Sd0 g25 rfl (by simp) rfl fun τ6 t6=>?_
   refine stepR0 ?_
   refine finC1 Sd0 (row_of t6.self rfl) ⟨?_,t6.ext (e4.trans e5) (by omega)⟩
   show _=_
   simp only [go_sem,reduceIte,Nat.reduceEqDiff,reduceCtorEq,Nat.reduceAdd,Nat.reduceLeDiff,Int.reduceNeg,Int.reduceToNat,Int.reduceBEq,Int.reduceBNe,Int.reduceLT,Int.reduceLE,Int.reduceAdd,Int.reduceSub]
 ·have h1':k > c:=by omega
  have hs:spendA c sp g a k=none:=by unfold spendA;rw [h,decide_eq_false h1];simp
  refine stepR (An h0 (An h1' g1)) ?_
  refine ml_call Sd0 Sd0 (tag_c _ _ _) ?_
  rintro ev τ3 ⟨he,e3⟩
  refine ml_storeA (off:=0) (vs:=[.int .i64 0,.int .i64 0,.int .i64 0,.int .i64 0]) Sd0 Sd0 Sd0 (e3.cells g2) rfl (by simp) rfl fun τ4 t4=>?_
  refine stepR0 ?_
  exact err e3 he Sd0 Sd0 hs τ4 t4
end Go.Proofs.YtoejdgoicoaomaaGreatDoor
namespace Go.Mini
section
variable {E:World→Prop} {P:Program} {ts:Fr} {σ τ:H} {K:Fr→H→Prop} {drest fl:List DI}
theorem ne_of_ptr {v:Value} {j o id:Nat} (h1:v=.pointer (some ⟨j,o,none⟩)) (hj:j≠id):∀ i off,v=.pointer (some ⟨i,off,none⟩)→i≠id:=fun i off h=>by
 rw [h1] at h;injection h with h;injection h with h;injection h with h;omega
theorem keepM_other {d:DI} {id:Nat} {o:MObj} (hl:d.loud=true) (t:SetTo σ id o τ) (h:∀ m ∈ pendOf fl d,∃ x,(m=.load1 x∨∃ n,m=.loadN n x)∧∀ i off,mev ts x=.pointer (some ⟨i,off,none⟩)→i≠id):KeepM fl d ts σ τ:=by
 unfold KeepM
 rw [hl]
 right
 intro m hm v hv
 obtain ⟨x,hx,hne⟩:=h m hm
 rcases hx with rfl | ⟨n,rfl⟩
 ·simp only [mop] at hv ⊢
  split at hv
  ·rename_i i off hp
   have hc:τ.cell i off=σ.cell i off:=by simp only [H.cell,t.other i (hne i off hp)]
   rw [hc]
   cases hcc:σ.cell i off with
   | none=>rw [hcc] at hv;cases hv
   | some w=>rw [hcc] at hv;simp only [Option.map_some,Option.some.injEq,Prod.mk.injEq,and_true] at hv ⊢;exact hv
  ·cases hv
 ·simp only [mop] at hv ⊢
  split at hv
  ·rename_i i off hp
   have hc:τ.row i off n=σ.row i off n:=by simp only [H.row,t.other i (hne i off hp)]
   rw [hc]
   cases hcc:σ.row i off n with
   | none=>rw [hcc] at hv;cases hv
   | some w=>rw [hcc] at hv;simp only [Option.map_some,Option.some.injEq,Prod.mk.injEq,and_true] at hv ⊢;exact hv
  ·cases hv
theorem mld_storeL {d:Option Nat} {g:Option (Nat × Bool)} {ix:Nat} {n:Nat} {a x:Opd} {ex:Bool} {id off sz:Nat} {cs vs:List Value} (hw:wantM ts g=true) (ha:mev ts a=.pointer (some ⟨id,off,none⟩)) (hx:(mev ts x).cells=vs.toArray) (hg:σ.get id=.cells sz cs) (h1:vs.length=n) (h2:off + n≤cs.length) (h3:vs.all one=true)
 (hp:∀ m ∈ pendOf fl ⟨⟨d,.store n a x,g⟩,ix,true,ex⟩,∃ x,(m=.load1 x∨∃ n,m=.loadN n x)∧∀ i off,mev ts x=.pointer (some ⟨i,off,none⟩)→i≠id)
 (hn:∀ τ,SetTo σ id (.cells sz (spl cs off vs)) τ→mld E P fl drest K (updO ts d undef) τ):mld E P fl (⟨⟨d,.store n a x,g⟩,ix,true,ex⟩ :: drest) K ts σ:=
 mld_keep hw (mstep_of (o_store ha hx hg h1 h2 h3) ⟨fun _=>keepM_other rfl (.mk' (H.lt_of_cells hg)) hp,hn _ (.mk' (H.lt_of_cells hg))⟩)
end
end Go.Mini
namespace Go.Proofs.YtoejdgoicoaomaaGreatDoor
open Go.Mini
open Go.Proofs.YtoejdgoicoaomaaGreatDoor.Code
attribute [local irreducible] mx ml mld mstep MCalls Ex.thn Ex.inb
variable {E:World→Prop}
set_option maxRecDepth 100000 in
set_option maxHeartbeats 2000000 in
theorem mStep_c (s:St) (hw:s.WF) (r:Rob) (hr:r.task≠-1→0≤r.task∧r.task < 20) (σ:H):MCalls E Tryz.prog 120 [stV s,.agg (robC r).toArray] σ (fun v τ=>v=.int .i64 (stepS s r)∧Ext σ τ):=by
 refine mcalls_of fn120 (by simp) ?_
 unfold c120 r120 stV
 have g0:=H.get_push_self σ (.cells 0 (stC s))
 have e0:=Ext.push σ (.cells 0 (stC s))
 refine mx_seq (mx_ops (ml_op Sd0 (o_box Sd0) ?_))
 have hlt:=H.lt_of_cells g0
 generalize σ.push (.cells 0 (stC s))=τa at *
 refine ml_op Sd0 (o_box (cs:=robC r) Sd0) ?_
 have g1:=H.get_push_self τa (.cells 0 (robC r))
 have e1:=Ext.push τa (.cells 0 (robC r))
 have g0:=e1.cells g0
 have e:=e0.trans e1
 generalize τa.push (.cells 0 (robC r))=τ at *
 clear e0 e1
 refine stepR0 ?_
 refine ml_op Sd0 (o_load1q (off:=3) (v:=.int .i64 r.task) Sd0 g1 rfl) ?_
 by_cases ht:r.task=-1
 ·have ht':(r.task != -1)=false:=by rw [ht];rfl
  have hs:stepS s r=1:=by unfold stepS;rw [if_neg (fun h=>h.1 ht)]
  refine stepR ht' ?_
  refine fin1 ⟨?_,e⟩
  rw [hs];exact Sd0
 ·have ht':(r.task != -1)=true:=by simpa using ht
  obtain ⟨h0,h20⟩:=hr ht
  have hk:r.task.toNat < 20:=by omega
  refine stepR ht' ?_
  refine ml_op Sd0 (o_load1q (off:=3) (v:=.int .i64 r.task) Sd0 g1 rfl) ?_
  refine stepR0 ?_
  refine ml_op Sd0 (o_load1q (off:=92 + r.task.toNat * 3 + 2) (v:=.int .i64 (s.t r.task.toNat).st) Sd0 g0 (hw.tsk_at hk (by omega))) ?_
  rcases Bool.eq_false_or_eq_true ((s.t r.task.toNat).st == 2) with h1 | h1
  ·have hs:stepS s r=2:=by unfold stepS St.tk;rw [if_pos ⟨ht,eq_of_beq h1⟩]
   refine stepR h1 ?_
   refine fin1 ⟨?_,e⟩
   rw [hs];exact Sd0
  ·have hs:stepS s r=1:=by unfold stepS St.tk;rw [if_neg (fun h=>by rw [h.2] at h1;cases h1)]
   refine stepR h1 ?_
   refine fin1 ⟨?_,e⟩
   rw [hs];exact Sd0
set_option maxRecDepth 100000 in
set_option maxHeartbeats 2000000 in
theorem mWakes_c (s:St) (hw:s.WF) (r:Rob) (hr:r.task≠-1→0≤r.task∧r.task < 20) (σ:H):MCalls E Tryz.prog 121 [stV s,.agg (robC r).toArray] σ (fun v τ=>v=.int .i64 (wakes s r)∧Ext σ τ):=by
 refine mcalls_of fn121 (by simp) ?_
 unfold c121 r121 stV
 have g0:=H.get_push_self σ (.cells 0 (stC s))
 have e0:=Ext.push σ (.cells 0 (stC s))
 refine mx_seq (mx_ops (ml_op Sd0 (o_box Sd0) ?_))
 have hlt:=H.lt_of_cells g0
 generalize σ.push (.cells 0 (stC s))=τa at *
 refine ml_op Sd0 (o_box (cs:=robC r) Sd0) ?_
 have g1:=H.get_push_self τa (.cells 0 (robC r))
 have e1:=Ext.push τa (.cells 0 (robC r))
 have g0:=e1.cells g0
 have e:=e0.trans e1
 generalize τa.push (.cells 0 (robC r))=τ at *
 clear e0 e1
 refine stepR0 ?_
 refine ml_op Sd0 (o_load1q (off:=3) (v:=.int .i64 r.task) Sd0 g1 rfl) ?_
 by_cases ht:r.task=-1
 ·have ht':(r.task == -1)=true:=by rw [ht];rfl
  have hs:wakes s r=0:=by unfold wakes;rw [if_pos ht]
  refine stepR ht' ?_
  refine fin1 ⟨?_,e⟩
  rw [hs];exact Sd0
 ·have ht':(r.task == -1)=false:=by simpa using ht
  obtain ⟨h0,h20⟩:=hr ht
  have hk:r.task.toNat < 20:=by omega
  have hs:wakes s r=(s.t r.task.toNat).st:=by unfold wakes St.tk;rw [if_neg ht]
  refine stepR ht' ?_
  refine ml_op Sd0 (o_load1q (off:=3) (v:=.int .i64 r.task) Sd0 g1 rfl) ?_
  refine stepR0 ?_
  refine ml_op Sd0 (o_load1q (off:=92 + r.task.toNat * 3 + 2) (v:=.int .i64 (s.t r.task.toNat).st) Sd0 g0 (hw.tsk_at hk (by omega))) ?_
  refine stepR0 ?_
  refine fin1 ⟨?_,e⟩
  rw [hs];exact Sd0
theorem mAccount_c (r:Rob) (σ:H):MCalls E Tryz.prog 81 [.agg (robC r).toArray] σ (fun v τ=>v=accV r.charge r.moved r.gained r.adj∧Ext σ τ):=by
 obtain ⟨cell,charge,phase,task,moved,gained,adj⟩:=r
 refine mcalls_of fn81 (by simp) ?_
 unfold c81 r81 robC
 refine stepR0 ?_
 generalize hτ:H.push _ _=τ
 have g1:τ.get σ.size=.cells 0 [.int .i64 cell,.int .i64 charge,.int .i64 phase,.int .i64 task,.int .i64 moved,.int .i64 gained,.int .i64 adj]:=by rw [← hτ,H.get_push_ne (by simp),H.get_push_self]
 have g2:τ.get (σ.size + 1)=.cells 0 [.int .i64 0,.int .i64 0,.int .i64 0,.int .i64 0]:=by rw [← hτ];exact H.get_push_self (σ.push _) _
 have e1:Ext σ τ:=hτ ▸ (Ext.push _ _).trans (Ext.push _ _)
 clear hτ
 refine stepR g1 ?_
 refine ml_storeA (off:=0) (vs:=[.int .i64 charge,.int .i64 moved,.int .i64 gained,.int .i64 adj]) Sd0 Sd0 Sd0 g2 rfl (by simp) rfl fun τ4 t4=>?_
 refine stepR0 ?_
 exact finC Sd0 (row_of t4.self rfl) ⟨rfl,t4.ext e1 (by omega)⟩
set_option maxHeartbeats 4000000 in
theorem mWith_c (r:Rob) (c sp g a:Int) (σ:H):MCalls E Tryz.prog 82 [.agg (robC r).toArray,accV c sp g a] σ (fun v τ=>v=.agg (robC { r with charge:=c,moved:=sp,gained:=g,adj:=a }).toArray∧Ext σ τ):=by
 obtain ⟨cell,charge,phase,task,moved,gained,adj⟩:=r
 refine mcalls_of fn82 (by simp) ?_
 unfold c82 r82 robC accV
 refine stepR0 ?_
 generalize hτ:H.push _ _=τ
 have g1:τ.get σ.size=.cells 0 [.int .i64 cell,.int .i64 charge,.int .i64 phase,.int .i64 task,.int .i64 moved,.int .i64 gained,.int .i64 adj]:=by rw [← hτ,H.get_push_ne (by simp;omega),H.get_push_ne (by simp),H.get_push_self]
 have g2:τ.get (σ.size + 1)=.cells 0 [.int .i64 c,.int .i64 sp,.int .i64 g,.int .i64 a]:=by rw [← hτ,H.get_push_ne (by simp)];exact H.get_push_self (σ.push _) _
 have g3:τ.get (σ.size + 1 + 1)=.cells 0 [.int .i64 0,.int .i64 0,.int .i64 0,.int .i64 0,.int .i64 0,.int .i64 0,.int .i64 0]:=by rw [← hτ];exact H.get_push_self ((σ.push _).push _) _
 have e1:Ext σ τ:=hτ ▸ ((Ext.push _ _).trans (Ext.push _ _)).trans (Ext.push _ _)
 clear hτ
 refine stepR g2 ?_
 refine mld_storeL (off:=1) (vs:=[.int .i64 c]) Sd0 Sd0 Sd0 g1 rfl (by simp) rfl ?_ fun τ2 t2=>?_
 ·intro m hm
  simp only [dI,pI,qI,iI,vI,sI,jI,uI,pendOf,List.takeWhile,bne_iff_ne,ne_eq,Nat.reduceBNe,pureM,List.filter,List.map,Bool.not_false,Bool.not_true,Bool.and_true,Bool.and_false,Bool.true_and,Bool.false_and,List.mem_cons,List.not_mem_nil,or_false] at hm
  rcases hm with rfl | rfl | rfl | rfl
  ·exact ⟨_,.inl rfl,ne_of_ptr (j:=σ.size + 1) (o:=0) Sd0 (by omega)⟩
  ·exact ⟨_,.inl rfl,ne_of_ptr (j:=σ.size + 1) (o:=1) Sd0 (by omega)⟩
  ·exact ⟨_,.inl rfl,ne_of_ptr (j:=σ.size + 1) (o:=2) Sd0 (by omega)⟩
  ·exact ⟨_,.inl rfl,ne_of_ptr (j:=σ.size + 1) (o:=3) Sd0 (by omega)⟩
 have h2:=t2.self
 simp only [spl,List.set_cons_succ,List.set_cons_zero] at h2
 refine stepR0 ?_
 refine mld_storeL (off:=4) (vs:=[.int .i64 sp]) Sd0 Sd0 Sd0 h2 rfl (by simp) rfl ?_ fun τ3 t3=>?_
 ·intro m hm
  simp only [dI,pI,qI,iI,vI,sI,jI,uI,pendOf,List.takeWhile,bne_iff_ne,ne_eq,Nat.reduceBNe,pureM,List.filter,List.map,Bool.not_false,Bool.not_true,Bool.and_true,Bool.and_false,Bool.true_and,Bool.false_and,List.mem_cons,List.not_mem_nil,or_false] at hm
  rcases hm with rfl | rfl | rfl | rfl
  ·exact ⟨_,.inl rfl,ne_of_ptr (j:=σ.size + 1) (o:=0) Sd0 (by omega)⟩
  ·exact ⟨_,.inl rfl,ne_of_ptr (j:=σ.size + 1) (o:=1) Sd0 (by omega)⟩
  ·exact ⟨_,.inl rfl,ne_of_ptr (j:=σ.size + 1) (o:=2) Sd0 (by omega)⟩
  ·exact ⟨_,.inl rfl,ne_of_ptr (j:=σ.size + 1) (o:=3) Sd0 (by omega)⟩
 have h3:=t3.self
 simp only [spl,List.set_cons_succ,List.set_cons_zero] at h3
 refine stepR0 ?_
 refine mld_storeL (off:=5) (vs:=[.int .i64 g]) Sd0 Sd0 Sd0 h3 rfl (by simp) rfl ?_ fun τ4 t4=>?_
 ·intro m hm
  simp only [dI,pI,qI,iI,vI,sI,jI,uI,pendOf,List.takeWhile,bne_iff_ne,ne_eq,Nat.reduceBNe,pureM,List.filter,List.map,Bool.not_false,Bool.not_true,Bool.and_true,Bool.and_false,Bool.true_and,Bool.false_and,List.mem_cons,List.not_mem_nil,or_false] at hm
  rcases hm with rfl | rfl | rfl | rfl
  ·exact ⟨_,.inl rfl,ne_of_ptr (j:=σ.size + 1) (o:=0) Sd0 (by omega)⟩
  ·exact ⟨_,.inl rfl,ne_of_ptr (j:=σ.size + 1) (o:=1) Sd0 (by omega)⟩
  ·exact ⟨_,.inl rfl,ne_of_ptr (j:=σ.size + 1) (o:=2) Sd0 (by omega)⟩
  ·exact ⟨_,.inl rfl,ne_of_ptr (j:=σ.size + 1) (o:=3) Sd0 (by omega)⟩
 have h4:=t4.self
 simp only [spl,List.set_cons_succ,List.set_cons_zero] at h4
 refine stepR0 ?_
 refine mld_op Sd0 (o_store (off:=6) (vs:=[.int .i64 a]) Sd0 Sd0 h4 rfl (by simp) rfl) ?_
 have t5:SetTo τ4 σ.size (.cells 0 (spl [.int .i64 cell,.int .i64 c,.int .i64 phase,.int .i64 task,.int .i64 sp,.int .i64 g,.int .i64 adj] 6 [.int .i64 a])) (τ4.set σ.size (.cells 0 (spl [.int .i64 cell,.int .i64 c,.int .i64 phase,.int .i64 task,.int .i64 sp,.int .i64 g,.int .i64 adj] 6 [.int .i64 a]))):=.mk' (H.lt_of_cells h4)
 generalize τ4.set σ.size _=τ5 at *
 have h5:=t5.self
 simp only [spl,List.set_cons_succ,List.set_cons_zero] at h5
 have g35:=t5.cells (t4.cells (t3.cells (t2.cells g3 (by omega)) (by omega)) (by omega)) (by omega)
 have e5:=t5.ext (t4.ext (t3.ext (t2.ext e1 (Nat.le_refl _)) (Nat.le_refl _)) (Nat.le_refl _)) (Nat.le_refl _)
 refine stepR h5 ?_
 refine ml_storeA (off:=0) (vs:=[.int .i64 cell,.int .i64 c,.int .i64 phase,.int .i64 task,.int .i64 sp,.int .i64 g,.int .i64 a]) Sd0 Sd0 Sd0 g35 rfl (by simp) rfl fun τ6 t6=>?_
 refine stepR0 ?_
 exact finC Sd0 (row_of t6.self rfl) ⟨rfl,t6.ext e5 (by omega)⟩
end Go.Proofs.YtoejdgoicoaomaaGreatDoor
namespace Go.Proofs.YtoejdgoicoaomaaGreatDoor
open Go.Mini
open Go.Proofs.YtoejdgoicoaomaaGreatDoor.Code
attribute [local irreducible] mx ml mld mstep MCalls Ex.thn Ex.inb
variable {E:World→Prop}
def gainA (c sp g a n:Int):Option (Int × Int × Int × Int):=if accOK c sp g a && decide (0≤n) && accOK (c + min n (200 - c)) sp (g + min n (200 - c)) a then some (c + min n (200 - c),sp,g + min n (200 - c),a) else none
def setA (c sp g a x:Int):Option (Int × Int × Int × Int):=if accOK c sp g a && inB x 0 200 && accOK x sp g (a + (x - c)) then some (x,sp,g,a + (x - c)) else none
theorem fin_acc {σ τ:H} {ts:Fr} {ev:Value} {nm:ByteArray} {n:Int} {id:Nat} {o:Option (Int × Int × Int × Int)} {c:List Value} (he:TagE σ ev nm n) (h4:ts 4=.pointer (some ⟨id,0,none⟩)) (h5:ts 5=ev) (hs:o=none) (t:SetTo σ id (.cells 0 [.int .i64 0,.int .i64 0,.int .i64 0,.int .i64 0]) τ) (hg:σ.get id=.cells 0 (.int .i64 0 :: c)) {σ0:H} (e:Ext σ0 σ) (hid:σ0.size≤id):
 mpost [.cell 4 4 true,.t 5] (fun v τ=>AccR τ o v∧Ext σ0 τ) .ret ts τ:=by
 refine finC1 h4 (row_of t.self rfl) ⟨?_,t.ext e hid⟩
 rw [hs,h5]
 exact .err (he.set t hg)
set_option maxHeartbeats 4000000 in
theorem vGain_c (c sp g a k:Int) (h0:0≤k) (hk:k≤1000) (σ:H):MCalls E Tryz.prog 145 [accV c sp g a,.int .i64 k] σ (fun v τ=>AccR τ (gainA c sp g a k) v∧Ext σ τ):=by
 refine mcalls_of fn145 (by simp) ?_
 unfold c145 r145 accV
 refine stepR0 ?_
 generalize hτ:H.push _ _=τ
 have g1:τ.get σ.size=.cells 0 [.int .i64 c,.int .i64 sp,.int .i64 g,.int .i64 a]:=by rw [← hτ,H.get_push_ne (by simp),H.get_push_self]
 have g2:τ.get (σ.size + 1)=.cells 0 [.int .i64 0,.int .i64 0,.int .i64 0,.int .i64 0]:=by rw [← hτ];exact H.get_push_self (σ.push _) _
 have e1:Ext σ τ:=hτ ▸ (Ext.push _ _).trans (Ext.push _ _)
 clear hτ
 refine stepR g1 ?_
 refine ml_call Sd0 Sd0 (vRight_c c sp g a τ) ?_
 rintro _ τ2 ⟨rfl,e2⟩
 have g1:=e2.cells g1
 have g2:=e2.cells g2
 have e:=e1.trans e2
 cases h:accOK c sp g a
 ·have hs:gainA c sp g a k=none:=by unfold gainA;rw [h];rfl
  refine stepR0 ?_
  refine ml_call Sd0 Sd0 (tag_c _ _ _) ?_
  rintro ev τ3 ⟨he,e3⟩
  refine ml_storeA (off:=0) (vs:=[.int .i64 0,.int .i64 0,.int .i64 0,.int .i64 0]) Sd0 Sd0 Sd0 (e3.cells g2) rfl (by simp) rfl fun τ4 t4=>?_
  refine stepR0 ?_
  exact fin_acc he Sd0 Sd0 hs t4 (e3.cells g2) (e.trans e3) (by omega)
 obtain ⟨hc,hsp,hgg,ha⟩:=accOK_iff.1 h
 unfold great at hsp hgg ha
 have h0':¬ k < 0:=by omega
 have hsA:gainA c sp g a k=if accOK (c + min k (200 - c)) sp (g + min k (200 - c)) a then some (c + min k (200 - c),sp,g + min k (200 - c),a) else none:=by
  unfold gainA;rw [h,decide_eq_true h0];simp
 have hmn:-200≤min k (200 - c)∧min k (200 - c)≤200:=by omega
 ·refine stepR (An h0' g1) ?_
  rw [show (if 200 - c < k then 200 - c else k)=min k (200 - c) by split<;>omega]
  generalize min k (200 - c)=m at *
  refine ml_store1 (off:=0) (v:=.int .i64 (c + m)) Sd0 Sd0 Sd0 rfl rfl g1 (by simp) ?_
  have t3:SetTo τ2 σ.size (.cells 0 [.int .i64 (c + m),.int .i64 sp,.int .i64 g,.int .i64 a]) (τ2.set σ.size (.cells 0 ([.int .i64 c,.int .i64 sp,.int .i64 g,.int .i64 a].set 0 (.int .i64 (c + m))))):=.mk' (H.lt_of_cells g1)
  generalize τ2.set σ.size _=τ3 at *
  have g13:=t3.self
  refine stepR g13 ?_
  refine ml_store1 (off:=2) (v:=.int .i64 (g + m)) Sd0 Sd0 Sd0 rfl rfl g13 (by simp) ?_
  have t4:SetTo τ3 σ.size (.cells 0 [.int .i64 (c + m),.int .i64 sp,.int .i64 (g + m),.int .i64 a]) (τ3.set σ.size (.cells 0 ([.int .i64 (c + m),.int .i64 sp,.int .i64 g,.int .i64 a].set 2 (.int .i64 (g + m))))):=.mk' (H.lt_of_cells g13)
  generalize τ3.set σ.size _=τ4 at *
  have g14:=t4.self
  refine stepR g14 ?_
  have g24:=t4.cells (t3.cells g2 (by omega)) (by omega)
  have e4:=t4.ext (t3.ext e (Nat.le_refl _)) (Nat.le_refl _)
  refine ml_call Sd0 Sd0 (vThen_c (c + m) sp (g + m) a τ4) ?_
  rintro v τ5 ⟨hv,e5⟩
  have g25:=e5.cells g24
  rw [hsA]
  cases h5:accOK (c + m) sp (g + m) a
  ·rw [h5] at hv
   obtain ⟨ev,nm,n,rfl,he⟩:=hv
   refine stepR0 ?_
   refine ml_storeA (off:=0) (vs:=[.int .i64 0,.int .i64 0,.int .i64 0,.int .i64 0]) Sd0 Sd0 Sd0 g25 rfl (by simp) rfl fun τ6 t6=>?_
   refine stepR0 ?_
   exact fin_acc he Sd0 Sd0 rfl t6 g25 (e4.trans e5) (by omega)
  ·rw [h5] at hv
   have hv:v=.tuple #[accV (c + m) sp (g + m) a,.nilIface]:=hv
   subst hv
   refine stepR0 ?_
   refine ml_storeA (off:=0) (vs:=[.int .i64 (c + m),.int .i64 sp,.int .i64 (g + m),.int .i64 a]) Sd0 Sd0 Sd0 g25 rfl (by simp) rfl fun τ6 t6=>?_
   refine stepR0 ?_
   refine finC1 Sd0 (row_of t6.self rfl) ⟨?_,t6.ext (e4.trans e5) (by omega)⟩
   show _=_
   simp only [go_sem,reduceIte,Nat.reduceEqDiff,reduceCtorEq,Nat.reduceAdd,Nat.reduceLeDiff,Int.reduceNeg,Int.reduceToNat,Int.reduceBEq,Int.reduceBNe,Int.reduceLT,Int.reduceLE,Int.reduceAdd,Int.reduceSub]
set_option maxHeartbeats 4000000 in
theorem vSet_c (c sp g a x:Int) (σ:H):MCalls E Tryz.prog 80 [accV c sp g a,.int .i64 x] σ (fun v τ=>AccR τ (setA c sp g a x) v∧Ext σ τ):=by
 refine mcalls_of fn80 (by simp) ?_
 unfold c80 r80 accV
 refine stepR0 ?_
 generalize hτ:H.push _ _=τ
 have g1:τ.get σ.size=.cells 0 [.int .i64 c,.int .i64 sp,.int .i64 g,.int .i64 a]:=by rw [← hτ,H.get_push_ne (by simp),H.get_push_self]
 have g2:τ.get (σ.size + 1)=.cells 0 [.int .i64 0,.int .i64 0,.int .i64 0,.int .i64 0]:=by rw [← hτ];exact H.get_push_self (σ.push _) _
 have e1:Ext σ τ:=hτ ▸ (Ext.push _ _).trans (Ext.push _ _)
 clear hτ
 refine stepR g1 ?_
 refine ml_call Sd0 Sd0 (vRight_c c sp g a τ) ?_
 rintro _ τ2 ⟨rfl,e2⟩
 have g1:=e2.cells g1
 have g2:=e2.cells g2
 have e:=e1.trans e2
 cases h:accOK c sp g a
 ·have hs:setA c sp g a x=none:=by unfold setA;rw [h];rfl
  refine stepR0 ?_
  refine ml_call Sd0 Sd0 (tag_c _ _ _) ?_
  rintro ev τ3 ⟨he,e3⟩
  refine ml_storeA (off:=0) (vs:=[.int .i64 0,.int .i64 0,.int .i64 0,.int .i64 0]) Sd0 Sd0 Sd0 (e3.cells g2) rfl (by simp) rfl fun τ4 t4=>?_
  refine stepR0 ?_
  exact fin_acc he Sd0 Sd0 hs t4 (e3.cells g2) (e.trans e3) (by omega)
 obtain ⟨hc,hsp,hgg,ha⟩:=accOK_iff.1 h
 unfold great at hsp hgg ha
 refine stepR0 ?_
 refine ml_call Sd0 Sd0 (vMay_c x τ2) ?_
 rintro _ τx ⟨rfl,rfl⟩
 cases hx:inB x 0 200
 ·have hs:setA c sp g a x=none:=by unfold setA;rw [h,hx];rfl
  refine stepR0 ?_
  refine ml_call Sd0 Sd0 (tag_c _ _ _) ?_
  rintro ev τ3 ⟨he,e3⟩
  refine ml_storeA (off:=0) (vs:=[.int .i64 0,.int .i64 0,.int .i64 0,.int .i64 0]) Sd0 Sd0 Sd0 (e3.cells g2) rfl (by simp) rfl fun τ4 t4=>?_
  refine stepR0 ?_
  exact fin_acc he Sd0 Sd0 hs t4 (e3.cells g2) (e.trans e3) (by omega)
 have hsA:setA c sp g a x=if accOK x sp g (a + (x - c)) then some (x,sp,g,a + (x - c)) else none:=by
  unfold setA;rw [h,hx];simp
 rw [inB_iff] at hx
 ·refine stepR g1 ?_
  refine ml_store1 (off:=3) (v:=.int .i64 (a + (x - c))) Sd0 Sd0 Sd0 rfl rfl g1 (by simp) ?_
  have t3:SetTo τx σ.size (.cells 0 [.int .i64 c,.int .i64 sp,.int .i64 g,.int .i64 (a + (x - c))]) (τx.set σ.size (.cells 0 ([.int .i64 c,.int .i64 sp,.int .i64 g,.int .i64 a].set 3 (.int .i64 (a + (x - c)))))):=.mk' (H.lt_of_cells g1)
  generalize τx.set σ.size _=τ3 at *
  have g13:=t3.self
  refine stepR g13 ?_
  refine ml_store1 (off:=0) (v:=.int .i64 (x)) Sd0 Sd0 Sd0 rfl rfl g13 (by simp) ?_
  have t4:SetTo τ3 σ.size (.cells 0 [.int .i64 x,.int .i64 sp,.int .i64 g,.int .i64 (a + (x - c))]) (τ3.set σ.size (.cells 0 ([.int .i64 c,.int .i64 sp,.int .i64 g,.int .i64 (a + (x - c))].set 0 (.int .i64 (x))))):=.mk' (H.lt_of_cells g13)
  generalize τ3.set σ.size _=τ4 at *
  have g14:=t4.self
  refine stepR g14 ?_
  have g24:=t4.cells (t3.cells g2 (by omega)) (by omega)
  have e4:=t4.ext (t3.ext e (Nat.le_refl _)) (Nat.le_refl _)
  refine ml_call Sd0 Sd0 (vThen_c x sp g (a + (x - c)) τ4) ?_
  rintro v τ5 ⟨hv,e5⟩
  have g25:=e5.cells g24
  rw [hsA]
  cases h5:accOK x sp g (a + (x - c))
  ·rw [h5] at hv
   obtain ⟨ev,nm,n,rfl,he⟩:=hv
   refine stepR0 ?_
   refine ml_storeA (off:=0) (vs:=[.int .i64 0,.int .i64 0,.int .i64 0,.int .i64 0]) Sd0 Sd0 Sd0 g25 rfl (by simp) rfl fun τ6 t6=>?_
   refine stepR0 ?_
   exact fin_acc he Sd0 Sd0 rfl t6 g25 (e4.trans e5) (by omega)
  ·rw [h5] at hv
   have hv:v=.tuple #[accV x sp g (a + (x - c)),.nilIface]:=hv
   subst hv
   refine stepR0 ?_
   refine ml_storeA (off:=0) (vs:=[.int .i64 x,.int .i64 sp,.int .i64 g,.int .i64 (a + (x - c))]) Sd0 Sd0 Sd0 g25 rfl (by simp) rfl fun τ6 t6=>?_
   refine stepR0 ?_
   refine finC1 Sd0 (row_of t6.self rfl) ⟨?_,t6.ext (e4.trans e5) (by omega)⟩
   show _=_
   simp only [go_sem,reduceIte,Nat.reduceEqDiff,reduceCtorEq,Nat.reduceAdd,Nat.reduceLeDiff,Int.reduceNeg,Int.reduceToNat,Int.reduceBEq,Int.reduceBNe,Int.reduceLT,Int.reduceLE,Int.reduceAdd,Int.reduceSub]
theorem clFree_c {σ:H} {v:Value} {l:List Int} (hr:Rd σ v (ints l)) (hl:l.length≤1000000) (x:Int):MCalls E Tryz.prog 31 [v,.int .i64 x] σ (fun r τ=>r=.bool (decide (x=-1) || !decide (x ∈ l))∧τ=σ):=by
 refine mcalls_of fn31 (by simp) ?_
 unfold c31 r31
 by_cases h:x=-1
 ·have h':(x == -1)=true:=by rw [h];rfl
  refine stepR h' ?_
  refine fin1 ⟨?_,rfl⟩
  rw [decide_eq_true h];exact Sd0
 ·have h':(x == -1)=false:=by simpa using h
  refine stepR h' ?_
  refine ml_call Sd0 Sd0 (contains_c hr hl x) ?_
  rintro _ τ ⟨rfl,rfl⟩
  refine stepR0 ?_
  refine fin1 ⟨?_,rfl⟩
  rw [decide_eq_false h];exact Sd0
end Go.Proofs.YtoejdgoicoaomaaGreatDoor
