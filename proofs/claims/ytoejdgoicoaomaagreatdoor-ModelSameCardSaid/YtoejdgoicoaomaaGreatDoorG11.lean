/- Errors by their number; RouteThird; route.Total and the document's; RouteTotals. -/
import Derived.Test.YtoejdgoicoaomaaGreatDoorG10
import Derived.Test.YtoejdgoicoaomaaGreatDoorG8
import Derived.Test.YtoejdgoicoaomaaGreatDoorShelf
import Derived.Shelf.Strings.Builder1
import Derived.Test.YtoejdgoicoaomaaGreatDoorG6
import Derived.Test.YtoejdgoicoaomaaGreatDoorCode
import Derived.Test.YtoejdgoicoaomaaGreatDoorG9
set_option linter.unusedVariables false
set_option linter.unusedSimpArgs false
namespace Go.Proofs.YtoejdgoicoaomaaGreatDoor
open Go.Mini
open Go.Proofs.YtoejdgoicoaomaaGreatDoor.Code
attribute [local irreducible] mx ml mld mstep MCalls Ex.thn Ex.inb
variable {E:World→Prop}
def EN (σ:H) (ev:Value) (k:Int):Prop:=(k=0∧ev=.nilIface)∨∃ nm,TagE σ ev nm k
theorem EN.of_ext {σ τ:H} {ev:Value} {k:Int} (h:EN σ ev k) (e:Ext σ τ):EN τ ev k:=by
 rcases h with h | ⟨nm,h⟩
 ·exact .inl h
 ·exact .inr ⟨nm,h.of_ext e⟩
theorem EN.num (hE:∀ w,E w→ErrType w) {σ:H} {ev:Value} {k:Int} (h:EN σ ev k):MCalls E Tryz.prog 17 [ev] σ (fun r τ=>r=.int .i64 k∧Ext σ τ):=by
 rcases h with ⟨rfl,rfl⟩ | ⟨nm,h⟩
 ·exact MCalls.mono (tNumN_c σ) fun v τ ⟨h1,h2⟩=>⟨h1,h2 ▸ Ext.refl _⟩
 ·exact tNum_c hE h.chain
end Go.Proofs.YtoejdgoicoaomaaGreatDoor
namespace Go.Proofs.YtoejdgoicoaomaaGreatDoor
open Go.Mini
open Go.Proofs.YtoejdgoicoaomaaGreatDoor.Code
attribute [local irreducible] mx ml mld mstep MCalls Ex.thn Ex.inb
variable {E:World→Prop}
noncomputable def totOK (W Hh:Int) (S:ByteArray) (c a b:Int):Bool:=gr W Hh S && opn S c && opn S a && opn S b
inductive TotR (W Hh:Int) (S:ByteArray) (on:List Int) (c a b:Int):Int→Int→Prop where
 | bad (h:totOK W Hh S c a b=false):TotR W Hh S on c a b 0 1
 | much (h:totOK W Hh S c a b=true) (h2:64 < on.length):TotR W Hh S on c a b 0 4
 | none {f:List Int} (h:totOK W Hh S c a b=true) (h2:Cst W S on 1 f) (h3:f.getD b.toNat 0 < 0):TotR W Hh S on c a b 0 4
 | good {f1 f2 f3:List Int} (h:totOK W Hh S c a b=true) (h0:¬ 64 < on.length) (h1:Cst W S [a] 1 f1) (h2:Cst W S [b] 2 f2) (h3:Cst W S on 1 f3) (h4:¬ f3.getD b.toNat 0 < 0):TotR W Hh S on c a b (f1.getD c.toNat 0 + f2.getD a.toNat 0 + f3.getD b.toNat 0) 0
theorem TotR.uniq {W Hh:Int} {S:ByteArray} {on:List Int} {c a b n k n2 k2:Int} (h:TotR W Hh S on c a b n k) (h2:TotR W Hh S on c a b n2 k2):n=n2∧k=k2:=by
 cases h with
 | bad h=>cases h2<;>first | exact ⟨rfl,rfl⟩ | simp_all
 | much h x=>cases h2<;>first | exact ⟨rfl,rfl⟩ | simp_all
 | none h x y=>
   cases h2 with
   | bad h'=>simp_all
   | much _ _=>exact ⟨rfl,rfl⟩
   | none _ _ _=>exact ⟨rfl,rfl⟩
   | good h' _ _ _ h3 h4=>obtain rfl:=x.uniq h3;exact absurd y h4
 | good h x h1 h2' h3 h4=>
   cases h2 with
   | bad h'=>simp_all
   | much _ x'=>exact absurd x' x
   | none _ x' y'=>obtain rfl:=h3.uniq x';exact absurd y' h4
   | good _ _ k1 k2 k3 _=>obtain rfl:=h1.uniq k1;obtain rfl:=h2'.uniq k2;obtain rfl:=h3.uniq k3;exact ⟨rfl,rfl⟩
theorem cst_lo {W:Int} {S:ByteArray} {src:List Int} {st:Int} {f:List Int} (hc:Cst W S src st f) (hst:1≤st) (hS:S.size≤64) {i:Nat} (hi:i < S.size):-1≤f.getD i 0∧f.getD i 0≤st * 64:=by
 rcases hc.2 i hi with ⟨h,_⟩ | ⟨k,h1,h2,h3⟩
 ·rw [h];constructor<;>omega
 ·have hk:=h1.short h2
  rw [h3]
  have:=Int.mul_nonneg (a:=st) (b:=(k:Int)) (by omega) (by omega)
  exact ⟨by omega,Int.mul_le_mul_of_nonneg_left (by omega) (by omega)⟩
theorem fin2 {i j:Nat} {ts:Fr} {σ:H} {R:Value→H→Prop} (h:R (.tuple #[ts i,ts j]) σ):mpost [.t i,.t j] R .ret ts σ:=⟨[ts i,ts j],rfl,h⟩
def EN2 (σ:H) (ev:Value) (k:Int):Prop:=(k=0∧ev=.nilIface)∨(k≠0∧∃ nm,TagE σ ev nm k)
theorem EN2.en {σ:H} {ev:Value} {k:Int} (h:EN2 σ ev k):EN σ ev k:=by
 rcases h with h | ⟨_,h⟩
 ·exact .inl h
 ·exact .inr h
set_option maxHeartbeats 4000000 in
theorem oTotal_c2 (W Hh:Int) (S:ByteArray) {σ:H} {ov:Value} {on:List Int} (hr:Rd σ ov (ints on)) (c a b:Int):
 MCalls E Tryz.prog 122 [mapV W Hh S,ov,.int .i64 c,.int .i64 a,.int .i64 b] σ (fun v τ=>∃ n k ev,v=.tuple #[.int .i64 n,ev]∧TotR W Hh S on c a b n k∧EN2 τ ev k∧Ext σ τ):=by
 refine mcalls_of fn122 (by simp) ?_
 unfold c122 r122 mapV
 refine stepR0 ?_
 have g1:=H.get_push_self σ (.cells 0 [.int .i64 W,.int .i64 Hh,.string S])
 have e1:=Ext.push σ (.cells 0 [.int .i64 W,.int .i64 Hh,.string S])
 refine ml_call Sd0 Sd0 (oPlan_c W Hh S c a 1 _) ?_
 intro v1 τ h1
 cases hok1:planOK W Hh S c a 1
 ·obtain ⟨nm,ev,rfl,he,e2⟩:=plan_bad h1 hok1
  refine stepR0 ?_
  refine ml_op Sd0 (he.neq Sd0 true) ?_
  refine stepR0 ?_
  refine fin2 ⟨0,1,ev,Sd0,.bad ?_,.inr ⟨by decide,nm,he⟩,e1.trans e2⟩
  unfold planOK at hok1
  unfold totOK
  cases hx:(gr W Hh S && opn S c && opn S a)
  ·rfl
  ·rw [hx] at hok1;simp at hok1
 obtain ⟨wv,out,f1,rfl,hc1,_,hout⟩:=plan_ok h1 hok1
 have e2:=e1.trans hout.1
 have g2:=hout.1.cells g1
 clear h1 hout
 refine stepR g2 ?_
 refine ml_call Sd0 Sd0 (oPlan_c W Hh S a b 2 _) ?_
 intro v2 τ3 h2
 have hok1':=hok1
 simp only [planOK,Bool.and_eq_true] at hok1'
 obtain ⟨⟨⟨⟨hg,hoc⟩,hoa⟩,_⟩,_⟩:=hok1'
 cases hok2:planOK W Hh S a b 2
 ·obtain ⟨nm,ev,rfl,he,e3⟩:=plan_bad h2 hok2
  refine stepR0 ?_
  refine ml_op Sd0 (he.neq Sd0 true) ?_
  refine stepR0 ?_
  refine fin2 ⟨0,1,ev,Sd0,.bad ?_,.inr ⟨by decide,nm,he⟩,e2.trans e3⟩
  unfold planOK at hok2
  unfold totOK
  rw [hg,hoc,hoa]
  rw [hg,hoa] at hok2
  simpa using hok2
 obtain ⟨wv2,out2,f2,rfl,hc2,_,hout2⟩:=plan_ok h2 hok2
 have e3:=e2.trans hout2.1
 have g3:=hout2.1.cells g2
 clear h2 hout2
 have hok2':=hok2
 simp only [planOK,Bool.and_eq_true] at hok2'
 obtain ⟨⟨⟨⟨_,_⟩,hob⟩,_⟩,_⟩:=hok2'
 have htot:totOK W Hh S c a b=true:=by unfold totOK;rw [hg,hoc,hoa,hob];rfl
 have hS64:=(gr_size hg).2.2.2.1
 have hcl:=opn_lt hoc
 have hal:=opn_lt hoa
 have hbl:=opn_lt hob
 have lo1:=cst_lo hc1 (by omega) hS64.2 (i:=c.toNat) (by omega)
 have lo2:=cst_lo hc2 (by omega) hS64.2 (i:=a.toNat) (by omega)
 refine stepR g3 ?_
 refine ml_call Sd0 Sd0 (costs_c W Hh S on 1 ov τ3 (hr.of_ext e3)) ?_
 intro v3 τ4 h3
 cases hok3:costOK W Hh S on 1
 ·obtain ⟨ev,rfl,he,e4⟩:=cost_bad h3 hok3
  have hmuch:64 < on.length:=by
   unfold costOK at hok3
   rw [hg] at hok3
   simpa using hok3
  refine stepR0 ?_
  refine ml_op Sd0 (he.neq Sd0 true) ?_
  refine stepR0 ?_
  refine ml_call Sd0 Sd0 (tag_c _ _ _) ?_
  rintro ev2 τ5 ⟨he2,e5⟩
  refine stepR0 ?_
  exact fin2 ⟨0,4,ev2,Sd0,.much htot hmuch,.inr ⟨by decide,_,he2⟩,e3.trans (e4.trans e5)⟩
 obtain ⟨fv,f3,rfl,hc3,hof⟩:=cost_ok h3 hok3
 have hfew:¬ 64 < on.length:=by
  unfold costOK at hok3
  simp only [Bool.and_eq_true,decide_eq_true_eq] at hok3
  omega
 have e4:=e3.trans hof.1
 have ab:=ints_at (l:=f3) (i:=b.toNat) (by rw [hc3.1];omega)
 have lo3:=cst_lo hc3 (by omega) hS64.2 (i:=b.toNat) (by omega)
 have rf:=hof.rd
 clear h3 hof
 refine stepR0 ?_
 refine ml_getSg (q:=b) Sd0 rf Sd0 Sd0 hbl.1 ab (fun p=>Sd0) fun p=>?_
 by_cases hneg:f3.getD b.toNat 0 < 0
 ·refine stepR hneg ?_
  refine ml_call Sd0 Sd0 (tag_c _ _ _) ?_
  rintro ev2 τ5 ⟨he2,e5⟩
  refine stepR0 ?_
  exact fin2 ⟨0,4,ev2,Sd0,.none htot hc3 hneg,.inr ⟨by decide,_,he2⟩,e4.trans e5⟩
 have hgood:TotR W Hh S on c a b (f1.getD c.toNat 0 + f2.getD a.toNat 0 + f3.getD b.toNat 0) 0:=.good htot hfew hc1 hc2 hc3 hneg
 generalize f1.getD c.toNat 0=x1 at *
 generalize f2.getD a.toNat 0=x2 at *
 generalize f3.getD b.toNat 0=x3 at *
 refine stepR hneg ?_
 refine ml_getS (q:=b) rf (Sw hneg) (Sw hneg) hbl.1 ab fun p=>?_
 refine stepR hneg ?_
 exact fin2 ⟨_,0,.nilIface,(Sw hneg),hgood,.inl ⟨rfl,rfl⟩,e4⟩
end Go.Proofs.YtoejdgoicoaomaaGreatDoor
namespace Go.Proofs.YtoejdgoicoaomaaGreatDoor
open Go.Mini
open Go.Proofs.YtoejdgoicoaomaaGreatDoor.Code
attribute [local irreducible] mx ml mld mstep MCalls Ex.thn Ex.inb
variable {E:World→Prop}
theorem wk_from {W:Int} {S:ByteArray} {on:List Int} {k:Nat} {x:Int} (h:Wk W S on k x):∃ y ∈ on,Wk W S [y] k x:=by
 induction h with
 | src h ho=>exact ⟨_,h,.src (by simp) ho⟩
 | step _ hn ih=>obtain ⟨y,hy,h⟩:=ih;exact ⟨y,hy,.step h hn⟩
theorem wk_mono {W:Int} {S:ByteArray} {on:List Int} {y:Int} (hy:y ∈ on) {k:Nat} {x:Int} (h:Wk W S [y] k x):Wk W S on k x:=by
 induction h with
 | src h ho=>simp at h;subst h;exact .src hy ho
 | step _ hn ih=>exact .step ih hn
theorem gkind_le (S:ByteArray) (b:UInt8) (q:Bool):(gkind S b q).length≤S.size:=by
 unfold gkind
 split
 ·rw [List.length_map];exact Nat.le_trans (List.length_filter_le _ _) (by simp)
 ·simp
section
variable {W Hh:Int} {S:ByteArray} {f:List Int}
end
def leastR (W:Int) (S:ByteArray) (l:List Int) (k:Nat) (B:Int):Prop:=
 0≤B∧B≤1000∧(∀ y ∈ l,∃ g,Cst W S [y] 1 g∧B≤g.getD k 0)∧(B=1000∨∃ y ∈ l,∃ g,Cst W S [y] 1 g∧B=g.getD k 0)
end Go.Proofs.YtoejdgoicoaomaaGreatDoor
namespace Go.Proofs.YtoejdgoicoaomaaGreatDoor
open Go.Mini
open Go.Proofs.YtoejdgoicoaomaaGreatDoor.Code
attribute [local irreducible] mx ml mld mstep MCalls Ex.thn Ex.inb
variable {E:World→Prop}
theorem take_succ_at {l:List Int} {j:Nat} (hj:j < l.length):l.take (j + 1)=l.take j ++ [l.getD j 0]:=by
 rw [List.take_add_one,List.getElem?_eq_getElem hj,List.getD_eq_getElem?_getD,List.getElem?_eq_getElem hj];rfl
theorem idxFunc_c {σ:H} {v fv:Value} {l:List Int} {p:Int→Bool} {g:FuncId} {caps:Array Value} (hr:Rd σ v (ints l)) (hf:fv=.func (.func g) #[] caps)
 (hl:l.length≤1000000) (hp:∀ x ∈ l,∀ τ,Ext σ τ→MCalls E Tryz.prog g ([.int .i64 x] ++ caps.toList) τ (fun r τ'=>r=.bool (p x)∧Ext τ τ')):
 MCalls E Tryz.prog 142 [v,fv] σ (fun r τ=>Ext σ τ∧((r=.int .i64 (-1)∧∀ x ∈ l,p x=false)∨∃ i:Nat,i < l.length∧r=.int .i64 i∧p (l.getD i 0)=true∧∀ x ∈ l.take i,p x=false)):=by
 subst hf
 refine mcalls_of fn142 (by simp) ?_
 unfold c142 r142
 have hsz:(ints l).length=l.length:=ints_len _
 refine stepR0 ?_
 refine ml_len Sd0 hr Sd0 ?_
 refine stepR hsz ?_
 refine mx_loop (fun n ts τ=>∃ i:Nat,n=l.length - i∧i≤l.length∧Ext σ τ∧(∀ x ∈ l.take i,p x=false)∧ts 0=v∧ts 1=.func (.func g) #[] caps∧ts 7=.int .i64 l.length∧ts 8=.int .i64 ((i:Nat):Int)) l.length ?_ ?_
 ·exact ⟨0,rfl,Nat.zero_le _,.refl _,by simp,Sd0,Sd0,Sd0,Sd0⟩
 rintro n ts τ ⟨i,rfl,hi,e,hall,t0,t1,t7,t8⟩
 rcases Nat.lt_or_ge i l.length with hlt | hge
 ·have hm:l.getD i 0 ∈ l:=by rw [List.getD_eq_getElem?_getD,List.getElem?_eq_getElem hlt];exact List.getElem_mem hlt
  refine stepR (An t0 (An t1 (An t7 t8))) ?_
  refine ml_getS (hr.of_ext e) (Sw t0) (Sw t8) (by omega) (by rw [Int.toNat_natCast];exact ints_at hlt) fun q=>?_
  refine ml_callv Sd0 (Sw t1) Sd0 (hp _ hm τ e) ?_
  rintro _ τ2 ⟨rfl,e2⟩
  cases hx:p (l.getD i 0)
  ·refine stepR t8 ?_
   refine ⟨_,?_,i + 1,rfl,hlt,e.trans e2,?_,(Sw t0),(Sw t1),(Sw t7),Sd0⟩
   ·omega
   ·intro x hx2
    rw [take_succ_at hlt,List.mem_append] at hx2
    rcases hx2 with h | h
    ·exact hall x h
    ·rw [List.mem_singleton] at h;subst h;exact hx
  ·refine stepR t8 ?_
   exact fin1 ⟨e.trans e2,.inr ⟨i,hlt,Sd0,hx,hall⟩⟩
 ·have:i=l.length:=by omega
  subst this
  rw [List.take_length] at hall
  refine stepR (An t0 (An t1 (An t7 t8))) ?_
  exact fin1 ⟨e,.inl ⟨Sd0,hall⟩⟩
theorem DownR.uniq {W Hh:Int} {S:ByteArray} {f:List Int} {c:Int} {l l':List Int} (h:DownR W Hh S f c l) (h':DownR W Hh S f c l'):l=l':=by
 unfold DownR at h h'
 split at h
 ·rename_i hx
  rw [if_pos hx] at h'
  obtain ⟨a,a1,a2,rfl⟩:=h
  obtain ⟨b,b1,b2,rfl⟩:=h'
  rw [List.Perm.eq_of_pairwise (le:=le) (fun x y _ _ h1 h2=>by unfold le at h1 h2;exact Prod.ext (by omega) (by omega)) a2 b2 (a1.trans b1.symm)]
 ·rename_i hx
  rw [if_neg hx] at h'
  rw [h,h']
theorem DownR.mem {W Hh:Int} {S:ByteArray} {f:List Int} {c:Int} {l:List Int} (h:DownR W Hh S f c l) {x:Int} (hx:x ∈ l):opn S x=true∧gr W Hh S=true:=by
 unfold DownR at h
 split at h
 ·rename_i hd
  have:=(DownL.mem h).1 hx
  refine ⟨near_opn this.1,?_⟩
  unfold downOK at hd
  simp only [Bool.and_eq_true] at hd
  exact hd.1.2.1
 ·subst h;cases hx
theorem DownR.len {W Hh:Int} {S:ByteArray} {f:List Int} {c:Int} {l:List Int} (h:DownR W Hh S f c l):l.length≤4:=by
 unfold DownR at h
 split at h
 ·obtain ⟨a,a1,a2,rfl⟩:=h
  rw [List.length_map,a1.length_eq]
  unfold dnI
  rw [List.length_map]
  exact Nat.le_trans (List.length_filter_le _ _) (nearL_len ..)
 ·subst h;simp
def freeT (t:List Bool) (x:Int):Bool:=decide ((t.length:Int)≤x) || !t.getD x.toNat false
def nextR (t:List Bool) (l:List Int) (v:Value):Prop:=
 (v=.tuple #[.int .i64 0,.bool false]∧∀ x ∈ l,freeT t x=false)∨∃ i:Nat,i < l.length∧v=.tuple #[.int .i64 (l.getD i 0),.bool true]∧freeT t (l.getD i 0)=true∧∀ x ∈ l.take i,freeT t x=false
theorem oNext1_c {σ:H} {tv:Value} {t:List Bool} {id:Nat} (hb:σ.get id=.cells 0 [tv]) (hr:Rd σ tv (bools t)) {x:Int} (hx:0≤x):
 MCalls E Tryz.prog 162 [.int .i64 x,.pointer (some ⟨id,0,none⟩)] σ (fun r τ=>r=.bool (freeT t x)∧Ext σ τ):=by
 refine mcalls_of fn162 (by simp) ?_
 unfold c162 r162
 refine stepR hb ?_
 refine ml_len Sd0 hr Sd0 ?_
 rw [bools_len]
 by_cases h:(t.length:Int)≤x
 ·refine stepR h ?_
  refine fin1 ⟨?_,Ext.refl _⟩
  unfold freeT
  rw [decide_eq_true h,Bool.true_or]
  exact (Sw h)
 ·have hf:freeT t x=!t.getD x.toNat false:=by unfold freeT;rw [decide_eq_false h,Bool.false_or]
  refine stepR (An h hb) ?_
  refine ml_getSg (q:=x) (Sw h) hr (Sw h) (Sw h) hx (bools_at (by omega)) (fun p=>(Sw h)) fun p=>?_
  rw [hf]
  generalize t.getD x.toNat false=b
  refine stepR h ?_
  exact fin1 ⟨(Sw h),Ext.refl _⟩
set_option maxHeartbeats 2000000 in
theorem oNext_c (W Hh:Int) (S:ByteArray) {σ:H} {fv tv:Value} {f:List Int} {t:List Bool} (hr:Rd σ fv (ints f)) (ht:Rd σ tv (bools t)) (c:Int):
 MCalls E Tryz.prog 146 [mapV W Hh S,fv,.int .i64 c,tv] σ (fun v τ=>∃ l,DownR W Hh S f c l∧nextR t l v∧Ext σ τ):=by
 refine mcalls_of fn146 (by simp) ?_
 unfold c146 r146 mapV
 refine stepR0 ?_
 generalize hbs:σ.size + 1=bs
 generalize hτ:H.push (H.push _ _) _=τ
 have ec:tv.cells.toList=[tv]:=by rw [ht.cells1]
 have e:Ext σ τ:=hτ ▸ (Ext.push _ _).trans (Ext.push _ _)
 have g4:τ.get σ.size=.cells 0 [.int .i64 W,.int .i64 Hh,.string S]:=by rw [← hτ];exact (Ext.push _ _).cells (H.get_push_self _ _)
 have g7:τ.get bs=.cells 0 [tv]:=by rw [← hτ,← ec,← hbs];rw [← H.size_push σ (.cells 0 [.int .i64 W,.int .i64 Hh,.string S])];exact H.get_push_self _ _
 clear hτ hbs
 refine stepR g4 ?_
 refine ml_call Sd0 Sd0 (fDown_c W Hh S (hr.of_ext e) c) ?_
 rintro lv τ2 ⟨l,hl,hd⟩
 have e2:=hl.1
 have g72:=e2.cells g7
 have t2:=(ht.of_ext e).of_ext e2
 refine stepR0 ?_
 refine ml_call Sd0 Sd0 (idxFunc_c (p:=freeT t) (g:=162) (caps:=#[.pointer (some ⟨bs,0,none⟩)]) hl.rd rfl (by have:=hd.len;omega) fun x hx τ' e'=>oNext1_c (e'.cells g72) (t2.of_ext e') (opn_lt (hd.mem hx).1).1) ?_
 rintro r τ3 ⟨e3,⟨rfl,hall⟩ | ⟨i,hi,rfl,hp,hall⟩⟩
 ·refine stepR0 ?_
  exact fin2 ⟨l,hd,.inl ⟨Sd0,hall⟩,(e.trans e2).trans e3⟩
 ·have hi':¬ (i:Int) < 0:=by omega
  have ai:=ints_at hi
  refine stepR hi' ?_
  refine ml_getS (hl.rd.of_ext e3) (Sw hi') (Sw hi') (by omega) (by rw [Int.toNat_natCast];exact ai) fun p=>?_
  refine stepR hi' ?_
  exact fin2 ⟨l,hd,.inr ⟨i,hi,(Sw hi'),hp,hall⟩,(e.trans e2).trans e3⟩
end Go.Proofs.YtoejdgoicoaomaaGreatDoor
namespace Go.Proofs.YtoejdgoicoaomaaGreatDoor
open Go.Mini
def tickOK (t:Int):Bool:=decide (0≤t) && decide (t≤2147483647)
def inB (n a b:Int):Bool:=decide (a≤n) && decide (n≤b)
def robOK (r:Rob):Bool:=inB r.cell 0 63 && inB r.charge 0 200 && inB r.phase 0 4 && inB r.task (-1) 19 && inB r.adj (-32768) 32767 && inB r.moved 0 16777215 && inB r.gained 0 16777215
def tskOK (t:Tsk):Bool:=inB t.fr 0 63 && inB t.dst 0 63 && inB t.st 0 3
def St.r (s:St) (i:Nat):Rob:=s.rob.getD i zR
def St.t (s:St) (k:Nat):Tsk:=s.tsk.getD k zT
def St.o (s:St) (i:Nat):Bool:=s.on.getD i false
def St.i (s:St) (k:Nat):Bool:=s.is.getD k false
def recd (s:St):Bool:=tickOK s.tick && (List.range 10).all (fun i=>if s.o i then robOK (s.r i) else (s.r i).is0) && (List.range 20).all (fun k=>if s.i k then tskOK (s.t k) else (s.t k).is0)
def St.tk (s:St) (k:Int):Tsk:=s.t k.toNat
def suits (s:St) (r:Rob):Bool:=
 if r.task=-1 then r.phase != 1 && r.phase != 2
 else if r.phase=1 then s.i r.task.toNat && (s.tk r.task).st == 1
 else if r.phase=2 then s.i r.task.toNat && (s.tk r.task).st == 2
 else if r.phase=4 then s.i r.task.toNat && ((s.tk r.task).st == 1 || (s.tk r.task).st == 2)
 else false
noncomputable def opnG (s:St) (c:Int):Bool:=gr s.W s.H s.S && opn s.S c
noncomputable def robGood (s:St) (i:Nat):Bool:=!s.o i || (opnG s (s.r i).cell && suits s (s.r i))
def ownN (s:St) (n:Nat) (k:Nat):Nat:=(List.range n).countP fun i=>s.o i && (s.r i).task == (k:Int)
def wantN (t:Tsk):Nat:=if t.st=1∨t.st=2 then 1 else 0
noncomputable def tskGood (s:St) (k:Nat):Bool:=!s.i k || (decide (ownN s 10 k=wantN (s.t k)) && opnG s (s.t k).fr && opnG s (s.t k).dst)
noncomputable def owned (s:St):Bool:=(List.range 10).all (robGood s) && (List.range 20).all (tskGood s)
def placeL (s:St):List Int:=(List.range 10).map fun i=>if s.o i then (s.r i).cell else -1
def clash (was now:List Int) (i k:Nat):Bool:=
 let a:=now.getD i 0;let b:=now.getD k 0;let x:=was.getD i (-1);let y:=was.getD k (-1)
 (a != -1 && a == b) || (a != -1 && b != -1 && a == y && b == x && a != x)
def apartB (was now:List Int):Bool:=(List.range now.length).all fun i=>(List.range i).all fun k=>!clash was now i k
noncomputable def rightS (s:St):Bool:=gr s.W s.H s.S && recd s && owned s && apartB [] (placeL s)
def iter {α:Type} (f:Nat→α→α):Nat→α→α
 | 0,s=>s
 | n + 1,s=>f n (iter f n s)
def St.setR (s:St) (i:Nat) (r:Rob):St:={ s with rob:=s.rob.set i r }
def St.setT (s:St) (k:Nat) (t:Tsk):St:={ s with tsk:=s.tsk.set k t }
def stepS (s:St) (r:Rob):Int:=if r.task≠-1∧(s.tk r.task).st=2 then 2 else 1
def wakes (s:St) (r:Rob):Int:=if r.task=-1 then 0 else (s.tk r.task).st
noncomputable def strand1 (on:List Int) (i:Nat) (s:St):St:=
 if s.o i then
  if safeB s.W s.H s.S on (stepS s (s.r i)) (s.r i).cell (s.r i).charge then
   if (s.r i).phase=4 then s.setR i { s.r i with phase:=wakes s (s.r i) } else s
  else s.setR i { s.r i with phase:=4 }
 else s
noncomputable def totO (W Hh:Int) (S:ByteArray) (on:List Int) (c a b:Int):Option Int:=
 @dite _ (∃ n,TotR W Hh S on c a b n 0) (Classical.propDecidable _) (fun h=>some (Classical.choose h)) fun _=>none
theorem totO_good {W Hh:Int} {S:ByteArray} {on:List Int} {c a b n:Int} (h:TotR W Hh S on c a b n 0):totO W Hh S on c a b=some n:=by
 unfold totO
 rw [dif_pos ⟨n,h⟩]
 exact congrArg some ((Classical.choose_spec (⟨n,h⟩:∃ n,TotR W Hh S on c a b n 0)).uniq h).1
theorem totO_bad {W Hh:Int} {S:ByteArray} {on:List Int} {c a b n k:Int} (h:TotR W Hh S on c a b n k) (hk:k≠0):totO W Hh S on c a b=none:=by
 unfold totO
 rw [dif_neg]
 rintro ⟨n',h'⟩
 exact hk (h.uniq h').2
def minD:List Due→Option Due
 | []=>none
 | x :: l=>match minD l with
   | none=>some x
   | some y=>if lt y x then some y else some x
noncomputable def cand (s:St) (on:List Int) (k i:Nat):Option (Int × Int × Int):=
 match totO s.W s.H s.S on (s.r i).cell (s.t k).fr (s.t k).dst with
 | some n=>if s.o i && (s.r i).phase == 0 then some ((i:Int),n,(s.r i).charge) else none
 | none=>none
noncomputable def cands (s:St) (on:List Int) (k n:Nat):List (Int × Int × Int):=(List.range n).filterMap (cand s on k)
def canB (c:Int × Int × Int):Bool:=decide (0≤c.2.1) && decide (c.2.1≤c.2.2)
def bestI (l:List (Int × Int × Int)):Option Int:=(minD ((l.filter canB).map fun c=>(c.2.1,c.1))).map (·.2)
noncomputable def assign1 (on:List Int) (k:Nat) (s:St):St:=
 if s.i k && (s.t k).st == 0 then
  match bestI (cands s on k 10) with
  | some i=>(s.setR i.toNat { s.r i.toNat with phase:=1,task:=k }).setT k { s.t k with st:=1 }
  | none=>s
 else s
def idle1 (i:Nat) (s:St):St:=if s.o i && (s.r i).phase == 0 && decide ((s.r i).charge < 100) then s.setR i { s.r i with phase:=3 } else s
noncomputable def assign (on:List Int) (s:St):St:=iter idle1 10 (iter (assign1 on) 20 s)
def great:Int:=1099511627776
def accOK (c sp g a:Int):Bool:=inB c 0 200 && inB sp 0 great && inB g 0 great && inB a (-great) great
def spend (r:Rob) (k:Int):Option Rob:=
 if accOK r.charge r.moved r.gained r.adj && decide (0≤k) && decide (k≤r.charge) && accOK (r.charge - k) (r.moved + k) r.gained r.adj then some { r with charge:=r.charge - k,moved:=r.moved + k } else none
def gainR (r:Rob) (n:Int):Option Rob:=
 let m:=min n (200 - r.charge)
 if accOK r.charge r.moved r.gained r.adj && decide (0≤n) && accOK (r.charge + m) r.moved (r.gained + m) r.adj then some { r with charge:=r.charge + m,gained:=r.gained + m } else none
def setR (r:Rob) (c:Int):Option Rob:=
 if accOK r.charge r.moved r.gained r.adj && inB c 0 200 && accOK c r.moved r.gained (r.adj + (c - r.charge)) then some { r with charge:=c,adj:=r.adj + (c - r.charge) } else none
noncomputable def costL (W:Int) (S:ByteArray) (src:List Int) (step:Int):List Int:=(List.range S.size).map fun (x:Nat)=>costV step (dist W S src x)
noncomputable def downX (W Hh:Int) (S:ByteArray) (f:List Int) (c:Int):List Int:=
 @dite _ (∃ l,DownR W Hh S f c l) (Classical.propDecidable _) (fun h=>Classical.choose h) fun _=>[]
theorem downX_eq {W Hh:Int} {S:ByteArray} {f:List Int} {c:Int} {l:List Int} (h:DownR W Hh S f c l):downX W Hh S f c=l:=by
 unfold downX
 rw [dif_pos ⟨l,h⟩]
 exact (Classical.choose_spec (⟨l,h⟩:∃ l,DownR W Hh S f c l)).uniq h
noncomputable def nextO (W Hh:Int) (S:ByteArray) (f:List Int) (c:Int) (t:List Bool):Option Int:=(downX W Hh S f c).find? (freeT t)
def takenL (l:List Int) (n:Nat):List Bool:=(List.range (min n 64)).map fun (i:Nat)=>decide ((i:Int) ∈ l)
noncomputable def goes (s:St) (i:Nat) (dst on was:List Int):St:=
 let r:=s.r i
 let k:=stepS s r
 if costOK s.W s.H s.S dst k then
  match nextO s.W s.H s.S (costL s.W s.S dst k) r.cell (takenL (was ++ placeL s) s.S.size) with
  | some n=>if mayB s.W s.H s.S on k r.cell n r.charge then
     match spend r k with
     | some r'=>s.setR i { r' with cell:=n }
     | none=>s
    else s
  | none=>s
 else s
noncomputable def works (s:St) (i:Nat) (on:List Int):Option St:=
 let r:=s.r i
 if r.phase=1 then
  if r.cell=(s.tk r.task).fr then
   if safeB s.W s.H s.S on 2 r.cell r.charge then some ((s.setR i { r with phase:=2 }).setT r.task.toNat { s.tk r.task with st:=2 }) else some s
  else none
 else if r.phase=2 then
  if r.cell=(s.tk r.task).dst then some ((s.setR i { r with phase:=0,task:=-1 }).setT r.task.toNat { s.tk r.task with st:=3 }) else none
 else if r.cell ∈ on then
  let r1:=(gainR r 20).getD r
  some (s.setR i (if r1.charge=200 then { r1 with phase:=0 } else r1))
 else none
noncomputable def act1 (on was:List Int) (i:Nat) (s:St):St:=
 let r:=s.r i
 if s.o i && r.phase != 0 && r.phase != 4 then
  match works s i on with
  | some s'=>s'
  | none=>goes s i (if r.phase=1 then [(s.tk r.task).fr] else if r.phase=2 then [(s.tk r.task).dst] else on) on was
 else s
noncomputable def tickS (s:St):St:=
 let on:=onL s.S s.off (gr s.W s.H s.S)
 let s2:=assign on (iter (strand1 on) 10 { s with tick:=s.tick + 1 })
 iter (act1 on (placeL s2)) 10 s2
def cmdsL (s:St) (n:Nat):List (Int × Int):=(List.range n).filterMap fun (i:Nat)=>if s.o i then some ((i:Int),(s.r i).cell) else none
noncomputable def freeB (s:St) (c:Int):Bool:=decide (c=-1) || !decide (c ∈ placeL s)
noncomputable def robotA (s:St) (a b c:Int):St × Int:=
 if a < 0∨10≤a∨opnG s b=false∨c < 0∨200 < c then (s,1)
 else if s.o a.toNat then (s,5)
 else if freeB s b=false then (s,10)
 else ({ s.setR a.toNat ⟨b,c,0,-1,0,0,0⟩ with on:=s.on.set a.toNat true },0)
noncomputable def taskA (s:St) (a b c:Int):St × Int:=
 if a < 0∨20≤a∨opnG s b=false∨opnG s c=false then (s,1)
 else if s.i a.toNat then (s,5)
 else ({ s.setT a.toNat ⟨b,c,0⟩ with is:=s.is.set a.toNat true },0)
def tellA (s:St) (a b:Int):St × Int:=
 if a < 0∨10≤a∨b < 0∨200 < b then (s,1)
 else if s.o a.toNat=false then (s,4)
 else (s.setR a.toNat ((setR (s.r a.toNat) b).getD (s.r a.toNat)),0)
end Go.Proofs.YtoejdgoicoaomaaGreatDoor
namespace Go.Proofs.YtoejdgoicoaomaaGreatDoor
open Go.Mini
section
variable {s:St}
theorem getDset {α:Type} {l:List α} {i j:Nat} {a d:α} (hi:i < l.length):(l.set i a).getD j d=if j=i then a else l.getD j d:=by
 rw [List.getD_eq_getElem?_getD,List.getElem?_set]
 by_cases h:i=j
 ·subst h;rw [if_pos rfl,if_pos rfl,if_pos hi];rfl
 ·rw [if_neg h,if_neg (fun e=>h e.symm),List.getD_eq_getElem?_getD]
theorem St.WF.setR_r (h:s.WF) {i:Nat} (hi:i < 10) (r:Rob) (j:Nat):(s.setR i r).r j=if j=i then r else s.r j:=getDset (by rw [h.rob];exact hi)
theorem St.WF.setT_t (h:s.WF) {k:Nat} (hk:k < 20) (t:Tsk) (j:Nat):(s.setT k t).t j=if j=k then t else s.t j:=getDset (by rw [h.tsk];exact hk)
theorem setR_o (i:Nat) (r:Rob) (j:Nat):(s.setR i r).o j=s.o j:=rfl
theorem setT_r (k:Nat) (t:Tsk) (j:Nat):(s.setT k t).r j=s.r j:=rfl
theorem St.WF.sR (h:s.WF) (i:Nat) (r:Rob):(s.setR i r).WF:=h.setR i r
theorem St.WF.sT (h:s.WF) (k:Nat) (t:Tsk):(s.setT k t).WF:=h.setT k t
end
def SuitP (s:St) (r:Rob):Prop:=
 (r.task=-1∧(r.phase=0∨r.phase=3∨r.phase=4))∨
 ∃ k:Nat,k < 20∧r.task=k∧s.i k=true∧((r.phase=1∧(s.t k).st=1)∨(r.phase=2∧(s.t k).st=2)∨(r.phase=4∧((s.t k).st=1∨(s.t k).st=2)))
structure Inv (s:St):Prop where
 wf:s.WF
 g:gr s.W s.H s.S=true
 cell:∀ i,i < 10→s.o i=true→opn s.S (s.r i).cell=true
 chg:∀ i,i < 10→s.o i=true→0≤(s.r i).charge∧(s.r i).charge≤200
 tsk:∀ i,i < 10→s.o i=true→SuitP s (s.r i)
 uniq:∀ i j,i < 10→j < 10→s.o i=true→s.o j=true→(s.r i).task=(s.r j).task→(s.r i).task≠-1→i=j
 ends:∀ k,k < 20→s.i k=true→opn s.S (s.t k).fr=true∧opn s.S (s.t k).dst=true
 own:∀ k,k < 20→s.i k=true→((s.t k).st=1∨(s.t k).st=2)→∃ i,i < 10∧s.o i=true∧(s.r i).task=(k:Int)
def Ap (was now:List Int):Prop:=∀ i,i < 10→∀ k,k < i→clash was now i k=false
def St.pl (s:St) (i:Nat):Int:=if s.o i then (s.r i).cell else -1
theorem placeL_len (s:St):(placeL s).length=10:=by simp [placeL]
theorem placeL_get (s:St) {i:Nat} (hi:i < 10) (d:Int):(placeL s).getD i d=s.pl i:=by
 unfold placeL St.pl
 rw [List.getD_eq_getElem?_getD,List.getElem?_map,List.getElem?_range hi];rfl
theorem placeL_mem {s:St} {x:Int}:x ∈ placeL s↔∃ i,i < 10∧s.pl i=x:=by
 unfold placeL St.pl
 simp only [List.mem_map,List.mem_range]
theorem apart_iff {was:List Int} {s:St}:apartB was (placeL s)=true↔Ap was (placeL s):=by
 unfold apartB Ap
 rw [placeL_len]
 simp only [List.all_eq_true,List.mem_range,Bool.not_eq_true']
theorem countP_zero {n:Nat} {p:Nat→Bool}:(List.range n).countP p=0↔∀ i,i < n→p i=false:=by
 rw [List.countP_eq_zero]
 simp only [List.mem_range,Bool.not_eq_true]
theorem countP_one:∀ {n:Nat} {p:Nat→Bool},(List.range n).countP p=1↔∃ i,i < n∧p i=true∧∀ j,j < n→p j=true→j=i
 | 0,p=>by simp
 | n + 1,p=>by
   rw [List.range_succ,List.countP_append,List.countP_singleton]
   cases hp:p n
   ·rw [if_neg (by simp),Nat.add_zero,countP_one]
    constructor
    ·rintro ⟨i,h1,h2,h3⟩
     refine ⟨i,by omega,h2,fun j hj hpj=>?_⟩
     rcases Nat.lt_or_ge j n with h | h
     ·exact h3 j h hpj
     ·obtain rfl:j=n:=by omega
      rw [hp] at hpj;cases hpj
    ·rintro ⟨i,h1,h2,h3⟩
     have:i≠n:=fun e=>by rw [e,hp] at h2;cases h2
     exact ⟨i,by omega,h2,fun j hj hpj=>h3 j (by omega) hpj⟩
   ·rw [if_pos rfl]
    constructor
    ·intro h
     have h0:=countP_zero.1 (show (List.range n).countP p=0 by omega)
     refine ⟨n,by omega,hp,fun j hj hpj=>?_⟩
     rcases Nat.lt_or_ge j n with h | h
     ·rw [h0 j h] at hpj;cases hpj
     ·omega
    ·rintro ⟨i,h1,h2,h3⟩
     obtain rfl:=h3 n (by omega) hp
     have:(List.range n).countP p=0:=countP_zero.2 fun j hj=>by
      cases hpj:p j
      ·rfl
      ·have:=h3 j (by omega) hpj;omega
     omega
theorem opnG_iff {s:St} {c:Int}:opnG s c=true↔gr s.W s.H s.S=true∧opn s.S c=true:=by simp [opnG]
theorem range_all {n:Nat} {p:Nat→Bool}:(List.range n).all p=true↔∀ i,i < n→p i=true:=by simp [List.all_eq_true,List.mem_range]
theorem inB_iff {n a b:Int}:inB n a b=true↔a≤n∧n≤b:=by simp [inB]
theorem robOK_iff {r:Rob}:robOK r=true↔(0≤r.cell∧r.cell≤63)∧(0≤r.charge∧r.charge≤200)∧(0≤r.phase∧r.phase≤4)∧(-1≤r.task∧r.task≤19)∧(-32768≤r.adj∧r.adj≤32767)∧(0≤r.moved∧r.moved≤16777215)∧(0≤r.gained∧r.gained≤16777215):=by
 unfold robOK
 simp only [Bool.and_eq_true,inB_iff]
 simp only [and_assoc]
theorem tskOK_iff {t:Tsk}:tskOK t=true↔(0≤t.fr∧t.fr≤63)∧(0≤t.dst∧t.dst≤63)∧(0≤t.st∧t.st≤3):=by
 unfold tskOK
 simp only [Bool.and_eq_true,inB_iff]
 simp only [and_assoc]
theorem recd_iff {s:St}:recd s=true↔(0≤s.tick∧s.tick≤2147483647)∧(∀ i,i < 10→if s.o i then robOK (s.r i)=true else (s.r i).is0=true)∧(∀ k,k < 20→if s.i k then tskOK (s.t k)=true else (s.t k).is0=true):=by
 unfold recd tickOK
 simp only [Bool.and_eq_true,range_all,decide_eq_true_eq,and_assoc]
 refine and_congr_right fun _=>and_congr_right fun _=>and_congr (forall_congr' fun i=>forall_congr' fun _=>?_) (forall_congr' fun i=>forall_congr' fun _=>?_)
 ·cases s.o i<;>simp
 ·cases s.i i<;>simp
theorem suits_iff {s:St} {r:Rob} (h1:-1≤r.task) (h2:r.task≤19) (hp:0≤r.phase∧r.phase≤4):suits s r=true↔SuitP s r:=by
 unfold suits SuitP St.tk
 by_cases h:r.task=-1
 ·rw [if_pos h]
  simp only [Bool.and_eq_true,bne_iff_ne,ne_eq]
  constructor
  ·rintro ⟨a,b⟩;exact .inl ⟨h,by omega⟩
  ·rintro (⟨_,h3⟩ | ⟨k,_,h3,_⟩)<;>omega
 ·rw [if_neg h]
  have hk:r.task=((r.task.toNat:Nat):Int):=by omega
  have hk2:r.task.toNat < 20:=by omega
  constructor
  ·intro hs
   refine .inr ⟨r.task.toNat,hk2,hk,?_⟩
   split at hs
   ·rename_i hp1;simp only [Bool.and_eq_true,beq_iff_eq] at hs;exact ⟨hs.1,.inl ⟨hp1,hs.2⟩⟩
   ·split at hs
    ·rename_i hp1;simp only [Bool.and_eq_true,beq_iff_eq] at hs;exact ⟨hs.1,.inr (.inl ⟨hp1,hs.2⟩)⟩
    ·split at hs
     ·rename_i hp1;simp only [Bool.and_eq_true,Bool.or_eq_true,beq_iff_eq] at hs;exact ⟨hs.1,.inr (.inr ⟨hp1,hs.2⟩)⟩
     ·cases hs
  ·rintro (⟨h3,_⟩ | ⟨k,hk3,hk4,hi,hc⟩)
   ·exact absurd h3 h
   ·obtain rfl:k=r.task.toNat:=by omega
    rcases hc with ⟨a,b⟩ | ⟨a,b⟩ | ⟨a,b⟩
    ·rw [if_pos a,hi,b];rfl
    ·rw [if_neg (by omega),if_pos a,hi,b];rfl
    ·rw [if_neg (by omega),if_neg (by omega),if_pos a,hi]
     rcases b with b | b<;>rw [b]<;>rfl
theorem wantN_eq {t:Tsk}:(wantN t=1↔(t.st=1∨t.st=2))∧(wantN t=0↔¬ (t.st=1∨t.st=2)):=by
 unfold wantN
 constructor<;>split<;>simp_all
theorem right_inv {s:St} (hw:s.WF):rightS s=true↔Inv s∧recd s=true∧Ap [] (placeL s):=by
 unfold rightS owned
 simp only [Bool.and_eq_true,range_all,apart_iff]
 constructor
 ·rintro ⟨⟨⟨hg,hr⟩,ho,ht⟩,ha⟩
  refine ⟨?_,hr,ha⟩
  obtain ⟨_,hrr,hrt⟩:=recd_iff.1 hr
  have hok:∀ i,i < 10→s.o i=true→robOK (s.r i)=true:=fun i hi h=>by have:=hrr i hi;rw [if_pos h] at this;exact this
  have htk:∀ k,k < 20→s.i k=true→tskOK (s.t k)=true:=fun i hi h=>by have:=hrt i hi;rw [if_pos h] at this;exact this
  have hob:∀ i,i < 10→s.o i=true→opn s.S (s.r i).cell=true∧SuitP s (s.r i):=fun i hi h=>by
   have h1:=ho i hi
   unfold robGood at h1
   rw [h] at h1
   simp only [Bool.not_true,Bool.false_or,Bool.and_eq_true] at h1
   obtain ⟨_,_,h3,h4,_⟩:=robOK_iff.1 (hok i hi h)
   exact ⟨(opnG_iff.1 h1.1).2,(suits_iff h4.1 h4.2 h3).1 h1.2⟩
  have htg:∀ k,k < 20→s.i k=true→ownN s 10 k=wantN (s.t k)∧opn s.S (s.t k).fr=true∧opn s.S (s.t k).dst=true:=fun k hk h=>by
   have h1:=ht k hk
   unfold tskGood at h1
   rw [h] at h1
   simp only [Bool.not_true,Bool.false_or,Bool.and_eq_true,decide_eq_true_eq] at h1
   exact ⟨h1.1.1,(opnG_iff.1 h1.1.2).2,(opnG_iff.1 h1.2).2⟩
  refine ⟨hw,hg,fun i hi h=>(hob i hi h).1,fun i hi h=>(robOK_iff.1 (hok i hi h)).2.1,fun i hi h=>(hob i hi h).2,fun i j hi hj oi oj e hne=>?_,fun k hk h=>(htg k hk h).2,fun k hk h hst=>?_⟩
  ·rcases (hob i hi oi).2 with ⟨h,_⟩ | ⟨k,hk,hkt,hik,hc⟩
   ·exact absurd h hne
   ·have hst:(s.t k).st=1∨(s.t k).st=2:=by
     rcases hc with ⟨_,h⟩ | ⟨_,h⟩ | ⟨_,h⟩
     ·exact .inl h
     ·exact .inr h
     ·exact h
    have h1:=(htg k hk hik).1
    rw [wantN_eq.1.2 hst] at h1
    obtain ⟨m,_,_,hu⟩:=countP_one.1 h1
    have:=hu i hi (by rw [oi,hkt];simp)
    have:=hu j hj (by rw [oj,← e,hkt];simp)
    omega
  ·have h1:=(htg k hk h).1
   rw [wantN_eq.1.2 hst] at h1
   obtain ⟨m,hm,hp,_⟩:=countP_one.1 h1
   simp only [Bool.and_eq_true,beq_iff_eq] at hp
   exact ⟨m,hm,hp.1,hp.2⟩
 ·rintro ⟨h,hr,ha⟩
  obtain ⟨_,hrr,hrt⟩:=recd_iff.1 hr
  refine ⟨⟨⟨h.g,hr⟩,fun i hi=>?_,fun k hk=>?_⟩,ha⟩
  ·unfold robGood
   cases ho:s.o i
   ·rfl
   ·have:=hrr i hi
    rw [if_pos ho] at this
    obtain ⟨_,_,h3,h4,_⟩:=robOK_iff.1 this
    rw [opnG_iff.2 ⟨h.g,h.cell i hi ho⟩,(suits_iff h4.1 h4.2 h3).2 (h.tsk i hi ho)]
    rfl
  ·unfold tskGood
   cases ho:s.i k
   ·rfl
   ·have e:=h.ends k hk ho
    rw [opnG_iff.2 ⟨h.g,e.1⟩,opnG_iff.2 ⟨h.g,e.2⟩]
    have:ownN s 10 k=wantN (s.t k):=by
     by_cases hst:(s.t k).st=1∨(s.t k).st=2
     ·rw [wantN_eq.1.2 hst]
      obtain ⟨i,hi,oi,ti⟩:=h.own k hk ho hst
      refine countP_one.2 ⟨i,hi,by rw [oi,ti];simp,fun j hj hp=>?_⟩
      simp only [Bool.and_eq_true,beq_iff_eq] at hp
      exact h.uniq j i hj hi hp.1 oi (by rw [hp.2,ti]) (by rw [hp.2];omega)
     ·rw [wantN_eq.2.2 hst]
      refine countP_zero.2 fun i hi=>?_
      cases hp:s.o i && (s.r i).task == (k:Int)
      ·rfl
      ·simp only [Bool.and_eq_true,beq_iff_eq] at hp
       rcases h.tsk i hi hp.1 with ⟨h1,_⟩ | ⟨k',hk',hkt,_,hc⟩
       ·rw [hp.2] at h1;omega
       ·obtain rfl:k'=k:=by rw [hp.2] at hkt;omega
        exact absurd (by rcases hc with ⟨_,h⟩ | ⟨_,h⟩ | ⟨_,h⟩;exact .inl h;exact .inr h;exact h) hst
    rw [decide_eq_true this]
    rfl
theorem Inv.upd {s:St} (h:Inv s) {i:Nat} (hi:i < 10) {r:Rob} (ht:r.task=(s.r i).task) (hc:s.o i=true→opn s.S r.cell=true) (hg:s.o i=true→0≤r.charge∧r.charge≤200) (hs:s.o i=true→SuitP s r):Inv (s.setR i r):=by
 have hr:=h.wf.setR_r hi r
 refine ⟨h.wf.sR _ _,h.g,fun j hj oj=>?_,fun j hj oj=>?_,fun j hj oj=>?_,fun j l hj hl oj ol e hne=>?_,h.ends,fun k hk ik hst=>?_⟩
 ·rw [hr];split
  ·rename_i e;subst e;exact hc oj
  ·exact h.cell j hj oj
 ·rw [hr];split
  ·rename_i e;subst e;exact hg oj
  ·exact h.chg j hj oj
 ·rw [hr];split
  ·rename_i e;subst e;exact hs oj
  ·exact h.tsk j hj oj
 ·have h1:∀ j,((s.setR i r).r j).task=(s.r j).task:=fun j=>by
   rw [hr];split
   ·rename_i e;subst e;exact ht
   ·rfl
  rw [h1,h1] at e;rw [h1] at hne
  exact h.uniq j l hj hl oj ol e hne
 ·obtain ⟨j,hj,oj,tj⟩:=h.own k hk ik hst
  refine ⟨j,hj,oj,?_⟩
  rw [hr];split
  ·rename_i e;subst e;rw [ht,tj]
  ·exact tj
theorem SuitP.has {s:St} {r:Rob} (h:SuitP s r) (hne:r.task≠-1):∃ k:Nat,k < 20∧r.task=k∧s.i k=true∧((s.t k).st=1∨(s.t k).st=2):=by
 rcases h with ⟨h,_⟩ | ⟨k,hk,hkt,hik,hc⟩
 ·exact absurd h hne
 ·refine ⟨k,hk,hkt,hik,?_⟩
  rcases hc with ⟨_,h⟩ | ⟨_,h⟩ | ⟨_,h⟩
  ·exact .inl h
  ·exact .inr h
  ·exact h
theorem Inv.upd2 {s:St} (h:Inv s) {i k:Nat} (hi:i < 10) (hk:k < 20) (oi:s.o i=true) (ik:s.i k=true) {r:Rob} {t:Tsk} (hcell:r.cell=(s.r i).cell) (hch:r.charge=(s.r i).charge) (hfr:t.fr=(s.t k).fr) (hdst:t.dst=(s.t k).dst)
 (hmine:∀ j,j < 10→s.o j=true→(s.r j).task=(k:Int)→j=i) (htk:r.task=(k:Int)∨r.task=-1) (hold:(s.r i).task=(k:Int)∨(s.r i).task=-1)
 (hs:(r.task=-1∧(r.phase=0∨r.phase=3∨r.phase=4)∧¬ (t.st=1∨t.st=2))∨(r.task=(k:Int)∧((r.phase=1∧t.st=1)∨(r.phase=2∧t.st=2)))):Inv ((s.setR i r).setT k t):=by
 have hr:∀ j,((s.setR i r).setT k t).r j=if j=i then r else s.r j:=h.wf.setR_r hi r
 have ht:∀ j,((s.setR i r).setT k t).t j=if j=k then t else s.t j:=(h.wf.sR i r).setT_t hk t
 refine ⟨(h.wf.sR _ _).sT _ _,h.g,fun j hj oj=>?_,fun j hj oj=>?_,fun j hj oj=>?_,fun j l hj hl oj ol e hne=>?_,fun j hj ij=>?_,fun j hj ij hst=>?_⟩
 ·rw [hr];split
  ·rename_i e;subst e;rw [hcell];exact h.cell j hj oj
  ·exact h.cell j hj oj
 ·rw [hr];split
  ·rename_i e;subst e;rw [hch];exact h.chg j hj oj
  ·exact h.chg j hj oj
 ·rw [hr];split
  ·rcases hs with ⟨h1,h2,_⟩ | ⟨h1,h2⟩
   ·exact .inl ⟨h1,h2⟩
   ·refine .inr ⟨k,hk,h1,ik,?_⟩
    rw [ht,if_pos rfl]
    rcases h2 with h2 | h2
    ·exact .inl h2
    ·exact .inr (.inl h2)
  ·rename_i hne
   rcases h.tsk j hj oj with h1 | ⟨k',hk',hkt,hik,hc⟩
   ·exact .inl h1
   ·refine .inr ⟨k',hk',hkt,hik,?_⟩
    rw [ht,if_neg (fun e=>hne (hmine j hj oj (by rw [hkt,e])))]
    exact hc
 ·have key:∀ j,j < 10→s.o j=true→j≠i→(((s.setR i r).setT k t).r j).task≠(k:Int):=fun j hj oj hji e=>by
   rw [hr,if_neg hji] at e;exact hji (hmine j hj oj e)
  by_cases hji:j=i
  ·by_cases hli:l=i
   ·omega
   ·subst hji
    rw [hr,if_pos rfl] at e hne
    rcases htk with h1 | h1
    ·rw [h1] at e;exact absurd e.symm (key l hl ol hli)
    ·exact absurd h1 hne
  ·by_cases hli:l=i
   ·subst hli
    rw [e] at hne
    rw [hr l,if_pos rfl] at e hne
    rcases htk with h1 | h1
    ·rw [h1] at e;exact absurd e (key j hj oj hji)
    ·exact absurd h1 hne
   ·rw [hr,if_neg hji,hr,if_neg hli] at e
    rw [hr,if_neg hji] at hne
    exact h.uniq j l hj hl oj ol e hne
 ·rw [ht];split
  ·rename_i e;subst e;rw [hfr,hdst];exact h.ends j hj ij
  ·exact h.ends j hj ij
 ·rw [ht] at hst
  split at hst
  ·rename_i e;subst e
   rcases hs with ⟨_,_,h3⟩ | ⟨h1,_⟩
   ·exact absurd hst h3
   ·exact ⟨i,hi,oi,by rw [hr,if_pos rfl,h1]⟩
  ·rename_i hjk
   obtain ⟨m,hm,om,tm⟩:=h.own j hj ij hst
   refine ⟨m,hm,om,?_⟩
   rw [hr,if_neg,tm]
   rintro rfl
   rcases hold with h1 | h1<;>rw [h1] at tm<;>omega
structure Keep (s s':St):Prop where
 W:s'.W=s.W
 H:s'.H=s.H
 S:s'.S=s.S
 off:s'.off=s.off
 on:s'.on=s.on
 is:s'.is=s.is
theorem Keep.refl (s:St):Keep s s:=⟨rfl,rfl,rfl,rfl,rfl,rfl⟩
theorem Keep.trans {a b c:St} (h:Keep a b) (k:Keep b c):Keep a c:=⟨k.W.trans h.W,k.H.trans h.H,k.S.trans h.S,k.off.trans h.off,k.on.trans h.on,k.is.trans h.is⟩
theorem Keep.o {a b:St} (h:Keep a b) (i:Nat):b.o i=a.o i:=by unfold St.o;rw [h.on]
theorem Keep.i {a b:St} (h:Keep a b) (i:Nat):b.i i=a.i i:=by unfold St.i;rw [h.is]
theorem Keep.sR (s:St) (i:Nat) (r:Rob):Keep s (s.setR i r):=⟨rfl,rfl,rfl,rfl,rfl,rfl⟩
theorem Keep.sT (s:St) (k:Nat) (t:Tsk):Keep s (s.setT k t):=⟨rfl,rfl,rfl,rfl,rfl,rfl⟩
theorem iter_ind {α:Type} {f:Nat→α→α} (P:Nat→α→Prop) {n:Nat} {s:α} (h0:P 0 s) (h:∀ i s,i < n→P i s→P (i + 1) (f i s)):P n (iter f n s):=by
 have:∀ m,m≤n→P m (iter f m s):=fun m=>by
  induction m with
  | zero=>intro _;exact h0
  | succ m ih=>intro hm;exact h m _ (by omega) (ih (by omega))
 exact this n (Nat.le_refl _)
structure Qu (s s':St):Prop where
 keep:Keep s s'
 tick:s'.tick=s.tick
 rob:∀ i,(s'.r i).cell=(s.r i).cell∧(s'.r i).charge=(s.r i).charge∧(s'.r i).moved=(s.r i).moved∧(s'.r i).gained=(s.r i).gained∧(s'.r i).adj=(s.r i).adj
 tsk:∀ k,(s'.t k).fr=(s.t k).fr∧(s'.t k).dst=(s.t k).dst
 roff:∀ i,s.o i=false→s'.r i=s.r i
 toff:∀ k,s.i k=false→s'.t k=s.t k
theorem Qu.refl (s:St):Qu s s:=⟨.refl s,rfl,fun _=>⟨rfl,rfl,rfl,rfl,rfl⟩,fun _=>⟨rfl,rfl⟩,fun _ _=>rfl,fun _ _=>rfl⟩
theorem Qu.trans {a b c:St} (h:Qu a b) (k:Qu b c):Qu a c:=by
 refine ⟨h.keep.trans k.keep,k.tick.trans h.tick,fun i=>?_,fun i=>?_,fun i hi=>(k.roff i (by rw [h.keep.o];exact hi)).trans (h.roff i hi),fun i hi=>(k.toff i (by rw [h.keep.i];exact hi)).trans (h.toff i hi)⟩
 ·have h1:=h.rob i;have h2:=k.rob i
  exact ⟨h2.1.trans h1.1,h2.2.1.trans h1.2.1,h2.2.2.1.trans h1.2.2.1,h2.2.2.2.1.trans h1.2.2.2.1,h2.2.2.2.2.trans h1.2.2.2.2⟩
 ·exact ⟨(k.tsk i).1.trans (h.tsk i).1,(k.tsk i).2.trans (h.tsk i).2⟩
theorem Qu.setR {s:St} (h:s.WF) {i:Nat} (hi:i < 10) (oi:s.o i=true) {r:Rob} (e:r.cell=(s.r i).cell∧r.charge=(s.r i).charge∧r.moved=(s.r i).moved∧r.gained=(s.r i).gained∧r.adj=(s.r i).adj):Qu s (s.setR i r):=by
 refine ⟨.sR _ _ _,rfl,fun j=>?_,fun _=>⟨rfl,rfl⟩,fun j oj=>?_,fun _ _=>rfl⟩
 ·rw [h.setR_r hi];split
  ·rename_i e1;subst e1;exact e
  ·exact ⟨rfl,rfl,rfl,rfl,rfl⟩
 ·rw [h.setR_r hi,if_neg]
  rintro rfl;rw [oi] at oj;cases oj
theorem Qu.setT {s:St} (h:s.WF) {k:Nat} (hk:k < 20) (ik:s.i k=true) {t:Tsk} (e:t.fr=(s.t k).fr∧t.dst=(s.t k).dst):Qu s (s.setT k t):=by
 refine ⟨.sT _ _ _,rfl,fun _=>⟨rfl,rfl,rfl,rfl,rfl⟩,fun j=>?_,fun _ _=>rfl,fun j ij=>?_⟩
 ·rw [h.setT_t hk];split
  ·rename_i e1;subst e1;exact e
  ·exact ⟨rfl,rfl⟩
 ·rw [h.setT_t hk,if_neg]
  rintro rfl;rw [ik] at ij;cases ij
theorem Qu.pl {s s':St} (h:Qu s s') (i:Nat):s'.pl i=s.pl i:=by unfold St.pl;rw [h.keep.o,(h.rob i).1]
theorem Qu.place {s s':St} (h:Qu s s'):placeL s'=placeL s:=by
 unfold placeL
 refine List.map_congr_left fun i _=>?_
 exact h.pl i
theorem SuitP.tk {s:St} {r:Rob} {k:Nat} (hkt:r.task=k):s.tk r.task=s.t k:=by unfold St.tk;rw [hkt,Int.toNat_natCast]
theorem strand1_inv {s:St} (h:Inv s) (on:List Int) {i:Nat} (hi:i < 10):Inv (strand1 on i s)∧Qu s (strand1 on i s)∧(∀ k,(strand1 on i s).t k=s.t k)∧(∀ j,((strand1 on i s).r j).task=(s.r j).task):=by
 have key:∀ p:Int,s.o i=true→SuitP s { s.r i with phase:=p }→Inv (s.setR i { s.r i with phase:=p })∧Qu s (s.setR i { s.r i with phase:=p })∧(∀ k,(s.setR i { s.r i with phase:=p }).t k=s.t k)∧(∀ j,((s.setR i { s.r i with phase:=p }).r j).task=(s.r j).task):=fun p oi hp=>by
  refine ⟨h.upd hi rfl (h.cell i hi) (h.chg i hi) (fun _=>hp),Qu.setR h.wf hi oi ⟨rfl,rfl,rfl,rfl,rfl⟩,fun _=>rfl,fun j=>?_⟩
  rw [h.wf.setR_r hi];split
  ·rename_i e;subst e;rfl
  ·rfl
 have nop:Inv s∧Qu s s∧(∀ k,s.t k=s.t k)∧(∀ j,(s.r j).task=(s.r j).task):=⟨h,.refl s,fun _=>rfl,fun _=>rfl⟩
 unfold strand1
 by_cases ho:s.o i=true
 ·rw [if_pos ho]
  split
  ·split
   ·refine key _ ho ?_
    unfold wakes
    rcases h.tsk i hi ho with ⟨h1,h2⟩ | ⟨k,hk,hkt,hik,hc⟩
    ·rw [if_pos h1];exact .inl ⟨h1,.inl rfl⟩
    ·rw [if_neg (by rw [hkt];omega),SuitP.tk hkt]
     refine .inr ⟨k,hk,hkt,hik,?_⟩
     have hst:(s.t k).st=1∨(s.t k).st=2:=by
      rcases hc with ⟨_,h⟩ | ⟨_,h⟩ | ⟨_,h⟩
      ·exact .inl h
      ·exact .inr h
      ·exact h
     rcases hst with h | h
     ·exact .inl ⟨h,h⟩
     ·exact .inr (.inl ⟨h,h⟩)
   ·exact nop
  ·refine key _ ho ?_
   rcases h.tsk i hi ho with ⟨h1,h2⟩ | ⟨k,hk,hkt,hik,hc⟩
   ·exact .inl ⟨h1,.inr (.inr rfl)⟩
   ·refine .inr ⟨k,hk,hkt,hik,.inr (.inr ⟨rfl,?_⟩)⟩
    rcases hc with ⟨_,h⟩ | ⟨_,h⟩ | ⟨_,h⟩
    ·exact .inl h
    ·exact .inr h
    ·exact h
 ·rw [if_neg ho];exact nop
theorem minD_mem:∀ {l:List Due} {y:Due},minD l=some y→y ∈ l
 | [],y,h=>by cases h
 | x :: l,y,h=>by
   unfold minD at h
   split at h
   ·injection h with h;subst h;simp
   ·rename_i z hz
    split at h
    ·injection h with h;subst h;exact List.mem_cons_of_mem _ (minD_mem hz)
    ·injection h with h;subst h;simp
theorem cand_some {s:St} {on:List Int} {k i:Nat} {c:Int × Int × Int} (h:cand s on k i=some c):c.1=i∧s.o i=true∧(s.r i).phase=0∧totO s.W s.H s.S on (s.r i).cell (s.t k).fr (s.t k).dst=some c.2.1∧c.2.2=(s.r i).charge:=by
 unfold cand at h
 split at h
 ·rename_i n hn
  split at h
  ·rename_i hc
   simp only [Bool.and_eq_true,beq_iff_eq] at hc
   injection h with h;subst h
   exact ⟨rfl,hc.1,hc.2,hn,rfl⟩
  ·cases h
 ·cases h
theorem bestI_some {s:St} {on:List Int} {k n:Nat} {x:Int} (h:bestI (cands s on k n)=some x):∃ i:Nat,i < n∧x=i∧s.o i=true∧(s.r i).phase=0:=by
 unfold bestI at h
 cases hm:minD (((cands s on k n).filter canB).map fun c=>(c.2.1,c.1)) with
 | none=>rw [hm] at h;cases h
 | some y=>
   rw [hm] at h
   injection h with h
   obtain ⟨c,hc,rfl⟩:=List.mem_map.1 (minD_mem hm)
   obtain ⟨i,hi,hci⟩:=List.mem_filterMap.1 (List.mem_filter.1 hc).1
   obtain ⟨h1,h2,h3,_⟩:=cand_some hci
   exact ⟨i,List.mem_range.1 hi,by rw [← h,← h1],h2,h3⟩
theorem SuitP.idle {s:St} {r:Rob} (h:SuitP s r) (h0:r.phase=0∨r.phase=3):r.task=-1:=by
 rcases h with ⟨h,_⟩ | ⟨k,_,_,_,hc⟩
 ·exact h
 ·rcases hc with ⟨h,_⟩ | ⟨h,_⟩ | ⟨h,_⟩<;>omega
theorem assign1_inv {s:St} (h:Inv s) (on:List Int) {k:Nat} (hk:k < 20):Inv (assign1 on k s)∧Qu s (assign1 on k s)∧(∀ j,((assign1 on k s).t j).st=(s.t j).st∨(j=k∧(s.t j).st=0∧((assign1 on k s).t j).st=1)):=by
 have nop:Inv s∧Qu s s∧(∀ j,(s.t j).st=(s.t j).st∨(j=k∧(s.t j).st=0∧(s.t j).st=1)):=⟨h,.refl s,fun _=>.inl rfl⟩
 unfold assign1
 by_cases hc:(s.i k && (s.t k).st == 0)=true
 ·rw [if_pos hc]
  simp only [Bool.and_eq_true,beq_iff_eq] at hc
  cases hb:bestI (cands s on k 10) with
  | none=>exact nop
  | some x=>
    obtain ⟨i,hi,rfl,oi,pi⟩:=bestI_some hb
    simp only [Int.toNat_natCast]
    have hti:=(h.tsk i hi oi).idle (.inl pi)
    refine ⟨h.upd2 hi hk oi hc.1 rfl rfl rfl rfl (fun j hj oj tj=>?_) (.inl rfl) (.inr hti) (.inr ⟨rfl,.inl ⟨rfl,rfl⟩⟩),?_,fun j=>?_⟩
    ·obtain ⟨k',hk',hkt,_,hst⟩:=(h.tsk j hj oj).has (by rw [tj];omega)
     obtain rfl:k'=k:=by rw [tj] at hkt;omega
     rw [hc.2] at hst;omega
    ·exact Qu.trans (Qu.setR h.wf hi oi (r:={ s.r i with phase:=1,task:=(k:Int) }) ⟨rfl,rfl,rfl,rfl,rfl⟩) (Qu.setT (h.wf.sR _ _) hk hc.1 ⟨rfl,rfl⟩)
    ·rw [(h.wf.sR _ _).setT_t hk];split
     ·rename_i e;subst e;exact .inr ⟨rfl,hc.2,rfl⟩
     ·exact .inl rfl
 ·rw [if_neg hc];exact nop
theorem idle1_inv {s:St} (h:Inv s) {i:Nat} (hi:i < 10):Inv (idle1 i s)∧Qu s (idle1 i s)∧(∀ j,(idle1 i s).t j=s.t j):=by
 unfold idle1
 split
 ·rename_i hc
  simp only [Bool.and_eq_true,beq_iff_eq,decide_eq_true_eq] at hc
  refine ⟨h.upd hi rfl (h.cell i hi) (h.chg i hi) fun oi=>.inl ⟨(h.tsk i hi oi).idle (.inl hc.1.2),.inr (.inl rfl)⟩,Qu.setR h.wf hi hc.1.1 ⟨rfl,rfl,rfl,rfl,rfl⟩,fun _=>rfl⟩
 ·exact ⟨h,.refl s,fun _=>rfl⟩
theorem strand_inv {s:St} (h:Inv s) (on:List Int):Inv (iter (strand1 on) 10 s)∧Qu s (iter (strand1 on) 10 s)∧(∀ k,(iter (strand1 on) 10 s).t k=s.t k):=
 iter_ind (P:=fun _ s'=>Inv s'∧Qu s s'∧∀ k,s'.t k=s.t k) ⟨h,.refl s,fun _=>rfl⟩ fun i s' hi ⟨h1,h2,h3⟩=>by
  obtain ⟨k1,k2,k3,_⟩:=strand1_inv h1 on hi
  exact ⟨k1,h2.trans k2,fun k=>(k3 k).trans (h3 k)⟩
theorem assign_inv {s:St} (h:Inv s) (on:List Int):Inv (assign on s)∧Qu s (assign on s)∧(∀ j,((assign on s).t j).st=(s.t j).st∨((s.t j).st=0∧((assign on s).t j).st=1)):=by
 have h1:=iter_ind (f:=assign1 on) (P:=fun n s'=>Inv s'∧Qu s s'∧∀ j,(s'.t j).st=(s.t j).st∨(j < n∧(s.t j).st=0∧(s'.t j).st=1)) (n:=20) ⟨h,.refl s,fun _=>.inl rfl⟩ fun i s' hi ⟨h1,h2,h3⟩=>by
  obtain ⟨k1,k2,k3⟩:=assign1_inv h1 on hi
  refine ⟨k1,h2.trans k2,fun j=>?_⟩
  rcases h3 j with e | ⟨e1,e2,e3⟩
  ·rcases k3 j with e' | ⟨e1,e2,e3⟩
   ·exact .inl (e'.trans e)
   ·exact .inr ⟨by omega,by rw [← e];exact e2,e3⟩
  ·rcases k3 j with e' | ⟨e1',e2',e3'⟩
   ·exact .inr ⟨by omega,e2,e'.trans e3⟩
   ·omega
 unfold assign
 refine iter_ind (f:=idle1) (P:=fun _ s'=>Inv s'∧Qu s s'∧∀ j,(s'.t j).st=(s.t j).st∨((s.t j).st=0∧(s'.t j).st=1)) (n:=10) ⟨h1.1,h1.2.1,fun j=>?_⟩ fun i s' hi ⟨h1,h2,h3⟩=>?_
 ·rcases h1.2.2 j with e | ⟨_,e⟩
  ·exact .inl e
  ·exact .inr e
 ·obtain ⟨k1,k2,k3⟩:=idle1_inv h1 hi
  exact ⟨k1,h2.trans k2,fun k=>by rw [k3];exact h3 k⟩
theorem accOK_iff {c sp g a:Int}:accOK c sp g a=true↔(0≤c∧c≤200)∧(0≤sp∧sp≤great)∧(0≤g∧g≤great)∧(-great≤a∧a≤great):=by
 unfold accOK
 simp only [Bool.and_eq_true,inB_iff,and_assoc]
theorem spend_some {r r':Rob} {k:Int} (h:spend r k=some r'):r'={ r with charge:=r.charge - k,moved:=r.moved + k }∧0≤k∧0≤r.charge - k∧r.charge - k≤200:=by
 unfold spend at h
 split at h
 ·rename_i hc
  simp only [Bool.and_eq_true,decide_eq_true_eq,accOK_iff] at hc
  injection h with h
  exact ⟨h.symm,hc.1.1.2,hc.2.1.1,hc.2.1.2⟩
 ·cases h
theorem gain_some {r r':Rob} {n:Int} (h:gainR r n=some r'):∃ m,r'={ r with charge:=r.charge + m,gained:=r.gained + m }∧0≤r.charge + m∧r.charge + m≤200∧m≤n∧(0≤n→r.charge≤200→0≤m):=by
 unfold gainR at h
 simp only at h
 split at h
 ·rename_i hc
  simp only [Bool.and_eq_true,decide_eq_true_eq,accOK_iff] at hc
  injection h with h
  exact ⟨_,h.symm,hc.2.1.1,hc.2.1.2,Int.min_le_left _ _,fun h1 h2=>by omega⟩
 ·cases h
inductive RobStep (s:St) (on was:List Int) (i:Nat) (r':Rob):Prop where
 | stay (h1:r'.cell=(s.r i).cell) (h2:r'.moved=(s.r i).moved) (h3:r'.adj=(s.r i).adj) (h4:r'.charge - r'.gained=(s.r i).charge - (s.r i).gained) (h5:(s.r i).gained≤r'.gained∧r'.gained≤(s.r i).gained + 20)
 | goes (n k:Int) (h0:s.o i=true) (h1:r'={ s.r i with cell:=n,charge:=(s.r i).charge - k,moved:=(s.r i).moved + k }) (h2:k=1∨k=2) (h3:opn s.S n=true) (h4:n ∈ nearL s.W s.S (s.r i).cell) (h5:n ∉ was) (h6:n ∉ placeL s) (h7:safeB s.W s.H s.S on k n ((s.r i).charge - k)=true)
theorem RobStep.same {s:St} {on was:List Int} {i:Nat}:RobStep s on was i (s.r i):=.stay rfl rfl rfl rfl ⟨by omega,by omega⟩
structure Acts (on was:List Int) (i:Nat) (s s':St):Prop where
 keep:Keep s s'
 tick:s'.tick=s.tick
 oth:∀ j,j≠i→s'.r j=s.r j
 rob:RobStep s on was i (s'.r i)
 tsk:∀ k,(s'.t k).fr=(s.t k).fr∧(s'.t k).dst=(s.t k).dst∧((s'.t k).st=(s.t k).st∨(s.o i=true∧(s.r i).task=(k:Int)∧((s.t k).st=1∨(s.t k).st=2)∧(s'.t k).st=(s.t k).st + 1))
 roff:s.o i=false→s'.r i=s.r i
 toff:∀ k,s.i k=false→s'.t k=s.t k
theorem Acts.refl (on was:List Int) (i:Nat) (s:St):Acts on was i s s:=⟨.refl s,rfl,fun _ _=>rfl,.same,fun _=>⟨rfl,rfl,.inl rfl⟩,fun _=>rfl,fun _ _=>rfl⟩
theorem Acts.setR {on was:List Int} {i:Nat} {s:St} (hw:s.WF) (hi:i < 10) (oi:s.o i=true) {r:Rob} (hr:RobStep s on was i r):Acts on was i s (s.setR i r):=
 ⟨.sR _ _ _,rfl,fun j hj=>by rw [hw.setR_r hi,if_neg hj],by rw [hw.setR_r hi,if_pos rfl];exact hr,fun _=>⟨rfl,rfl,.inl rfl⟩,fun o=>(by rw [oi] at o;cases o),fun _ _=>rfl⟩
theorem Acts.set2 {on was:List Int} {i k:Nat} {s:St} (hw:s.WF) (hi:i < 10) (hk:k < 20) {r:Rob} {t:Tsk} (hr:RobStep s on was i r) (oi:s.o i=true) (ik:s.i k=true) (ht:(s.r i).task=(k:Int)) (h1:t.fr=(s.t k).fr) (h2:t.dst=(s.t k).dst) (h3:(s.t k).st=1∨(s.t k).st=2) (h4:t.st=(s.t k).st + 1):Acts on was i s ((s.setR i r).setT k t):=by
 refine ⟨(Keep.sR _ _ _).trans (.sT _ _ _),rfl,fun j hj=>?_,?_,fun j=>?_,fun o=>(by rw [oi] at o;cases o),fun j ij=>?_⟩
 ·rw [setT_r,hw.setR_r hi,if_neg hj]
 ·rw [setT_r,hw.setR_r hi,if_pos rfl];exact hr
 ·rw [(hw.sR _ _).setT_t hk];split
  ·rename_i e;subst e;exact ⟨h1,h2,.inr ⟨oi,ht,h3,h4⟩⟩
  ·exact ⟨rfl,rfl,.inl rfl⟩
 ·rw [(hw.sR _ _).setT_t hk,if_neg]
  ·rfl
  rintro rfl;rw [ik] at ij;cases ij
theorem works_inv {s s':St} (h:Inv s) {on was:List Int} {i:Nat} (hi:i < 10) (oi:s.o i=true) (hp0:(s.r i).phase≠0) (hp4:(s.r i).phase≠4) (hw:works s i on=some s'):Inv s'∧Acts on was i s s':=by
 unfold works at hw
 simp only at hw
 split at hw
 ·rename_i hp
  rcases h.tsk i hi oi with ⟨h1,h2⟩ | ⟨k,hk,hkt,hik,hc⟩
  ·omega
  have hst:(s.t k).st=1:=by rcases hc with ⟨_,h⟩ | ⟨h,_⟩ | ⟨h,_⟩<;>omega
  rw [SuitP.tk hkt,hkt,Int.toNat_natCast] at hw
  split at hw
  ·split at hw
   ·injection hw with hw;subst hw
    refine ⟨h.upd2 hi hk oi hik rfl rfl rfl rfl (fun j hj oj tj=>h.uniq j i hj hi oj oi (by rw [tj,hkt]) (by rw [tj];omega)) (.inl rfl) (.inl hkt) (.inr ⟨rfl,.inr ⟨rfl,rfl⟩⟩),?_⟩
    exact Acts.set2 h.wf hi hk (.stay rfl rfl rfl rfl ⟨Int.le_refl _,by show (s.r i).gained≤(s.r i).gained + 20;omega⟩) oi hik hkt rfl rfl (.inl hst) (by rw [hst];rfl)
   ·injection hw with hw;subst hw;exact ⟨h,.refl _ _ _ _⟩
  ·cases hw
 ·split at hw
  ·rename_i hp
   rcases h.tsk i hi oi with ⟨h1,h2⟩ | ⟨k,hk,hkt,hik,hc⟩
   ·omega
   have hst:(s.t k).st=2:=by rcases hc with ⟨h,_⟩ | ⟨_,h⟩ | ⟨h,_⟩<;>omega
   rw [SuitP.tk hkt,hkt,Int.toNat_natCast] at hw
   split at hw
   ·injection hw with hw;subst hw
    refine ⟨h.upd2 hi hk oi hik rfl rfl rfl rfl (fun j hj oj tj=>h.uniq j i hj hi oj oi (by rw [tj,hkt]) (by rw [tj];omega)) (.inr rfl) (.inl hkt) (.inl ⟨rfl,.inl rfl,by show ¬((3:Int)=1∨(3:Int)=2);omega⟩),?_⟩
    exact Acts.set2 h.wf hi hk (.stay rfl rfl rfl rfl ⟨Int.le_refl _,by show (s.r i).gained≤(s.r i).gained + 20;omega⟩) oi hik hkt rfl rfl (.inr hst) (by rw [hst];rfl)
   ·cases hw
  ·rename_i hp1 hp2
   have hp3:(s.r i).phase=3∧(s.r i).task=-1:=by
    rcases h.tsk i hi oi with ⟨h1,h2⟩ | ⟨k,_,_,_,hc⟩
    ·exact ⟨by omega,h1⟩
    ·rcases hc with ⟨h,_⟩ | ⟨h,_⟩ | ⟨h,_⟩<;>omega
   split at hw
   ·injection hw with hw
    have hg:∃ m,(gainR (s.r i) 20).getD (s.r i)={ s.r i with charge:=(s.r i).charge + m,gained:=(s.r i).gained + m }∧0≤(s.r i).charge + m∧(s.r i).charge + m≤200∧0≤m∧m≤20:=by
     have hch:=h.chg i hi oi
     cases hgn:gainR (s.r i) 20 with
     | none=>exact ⟨0,by simp,by omega,by omega,by omega,by omega⟩
     | some r1=>
       obtain ⟨m,rfl,h1,h2,h3,h4⟩:=gain_some hgn
       exact ⟨m,rfl,h1,h2,h4 (by omega) hch.2,h3⟩
    obtain ⟨m,hg,h1,h2,h3,h4⟩:=hg
    rw [hg] at hw
    have hst:∀ r':Rob,r'.cell=(s.r i).cell→r'.task=(s.r i).task→r'.charge=(s.r i).charge + m→r'.gained=(s.r i).gained + m→r'.moved=(s.r i).moved→r'.adj=(s.r i).adj→(r'.phase=3∨r'.phase=0)→Inv (s.setR i r')∧Acts on was i s (s.setR i r'):=fun r' a1 a2 a3 a4 a5 a6 a7=>by
     refine ⟨h.upd hi a2 (fun oi=>by rw [a1];exact h.cell i hi oi) (fun _=>by rw [a3];exact ⟨h1,h2⟩) (fun _=>.inl ⟨by rw [a2];exact hp3.2,by omega⟩),Acts.setR h.wf hi oi (.stay a1 a5 a6 (by omega) (by omega))⟩
    subst hw
    split
    ·exact hst _ rfl rfl rfl rfl rfl rfl (.inr rfl)
    ·exact hst _ rfl rfl rfl rfl rfl rfl (.inl hp3.1)
   ·cases hw
theorem taken_free {l:List Int} {n:Nat} {x:Int} (h:freeT (takenL l n) x=true) (h0:0≤x) (h1:x < n) (h2:n≤64):x ∉ l:=by
 unfold freeT takenL at h
 rw [Nat.min_eq_left h2] at h
 intro hm
 rw [Bool.or_eq_true,decide_eq_true_eq,List.length_map,List.length_range] at h
 rcases h with h | h
 ·omega
 ·have hx:x.toNat < n:=by omega
  rw [List.getD_eq_getElem?_getD,List.getElem?_map,List.getElem?_range hx] at h
  have:((x.toNat:Nat):Int)=x:=by omega
  simp [this,hm] at h
theorem stepS_two (s:St) (r:Rob):stepS s r=1∨stepS s r=2:=by
 unfold stepS;split
 ·exact .inr rfl
 ·exact .inl rfl
theorem goes_inv {s:St} (h:Inv s) {dst on was:List Int} {i:Nat} (hi:i < 10) (oi:s.o i=true):Inv (goes s i dst on was)∧Acts on was i s (goes s i dst on was):=by
 have nop:Inv s∧Acts on was i s s:=⟨h,.refl _ _ _ _⟩
 have hS:=gr_size h.g
 unfold goes
 simp only
 split
 ·split
  ·rename_i n hn
   split
   ·rename_i hm
    split
    ·rename_i r' hsp
     obtain ⟨rfl,h1,h2,h3⟩:=spend_some hsp
     unfold nextO at hn
     have hfr:=List.find?_some hn
     unfold mayB gnear at hm
     simp only [Bool.and_eq_true,decide_eq_true_eq] at hm
     obtain ⟨⟨hm1,hm2⟩,hm3⟩:=hm
     have hc:=h.cell i hi oi
     rw [h.g,hc] at hm1
     simp only [Bool.and_self,if_true] at hm1
     have hno:=((near_iff ⟨hS.1.1,hS.1.2⟩ hc).1 hm1).1
     have hnl:=opn_lt hno
     have hnt:=taken_free hfr hnl.1 hnl.2 hS.2.2.2.1.2
     rw [List.mem_append] at hnt
     refine ⟨h.upd hi rfl (fun _=>hno) (fun _=>⟨h2,h3⟩) (fun oi=>?_),Acts.setR h.wf hi oi (.goes n (stepS s (s.r i)) oi rfl (stepS_two s _) hno hm1 (fun x=>hnt (.inl x)) (fun x=>hnt (.inr x)) hm3)⟩
     exact h.tsk i hi oi
    ·exact nop
   ·exact nop
  ·exact nop
 ·exact nop
theorem act1_inv {s:St} (h:Inv s) (on was:List Int) {i:Nat} (hi:i < 10):Inv (act1 on was i s)∧Acts on was i s (act1 on was i s):=by
 unfold act1
 simp only
 split
 ·rename_i hc
  simp only [Bool.and_eq_true,bne_iff_ne,ne_eq] at hc
  split
  ·rename_i s' hw;exact works_inv h hi hc.1.1 hc.1.2 hc.2 hw
  ·exact goes_inv h hi hc.1.1
 ·exact ⟨h,.refl _ _ _ _⟩
end Go.Proofs.YtoejdgoicoaomaaGreatDoor
namespace Go.Proofs
open Go.Shelf Go.RowKit Go.Extern.Stop Go.Stop Go.Extern
variable {P:Program} {ρ:Ren}
theorem wpList_append_run {ops:Array Oper} {rest:List Oper} {o:Oper} {a:Act} {Q:Exit→Act→World→Prop} {w:World} (hgd:o.guard=none) (sl x:Operand) (t u:TypeId)
 (ho:o.op=.call { callee:=.builtin .append,args:=#[sl,x],argTypes:=#[t,u] })
 (v y v':Value) (w':World) (hs:a.eval sl=v) (hx:a.eval x=y) (hr:∀ ty,(Builtin.append_ #[t,u] ty #[v,y]).run P w=.ok v' w')
 (h:wpList P ops Q rest (a.put o.dst v') w'):wpList P ops Q (o :: rest) a w:=by
 refine wpList_plain hgd fun K hK=>?_
 unfold Oper.wp execOp
 simp only [ho,resolve,invoke,builtin,Sem.run_bind,Sem.run_pure,Result.andThen_ok,List.map_toArray,List.map_cons,List.map_nil,hs,hx,hr]
 exact hK _ _ h
set_option maxHeartbeats 1000000 in
set_option maxRecDepth 100000 in
theorem bld_copy_used (b:Nat) (w:World) (h0:w.cell? ⟨b,0,none⟩=some (.pointer (some ⟨b,0,none⟩))):
 Calls Tryz.prog 152 #[.pointer (some ⟨b,0,none⟩)] w fun e w'=>e=.returned (.tuple #[])∧w'=w:=by
 obtain ⟨j,hj,hjs⟩:=Option.map_eq_some_iff.1 (show (Tryz.prog.info? 200).map (·.size)=some 2 by kernel_rfl)
 have hq:=Lib.run_neq_ptr_same (P:=Tryz.prog) w ⟨b,0,none⟩ Tryz.underlying198 hj
 go_enter Tryz.func152,Tryz.ntmps152
 go_wp2
 go_end0
 exact ⟨rfl,rfl⟩
set_option maxHeartbeats 1000000 in
set_option maxRecDepth 100000 in
theorem bld_copy_fresh (b:Nat) (w:World) (h0:w.cell? ⟨b,0,none⟩=some (.pointer none)) (hsh:w.shape? b=some (200,2)) (hfz:w.frozen? ⟨b,0,none⟩=false):
 Calls Tryz.prog 152 #[.pointer (some ⟨b,0,none⟩)] w fun e w'=>e=.returned (.tuple #[])∧w'=w.setCell ⟨b,0,none⟩ (.pointer (some ⟨b,0,none⟩)):=by
 obtain ⟨j,hj,hjs⟩:=Option.map_eq_some_iff.1 (show (Tryz.prog.info? 200).map (·.size)=some 2 by kernel_rfl)
 go_enter Tryz.func152,Tryz.ntmps152
 go_wp2
 rw [Lib.run_to_unsafe w ⟨b,0,none⟩ Tryz.underlying198 Tryz.underlying95 hj (by rw [hjs];decide) hsh (Nat.zero_lt_succ 1)]
 simp only [Result.andThen]
 rw [Oper.upon_value]
 go_wp2
 rw [run_callFunc_extern Tryz.func164 (by kernel_rfl) (by kernel_rfl) (by kernel_rfl) (e:=Extern.AbiNoEscape.same) (by kernel_rfl)]
 rw [Lib.run_noEscape]
 simp only [Result.andThen]
 rw [Oper.upon_value]
 go_wp2
 rw [Lib.run_from_unsafe w ⟨b,0,none⟩ Tryz.underlying95 Tryz.underlying198 hj hsh (by kernel_rfl)]
 simp only [Result.andThen]
 rw [Oper.upon_value]
 go_wp2
 go_end0
 exact ⟨rfl,rfl⟩
set_option maxHeartbeats 2000000 in
set_option maxRecDepth 100000 in
theorem bld_write (b:Nat) (s:ByteArray) (w w1 w2:World) (v:Value) (ao:Option Addr) (n' cap':Nat)
 (hcc:Calls Tryz.prog 152 #[.pointer (some ⟨b,0,none⟩)] w fun e w'=>e=.returned (.tuple #[])∧w'=w1)
 (hbk:w1.heap[b]?=some (.cells #[.pointer (some ⟨b,0,none⟩),v] 200 (0,0)))
 (hrun:∀ ty,(Builtin.append_ #[158,9] ty #[v,.string s]).run Tryz.prog w1=.ok (.slice ao n' cap') w2)
 (hb2:w2.heap[b]?=some (.cells #[.pointer (some ⟨b,0,none⟩),v] 200 (0,0))):
 Calls Tryz.prog 128 #[.pointer (some ⟨b,0,none⟩),.string s] w fun e w'=>e=.returned (.tuple #[.int .i64 s.size,.nilIface])∧w'=w2.setCell ⟨b,1,none⟩ (.slice ao n' cap'):=by
 go_enter Tryz.func128,Tryz.ntmps128
 go_wp2_with (go_at_call 152;refine hcc.mono ?_)
 rintro e w1' ⟨rfl,rfl⟩
 have c0:w1'.cell? ⟨b,0,none⟩=some (.pointer (some ⟨b,0,none⟩)):=by rw [Lib.cell_of_heap hbk];rfl
 have c1:w1'.cell? ⟨b,1,none⟩=some v:=by rw [Lib.cell_of_heap hbk];rfl
 have d0:w2.cell? ⟨b,0,none⟩=some (.pointer (some ⟨b,0,none⟩)):=by rw [Lib.cell_of_heap hb2];rfl
 have d1:w2.cell? ⟨b,1,none⟩=some v:=by rw [Lib.cell_of_heap hb2];rfl
 have f1:w2.frozen? ⟨b,1,none⟩=false:=Lib.frozen_of_heap hb2 1
 go_wp2_with (at_builtin;(refine wpList_append_run rfl _ _ 158 9 rfl v (.string s) _ _ rfl rfl hrun ?_))
 go_wp2
 go_ret2
 exact ⟨rfl,rfl⟩
set_option maxHeartbeats 1000000 in
set_option maxRecDepth 100000 in
theorem bld_string (L:Lays.n169 P ρ) (X:Builder.Extra P ρ) (b g cap:Nat) (p:Value) (cur:Array Value) (l:List UInt8) (w:World) (h0:l≠[])
 (hbk:w.heap[b]?=some (.cells #[p,.slice (some ⟨g,0,none⟩) l.length cap] (ρ.t 72) (0,0))) (hg:w.heap[g]?=some (.cells cur (ρ.t 5) (0,0)))
 (hnc:l.length≤cap) (hcm:cap≤maxLen) (hcs:cur.size=cap) (htake:cur.toList.take l.length=Lib.byteCells l):
 Calls P (ρ.f 169) #[.pointer (some ⟨b,0,none⟩)] w fun e w'=>e=.returned (.string ⟨l.toArray⟩)∧w'=w.drew.freeze ⟨g,0,none⟩ l.length:=by
 have hl0:l.length≠0:=by simpa using h0
 have hown:w.ownsRow 0 (ρ.t 5) 1 (.slice (some ⟨g,0,none⟩) l.length cap) l.length (Lib.byteCells l):=
  ⟨by rw [Lib.byteCells_length,Nat.mul_one],.inr ⟨g,cap,cur,rfl,Nat.zero_le _,hg,hnc,hcm,by rw [Nat.mul_one];exact hcs,by rw [Nat.mul_one];exact htake⟩⟩
 have c1:w.drew.cell? ⟨b,1,none⟩=some (.slice (some ⟨g,0,none⟩) l.length cap):=by
  have:w.drew.heap[b]?=some (.cells #[p,.slice (some ⟨g,0,none⟩) l.length cap] (ρ.t 72) (0,0)):=hbk
  rw [Lib.cell_of_heap this];rfl
 have hSD:(Builtin.unsafeSliceData_ #[(ρ.t 37)] (ρ.t 127) #[.slice (some ⟨g,0,none⟩) l.length cap]).run P w.drew=.ok (.pointer (some ⟨g,0,none⟩)) w.drew:=
  Lib.run_unsafeSliceData_row _ _ _ _ _ _ (by omega)
 have hUS:(Builtin.unsafeString_ #[(ρ.t 127),(ρ.t 3)] (ρ.t 9) #[.pointer (some ⟨g,0,none⟩),.int .i64 l.length]).run P w.drew=.ok (.string ⟨l.toArray⟩) (w.drew.freeze ⟨g,0,none⟩ l.length):=by
  refine Lib.run_unsafeString_row w.drew (ρ.t 127) (ρ.t 3) (ρ.t 9) (ρ.t 5) L.t127 X.cellsByte g cur.size (by have hg':w.drew.heap[g]?=some (.cells cur (ρ.t 5) (0,0)):=hg;simp [World.shape?,hg']) l h0 (by omega) (by unfold maxLen at hcm;omega) ?_
  intro j x hx
  have:=hown.cells (g:=g) rfl j (.int .u8 x.toNat) (by simp [Lib.byteCells,hx])
  exact this
 have mixed:=L.mixed
 have t72:=L.t72;have a72:=L.a72;have z72:=L.z72;have v72:=L.v72;have u72:=run_underlying L.t72
 have t70:=L.t70;have a70:=L.a70;have z70:=L.z70;have v70:=L.v70;have u70:=run_underlying L.t70
 have t37:=L.t37;have a37:=L.a37;have z37:=L.z37;have v37:=L.v37;have u37:=run_underlying L.t37
 have t127:=L.t127;have a127:=L.a127;have z127:=L.z127;have v127:=L.v127;have u127:=run_underlying L.t127
 have t3:=L.t3;have a3:=L.a3;have z3:=L.z3;have v3:=L.v3;have u3:=run_underlying L.t3
 have t9:=L.t9;have a9:=L.a9;have z9:=L.z9;have v9:=L.v9;have u9:=run_underlying L.t9
 have t5:=X.t5;have a5:=X.a5;have z5:=X.z5;have v5:=X.v5;have u5:=run_underlying X.t5
 go_enter L.f169,Body.n169_ntmps ρ
 go_wp2
 go_region_o
 all_goals (go_wp2;go_ret;exact ⟨rfl,rfl⟩)
end Go.Proofs
namespace Go.Mini
open Go.RowKit (Below)
section
variable {B:Fz} {w0 w:World} {μ:Nat→Blk} {σ:H}
theorem Sim.toOth {k:Nat} {R:OR} {o:Obj} (h:Sim B w0 μ σ w) (hk:σ.get k≠.dead) (hr:∀ cs,σ.get k≠.ro cs) (hB:B.le (μ k).b) (hp:R.p μ σ.size (μ k).b o):
 Sim B w0 μ (σ.set k (.oth R)) { w with heap:=w.heap.setIfInBounds (μ k).b o }:=by
 have hlt:=H.lt_of_live hk
 have hin:(μ k).b < w.heap.size:=h.fin k hlt
 have other:∀ b,b≠(μ k).b→({ w with heap:=w.heap.setIfInBounds (μ k).b o }:World).heap[b]?=w.heap[b]?:=fun b hb=>by
  simp [Array.getElem?_setIfInBounds,Ne.symm hb]
 have same:({ w with heap:=w.heap.setIfInBounds (μ k).b o }:World).heap[(μ k).b]?=some o:=by simp [Array.getElem?_setIfInBounds,hin]
 have apart:∀ i,i≠k→σ.get i≠.dead→(μ i).b≠(μ k).b:=fun i hi hd=>Ne.symm (h.inj k i hk hd hr (Ne.symm hi))
 refine ⟨h.below.trans ⟨rfl,rfl,rfl,by simp,fun b hb=>other b (by have:=hB.1;omega)⟩,by simpa using h.base,fun k' o e=>by rw [other k' (fun e2=>by have:=hB.2;rw [← e2,e] at this;cases this)];exact h.fx k' o e,h.wh,by simpa using h.fin,?_,?_,?_,?_,?_,?_⟩
 ·intro i s ds hd
  by_cases e:i=k
  ·subst e;rw [H.get_set_self hlt] at hd;cases hd
  ·rw [H.get_set_ne e] at hd
   obtain ⟨h1,ds',t',fz',h2,h3,h4⟩:=h.own i s ds hd
   exact ⟨h1,ds',t',fz',by rw [other _ (apart i e (by rw [hd];simp))];exact h2,h3,by simpa using h4⟩
 ·intro i ds hd
  by_cases e:i=k
  ·subst e;rw [H.get_set_self hlt] at hd;cases hd
  ·rw [H.get_set_ne e] at hd
   obtain ⟨h0,ds',t',fz',h2,h4⟩:=h.ro i ds hd
   exact ⟨h0,ds',t',fz',by rw [other _ (apart i e (by rw [hd];simp))];exact h2,by simpa using h4⟩
 ·intro i es3 c3 hd
  by_cases e:i=k
  ·subst e;rw [H.get_set_self hlt] at hd;cases hd
  ·rw [H.get_set_ne e] at hd
   obtain ⟨h1,es',h2,h3⟩:=h.map i es3 c3 hd
   exact ⟨h1,es',by rw [other _ (apart i e (by rw [hd];simp))];exact h2,by simpa using h3⟩
 ·intro i R2 hd
  by_cases e:i=k
  ·subst e;rw [H.get_set_self hlt] at hd
   cases hd
   exact ⟨hB,o,same,by simpa using hp⟩
  ·rw [H.get_set_ne e] at hd
   obtain ⟨h1,o',h2,h3⟩:=h.oth i R2 hd
   exact ⟨h1,o',by rw [other _ (apart i e (by rw [hd];simp))];exact h2,by simpa using h3⟩
 ·intro i T ds hd
  by_cases e:i=k
  ·subst e;rw [H.get_set_self hlt] at hd;cases hd
  ·rw [H.get_set_ne e] at hd
   obtain ⟨h1,h0,ds',h2,h3,h4⟩:=h.typ i T ds hd
   exact ⟨h1,h0,ds',by rw [other _ (apart i e (by rw [hd];simp))];exact h2,h3,by simpa using h4⟩
 ·intro i j hi hj hr2 hne
  have live:∀ x,(σ.set k (.oth R)).get x≠.dead→σ.get x≠.dead:=fun x hx=>by
   by_cases e:x=k
   ·subst e;exact hk
   ·rwa [H.get_set_ne e] at hx
  refine h.inj i j (live i hi) (live j hj) (fun ds=>?_) hne
  by_cases e:i=k
  ·subst e;exact hr ds
  ·have:=hr2 ds;rwa [H.get_set_ne e] at this
end
theorem modify_known {a:Array Obj} {b:Nat} {o:Obj} (h:a[b]?=some o) (f:Obj→Obj):a.modify b f=a.setIfInBounds b (f o):=by
 apply Array.ext_getElem?
 intro i
 rw [Array.getElem?_modify,Array.getElem?_setIfInBounds]
 obtain ⟨hlt,he⟩:=Array.getElem?_eq_some_iff.1 h
 by_cases e:b=i
 ·subst e;simp [hlt,he]
 ·simp [e]
theorem setCell_known {w:World} {b k:Nat} {c:Array Value} {t:TypeId} {fz:Nat × Nat} (h:w.heap[b]?=some (.cells c t fz)) (v:Value):
 w.setCell ⟨b,k,none⟩ v={ w with heap:=w.heap.setIfInBounds b (.cells (c.setIfInBounds k v) t fz) }:=by
 unfold World.setCell
 rw [modify_known h];rfl
theorem setRow_known {w:World} {g:Nat} {c cs:Array Value} {t:TypeId} {fz:Nat × Nat} (h:w.heap[g]?=some (.cells c t fz)):
 w.setRow g cs={ w with heap:=w.heap.setIfInBounds g (.cells cs t fz) }:=by
 unfold World.setRow
 rw [modify_known h]
theorem freeze_known {w:World} {g n:Nat} {c:Array Value} {t:TypeId} {fz:Nat × Nat} (h:w.heap[g]?=some (.cells c t fz)) (hn:n≠0):
 ∃ o,w.freeze ⟨g,0,none⟩ n={ w with heap:=w.heap.setIfInBounds g o }:=by
 unfold World.freeze
 rw [if_neg hn,modify_known h]
 exact ⟨_,rfl⟩
end Go.Mini
namespace Go.Proofs.YtoejdgoicoaomaaGreatDoor
open Go.Mini
variable {E:World→Prop}
def bldR (i j n cap:Nat):OR where
 p:=fun μ N b o=>i < N∧j < N∧(μ i).o=0∧o=.cells #[.pointer (some ⟨b,0,none⟩),.slice (some ⟨(μ j).b,0,none⟩) n cap] 200 (0,0)
 mono:=fun hn hm ⟨h1,h2,h3,h4⟩=>⟨by omega,by omega,by rw [hm _ h1];exact h3,by rw [hm _ h2];exact h4⟩
def bufR (cap:Nat) (l:List UInt8):OR where
 p:=fun _ _ _ o=>∃ cur,o=.cells cur 5 (0,0)∧cur.size=cap∧l.length≤cap∧cap≤maxLen∧cur.toList.take l.length=Lib.byteCells l
 mono:=fun _ _ h=>h
inductive Bld (σ:H) (i:Nat):Option Nat→List UInt8→Prop
 | fresh (h:σ.get i=.typ 200 [.pointer none,.slice none 0 0]):Bld σ i none []
 | full {j cap:Nat} {l:List UInt8} (hl:l≠[]) (hi:σ.get i=.oth (bldR i j l.length cap)) (hj:σ.get j=.oth (bufR cap l)) (hn:i≠j):Bld σ i (some j) l
theorem Bld.of_eq {σ τ:H} {i:Nat} {oj:Option Nat} {l:List UInt8} (h:Bld σ i oj l) (h1:τ.get i=σ.get i) (h2:∀ j,oj=some j→τ.get j=σ.get j):Bld τ i oj l:=by
 cases h with
 | fresh h=>exact .fresh (h1.trans h)
 | full hl hi hj hn=>exact .full hl (h1.trans hi) ((h2 _ rfl).trans hj) hn
theorem byteCells_app (l:List UInt8) (s:ByteArray):Lib.byteCells l ++ Lib.strCells s=Lib.byteCells (l ++ s.data.toList):=by simp [Lib.byteCells,Lib.strCells]
theorem _root_.Go.Mini.VRs.inv_cons {μ:Nat→Blk} {n:Nat} {v:Value} {l l':List Value} (h:VRs μ n (v :: l) l'):∃ v' t,l'=v' :: t∧VR μ n v v'∧VRs μ n l t:=by
 cases h with | cons h hs=>exact ⟨_,_,rfl,h,hs⟩
theorem _root_.Go.Mini.VRs.inv_nil {μ:Nat→Blk} {n:Nat} {l':List Value} (h:VRs μ n [] l'):l'=[]:=by cases h;rfl
theorem bld_grow {B:Fz} {w0 w:World} {μ:Nat→Blk} {σ:H} {i cap:Nat} {v:Value} {l:List UInt8} {cur:Array Value} (hs:Sim B w0 μ σ w) (hi:σ.get i≠.dead) (hr:∀ cs,σ.get i≠.ro cs) (hB:B.le (μ i).b) (ho:(μ i).o=0)
 (hb:w.heap[(μ i).b]?=some (.cells #[.pointer (some ⟨(μ i).b,0,none⟩),v] 200 (0,0))) (h1:cur.size=cap) (h2:l.length≤cap) (h3:cap≤maxLen) (h4:cur.toList.take l.length=Lib.byteCells l):
 Sim B w0 (setMu μ σ.size ⟨w.heap.size,0,0,0,true⟩) ((σ.push (.oth (bufR cap l))).set i (.oth (bldR i σ.size l.length cap)))
  ((w.drew.alloc (.cells cur 5)).setCell ⟨(μ i).b,1,none⟩ (.slice (some ⟨w.heap.size,0,none⟩) l.length cap)):=by
 have hlt:=H.lt_of_live hi
 have hbl:=hs.fin i hlt
 have hs2:=(hs.drewN 1).pushOth (R:=bufR cap l) (o:=.cells cur 5 (0,0)) fun μ' _=>⟨cur,rfl,h1,h2,h3,h4⟩
 have hμ:setMu μ σ.size ⟨w.heap.size,0,0,0,true⟩ i=μ i:=(Agr.setMu μ _) i hlt
 have hμ2:setMu μ σ.size ⟨w.heap.size,0,0,0,true⟩ σ.size=⟨w.heap.size,0,0,0,true⟩:=setMu_self ..
 have hb2:(w.drew.alloc (.cells cur 5)).heap[(μ i).b]?=some (.cells #[.pointer (some ⟨(μ i).b,0,none⟩),v] 200 (0,0)):=by
  show (w.heap.push _)[(μ i).b]?=_
  rw [Array.getElem?_push_lt hbl,← hb,Array.getElem?_eq_getElem hbl]
 rw [setCell_known hb2]
 have hs3:=hs2.toOth (k:=i) (R:=bldR i σ.size l.length cap) (o:=.cells #[.pointer (some ⟨(μ i).b,0,none⟩),.slice (some ⟨w.heap.size,0,none⟩) l.length cap] 200 (0,0))
  (by rw [H.get_push_lt hlt];exact hi) (fun cs=>by rw [H.get_push_lt hlt];exact hr cs) (by rw [hμ];exact hB)
  ⟨by simp;omega,by simp,by rw [hμ];exact ho,by rw [hμ,hμ2]⟩
 rw [hμ] at hs3
 exact hs3
set_option maxHeartbeats 1000000 in
theorem bWrite_c {σ:H} {i:Nat} {oj:Option Nat} {l:List UInt8} (hb:Bld σ i oj l) (s:ByteArray) (h0:0 < s.size) (hl:l.length + s.size≤1000000):
 MCalls E Tryz.prog 128 [.pointer (some ⟨i,0,none⟩),.string s] σ (fun v τ=>v=.tuple #[.int .i64 s.size,.nilIface]∧
  ∃ oj',Bld τ i oj' (l ++ s.data.toList)∧σ.size≤τ.size∧(oj'=oj∨oj'=some σ.size)∧∀ k,k < σ.size→k≠i→oj≠some k→τ.get k=σ.get k):=by
 refine ⟨by kernel_rfl,fun B w0 μ w args' hE hs ha=>?_⟩
 obtain ⟨_,_,rfl,h1,ha⟩:=VRs.inv_cons ha
 obtain ⟨_,_,rfl,h2,ha⟩:=VRs.inv_cons ha
 obtain rfl:=VRs.inv_nil ha
 obtain ⟨hil,rfl⟩:=h1.inv_ptr
 obtain rfl:=h2.inv_string
 obtain ⟨i0,hi0,hz0,hz1,hz2⟩:=info_parts (show (Tryz.prog.info? 5).map (fun i=>(i.zero,i.size,i.bytes))=some (some (.int .u8 0),1,1) by kernel_rfl)
 have hsl:s.data.toList.length=s.size:=Array.length_toList
 have hne:l ++ s.data.toList≠[]:=fun e=>by
  have:=congrArg List.length e
  rw [List.length_append,hsl,List.length_nil] at this;omega
 have hll:(l ++ s.data.toList).length=l.length + s.size:=by rw [List.length_append,hsl]
 cases hb with
 | fresh hi=>
   obtain ⟨hB,⟨ho,hsz⟩,cs',hp,hlen,hcr⟩:=hs.typ i _ _ hi
   rw [ho] at hcr ⊢
   obtain ⟨p0,q0,r0⟩:=hcr 0 _ rfl
   obtain ⟨p1,q1,r1⟩:=hcr 1 _ rfl
   obtain rfl:=r0.inv_nilPtr
   obtain ⟨rfl,_,_⟩:=r1.inv_nilSlice
   have hcs:cs'=#[.pointer none,.slice none 0 0]:=by
    obtain ⟨cl⟩:=cs'
    match cl,hlen with
    | [a,c],_=>
      simp only [Nat.zero_add,List.getElem?_toArray,List.getElem?_cons_zero,List.getElem?_cons_succ,Option.some.injEq] at q0 q1
      rw [q0,q1]
   subst hcs
   have hptr:VR μ σ.size (.pointer (some ⟨i,0,none⟩)) (.pointer (some ⟨(μ i).b,0,none⟩)):=by
    have:=VR.ptr (μ:=μ) (off:=0) hil
    rwa [ho] at this
   have hs1:=hs.setTyp (c':=#[.pointer (some ⟨(μ i).b,0,none⟩),.slice none 0 0]) (ds:=[.pointer (some ⟨i,0,none⟩),.slice none 0 0]) hi rfl (by
    rw [ho]
    intro j v hv
    match j,hv with
    | 0,hv=>cases hv;exact ⟨_,rfl,hptr⟩
    | 1,hv=>cases hv;exact ⟨_,rfl,.nilSlice⟩)
   have hbl:=hs.fin i hil
   generalize hw1:({ w with heap:=w.heap.setIfInBounds (μ i).b (.cells #[.pointer (some ⟨(μ i).b,0,none⟩),.slice none 0 0] 200 (0,0)) }:World)=w1 at hs1
   have hb1:w1.heap[(μ i).b]?=some (.cells #[.pointer (some ⟨(μ i).b,0,none⟩),.slice none 0 0] 200 (0,0)):=by
    rw [← hw1];simp [Array.getElem?_setIfInBounds,hbl]
   have hsz1:w1.heap.size=w.heap.size:=by rw [← hw1];simp
   have hcc:=(bld_copy_fresh (μ i).b w (by rw [Lib.cell_of_heap hp];rfl) (by simp [World.shape?,hp]) (Lib.frozen_of_heap hp 0)).mono fun e w' ⟨he,hw⟩=>(⟨he,by rw [hw,setCell_known hp,← hw1];rfl⟩:e=Ending.returned (.tuple #[])∧w'=w1)
   have hrun:=fun ty=>run_append_nil_string (P:=Tryz.prog) w1 158 9 ty 5 i0 (.int .u8 0) Tryz.underlying158 Tryz.underlying9 hi0 hz0 s h0 (by omega) (by rw [hz2];omega)
   have hge:=grownCap_ge w1 s.size 0 5
   have hcm:=grownCap_le_maxLen w1 s.size 0 5 (by unfold maxLen;omega)
   generalize grownCap w1 s.size 0 5=cap at hrun hge hcm
   have hcz:(Builtin.zeroCells (Value.int .u8 0).cells (cap - s.size)).size=cap - s.size:=by rw [size_zeroCells];simp [Value.cells]
   have hsim:=bld_grow (cap:=cap) (l:=[] ++ s.data.toList) (cur:=s.data.map (fun b=>Value.int .u8 b.toNat) ++ Builtin.zeroCells (Value.int .u8 0).cells (cap - s.size)) hs1 (by rw [H.get_set_self hil];simp) (by rw [H.get_set_self hil];simp) hB ho hb1
    (by rw [Array.size_append,Array.size_map,hcz];show s.size + _=_;omega) (by rw [hll];simpa using hge) hcm (by
      rw [List.nil_append,hsl,Array.toList_append,Array.toList_map,List.take_append_of_le_length (by simp [hsl]),List.take_of_length_le (by simp [hsl])];rfl)
   rw [hll,List.length_nil,Nat.zero_add] at hsim
   have hb2:(w1.drew.alloc (.cells (s.data.map (fun b=>Value.int .u8 b.toNat) ++ Builtin.zeroCells (Value.int .u8 0).cells (cap - s.size)) 5)).heap[(μ i).b]?=some (.cells #[.pointer (some ⟨(μ i).b,0,none⟩),.slice none 0 0] 200 (0,0)):=by
    show (w1.heap.push _)[(μ i).b]?=_
    rw [Array.getElem?_push_lt (by rw [hsz1];exact hbl),← hb1,Array.getElem?_eq_getElem (by rw [hsz1];exact hbl)]
   refine (bld_write (μ i).b s w w1 _ (.slice none 0 0) _ _ _ hcc hb1 hrun hb2).mono ?_
   rintro e w' ⟨rfl,rfl⟩
   rw [H.size_set] at hsim
   refine ⟨_,_,_,_,rfl,⟨rfl,some σ.size,.full (cap:=cap) hne ?_ ?_ (by omega),by simp,.inr rfl,fun k hk hki _=>?_⟩,hsim,.tuple (c:=#[.int .i64 s.size,.nilIface]) (c':=#[.int .i64 s.size,.nilIface]) (.cons (.int _ _) (.cons .nilIface .nil)),.setMu μ _,by simp⟩
   ·rw [H.get_set_self (by simp;omega),hll];simp
   ·rw [H.get_set_ne (by omega)]
    have:=H.get_push_self (σ.set i (.typ 200 [.pointer (some ⟨i,0,none⟩),.slice none 0 0])) (.oth (bufR cap ([] ++ s.data.toList)))
    rwa [H.size_set] at this
   ·rw [H.get_set_ne hki,H.get_push_lt (by simpa using hk),H.get_set_ne hki]
 | @full j cap _ hl0 hi hj hij=>
   obtain ⟨hB,_,hp,_,hjl,ho,rfl⟩:=hs.oth i _ hi
   obtain ⟨hBj,_,hq,cur,rfl,c1,c2,c3,c4⟩:=hs.oth j _ hj
   rw [ho]
   have hbl:=hs.fin i hil
   have hbne:(μ i).b≠(μ j).b:=hs.inj i j (by rw [hi];simp) (by rw [hj];simp) (fun cs=>by rw [hi];simp) hij
   have hcc:=bld_copy_used (μ i).b w (by rw [Lib.cell_of_heap hp];rfl)
   by_cases hroom:l.length + s.size≤cap
   ·have hrun:=fun ty=>Lib.run_append_room_string (P:=Tryz.prog) w 158 9 ty 5 i0 Tryz.underlying158 Tryz.underlying9 hi0 hz1 (μ j).b l.length cap cur hq s hroom (by omega)
    generalize hcur:(cur.toList.take l.length ++ Lib.strCells s ++ cur.toList.drop (l.length + s.size)).toArray=cur2 at hrun
    have hs2:=hs.setOth (m:=.oth (bufR cap (l ++ s.data.toList))) (o:=.cells cur2 5 (0,0)) hj (.inl ⟨_,rfl,cur2,rfl,by
     rw [← hcur]
     simp only [List.size_toArray,List.length_append,List.length_take,List.length_drop,Array.length_toList,Lib.strCells_length]
     omega,by rw [hll];exact hroom,c3,by
     rw [← hcur,c4,byteCells_app]
     exact List.take_left' (by rw [Lib.byteCells_length])⟩)
    have hb2:(w.setRow (μ j).b cur2).heap[(μ i).b]?=some (.cells #[.pointer (some ⟨(μ i).b,0,none⟩),.slice (some ⟨(μ j).b,0,none⟩) l.length cap] 200 (0,0)):=by
     rw [setRow_other _ _ _ _ hbne];exact hp
    rw [← setRow_known hq] at hs2
    have hs3:=hs2.toOth (k:=i) (R:=bldR i j (l.length + s.size) cap) (o:=.cells #[.pointer (some ⟨(μ i).b,0,none⟩),.slice (some ⟨(μ j).b,0,none⟩) (l.length + s.size) cap] 200 (0,0))
     (by rw [H.get_set_ne hij,hi];simp) (fun cs=>by rw [H.get_set_ne hij,hi];simp) hB ⟨by simpa using hil,by simpa using hjl,ho,rfl⟩
    refine (bld_write (μ i).b s w w _ _ _ _ _ hcc hp hrun hb2).mono ?_
    rintro e w' ⟨rfl,rfl⟩
    rw [setCell_known hb2]
    refine ⟨_,_,_,_,rfl,⟨rfl,some j,.full (cap:=cap) hne ?_ ?_ hij,by simp,.inl rfl,fun k hk hki hkj=>?_⟩,hs3,.tuple (c:=#[.int .i64 s.size,.nilIface]) (c':=#[.int .i64 s.size,.nilIface]) (.cons (.int _ _) (.cons .nilIface .nil)),.refl _ _,by simp⟩
    ·rw [H.get_set_self (by simpa using hil),hll]
    ·rw [H.get_set_ne (Ne.symm hij),H.get_set_self hjl]
    ·rw [H.get_set_ne hki,H.get_set_ne (fun e=>hkj (by rw [e]))]
   ·have hcl:(Lib.byteCells l).length=l.length:=Lib.byteCells_length l
    have holds:∀ k u,(Lib.byteCells l)[k]?=some u→w.cell? ((⟨(μ j).b,0,none⟩:Addr).add k)=some u:=fun k u hu=>by
     rw [← c4,List.getElem?_take] at hu
     split at hu
     ·rw [addr_add,Lib.cell_of_heap hq,Nat.zero_add,← Array.getElem?_toList];exact hu
     ·cases hu
    have hrun:=fun ty=>Lib.run_append_grow_string (P:=Tryz.prog) w 158 9 ty 5 i0 (.int .u8 0) Tryz.underlying158 Tryz.underlying9 hi0 hz0 ⟨(μ j).b,0,none⟩ l.length cap (Lib.byteCells l) (by rw [hcl,hz1,Nat.mul_one]) holds s (by omega) (by omega)
     (by rw [hz2];exact growslice_fits (by omega) (by omega))
    have hge:=grownCap_ge w (l.length + s.size) cap 5
    have hcm:=grownCap_le_maxLen w (l.length + s.size) cap 5 (by unfold maxLen;omega)
    generalize grownCap w (l.length + s.size) cap 5=cap2 at hrun hge hcm
    have hcz:(Builtin.zeroCells (Value.int .u8 0).cells (cap2 - (l.length + s.size))).size=cap2 - (l.length + s.size):=by rw [size_zeroCells];simp [Value.cells]
    generalize hcur:(Lib.byteCells l).toArray ++ (Lib.strCells s).toArray ++ Builtin.zeroCells (Value.int .u8 0).cells (cap2 - (l.length + s.size))=cur2 at hrun
    have hsim:=bld_grow (cap:=cap2) (l:=l ++ s.data.toList) (cur:=cur2) (hs.kill j) (by rw [H.get_set_ne hij,hi];simp) (by rw [H.get_set_ne hij,hi];simp) hB ho hp
     (by rw [← hcur,Array.size_append,Array.size_append,hcz,List.size_toArray,List.size_toArray,hcl,Lib.strCells_length];omega) (by rw [hll];exact hge) hcm (by
       rw [← hcur,Array.toList_append,Array.toList_append,List.toList_toArray,List.toList_toArray,byteCells_app]
       exact List.take_left' (by rw [Lib.byteCells_length]))
    have hb2:(w.drew.alloc (.cells cur2 5)).heap[(μ i).b]?=some (.cells #[.pointer (some ⟨(μ i).b,0,none⟩),.slice (some ⟨(μ j).b,0,none⟩) l.length cap] 200 (0,0)):=by
     show (w.heap.push _)[(μ i).b]?=_
     rw [Array.getElem?_push_lt hbl,← hp,Array.getElem?_eq_getElem hbl]
    rw [hll] at hsim
    refine (bld_write (μ i).b s w w _ _ _ _ _ hcc hp hrun hb2).mono ?_
    rintro e w' ⟨rfl,rfl⟩
    rw [H.size_set] at hsim
    refine ⟨_,_,_,_,rfl,⟨rfl,some σ.size,.full (cap:=cap2) hne ?_ ?_ (by omega),by simp,.inr rfl,fun k hk hki hkj=>?_⟩,hsim,.tuple (c:=#[.int .i64 s.size,.nilIface]) (c':=#[.int .i64 s.size,.nilIface]) (.cons (.int _ _) (.cons .nilIface .nil)),.setMu μ _,by simp⟩
    ·rw [H.get_set_self (by simp;omega),hll]
    ·rw [H.get_set_ne (by omega)]
     have:=H.get_push_self (σ.set j .dead) (.oth (bufR cap2 (l ++ s.data.toList)))
     rwa [H.size_set] at this
    ·rw [H.get_set_ne hki,H.get_push_lt (by simpa using hk),H.get_set_ne (fun e=>hkj (by rw [e]))]
theorem bString_c {σ:H} {i:Nat} {oj:Option Nat} {l:List UInt8} (hb:Bld σ i oj l):
 MCalls E Tryz.prog 129 [.pointer (some ⟨i,0,none⟩)] σ (fun v τ=>v=.string ⟨l.toArray⟩∧σ.size≤τ.size∧∀ k,k < σ.size→oj≠some k→τ.get k=σ.get k):=by
 refine ⟨by kernel_rfl,fun B w0 μ w args' hE hs ha=>?_⟩
 obtain ⟨_,_,rfl,h1,ha⟩:=VRs.inv_cons ha
 obtain rfl:=VRs.inv_nil ha
 obtain ⟨hil,rfl⟩:=h1.inv_ptr
 cases hb with
 | fresh hi=>
   obtain ⟨hB,⟨ho,hsz⟩,cs',hp,hlen,hcr⟩:=hs.typ i _ _ hi
   rw [ho] at hcr ⊢
   obtain ⟨p0,q0,r0⟩:=hcr 0 _ rfl
   obtain ⟨p1,q1,r1⟩:=hcr 1 _ rfl
   obtain rfl:=r0.inv_nilPtr
   obtain ⟨rfl,_,_⟩:=r1.inv_nilSlice
   have hcs:cs'=#[.pointer none,.slice none 0 0]:=by
    obtain ⟨cl⟩:=cs'
    match cl,hlen with
    | [a,c],_=>
      simp only [Nat.zero_add,List.getElem?_toArray,List.getElem?_cons_zero,List.getElem?_cons_succ,Option.some.injEq] at q0 q1
      rw [q0,q1]
   subst hcs
   refine (Any.Builder_String_nil Tryz.lays169 Tryz.Builder_Extra_169 w.heap.size (μ i).b _ w hp).mono ?_
   rintro e w' ⟨rfl,hbw⟩
   exact ⟨_,_,σ,μ,rfl,⟨rfl,Nat.le_refl _,fun _ _ _=>rfl⟩,hs.of_grown hbw,.string _,.refl _ _,Nat.le_refl _⟩
 | @full j cap _ hl0 hi hj hij=>
   obtain ⟨hB,_,hp,_,hjl,ho,rfl⟩:=hs.oth i _ hi
   obtain ⟨hBj,_,hq,cur,rfl,c1,c2,c3,c4⟩:=hs.oth j _ hj
   rw [ho]
   have hl1:l.length≠0:=by simpa using hl0
   obtain ⟨o,hfz⟩:=freeze_known (w:=w.drew) (n:=l.length) hq hl1
   refine (bld_string Tryz.lays169 Tryz.Builder_Extra_169 (μ i).b (μ j).b cap _ cur l w hl0 hp hq c2 c3 c1 c4).mono ?_
   rintro e w' ⟨rfl,rfl⟩
   rw [hfz]
   exact ⟨_,_,σ.set j .dead,μ,rfl,⟨rfl,Nat.le_refl _,fun k _ hk=>H.get_set_ne fun e=>hk (by rw [e])⟩,(hs.drewN 1).setOth hj (.inr rfl),.string _,.refl _ _,Nat.le_refl _⟩
theorem Bld.lt {σ:H} {i:Nat} {oj:Option Nat} {l:List UInt8} (h:Bld σ i oj l):∀ j,oj=some j→j < σ.size:=by
 intro j hj
 cases h with
 | fresh _=>cases hj
 | full hl hi hj2 hn=>injection hj with hj;subst hj;exact H.lt_of_live (by rw [hj2];simp)
end Go.Proofs.YtoejdgoicoaomaaGreatDoor
namespace Go.Proofs.YtoejdgoicoaomaaGreatDoor
open Go.Mini
open Go.Proofs.YtoejdgoicoaomaaGreatDoor.Code
attribute [local irreducible] mx ml mld mstep MCalls Ex.thn Ex.inb
variable {E:World→Prop}
end Go.Proofs.YtoejdgoicoaomaaGreatDoor
namespace Go.Proofs.YtoejdgoicoaomaaGreatDoor
open Go.Mini
open Go.Proofs.YtoejdgoicoaomaaGreatDoor.Code
attribute [local irreducible] mx ml mld mstep MCalls MYield Ex.thn Ex.inb mxR Ex.thnR Ex.inbR
variable {E:World→Prop}
def endsNL (s:ByteArray):Bool:=decide (1≤s.size) && (s.data.toList.getD (s.size - 1) 0 == 10)
end Go.Proofs.YtoejdgoicoaomaaGreatDoor
namespace Go.Proofs.YtoejdgoicoaomaaGreatDoor
open Go.Lib
def flatR (rows:List (List UInt8)):List UInt8:=rows.flatMap (·++ [10])
theorem flatR_cons (r:List UInt8) (rows:List (List UInt8)):flatR (r :: rows)=r ++ 10 :: flatR rows:=by simp [flatR]
theorem flatR_append (a b:List (List UInt8)):flatR (a ++ b)=flatR a ++ flatR b:=by simp [flatR]
theorem free_inj:∀ {a b x y:List UInt8},(10:UInt8) ∉ a→(10:UInt8) ∉ b→a ++ 10 :: x=b ++ 10 :: y→a=b∧x=y
 | [],[],_,_,_,_,h=>by simpa using h
 | [],c :: b,_,_,_,hb,h=>by simp at h;exact absurd h.1.symm (by rintro rfl;simp at hb)
 | c :: a,[],_,_,ha,_,h=>by simp at h;exact absurd h.1 (by rintro rfl;simp at ha)
 | c :: a,d :: b,x,y,ha,hb,h=>by
   simp only [List.cons_append,List.cons.injEq] at h
   obtain ⟨h1,h2⟩:=free_inj (a:=a) (b:=b) (fun m=>ha (List.mem_cons_of_mem _ m)) (fun m=>hb (List.mem_cons_of_mem _ m)) h.2
   exact ⟨by rw [h.1,h1],h2⟩
theorem flatR_nil {rows:List (List UInt8)} (h:flatR rows=[]):rows=[]:=by
 cases rows with
 | nil=>rfl
 | cons r rows=>rw [flatR_cons] at h;simp at h
theorem flatR_pre:∀ {rows rows':List (List UInt8)} {x:List UInt8},(∀ r ∈ rows,(10:UInt8) ∉ r)→(∀ r ∈ rows',(10:UInt8) ∉ r)→flatR rows ++ x=flatR rows'→∃ more,rows'=rows ++ more∧x=flatR more
 | [],rows',x,_,_,h=>⟨rows',rfl,by simpa [flatR] using h⟩
 | r :: rows,[],x,_,_,h=>by rw [flatR_cons] at h;simp [flatR] at h
 | r :: rows,r' :: rows',x,h1,h2,h=>by
   rw [flatR_cons,flatR_cons,List.append_assoc,List.cons_append] at h
   obtain ⟨rfl,h3⟩:=free_inj (h1 r (by simp)) (h2 r' (by simp)) h
   obtain ⟨more,rfl,hx⟩:=flatR_pre (fun q hq=>h1 q (by simp [hq])) (fun q hq=>h2 q (by simp [hq])) h3
   exact ⟨more,rfl,hx⟩
def Parsed (s:List UInt8) (W Hh:Int) (S:ByteArray):Prop:=
 gr W Hh S=true∧∃ rows,s=flatR rows∧(∀ r ∈ rows,(10:UInt8) ∉ r∧(r.length:Int)=W)∧(rows.length:Int)=Hh∧S.data.toList=rows.flatten
structure PSt (s rest:List UInt8) (rows:List (List UInt8)) (W:Int) (S:ByteArray):Prop where
 txt:s=flatR rows ++ rest
 row:∀ r ∈ rows,(10:UInt8) ∉ r∧(r.length:Int)=W
 cells:S.data.toList=rows.flatten
 num:rows.length≤8
 w0:0≤W∧W≤s.length
section
variable {s rest:List UInt8} {rows:List (List UInt8)} {W:Int} {S:ByteArray}
theorem PSt.size (h:PSt s rest rows W S):(S.size:Int)=W * rows.length:=by
 have e:S.size=rows.flatten.length:=by rw [← h.cells];exact Array.length_toList.symm
 rw [e]
 have:∀ l:List (List UInt8),(∀ r ∈ l,(r.length:Int)=W)→((l.flatten.length:Nat):Int)=W * l.length:=by
  intro l
  induction l with
  | nil=>simp
  | cons r l ih=>
    intro hl
    have:=ih fun q hq=>hl q (by simp [hq])
    have h1:=hl r (by simp)
    simp only [List.flatten_cons,List.length_append,List.length_cons,Int.natCast_add,this,h1,Int.mul_add,Int.mul_one,Int.natCast_one,Int.ofNat_one]
    omega
 exact this rows fun r hr=>(h.row r hr).2
theorem PSt.start (s:List UInt8):PSt s s [] 0 ⟨#[]⟩:=⟨by simp [flatR],by simp,rfl,by simp,by simp⟩
theorem PSt.other (h:PSt s rest rows W S) {W' Hh':Int} {S':ByteArray} (hp:Parsed s W' Hh' S'):
 gr W' Hh' S'=true∧∃ more,rest=flatR more∧(∀ r ∈ rows ++ more,(10:UInt8) ∉ r∧(r.length:Int)=W')∧((rows ++ more).length:Int)=Hh'∧S'.data.toList=(rows ++ more).flatten:=by
 obtain ⟨hg,rows',h1,h2,h3,h4⟩:=hp
 rw [h.txt] at h1
 obtain ⟨more,rfl,hx⟩:=flatR_pre (fun r hr=>(h.row r hr).1) (fun r hr=>(h2 r hr).1) h1
 exact ⟨hg,more,hx,h2,h3,h4⟩
theorem PSt.more (h:PSt s rest rows W S) {row rest':List UInt8} (hr:rest=row ++ 10 :: rest') (hf:(10:UInt8) ∉ row) (h1:rows=[]∨(row.length:Int)=W) (h8:rows.length < 8) {S2:ByteArray} (hS:S2.data.toList=S.data.toList ++ row):
 PSt s rest' (rows ++ [row]) row.length S2:=by
 refine ⟨by rw [h.txt,hr,flatR_append,flatR_cons];simp [flatR],fun r hm=>?_,by rw [hS,h.cells];simp,by simp;omega,by omega,?_⟩
 ·rcases List.mem_append.1 hm with hm | hm
  ·rcases h1 with rfl | h1
   ·cases hm
   ·exact ⟨(h.row r hm).1,by rw [(h.row r hm).2,h1]⟩
  ·simp at hm;subst hm;exact ⟨hf,rfl⟩
 ·rw [h.txt,hr];simp;omega
theorem PSt.bad (h:PSt s rest rows W S) {row rest':List UInt8} (hr:rest=row ++ 10 :: rest') (hf:(10:UInt8) ∉ row) (h1:(rows≠[]∧(row.length:Int)≠W)∨rows.length=8) {W' Hh':Int} {S':ByteArray}:¬ Parsed s W' Hh' S':=fun hp=>by
 obtain ⟨hg,more,hm,h2,h3,h4⟩:=h.other hp
 have hgs:=gr_size hg
 cases more with
 | nil=>rw [hr] at hm;simp [flatR] at hm
 | cons r more=>
   rw [hr,flatR_cons] at hm
   obtain ⟨rfl,_⟩:=free_inj hf (h2 r (by simp)).1 hm
   rcases h1 with ⟨hne,hw⟩ | h8
   ·obtain ⟨q,l,rfl⟩:∃ q l,rows=q :: l:=by cases rows with
     | nil=>exact absurd rfl hne
     | cons q l=>exact ⟨q,l,rfl⟩
    have e1:=(h.row q (by simp)).2
    have e2:=(h2 q (by simp)).2
    have e3:=(h2 row (by simp)).2
    omega
   ·simp only [List.length_append,List.length_cons] at h3;omega
theorem PSt.done (h:PSt s [] rows W S):(gr W rows.length S=true→Parsed s W rows.length S)∧∀ {W' Hh':Int} {S':ByteArray},Parsed s W' Hh' S'→gr W rows.length S=true:=by
 refine ⟨fun hg=>⟨hg,rows,by rw [h.txt];simp,h.row,rfl,h.cells⟩,fun {W' Hh' S'} hp=>?_⟩
 obtain ⟨hg,more,hm,h2,h3,h4⟩:=h.other hp
 have:=flatR_nil hm.symm
 subst this
 rw [List.append_nil] at h2 h3 h4
 have hgs:=gr_size hg
 obtain ⟨q,l,rfl⟩:∃ q l,rows=q :: l:=by cases rows with
  | nil=>simp at h3;omega
  | cons q l=>exact ⟨q,l,rfl⟩
 have e1:=(h.row q (by simp)).2
 have e2:=(h2 q (by simp)).2
 have eS:S'=S:=by
  have:S'.data.toList=S.data.toList:=by rw [h4,h.cells]
  cases S;cases S';simpa using this
 subst eS
 rw [h3,← e1,e2];exact hg
end
end Go.Proofs.YtoejdgoicoaomaaGreatDoor
namespace Go.Proofs.YtoejdgoicoaomaaGreatDoor
open Go.Lib
def layT (w:Nat):Nat→List UInt8→List UInt8
 | 0,_=>[]
 | n + 1,l=>layT w n l ++ ((l.drop (n * w)).take w ++ [10])
structure PS0 (s rest:List UInt8) (rows:List (List UInt8)) (W:Int) (S:ByteArray):Prop where
 txt:s=flatR rows ++ rest
 row:∀ r ∈ rows,(10:UInt8) ∉ r∧(r.length:Int)=W
 cells:S.data.toList=rows.flatten
 w0:0≤W∧W≤s.length
section
variable {s rest:List UInt8} {rows:List (List UInt8)} {W:Int} {S:ByteArray}
theorem PS0.start (s:List UInt8):PS0 s s [] 0 ⟨#[]⟩:=⟨by simp [flatR],by simp,rfl,by simp⟩
theorem PS0.other (h:PS0 s rest rows W S) {W' Hh':Int} {S':ByteArray} (hp:Parsed s W' Hh' S'):
 gr W' Hh' S'=true∧∃ more,rest=flatR more∧(∀ r ∈ rows ++ more,(10:UInt8) ∉ r∧(r.length:Int)=W')∧((rows ++ more).length:Int)=Hh'∧S'.data.toList=(rows ++ more).flatten:=by
 obtain ⟨hg,rows',h1,h2,h3,h4⟩:=hp
 rw [h.txt] at h1
 obtain ⟨more,rfl,hx⟩:=flatR_pre (fun r hr=>(h.row r hr).1) (fun r hr=>(h2 r hr).1) h1
 exact ⟨hg,more,hx,h2,h3,h4⟩
theorem PS0.more (h:PS0 s rest rows W S) {row rest':List UInt8} (hr:rest=row ++ 10 :: rest') (hf:(10:UInt8) ∉ row) (h1:rows=[]∨(row.length:Int)=W) {S2:ByteArray} (hS:S2.data.toList=S.data.toList ++ row):
 PS0 s rest' (rows ++ [row]) row.length S2:=by
 refine ⟨by rw [h.txt,hr,flatR_append,flatR_cons];simp [flatR],fun r hm=>?_,by rw [hS,h.cells];simp,by omega,?_⟩
 ·rcases List.mem_append.1 hm with hm | hm
  ·rcases h1 with rfl | h1
   ·cases hm
   ·exact ⟨(h.row r hm).1,by rw [(h.row r hm).2,h1]⟩
  ·simp at hm;subst hm;exact ⟨hf,rfl⟩
 ·rw [h.txt,hr];simp;omega
theorem PS0.bad (h:PS0 s rest rows W S) {row rest':List UInt8} (hr:rest=row ++ 10 :: rest') (hf:(10:UInt8) ∉ row) (h1:rows≠[]∧(row.length:Int)≠W) {W' Hh':Int} {S':ByteArray}:¬ Parsed s W' Hh' S':=fun hp=>by
 obtain ⟨hg,more,hm,h2,h3,h4⟩:=h.other hp
 have hgs:=gr_size hg
 cases more with
 | nil=>rw [hr] at hm;simp [flatR] at hm
 | cons r more=>
   rw [hr,flatR_cons] at hm
   obtain ⟨rfl,_⟩:=free_inj hf (h2 r (by simp)).1 hm
   obtain ⟨hne,hw⟩:=h1
   ·obtain ⟨q,l,rfl⟩:∃ q l,rows=q :: l:=by cases rows with
     | nil=>exact absurd rfl hne
     | cons q l=>exact ⟨q,l,rfl⟩
    have e1:=(h.row q (by simp)).2
    have e2:=(h2 q (by simp)).2
    have e3:=(h2 row (by simp)).2
    omega
theorem PS0.done (h:PS0 s [] rows W S):(gr W rows.length S=true→Parsed s W rows.length S)∧∀ {W' Hh':Int} {S':ByteArray},Parsed s W' Hh' S'→gr W rows.length S=true:=by
 refine ⟨fun hg=>⟨hg,rows,by rw [h.txt];simp,h.row,rfl,h.cells⟩,fun {W' Hh' S'} hp=>?_⟩
 obtain ⟨hg,more,hm,h2,h3,h4⟩:=h.other hp
 have:=flatR_nil hm.symm
 subst this
 rw [List.append_nil] at h2 h3 h4
 have hgs:=gr_size hg
 obtain ⟨q,l,rfl⟩:∃ q l,rows=q :: l:=by cases rows with
  | nil=>simp at h3;omega
  | cons q l=>exact ⟨q,l,rfl⟩
 have e1:=(h.row q (by simp)).2
 have e2:=(h2 q (by simp)).2
 have eS:S'=S:=by
  have:S'.data.toList=S.data.toList:=by rw [h4,h.cells]
  cases S;cases S';simpa using this
 subst eS
 rw [h3,← e1,e2];exact hg
end
end Go.Proofs.YtoejdgoicoaomaaGreatDoor
namespace Go.Proofs.YtoejdgoicoaomaaGreatDoor
open Go.Mini
open Go.Proofs.YtoejdgoicoaomaaGreatDoor.Code
attribute [local irreducible] mx ml mld mstep MCalls MYield Ex.thn Ex.inb mxR Ex.thnR Ex.inbR
variable {E:World→Prop}
structure PG (σ:H) (rec:OR) (sv:ByteArray) (av bv mv:List Value) (τ:H):Prop where
 ext:Ext σ τ
 sz:σ.size + 6≤τ.size
 a:τ.get σ.size=.cells 0 av
 b:τ.get (σ.size + 1)=.cells 0 bv
 c:τ.get (σ.size + 2)=.cells 0 mv
 d:τ.get (σ.size + 3)=.cells 0 [.string sv]
 e:τ.get (σ.size + 4)=.oth defdR
 l:τ.get (σ.size + 5)=.oth rec
section
variable {σ τ τ':H} {rec rec':OR} {sv sv':ByteArray} {av bv mv xv:List Value}
theorem PG.of_ext (h:PG σ rec sv av bv mv τ) (e:Ext τ τ'):PG σ rec sv av bv mv τ':=
 ⟨h.ext.trans e,Nat.le_trans h.sz e.size,e.cells h.a,e.cells h.b,e.cells h.c,e.cells h.d,e.live h.e (by simp),e.live h.l (by simp)⟩
theorem PG.setA (h:PG σ rec sv av bv mv τ) (s:SetTo τ σ.size (.cells 0 xv) τ'):PG σ rec sv xv bv mv τ':=
 ⟨s.ext h.ext (by omega),by rw [s.size];exact h.sz,s.self,by rw [s.other _ (by omega)];exact h.b,by rw [s.other _ (by omega)];exact h.c,by rw [s.other _ (by omega)];exact h.d,by rw [s.other _ (by omega)];exact h.e,by rw [s.other _ (by omega)];exact h.l⟩
end
def zeroM:List Value:=[.int .i64 0,.int .i64 0,.string ⟨#[]⟩]
def rowOK (line:ByteArray) (W:Int) (n:Nat):Bool:=endsNL line && !(decide (0 < n) && (((line.size - 1:Nat):Int) != W)) && !decide (n=8)
def _root_.Go.Mini.rngs:MR→List (MC × MC)
 | .rng _ _ _ _ ma mb=>[(ma,mb)]
 | .seq a b=>rngs a ++ rngs b
 | .cond _ a b=>rngs a ++ rngs b
 | .block _ b=>rngs b
 | .plain _=>[]
def _root_.Go.Mini.rngMA (m:MR) (i:Nat):MC:=((rngs m).getD i (.skip,.skip)).1
def _root_.Go.Mini.rngMB (m:MR) (i:Nat):MC:=((rngs m).getD i (.skip,.skip)).2
end Go.Proofs.YtoejdgoicoaomaaGreatDoor
namespace Go.Proofs.YtoejdgoicoaomaaGreatDoor
open Go.Mini
open Go.Proofs.YtoejdgoicoaomaaGreatDoor.Code
attribute [local irreducible] mx ml mld mstep MCalls MYield Ex.thn Ex.inb mxR Ex.thnR Ex.inbR
variable {E:World→Prop}
def gridB:ByteArray:=⟨#[103,114,105,100]⟩
def linesQ (σ:H) (s:ByteArray) (L:Nat) (ts:Fr) (ca cb:Code) (τ:H):Prop:=
 (∃ rows W S,PSt s.data.toList [] rows W S∧∃ sv,PG σ (loopR L 57 ts #[10] ca cb .ready none) sv zeroM [.nilIface] (mapC W rows.length S) τ)∨
 (∃ ev sv mv,PG σ (loopR L 57 ts #[10] ca cb .done (some .ret)) sv zeroM [ev] mv τ∧TagE τ ev gridB 2∧∀ W Hh S,¬ Parsed s.data.toList W Hh S)
theorem PG.start (σ:H) (rec:OR) (sv:ByteArray) (av bv mv:List Value):PG σ rec sv av bv mv ((((((σ.push (.cells 0 av)).push (.cells 0 bv)).push (.cells 0 mv)).push (.cells 0 [.string sv])).push (.oth defdR)).push (.oth rec)):=by
 refine ⟨(((((Ext.push _ _).trans (Ext.push _ _)).trans (Ext.push _ _)).trans (Ext.push _ _)).trans (Ext.push _ _)).trans (Ext.push _ _),by simp,?_,?_,?_,?_,?_,?_⟩<;>simp [H.push]
 rw [if_neg (by omega),if_neg (by omega),if_neg (by omega),if_neg (by omega)]
def parseQ (σ:H) (s:ByteArray) (v:Value) (τ:H):Prop:=
 Ext σ τ∧((∃ W Hh S,v=.tuple #[mapV W Hh S,.nilIface]∧Parsed s.data.toList W Hh S)∨(∃ ev,v=.tuple #[mapV 0 0 ⟨#[]⟩,ev]∧TagE τ ev gridB 2∧∀ W Hh S,¬ Parsed s.data.toList W Hh S))
end Go.Proofs.YtoejdgoicoaomaaGreatDoor
namespace Go.Mini
section
variable {ts:Fr} {σ:H}
theorem bytesL_u8' (l:List UInt8):(bytesL l).all isU8=true:=by
 rw [List.all_eq_true]
 intro v hv
 obtain ⟨b,_,rfl⟩:=List.mem_map.1 hv
 rfl
theorem bytesL_to' (l:List UInt8):(bytesL l).map toU8=l:=by
 unfold bytesL
 rw [List.map_map]
 conv=>rhs;rw [← List.map_id l]
 apply List.map_congr_left
 intro b _
 simp [toU8]
theorem o_b2sR {x:Opd} {id off n cap:Nat} {L:List UInt8} (hx:mev ts x=.slice (some ⟨id,off,none⟩) n cap) (hr:σ.row id off n=some (bytesL L)):mop ts σ (.b2s x)=some (.string ⟨L.toArray⟩,σ):=by
 simp only [mop,hx,hr,bytesL_u8',if_true,bytesL_to']
theorem o_cat {x y:Opd} {a b:ByteArray} (hx:mev ts x=.string a) (hy:mev ts y=.string b) (h:a.size + b.size≤1000000000):mop ts σ (.bin .add x y)=some (.string (a ++ b),σ):=by
 have h':((a.size + b.size:Nat):Int)≤IntKind.i64.max:=by simp [IntKind.max,IntKind.signed,IntKind.bits];omega
 simp only [mop,hx,hy,mbin,if_pos h',Option.map_some]
end
end Go.Mini
namespace Go.Proofs.YtoejdgoicoaomaaGreatDoor
open Go.Mini
open Go.Proofs.YtoejdgoicoaomaaGreatDoor.Code
attribute [local irreducible] mx ml mld mstep MCalls MYield Ex.thn Ex.inb mxR Ex.thnR Ex.inbR
variable {E:World→Prop}
structure LG (σ:H) (n0:Nat) (rec:OR) (oj:Option Nat) (acc:List UInt8) (W:Int) (S:ByteArray) (τ:H):Prop where
 ext:Ext σ τ
 h0:σ.size≤n0
 sz:n0 + 6≤τ.size
 b:Bld τ (n0) oj acc
 bj:∀ j,oj=some j→n0 + 6≤j
 s:τ.get (n0 + 1)=.cells 1 (bytesL S.data.toList)
 c:τ.get (n0 + 2)=.cells 0 [.slice (some ⟨n0 + 1,0,none⟩) S.size S.size]
 d:τ.get (n0 + 3)=.cells 0 [.int .i64 W]
 e:τ.get (n0 + 4)=.oth defdR
 l:τ.get (n0 + 5)=.oth rec
theorem LG.start {σ τ:H} {W:Int} {S:ByteArray} (e:Ext σ τ) (rec:OR):
 LG σ τ.size rec none [] W S ((((((τ.push (.typ 200 [.pointer none,.slice none 0 0])).push (.cells 1 (bytesL S.data.toList))).push (.cells 0 [.slice (some ⟨τ.size + 1,0,none⟩) S.size S.size])).push (.cells 0 [.int .i64 W])).push (.oth defdR)).push (.oth rec)):=by
 refine ⟨e.trans ((((((Ext.push _ _).trans (Ext.push _ _)).trans (Ext.push _ _)).trans (Ext.push _ _)).trans (Ext.push _ _)).trans (Ext.push _ _)),e.size,by simp,.fresh ?_,fun j h=>(by cases h),?_,?_,?_,?_,?_⟩<;>simp [H.push]
 ·rw [if_neg (by omega),if_neg (by omega),if_neg (by omega),if_neg (by omega)]
end Go.Proofs.YtoejdgoicoaomaaGreatDoor
