/- '==' of structs and arrays; all the small operations together. -/
import Derived.Test.YtoejdgoicoaomaaGreatDoorG2
import Derived.CallsIn
import Derived.ControlIn
import Derived.OrdersIn
import Derived.TacticsIn
import Derived.Sort.LoopGhostIn
import Derived.RangeFuncRecord
import Derived.RangeFuncSeq
import Derived.RangeFuncBound
namespace Go.Mini
open Go.RowKit (Below)
section
variable {P:Program} {B:Fz} {w0 w:World} {μ:Nat→Blk} {σ τ:H} {ts:Fr} {v:Value}
theorem eqCells_append:∀ {k1 k2:List KD} {x1 x2 y1 y2:List Value},x1.length=k1.length→y1.length=k1.length→
 eqCells (k1 ++ k2) (x1 ++ x2) (y1 ++ y2)=match eqCells k1 x1 y1 with | some true=>eqCells k2 x2 y2 | some false=>some false | none=>none
 | [],k2,x1,x2,y1,y2,hx,hy=>by
   obtain rfl:=List.length_eq_zero_iff.1 hx
   obtain rfl:=List.length_eq_zero_iff.1 hy
   rfl
 | k :: k1,k2,[],x2,y1,y2,hx,_=>by simp at hx
 | k :: k1,k2,_ :: _,x2,[],y2,_,hy=>by simp at hy
 | k :: k1,k2,x :: x1,x2,y :: y1,y2,hx,hy=>by
   simp only [List.cons_append,eqCells]
   cases eqCell k x y with
   | none=>rfl
   | some b=>
     cases b
     ·rfl
     ·exact eqCells_append (by simpa using hx) (by simpa using hy)
def valOf (g:Bool) (xs:List Value):Value:=if g then .agg xs.toArray else (xs[0]?).getD undef
theorem run_part_val {t:TypeId} {g:Bool} {n off:Nat} {c:Array Value} (hg:isAggT P t=some g) (hn:sizeT P t=some n) (h1:g=false→n=1) (hoff:off + n≤c.size):
 (part t c off).run P w=.ok (valOf g ((c.toList.drop off).take n)) w:=by
 rw [run_part hg hn]
 cases g
 ·have:=h1 rfl
  subst this
  have hlt:off < c.size:=by omega
  simp only [Bool.false_eq_true,if_false,valOf,Array.getElem?_eq_getElem hlt]
  rw [List.getElem?_take,if_pos (by omega),List.getElem?_drop,Nat.add_zero,Array.getElem?_toList,Array.getElem?_eq_getElem hlt]
  rfl
 ·simp only [if_true,valOf]
  congr 2
  apply Array.toList_inj.1
  rw [extract_list]
theorem flatK_info {d:Nat} {t:TypeId} {ks:List KD} (h:flatK P d t=some ks):sizeT P t=some ks.length∧∃ g,isAggT P t=some g∧(g=false→ks.length=1):=by
 cases d with
 | zero=>simp [flatK] at h
 | succ d=>
   simp only [flatK] at h
   split at h
   ·rename_i hu
    split at h
    ·rename_i hs;simp only [Option.some.injEq] at h;subst h;exact ⟨hs,false,by simp [isAggT,hu],fun _=>rfl⟩
    ·cases h
   ·rename_i hu
    split at h
    ·rename_i hs;simp only [Option.some.injEq] at h;subst h;exact ⟨hs,false,by simp [isAggT,hu],fun _=>rfl⟩
    ·cases h
   ·rename_i hu
    split at h
    ·rename_i hs;simp only [Option.some.injEq] at h;subst h;exact ⟨hs,false,by simp [isAggT,hu],fun _=>rfl⟩
    ·cases h
   ·rename_i fs hu
    split at h
    ·cases h
    ·split at h
     ·split at h
      ·rename_i hs;simp only [Option.some.injEq] at h;subst h;exact ⟨hs,true,by simp [isAggT,hu],fun h=>by cases h⟩
      ·cases h
     ·cases h
   ·rename_i n e hu
    split at h
    ·split at h
     ·rename_i hs;simp only [Option.some.injEq] at h;subst h;exact ⟨hs,true,by simp [isAggT,hu],fun h=>by cases h⟩
     ·cases h
    ·cases h
   ·cases h
theorem eqFields_sound {d D:Nat} (ih:∀ (t:TypeId) (ks:List KD) (g:Bool) (xs ys:List Value) (r:Bool),flatK P d t=some ks→isAggT P t=some g→xs.length=ks.length→ys.length=ks.length→
 eqCells ks xs ys=some r→(Op.equalIn D t (valOf g xs) (valOf g ys)).run P w=.ok r w) (xs ys:Array Value):
 ∀ (fs:List Field) (off:Nat) (ks:List KD) (r:Bool),flatFs (flatK P d) fs off=some ks→off + ks.length≤xs.size→off + ks.length≤ys.size→
   eqCells ks ((xs.toList.drop off).take ks.length) ((ys.toList.drop off).take ks.length)=some r→(Op.eqFields D xs ys fs).run P w=.ok r w
 | [],off,ks,r,h,hx,hy,he=>by
   simp only [flatFs,Option.some.injEq] at h
   subst h
   simp [eqCells] at he
   subst he
   rfl
 | f :: fs,off,ks,r,h,hx,hy,he=>by
   simp only [flatFs] at h
   split at h
   ·rename_i hf
    split at h
    ·rename_i k1 hk
     cases hr:flatFs (flatK P d) fs (off + k1.length) with
     | none=>rw [hr] at h;cases h
     | some k2=>
       rw [hr] at h
       simp only [Option.map_some,Option.some.injEq] at h
       subst h
       simp only [List.length_append] at hx hy he
       obtain ⟨hsz,g,hg,hg1⟩:=flatK_info hk
       have split:∀ (zs:List Value),off + (k1.length + k2.length)≤zs.length→(zs.drop off).take (k1.length + k2.length)=(zs.drop off).take k1.length ++ (zs.drop (off + k1.length)).take k2.length:=by
        intro zs _
        rw [List.take_add,List.drop_drop]
       rw [split _ (by simpa using hx),split _ (by simpa using hy)] at he
       have lx:((xs.toList.drop off).take k1.length).length=k1.length:=by simp only [List.length_take,List.length_drop,Array.size_eq_length_toList] at *;omega
       have ly:((ys.toList.drop off).take k1.length).length=k1.length:=by simp only [List.length_take,List.length_drop,Array.size_eq_length_toList] at *;omega
       rw [eqCells_append lx ly] at he
       have hpx:=run_part_val (P:=P) (w:=w) (c:=xs) (off:=off) hg hsz hg1 (by omega)
       have hpy:=run_part_val (P:=P) (w:=w) (c:=ys) (off:=off) hg hsz hg1 (by omega)
       cases hc:eqCells k1 ((xs.toList.drop off).take k1.length) ((ys.toList.drop off).take k1.length) with
       | none=>rw [hc] at he;cases he
       | some b=>
         rw [hc] at he
         have h1:=ih f.type k1 g _ _ b hk hg lx ly hc
         simp only [Op.eqFields]
         rw [if_pos hf.1,hf.2]
         simp only [Sem.run_bind,hpx,hpy,h1,Result.andThen_ok]
         cases b
         ·simp only [Option.some.injEq] at he;subst he;rfl
         ·simp only [Bool.not_true,Bool.false_eq_true,if_false]
          exact eqFields_sound ih xs ys fs (off + k1.length) k2 r hr (by omega) (by omega) he
    ·cases h
   ·cases h
theorem repK_length (ks:List KD):∀ n,(repK ks n).length=n * ks.length
 | 0=>by simp [repK]
 | n + 1=>by simp [repK,repK_length ks n,Nat.add_mul,Nat.add_comm]
theorem eqItems_sound {d D:Nat} {e:TypeId} {k1:List KD} {g:Bool} (hk:flatK P d e=some k1) (hg:isAggT P e=some g) (ih:∀ (xs ys:List Value) (r:Bool),xs.length=k1.length→ys.length=k1.length→
 eqCells k1 xs ys=some r→(Op.equalIn D e (valOf g xs) (valOf g ys)).run P w=.ok r w) (xs ys:Array Value):
 ∀ (n i:Nat) (r:Bool),(i + n) * k1.length≤xs.size→(i + n) * k1.length≤ys.size→
   eqCells (repK k1 n) ((xs.toList.drop (i * k1.length)).take (n * k1.length)) ((ys.toList.drop (i * k1.length)).take (n * k1.length))=some r→
   (Op.eqItems D e (P.cellsOf e) xs ys (List.range' i n)).run P w=.ok r w
 | 0,i,r,hx,hy,he=>by
   simp [repK,eqCells] at he
   subst he
   rfl
 | n + 1,i,r,hx,hy,he=>by
   obtain ⟨hsz,g',hg',hg1⟩:=flatK_info hk
   rw [hg] at hg'
   cases hg'
   have hcell:P.cellsOf e=k1.length:=by
    unfold sizeT at hsz
    unfold Program.cellsOf
    rw [hsz];rfl
   have e1:(n + 1) * k1.length=k1.length + n * k1.length:=by rw [Nat.add_mul,Nat.one_mul,Nat.add_comm]
   have e2:(i + 1) * k1.length=i * k1.length + k1.length:=by rw [Nat.add_mul,Nat.one_mul]
   have e3:(i + (n + 1)) * k1.length=i * k1.length + (k1.length + n * k1.length):=by rw [Nat.add_mul,e1]
   rw [e3] at hx hy
   have split:∀ (zs:List Value),(zs.drop (i * k1.length)).take ((n + 1) * k1.length)=(zs.drop (i * k1.length)).take k1.length ++ (zs.drop ((i + 1) * k1.length)).take (n * k1.length):=by
    intro zs
    rw [e1,List.take_add,List.drop_drop,e2]
   rw [split,split] at he
   simp only [repK] at he
   have lx:((xs.toList.drop (i * k1.length)).take k1.length).length=k1.length:=by simp only [List.length_take,List.length_drop,Array.size_eq_length_toList] at *;omega
   have ly:((ys.toList.drop (i * k1.length)).take k1.length).length=k1.length:=by simp only [List.length_take,List.length_drop,Array.size_eq_length_toList] at *;omega
   rw [eqCells_append lx ly] at he
   have hpx:=run_part_val (P:=P) (w:=w) (c:=xs) (off:=i * k1.length) hg hsz hg1 (by omega)
   have hpy:=run_part_val (P:=P) (w:=w) (c:=ys) (off:=i * k1.length) hg hsz hg1 (by omega)
   cases hc:eqCells k1 ((xs.toList.drop (i * k1.length)).take k1.length) ((ys.toList.drop (i * k1.length)).take k1.length) with
   | none=>rw [hc] at he;cases he
   | some b=>
     rw [hc] at he
     have h1:=ih _ _ b lx ly hc
     rw [List.range'_succ]
     simp only [Op.eqItems,hcell,Sem.run_bind,hpx,hpy,h1,Result.andThen_ok]
     cases b
     ·simp only [Option.some.injEq] at he;subst he;rfl
     ·simp only [Bool.not_true,Bool.false_eq_true,if_false]
      have:=eqItems_sound hk hg ih xs ys n (i + 1) r (by rw [Nat.add_mul,e2];omega) (by rw [Nat.add_mul,e2];omega) he
      rw [hcell] at this
      exact this
theorem flat_sound:∀ (d:Nat) (D:Nat),d≤D→∀ (t:TypeId) (ks:List KD) (g:Bool) (xs ys:List Value) (r:Bool),flatK P d t=some ks→isAggT P t=some g→xs.length=ks.length→ys.length=ks.length→
 eqCells ks xs ys=some r→(Op.equalIn D t (valOf g xs) (valOf g ys)).run P w=.ok r w:=by
 intro d
 induction d with
 | zero=>intro D _ t ks g xs ys r h;simp [flatK] at h
 | succ d ih=>
   intro D hD t ks g xs ys r h hg hx hy he
   obtain ⟨D,rfl⟩:∃ m,D=m + 1:=⟨D - 1,by omega⟩
   have scalar:∀ {k:KD} {x y:Value},ks=[k]→xs=[x]→ys=[y]→eqCell k x y=some r:=by
    intro k x y e1 e2 e3
    subst e1 e2 e3
    simp only [eqCells] at he
    cases hc:eqCell k x y with
    | none=>rw [hc] at he;cases he
    | some b=>rw [hc] at he;cases b<;>simpa using he
   have one1:∀ {l:List Value} {k:KD},l.length=[k].length→∃ x,l=[x]:=by
    intro l k h
    match l,h with
    | [x],_=>exact ⟨x,rfl⟩
   simp only [flatK] at h
   split at h
   ·rename_i hu
    split at h
    ·simp only [Option.some.injEq] at h
     subst h
     obtain ⟨x,rfl⟩:=one1 hx
     obtain ⟨y,rfl⟩:=one1 hy
     have hc:=scalar rfl rfl rfl
     simp only [isAggT,hu,Option.some.injEq] at hg
     subst hg
     cases x<;>cases y<;>first | (simp [eqCell] at hc;done) | skip
     simp only [eqCell,Option.some.injEq] at hc
     subst hc
     exact run_equalIn_bool w D t _ _ hu
    ·cases h
   ·rename_i k hu
    split at h
    ·simp only [Option.some.injEq] at h
     subst h
     obtain ⟨x,rfl⟩:=one1 hx
     obtain ⟨y,rfl⟩:=one1 hy
     have hc:=scalar rfl rfl rfl
     simp only [isAggT,hu,Option.some.injEq] at hg
     subst hg
     cases x<;>cases y<;>first | (simp [eqCell] at hc;done) | skip
     simp only [eqCell] at hc
     split at hc
     ·rename_i hk
      simp only [Option.some.injEq] at hc
      subst hc
      subst hk
      rename_i k0 a0 b0
      show (Op.equalIn (D + 1) t (.int k0 a0) (.int k0 b0)).run P w=_
      simp only [Op.equalIn,Sem.run_bind,run_und hu,Result.andThen_ok,if_true,Sem.run_pure]
     ·cases hc
    ·cases h
   ·rename_i hu
    split at h
    ·simp only [Option.some.injEq] at h
     subst h
     obtain ⟨x,rfl⟩:=one1 hx
     obtain ⟨y,rfl⟩:=one1 hy
     have hc:=scalar rfl rfl rfl
     simp only [isAggT,hu,Option.some.injEq] at hg
     subst hg
     cases x<;>cases y<;>first | (simp [eqCell] at hc;done) | skip
     simp only [eqCell,Option.some.injEq] at hc
     subst hc
     exact run_equalIn_string w D t _ _ hu
    ·cases h
   ·rename_i fs hu
    split at h
    ·cases h
    ·rename_i hst
     split at h
     ·rename_i ks' hfs
      split at h
      ·simp only [Option.some.injEq] at h
       subst h
       simp only [isAggT,hu,Option.some.injEq] at hg
       subst hg
       have hfo:P.fieldsOf t=fs:=by simp [Program.fieldsOf,hu]
       simp only [valOf,if_true]
       rw [run_equalIn_struct w D t xs.toArray ys.toArray (by rw [hfo];exact hu) (by simpa using hst),hfo]
       refine eqFields_sound (ih D (by omega)) _ _ fs.toList 0 ks' r hfs (by simpa using Nat.le_of_eq hx.symm) (by simpa using Nat.le_of_eq hy.symm) ?_
       rw [List.drop_zero,List.drop_zero,List.take_of_length_le (by simpa using Nat.le_of_eq hx),List.take_of_length_le (by simpa using Nat.le_of_eq hy)]
       exact he
      ·cases h
     ·cases h
   ·rename_i n e hu
    split at h
    ·rename_i k1 hk
     split at h
     ·simp only [Option.some.injEq] at h
      subst h
      simp only [isAggT,hu,Option.some.injEq] at hg
      subst hg
      obtain ⟨hsz,g,hg,hg1⟩:=flatK_info hk
      simp only [valOf,if_true]
      rw [repK_length] at hx hy
      have hi:∃ i,P.info? e=some i:=by
       unfold sizeT at hsz
       cases hq:P.info? e with
       | none=>simp [hq] at hsz
       | some i=>exact ⟨i,rfl⟩
      obtain ⟨i,hi⟩:=hi
      rw [run_equalIn_array w D xs.toArray ys.toArray hu hi,List.range_eq_range']
      refine eqItems_sound hk hg (fun a b r=>ih D (by omega) e k1 g a b r hk hg) _ _ n 0 r (by simp [hx]) (by simp [hy]) ?_
      rw [Nat.zero_mul,List.drop_zero,List.drop_zero,List.take_of_length_le (by simp [hx]),List.take_of_length_le (by simp [hy])]
      exact he
     ·cases h
    ·cases h
   ·cases h
theorem eqCells_plain:∀ {ks:List KD} {xs ys:List Value} {r:Bool},eqCells ks xs ys=some r→xs.length=ks.length→∀ {n:Nat} {xs' ys':List Value},VRs μ n xs xs'→VRs μ n ys ys'→eqCells ks xs' ys'=some r
 | [],[],[],r,h,_,n,_,_,.nil,.nil=>h
 | k :: ks,x :: xs,y :: ys,r,h,hl,n,_,_,.cons (v':=x') h1 h1s,.cons (v':=y') h2 h2s=>by
   simp only [eqCells] at h ⊢
   cases hc:eqCell k x y with
   | none=>rw [hc] at h;cases h
   | some b=>
     have:x'=x∧y'=y:=by
      unfold eqCell at hc
      split at hc<;>first | exact ⟨h1.inv_bool,h2.inv_bool⟩ | exact ⟨h1.inv_int,h2.inv_int⟩ | exact ⟨h1.inv_string,h2.inv_string⟩ | cases hc
     rw [this.1,this.2,hc]
     rw [hc] at h
     cases b
     ·exact h
     ·exact eqCells_plain h (by simpa using hl) h1s h2s
 | [],_ :: _,_,_,_,h,_,_,_,_,_=>by simp at h
 | _ :: _,[],_,_,_,h,_,_,_,_,_=>by simp at h
 | [],[],_ :: _,_,h,_,_,_,_,_,_=>by simp [eqCells] at h
 | _ :: _,_ :: _,[],_,h,_,_,_,_,_,_=>by simp [eqCells] at h
theorem told_eqA (hs:Sim B w0 μ σ w) {x y:Opd} {x' y':Value} {t:TypeId} {neg:Bool} {ks:List KD} {ox oy:Operand} (hgd:P.eqGuardType P.depth t=false) (hk:flatK P 20 t=some ks) (hg:isAggT P t=some true)
 (hx:VR μ σ.size (mev ts x) x') (hy:VR μ σ.size (mev ts y) y')
 (hm:mop ts σ (.eqA neg ks x y)=some (v,τ)):Told P B w0 μ σ τ v (do pure (.value (← (do eqGuard (if neg then .neq else .eql) t ox oy x' y';binOp (if neg then .neq else .eql) t x' y')))) w:=by
 simp only [mop] at hm
 split at hm
 ·rename_i a b e1 e2
  rw [e1] at hx
  rw [e2] at hy
  obtain ⟨a',rfl,ha⟩:=hx.inv_agg
  obtain ⟨b',rfl,hb⟩:=hy.inv_agg
  split at hm
  ·rename_i hl
   cases hc:eqCells ks a.toList b.toList with
   | none=>rw [hc] at hm;cases hm
   | some r=>
     rw [hc] at hm
     simp only [Option.map_some,Option.some.injEq,Prod.mk.injEq] at hm
     obtain ⟨rfl,rfl⟩:=hm
     have hc':=eqCells_plain hc hl.1 ha hb
     have:=flat_sound (P:=P) (w:=w) 20 (9999 + 1) (by omega) t ks true _ _ r hk hg (by rw [ha.length];exact hl.1) (by rw [hb.length];exact hl.2) hc'
     simp only [valOf,if_true,Array.toArray_toList] at this
     refine .same hs ?_ (.bool _)
     rw [Sem.run_bind,Sem.run_bind,run_eqGuard_agg _ _ _ _ _ _ _ hgd]
     cases neg
     ·simp only [Bool.false_eq_true,if_false,Result.andThen_ok]
      rw [run_eql_struct,this];rfl
     ·simp only [if_true,Result.andThen_ok]
      rw [run_neq_struct,this];rfl
  ·cases hm
 ·cases hm
end
end Go.Mini
namespace Go.Mini
open Go.RowKit (Below)
section
variable {P:Program} {B:Fz} {w0 w:World} {μ:Nat→Blk} {σ τ:H} {ts:Fr} {v:Value} {a:Act}
theorem mapM_cons_some {α β:Type} {f:α→Option β} {l:List α} {y:β} {ys:List β} (h:l.mapM f=some (y :: ys)):∃ x xs,l=x :: xs∧f x=some y∧xs.mapM f=some ys:=by
 cases l with
 | nil=>simp at h
 | cons x xs=>
   rw [List.mapM_cons] at h
   cases hx:f x with
   | none=>simp [hx] at h
   | some b=>
     cases hxs:xs.mapM f with
     | none=>simp [hx,hxs] at h
     | some bs=>
       simp [hx,hxs] at h
       exact ⟨x,xs,rfl,by rw [h.1] at hx;exact hx,by rw [h.2] at hxs;exact hxs⟩
theorem mapM_nil_some {α β:Type} {f:α→Option β} {l:List α} (h:l.mapM f=some []):l=[]:=by
 cases l with
 | nil=>rfl
 | cons x xs=>
   rw [List.mapM_cons] at h
   cases hx:f x with
   | none=>simp [hx] at h
   | some b=>cases hxs:xs.mapM f<;>simp [hx,hxs] at h
theorem mapM_get {α β:Type} {f:α→Option β}:∀ {l:List α} {l':List β},l.mapM f=some l'→l'.length=l.length∧∀ (j:Nat) (y:β),l'[j]?=some y→∃ x,l[j]?=some x∧f x=some y
 | [],l',h=>by simp at h;subst h;exact ⟨rfl,fun j y h=>by simp at h⟩
 | x :: xs,l',h=>by
   cases l' with
   | nil=>have:=mapM_nil_some h;cases this
   | cons y ys=>
     obtain ⟨x',xs',e,h1,h2⟩:=mapM_cons_some h
     cases e
     obtain ⟨a1,a2⟩:=mapM_get h2
     refine ⟨by simp [a1],fun j z hz=>?_⟩
     cases j with
     | zero=>simp at hz;subst hz;exact ⟨x,by simp,h1⟩
     | succ j=>simpa using a2 j z (by simpa using hz)
theorem oopd_sound (hf:∀ i,VR μ σ.size (ts i) (a.tmps.getD i undef)) {x:Option Operand} {x':Option Opd} (h:oopd x=some x'):OVR μ σ.size (x'.map (mev ts)) (x.map a.eval):=by
 cases x with
 | none=>simp only [oopd,Option.some.injEq] at h;subst h;exact .none
 | some x=>
   simp only [oopd] at h
   cases hx:copd x with
   | none=>simp [hx] at h
   | some y=>simp [hx] at h;subst h;exact .some (copd_sound hf hx)
theorem oopd_none {x:Option Operand} {x':Option Opd} (h:oopd x=some x') (hn:x'.isNone=true):x=none:=by
 cases x with
 | none=>rfl
 | some x=>
   simp only [oopd] at h
   cases hx:copd x with
   | none=>simp [hx] at h
   | some y=>simp [hx] at h;subst h;simp at hn
theorem cbin_sound {op:BinOp} {t:TypeId} {x y:Operand} {m:MOp} (hc:cbin P op t x y=some m) (hs:Sim B w0 μ σ w) (hf:∀ i,VR μ σ.size (ts i) (a.tmps.getD i undef)) (hm:mop ts σ m=some (v,τ)):
 Told P B w0 μ σ τ v (do pure (.value (← (do eqGuard op t x y (a.eval x) (a.eval y);binOp op t (a.eval x) (a.eval y))))) w:=by
 unfold cbin at hc
 simp only [bind,Option.bind_eq_some_iff] at hc
 obtain ⟨x',hx,y',hy,hc⟩:=hc
 have vx:=copd_sound hf hx
 have vy:=copd_sound hf hy
 have nn:∀ k,(∃ d,P.underlying t=some d∧NK.of k d)→(k=.iface→(isC x || isC y)=true)→eqNop k op x' y'=some m→
  Told P B w0 μ σ τ v (do pure (.value (← (do eqGuard op t x y (a.eval x) (a.eval y);binOp op t (a.eval x) (a.eval y))))) w:=by
  rintro k ⟨d,hu,hk⟩ hi he
  unfold eqNop at he
  split at he
  ·simp only [Option.some.injEq] at he;subst he
   exact told_eqN (neg:=false) hs hu hk hi vx vy hm
  ·simp only [Option.some.injEq] at he;subst he
   exact told_eqN (neg:=true) hs hu hk hi vx vy hm
  ·cases he
 split at hc
 ·rename_i hu;simp only [Option.some.injEq] at hc;subst hc;exact told_bin hs vx vy hm
 ·rename_i hu;simp only [Option.some.injEq] at hc;subst hc;exact told_bin hs vx vy hm
 ·rename_i hu
  split at hc
  ·simp only [Option.some.injEq] at hc;subst hc;exact told_eqB (neg:=false) hs hu vx vy hm
  ·simp only [Option.some.injEq] at hc;subst hc;exact told_eqB (neg:=true) hs hu vx vy hm
  ·cases hc
 ·rename_i ms hu
  split at hc
  ·split at hc
   ·rename_i hi;exact nn .iface ⟨_,hu,trivial⟩ (fun _=>hi) hc
   ·cases hc
  ·split at hc
   ·rename_i hi;exact nn .iface ⟨_,hu,trivial⟩ (fun _=>hi) hc
   ·cases hc
  ·cases hc
 ·rename_i e hu;exact nn .ptr ⟨_,hu,trivial⟩ (fun h=>by cases h) hc
 ·rename_i e hu;exact nn .slice ⟨_,hu,trivial⟩ (fun h=>by cases h) hc
 ·rename_i e1 e2 hu;exact nn .map ⟨_,hu,trivial⟩ (fun h=>by cases h) hc
 ·rename_i e1 e2 e3 hu;exact nn .func ⟨_,hu,trivial⟩ (fun h=>by cases h) hc
 all_goals first
  | (rename_i hu
     unfold eqAop at hc
     split at hc
     ·cases hc
     ·rename_i hgd
      split at hc
      ·rename_i ks hk
       simp only [Option.some.injEq] at hc;subst hc
       exact told_eqA (neg:=false) hs (by simpa using hgd) hk (by simp [isAggT,hu]) vx vy hm
      ·rename_i ks hk
       simp only [Option.some.injEq] at hc;subst hc
       exact told_eqA (neg:=true) hs (by simpa using hgd) hk (by simp [isAggT,hu]) vx vy hm
      ·cases hc)
  | cases hc
theorem run_builtin {o:Oper} {c:Call} {b:Builtin} (ho:o.op=.call c) (hb:c.callee=.builtin b):
 (execOp a.eval o).run P w=(builtin b c.argTypes o.type (c.args.map fun | .const _=>true | _=>false) (c.args.map a.eval)).run P w:=by
 simp only [execOp,ho,resolve,hb,Sem.run_bind,Sem.run_pure,Result.andThen_ok,invoke]
 rfl
theorem Told.congr {s s':Sem Next} (h:Told P B w0 μ σ τ v s w) (e:s'.run P w=s.run P w):Told P B w0 μ σ τ v s' w:=by
 unfold Told at h ⊢
 rw [e]
 exact h
theorem ccall_sound {o:Oper} {c:Call} {m:MOp} (ho:o.op=.call c) (hc:ccall P c=some m) (hs:Sim B w0 μ σ w) (hf:∀ i,VR μ σ.size (ts i) (a.tmps.getD i undef)) (hm:mop ts σ m=some (v,τ)):
 Told P B w0 μ σ τ v (execOp a.eval o) w:=by
 unfold ccall at hc
 simp only [bind,Option.bind_eq_some_iff] at hc
 obtain ⟨args,hargs,hc⟩:=hc
 split at hc
 ·simp only [Option.some.injEq] at hc;subst hc;simp [mop] at hm
 ·simp only [Option.map_eq_some_iff] at hc;obtain ⟨_,_,rfl⟩:=hc;simp [mop] at hm
 ·cases hc
 ·rename_i b hb
  have hbi:=run_builtin (P:=P) (w:=w) (a:=a) ho hb
  have one1:∀ {x},args=[x]→∃ ox,c.args.map a.eval=#[a.eval ox]∧VR μ σ.size (mev ts x) (a.eval ox):=by
   intro x e
   subst e
   obtain ⟨ox,xs,e1,h1,h2⟩:=mapM_cons_some hargs
   have:=mapM_nil_some h2
   subst this
   refine ⟨ox,?_,copd_sound hf h1⟩
   apply Array.toList_inj.1;simp [e1]
  have two2:∀ {x y},args=[x,y]→∃ ox oy,c.args.map a.eval=#[a.eval ox,a.eval oy]∧VR μ σ.size (mev ts x) (a.eval ox)∧VR μ σ.size (mev ts y) (a.eval oy):=by
   intro x y e
   subst e
   obtain ⟨ox,xs,e1,h1,h2⟩:=mapM_cons_some hargs
   obtain ⟨oy,ys,e2,h3,h4⟩:=mapM_cons_some h2
   have:=mapM_nil_some h4
   subst this
   subst e2
   refine ⟨ox,oy,?_,copd_sound hf h1,copd_sound hf h3⟩
   apply Array.toList_inj.1;simp [e1]
  split at hc
  ·
   obtain ⟨ox,h1,vx⟩:=one1 rfl
   rw [h1] at hbi
   split at hc
   ·rename_i hu
    simp only [Option.bind_eq_some_iff] at hu
    obtain ⟨t,ht,hu⟩:=hu
    simp only [Option.some.injEq] at hc;subst hc
    exact (told_len (str:=true) (ty:=o.type) hs ht hu (.inl ⟨rfl,rfl⟩) vx hm).congr (by rw [hbi];rfl)
   ·rename_i e hu
    simp only [Option.bind_eq_some_iff] at hu
    obtain ⟨t,ht,hu⟩:=hu
    simp only [Option.some.injEq] at hc;subst hc
    exact (told_len (str:=false) (ty:=o.type) hs ht hu (.inr ⟨rfl,_,rfl⟩) vx hm).congr (by rw [hbi];rfl)
   ·rename_i n e hu
    simp only [Option.bind_eq_some_iff] at hu
    obtain ⟨t,ht,hu⟩:=hu
    simp only [Option.some.injEq] at hc;subst hc
    simp only [mop,Option.some.injEq,Prod.mk.injEq] at hm
    obtain ⟨rfl,rfl⟩:=hm
    refine .same (v':=.int .i64 n) hs ?_ (.int _ _)
    rw [hbi]
    simp [builtin,Builtin.len_,ht,run_und hu,goInt]
   ·rename_i e1 e2 hu
    simp only [Option.bind_eq_some_iff] at hu
    obtain ⟨t,ht,hu⟩:=hu
    simp only [Option.some.injEq] at hc;subst hc
    exact (told_mlen (ty:=o.type) hs ht hu vx hm).congr (by rw [hbi];rfl)
   ·rename_i e hu
    simp only [Option.bind_eq_some_iff] at hu
    obtain ⟨t,ht,hu⟩:=hu
    split at hc
    ·rename_i n e2 hu2
     simp only [Option.some.injEq] at hc;subst hc
     simp only [mop,Option.some.injEq,Prod.mk.injEq] at hm
     obtain ⟨rfl,rfl⟩:=hm
     refine .same (v':=.int .i64 n) hs ?_ (.int _ _)
     rw [hbi]
     simp [builtin,Builtin.len_,ht,run_und hu,run_und hu2,goInt]
    ·cases hc
   ·cases hc
  ·
   rename_i s0 x0
   obtain ⟨ox,oy,h1,vx,vy⟩:=two2 rfl
   rw [h1] at hbi
   have app:∀ {e d2 t t2},c.argTypes[0]?=some t→P.underlying t=some (.slice e)→c.argTypes[1]?=some t2→P.underlying t2=some d2→(∀ k,d2≠.int k)→
    (match P.info? e with | some i=>if i.bytes=0∨i.size=0 then none else (zeroL P e).map fun _=>MOp.app i.size i.bytes s0 x0 | none=>none)=some m→Told P B w0 μ σ τ v (execOp a.eval o) w:=by
    intro e d2 t t2 ht hu ht2 hu2 hd2 hc
    cases hi:P.info? e with
    | none=>simp [hi] at hc
    | some i=>
      simp only [hi] at hc
      split at hc
      ·cases hc
      ·rename_i hn
       cases hz:zeroL P e with
       | none=>simp [hz] at hc
       | some zs=>
         simp only [hz,Option.map_some,Option.some.injEq] at hc
         subst hc
         exact (told_app (ty:=o.type) hs ht ht2 hu hu2 hd2 hi (fun h=>hn (.inl h)) (fun h=>hn (.inr h)) hz vx vy hm).congr (by rw [hbi];rfl)
   split at hc
   ·rename_i e e2 hu hu2
    simp only [Option.bind_eq_some_iff] at hu hu2
    obtain ⟨t,ht,hu⟩:=hu
    obtain ⟨t2,ht2,hu2⟩:=hu2
    exact app ht hu ht2 hu2 (fun k h=>by cases h) hc
   ·rename_i e hu hu2
    simp only [Option.bind_eq_some_iff] at hu hu2
    obtain ⟨t,ht,hu⟩:=hu
    obtain ⟨t2,ht2,hu2⟩:=hu2
    exact app ht hu ht2 hu2 (fun k h=>by cases h) hc
   ·cases hc
  ·
   obtain ⟨ox,oy,h1,vx,vy⟩:=two2 rfl
   rw [h1] at hbi
   split at hc
   ·rename_i e hu
    simp only [Option.bind_eq_some_iff] at hu
    obtain ⟨t,ht,hu⟩:=hu
    simp only [Option.map_eq_some_iff] at hc
    obtain ⟨n,hn,rfl⟩:=hc
    exact (told_cpy (ty:=o.type) hs ht hu hn vx vy hm).congr (by rw [hbi];rfl)
   ·cases hc
  ·
   obtain ⟨ox,h1,vx⟩:=one1 rfl
   rw [h1] at hbi
   split at hc
   ·rename_i e hu
    simp only [Option.bind_eq_some_iff] at hu
    obtain ⟨t,ht,hu⟩:=hu
    split at hc
    ·rename_i zs hz
     split at hc
     ·cases hc
     ·rename_i h0
      simp only [Option.some.injEq] at hc;subst hc
      exact (told_clr (ty:=o.type) hs ht hu hz h0 vx hm).congr (by rw [hbi];rfl)
    ·cases hc
   ·cases hc
  ·obtain ⟨ox,oy,h1,vx,vy⟩:=two2 rfl
   rw [h1] at hbi
   simp only [Option.some.injEq] at hc;subst hc
   exact (told_min (ats:=c.argTypes) (t:=o.type) hs vx vy hm).congr (by rw [hbi];rfl)
  ·obtain ⟨ox,oy,h1,vx,vy⟩:=two2 rfl
   rw [h1] at hbi
   simp only [Option.some.injEq] at hc;subst hc
   exact (told_max (ats:=c.argTypes) (t:=o.type) hs vx vy hm).congr (by rw [hbi];rfl)
  ·cases hc
end
end Go.Mini
namespace Go.Mini
open Go.RowKit (Below)
section
variable {P:Program} {B:Fz} {w0 w:World} {μ:Nat→Blk} {σ τ:H} {ts:Fr} {v:Value} {a:Act}
set_option maxHeartbeats 1000000 in
theorem cop1_sound {o:Oper} {m:MOp} (hc:cop1 P o.op=some m) (hs:Sim B w0 μ σ w) (hf:∀ i,VR μ σ.size (ts i) (a.tmps.getD i undef)) (hm:mop ts σ m=some (v,τ)):
 Told P B w0 μ σ τ v (execOp a.eval o) w:=by
 cases ho:o.op with
 | move x=>
   rw [ho] at hc
   simp only [cop1,Option.map_eq_some_iff] at hc
   obtain ⟨x',hx,rfl⟩:=hc
   exact told_mv hs (copd_sound hf hx) hm (by simp only [execOp,ho];rfl)
 | assign x=>
   rw [ho] at hc
   simp only [cop1,Option.map_eq_some_iff] at hc
   obtain ⟨x',hx,rfl⟩:=hc
   exact told_mv hs (copd_sound hf hx) hm (by simp only [execOp,ho];rfl)
 | pick c x y=>
   rw [ho] at hc
   simp only [cop1,bind,Option.bind_eq_some_iff,pure,Option.some.injEq] at hc
   obtain ⟨c',h1,x',h2,y',h3,rfl⟩:=hc
   exact (told_pick hs (copd_sound hf h1) (copd_sound hf h2) (copd_sound hf h3) hm).congr (by simp only [execOp,ho])
 | box t x=>
   rw [ho] at hc
   simp only [cop1,Option.map_eq_some_iff] at hc
   obtain ⟨x',hx,rfl⟩:=hc
   exact (told_box (t:=t) hs (copd_sound hf hx) hm).congr (by simp only [execOp,ho])
 | alloc t=>
   rw [ho] at hc
   simp only [cop1] at hc
   split at hc
   ·simp only [Option.map_eq_some_iff] at hc
    obtain ⟨zs,hz,rfl⟩:=hc
    exact (told_allocT hs hz hm).congr (by simp only [execOp,ho])
   ·simp only [Option.map_eq_some_iff] at hc
    obtain ⟨zs,hz,rfl⟩:=hc
    exact (told_alloc hs hz hm).congr (by simp only [execOp,ho])
 | load t x=>
   rw [ho] at hc
   simp only [cop1,bind,Option.bind_eq_some_iff,pure,Option.some.injEq] at hc
   obtain ⟨x',hx,g,hg,n,hn,rfl⟩:=hc
   cases g
   ·exact (told_load1 hs (copd_sound hf hx) hg hm).congr (by simp only [execOp,ho])
   ·exact (told_loadN hs (copd_sound hf hx) hg hn hm).congr (by simp only [execOp,ho])
 | store t x y=>
   rw [ho] at hc
   simp only [cop1,bind,Option.bind_eq_some_iff,pure,Option.some.injEq] at hc
   obtain ⟨n,hn,x',hx,y',hy,rfl⟩:=hc
   exact (told_store hs (copd_sound hf hx) (copd_sound hf hy) hn hm).congr (by simp only [execOp,ho])
 | fieldAddr s x f=>
   rw [ho] at hc
   simp only [cop1,bind,Option.bind_eq_some_iff] at hc
   obtain ⟨x',hx,hc⟩:=hc
   split at hc
   ·rename_i fs hu
    split at hc
    ·rename_i fl hf'
     split at hc
     ·cases hc
     ·rename_i n hn0 hn
      simp only [Option.some.injEq] at hc;subst hc
      obtain ⟨k,rfl⟩:∃ k,n=k + 1:=⟨n - 1,by
       have:n≠0:=hn0
       omega⟩
      exact (told_fadd hs (copd_sound hf hx) hu hf' hn hm).congr (by simp only [execOp,ho])
     ·cases hc
    ·cases hc
   ·cases hc
 | indexAddr t x i=>
   rw [ho] at hc
   simp only [cop1,bind,Option.bind_eq_some_iff] at hc
   obtain ⟨x',hx,i',hi,hc⟩:=hc
   split at hc
   ·rename_i e hu
    split at hc
    ·rename_i n hn
     simp only [Option.some.injEq] at hc;subst hc
     exact (told_iaS hs (copd_sound hf hx) (copd_sound hf hi) hu hn hm).congr (by simp only [execOp,ho])
    ·cases hc
   ·rename_i len e hu
    split at hc
    ·rename_i n hn
     simp only [Option.some.injEq] at hc;subst hc
     exact (told_iaA hs (copd_sound hf hx) (copd_sound hf hi) hu hn hm).congr (by simp only [execOp,ho])
    ·cases hc
   ·cases hc
 | index t x i=>
   rw [ho] at hc
   simp only [cop1,bind,Option.bind_eq_some_iff] at hc
   obtain ⟨x',hx,i',hi,hc⟩:=hc
   split at hc
   ·rename_i hu
    simp only [Option.some.injEq] at hc;subst hc
    exact (told_idxS hs (copd_sound hf hx) (copd_sound hf hi) hu hm).congr (by simp only [execOp,ho])
   ·rename_i len e hu
    split at hc
    ·rename_i n g hn hg
     simp only [Option.some.injEq] at hc;subst hc
     exact (told_idxA hs (copd_sound hf hx) (copd_sound hf hi) hu hn hg hm).congr (by simp only [execOp,ho])
    ·cases hc
   ·cases hc
 | field t x f=>
   rw [ho] at hc
   simp only [cop1,bind,Option.bind_eq_some_iff] at hc
   obtain ⟨x',hx,hc⟩:=hc
   split at hc
   ·rename_i fs hu
    split at hc
    ·rename_i fl hf'
     split at hc
     ·rename_i n g hn hg
      simp only [Option.some.injEq] at hc;subst hc
      exact (told_fld hs (copd_sound hf hx) hu hf' hn hg hm).congr (by simp only [execOp,ho])
     ·cases hc
    ·cases hc
   ·cases hc
 | binOp op t x y yt=>
   rw [ho] at hc
   exact (cbin_sound hc hs hf hm).congr (by simp only [execOp,ho])
 | unOp op t x=>
   rw [ho] at hc
   cases op<;>simp only [cop1,Option.map_eq_some_iff] at hc
   case not=>
    obtain ⟨x',hx,rfl⟩:=hc
    exact (told_not hs (copd_sound hf hx) hm).congr (by simp only [execOp,ho])
   case neg=>
    obtain ⟨x',hx,rfl⟩:=hc
    exact (told_neg hs (copd_sound hf hx) hm).congr (by simp only [execOp,ho])
   all_goals (cases hc)
 | convert src dst x=>
   rw [ho] at hc
   simp only [cop1,bind,Option.bind_eq_some_iff] at hc
   obtain ⟨x',hx,hc⟩:=hc
   split at hc
   ·rename_i j k h1 h2
    simp only [Option.some.injEq] at hc;subst hc
    exact (told_conv hs h1 h2 (copd_sound hf hx) hm).congr (by simp only [execOp,ho])
   ·rename_i e h1 h2
    split at hc
    ·rename_i h3
     simp only [Option.some.injEq] at hc;subst hc
     exact (told_s2b hs h1 h2 h3 (copd_sound hf hx) hm).congr (by simp only [execOp,ho])
    ·cases hc
   ·rename_i e h1 h2
    split at hc
    ·rename_i h3
     simp only [Option.some.injEq] at hc;subst hc
     exact (told_b2s hs h1 h2 h3 (copd_sound hf hx) hm).congr (by simp only [execOp,ho])
    ·cases hc
   ·cases hc
 | makeInterface t x=>
   rw [ho] at hc
   simp only [cop1,bind,Option.bind_eq_some_iff] at hc
   obtain ⟨x',hx,hc⟩:=hc
   split at hc
   ·cases hc
   ·rename_i d hd hu
    simp only [Option.some.injEq] at hc;subst hc
    exact (told_mki hs hu (fun ms e=>hd ms e) (copd_sound hf hx) hm).congr (by simp only [execOp,ho])
   ·cases hc
 | makeFunc fn first cap=>
   rw [ho] at hc
   simp only [cop1,bind,Option.bind_eq_some_iff,pure,Option.some.injEq] at hc
   obtain ⟨f',h1,c',h2,rfl⟩:=hc
   simp only [mop,Option.some.injEq,Prod.mk.injEq] at hm
   obtain ⟨rfl,rfl⟩:=hm
   refine .same (v':=.func fn (first.map a.eval) (cap.map a.eval)) hs (by simp only [execOp,ho,Instr.makeFunc,Sem.run_bind,Sem.run_pure,Result.andThen_ok]) (.func ?_ ?_)
   ·simpa using copds_sound hf h1
   ·simpa using copds_sound hf h2
 | makeSlice t l c=>
   rw [ho] at hc
   simp only [cop1,bind,Option.bind_eq_some_iff] at hc
   obtain ⟨l',hl,c',hcc,hc⟩:=hc
   split at hc
   ·rename_i e hu
    split at hc
    ·rename_i zs i hz hi
     split at hc
     ·cases hc
     ·rename_i h0
      simp only [Option.some.injEq] at hc;subst hc
      exact (told_mks hs hu hz hi h0 (copd_sound hf hl) (copd_sound hf hcc) hm).congr (by simp only [execOp,ho])
    ·cases hc
   ·cases hc
 | buildSlice t len parts=>
   rw [ho] at hc
   simp only [cop1] at hc
   split at hc
   ·rename_i e hu
    split at hc
    ·rename_i zs n hz hn
     split at hc
     ·cases hc
     ·rename_i h0
      simp only [Option.bind_eq_some_iff] at hc
      obtain ⟨ps,hps,hc⟩:=hc
      split at hc
      ·rename_i hall
       simp only [Option.some.injEq] at hc;subst hc
       obtain ⟨g1,g2⟩:=mapM_get hps
       refine (told_bsl (parts':=parts.map fun (i,x)=>(i,a.eval x)) hs hu hz hn (fun h=>h0 (.inr h)) (fun h=>h0 (.inl h)) (by rw [g1];simp) (fun j i x hj=>?_) hm).congr (by simp only [execOp,ho])
       obtain ⟨p,h1,h2⟩:=g2 j (i,x) hj
       simp only [Option.map_eq_some_iff,Prod.mk.injEq] at h2
       obtain ⟨y,h3,h4,rfl⟩:=h2
       have hi:i < len:=by
        have:=List.all_eq_true.1 hall (i,y) (List.mem_of_getElem? hj)
        simpa using this
       refine ⟨hi,a.eval p.2,?_,copd_sound hf h3⟩
       simp only [Array.getElem?_toList] at h1
       simp [h1,h4]
      ·cases hc
    ·cases hc
   ·cases hc
 | build t parts=>
   rw [ho] at hc
   simp only [cop1] at hc
   split at hc
   ·cases hc
   ·rename_i zs hz
    split at hc
    ·rename_i fs hu
     simp only [Option.bind_eq_some_iff] at hc
     obtain ⟨ps,hps,hc⟩:=hc
     split at hc
     ·rename_i hall
      simp only [Option.some.injEq] at hc;subst hc
      obtain ⟨g1,g2⟩:=mapM_get hps
      refine (told_bldS (parts':=parts.map fun (i,x)=>(i,a.eval x)) hs hu hz (fun f hf=>List.all_eq_true.1 hall f hf) (by rw [g1];simp) (fun j o s x hj=>?_) hm).congr (by simp only [execOp,ho])
      obtain ⟨p,h1,h2⟩:=g2 j (o,s,x) hj
      simp only [Array.getElem?_toList] at h1
      split at h2
      ·rename_i f hfs
       split at h2
       ·rename_i n hn
        simp only [Option.map_eq_some_iff,Prod.mk.injEq] at h2
        obtain ⟨y,h3,rfl,rfl,rfl⟩:=h2
        exact ⟨p.1,f,a.eval p.2,by simp [h1],hfs,rfl,hn,copd_sound hf h3⟩
       ·cases h2
      ·cases h2
     ·cases hc
    ·rename_i k e hu
     split at hc
     ·rename_i n hn
      simp only [Option.map_eq_some_iff] at hc
      obtain ⟨ps,hps,rfl⟩:=hc
      obtain ⟨g1,g2⟩:=mapM_get hps
      refine (told_bldA (parts':=parts.map fun (i,x)=>(i,a.eval x)) hs hu hz hn (by rw [g1];simp) (fun j o s x hj=>?_) hm).congr (by simp only [execOp,ho])
      obtain ⟨p,h1,h2⟩:=g2 j (o,s,x) hj
      simp only [Array.getElem?_toList] at h1
      simp only [Option.map_eq_some_iff,Prod.mk.injEq] at h2
      obtain ⟨y,h3,rfl,rfl,rfl⟩:=h2
      exact ⟨p.1,a.eval p.2,by simp [h1],rfl,copd_sound hf h3⟩
     ·cases hc
    ·cases hc
 | slice t x lo hi mx=>
   rw [ho] at hc
   simp only [cop1,bind,Option.bind_eq_some_iff] at hc
   obtain ⟨x',hx,lo',hlo,hi',hhi,mx',hmx,hc⟩:=hc
   have hl:=oopd_sound hf hlo
   have hh:=oopd_sound hf hhi
   split at hc
   ·rename_i hu
    split at hc
    ·rename_i hn
     simp only [Option.some.injEq] at hc;subst hc
     obtain rfl:=oopd_none hmx hn
     exact (told_slcS hs hu (copd_sound hf hx) hl hh hm).congr (by simp only [execOp,ho,Option.map_none])
    ·cases hc
   ·rename_i e hu
    split at hc
    ·rename_i n hn
     simp only [Option.some.injEq] at hc;subst hc
     exact (told_slc hs hu hn (copd_sound hf hx) hl hh (oopd_sound hf hmx) hm).congr (by simp only [execOp,ho])
    ·cases hc
   ·rename_i k e hu
    split at hc
    ·rename_i n hn
     split at hc
     ·rename_i hnn
      simp only [Option.some.injEq] at hc;subst hc
      obtain rfl:=oopd_none hmx hnn
      exact (told_slcA hs hu hn (copd_sound hf hx) hl hh hm).congr (by simp only [execOp,ho,Option.map_none])
     ·cases hc
    ·cases hc
   ·cases hc
 | extract x i=>
   rw [ho] at hc
   simp only [cop1,Option.map_eq_some_iff] at hc
   obtain ⟨x',hx,rfl⟩:=hc
   exact (told_ext hs (copd_sound hf hx) hm).congr (by simp only [execOp,ho])
 | nilCheck x=>
   rw [ho] at hc
   simp only [cop1,Option.map_eq_some_iff] at hc
   obtain ⟨x',hx,rfl⟩:=hc
   exact told_nilck hs (copd_sound hf hx) hm ho rfl
 | typeAssert x xt t ok=>
   rw [ho] at hc
   simp only [cop1,bind,Option.bind_eq_some_iff] at hc
   obtain ⟨x',hx,hc⟩:=hc
   split at hc
   ·cases hc
   ·rename_i d hd hu
    simp only [Option.map_eq_some_iff] at hc
    obtain ⟨z,hz,rfl⟩:=hc
    exact (told_tasI (xt:=xt) hs hu (fun ms e=>hd ms e) hz (copd_sound hf hx) hm).congr (by simp only [execOp,ho])
   ·cases hc
 | makeMap t r=>
   rw [ho] at hc
   cases r with
   | some r=>simp [cop1] at hc
   | none=>
     simp only [cop1] at hc
     split at hc
     ·simp only [Option.some.injEq] at hc;subst hc
      exact (told_mkmap (t:=t) hs hm).congr (by simp only [execOp,ho,Option.map_none])
     ·cases hc
 | lookup t x k ok=>
   rw [ho] at hc
   simp only [cop1,bind,Option.bind_eq_some_iff] at hc
   obtain ⟨x',hx,k',hk,hc⟩:=hc
   split at hc
   ·rename_i kt e hu
    split at hc
    ·rename_i kd z hkd hz
     simp only [Option.some.injEq] at hc;subst hc
     obtain ⟨d,hd,hkd⟩:=Option.bind_eq_some_iff.1 hkd
     exact (told_mlook hs hu hd hz (copd_sound hf hx) (copd_sound hf hk) hkd hm).congr (by simp only [execOp,ho])
    ·cases hc
   ·cases hc
 | mapUpdate t x k u=>
   rw [ho] at hc
   simp only [cop1,bind,Option.bind_eq_some_iff] at hc
   obtain ⟨x',hx,k',hk,u',hv,hc⟩:=hc
   split at hc
   ·rename_i kt e hu
    split at hc
    ·rename_i kd hkd
     simp only [Option.some.injEq] at hc;subst hc
     obtain ⟨d,hd,hkd⟩:=Option.bind_eq_some_iff.1 hkd
     exact (told_mupd hs hu hd (copd_sound hf hx) (copd_sound hf hk) (copd_sound hf hv) hkd hm).congr (by simp only [execOp,ho])
    ·cases hc
   ·cases hc
 | insert t x k u=>
   rw [ho] at hc
   simp only [cop1,bind,Option.bind_eq_some_iff] at hc
   obtain ⟨x',hx,k',hk,u',hv,hc⟩:=hc
   split at hc
   ·rename_i kt e hu
    split at hc
    ·rename_i kd hkd
     simp only [Option.some.injEq] at hc;subst hc
     obtain ⟨d,hd,hkd⟩:=Option.bind_eq_some_iff.1 hkd
     exact (told_mupd hs hu hd (copd_sound hf hx) (copd_sound hf hk) (copd_sound hf hv) hkd hm).congr (by simp only [execOp,ho])
    ·cases hc
   ·cases hc
 | call c=>
   rw [ho] at hc
   exact ccall_sound ho hc hs hf hm
 | _=>rw [ho] at hc;simp [cop1] at hc
theorem cop_sound {o:Oper} {m:MOp} (hc:cop P o.op=some m) (hs:Sim B w0 μ σ w) (hf:∀ i,VR μ σ.size (ts i) (a.tmps.getD i undef)) (hm:mop ts σ m=some (v,τ)):
 Told P B w0 μ σ τ v (execOp a.eval o) w:=by
 unfold cop at hc
 split at hc
 ·rename_i m' h
  simp only [Option.some.injEq] at hc;subst hc
  exact cop1_sound h hs hf hm
 ·simp only [Option.some.injEq] at hc;subst hc;simp [mop] at hm
theorem bsl_sound {o:Oper} {t:TypeId} {ln:Nat} {prs:Array (Nat × Operand)} (ho:o.op=.buildSlice t ln prs) {sz len:Nat} {zs:List Value} {ps:List (Nat × Opd)} (hc:cop P o.op=some (.bsl sz len zs ps))
 (hf:∀ i,VR μ σ.size (ts i) (a.tmps.getD i undef)) {cs:List Value} (hfill:fillL (repZ zs len) (ps.map fun (i,x)=>(i * sz,sz,mev ts x))=some cs):
 ∃ (ca2:Array Value) (e:TypeId),(execOp a.eval o).run P w=.ok (.value (.slice (some ⟨w.heap.size,0,none⟩) len len)) { w with heap:=w.heap.push (.cells ca2 e (0,0)) }∧VRs μ σ.size cs ca2.toList∧ca2.size=len * sz∧sz≠0:=by
 unfold cop at hc
 split at hc
 ·rename_i m' h
  simp only [Option.some.injEq] at hc;subst hc
  rw [ho] at h
  simp only [cop1] at h
  split at h
  ·rename_i e hu
   split at h
   ·rename_i zs' n hz hn
    split at h
    ·cases h
    ·rename_i h0
     simp only [Option.bind_eq_some_iff] at h
     obtain ⟨ps',hps,h⟩:=h
     split at h
     ·rename_i hall
      simp only [Option.some.injEq,MOp.bsl.injEq] at h
      obtain ⟨rfl,rfl,rfl,rfl⟩:=h
      obtain ⟨g1,g2⟩:=mapM_get hps
      obtain ⟨ca2,r1,r2,r3⟩:=run_bsl (w:=w) (n0:=σ.size) (parts':=prs.map fun (i,x)=>(i,a.eval x)) hu hz hn (fun h=>h0 (.inr h)) (fun h=>h0 (.inl h)) (by rw [g1];simp) (fun j i x hj=>by
       obtain ⟨p,h1,h2⟩:=g2 j (i,x) hj
       simp only [Option.map_eq_some_iff,Prod.mk.injEq] at h2
       obtain ⟨y,h3,h4,rfl⟩:=h2
       have hi:i < ln:=by
        have:=List.all_eq_true.1 hall (i,y) (List.mem_of_getElem? hj)
        simpa using this
       refine ⟨hi,a.eval p.2,?_,copd_sound hf h3⟩
       simp only [Array.getElem?_toList] at h1
       simp [h1,h4]) hfill
      exact ⟨ca2,e,by simp only [execOp,ho];exact r1,r2,r3,fun h=>h0 (.inr h)⟩
     ·cases h
   ·cases h
  ·cases h
 ·simp at hc
end
end Go.Mini
namespace Go.Mini
open Go.RowKit (Below)
def dstOk (N:Nat):Option Nat→Bool
 | none=>true
 | some d=>decide (d < N)
def cGuard (ops:Array Oper):Option (Nat × Bool)→Option (Option (Nat × Bool))
 | none=>some none
 | some (j,b)=>match (ops[j]?).bind (·.dst) with
   | some d=>some (some (d,b))
   | none=>none
def isCallM:MOp→Bool
 | .call .. | .callv ..=>true
 | _=>false
def isCallO:Op→Bool
 | .call _=>true
 | _=>false
def cMI (P:Program) (N:Nat) (ops:Array Oper) (o:Oper):Option MI:=
 match cop P o.op,cGuard ops o.guard with
 | some m,some g=>if dstOk N o.dst && (!isCallM m || isCallO o.op) then some ⟨o.dst,m,g⟩ else none
 | _,_=>none
def cReg (P:Program) (N:Nat) (ops:Array Oper):Option (List MI):=ops.toList.mapM (cMI P N ops)
def quietM:MOp→Bool
 | .mv _ | .pick .. | .load1 _ | .loadN .. | .fadd .. | .iaS .. | .iaA .. | .idxS .. | .idxA .. | .fld .. | .bin .. | .eqB .. | .eqN .. | .eqA .. | .not _ | .neg _ | .conv .. | .b2s _ | .mki .. | .mkf .. | .bld ..
 | .slc .. | .slcS .. | .slcA .. | .ext .. | .nilck _ | .tasI .. | .len .. | .lenC _ | .min2 .. | .max2 .. | .mlook .. | .mlen _=>true
 | _=>false
def okFn (P:Program) (f:FuncId):Bool:=match P.funcs[f]? with
 | some fn=>fn.name != "runtime.NumGoroutine" && fn.body.isSome
 | none=>false
def MCalls (E:World→Prop) (P:Program) (f:FuncId) (args:List Value) (σ:H) (R:Value→H→Prop):Prop:=
 okFn P f=true∧∀ B w0 μ w args',E w0→Sim B w0 μ σ w→VRs μ σ.size args args'→Calls P f args'.toArray w fun e w'=>
  ∃ v v' τ μ',e=.returned v'∧R v τ∧Sim B w0 μ' τ w'∧VR μ' τ.size v v'∧Agr σ.size μ μ'∧σ.size≤τ.size
theorem MCalls.mono {E:World→Prop} {P:Program} {f:FuncId} {args:List Value} {σ:H} {R R':Value→H→Prop} (h:MCalls E P f args σ R) (hr:∀ v τ,R v τ→R' v τ):MCalls E P f args σ R':=
 ⟨h.1,fun B w0 μ w args' hE hs ha=>(h.2 B w0 μ w args' hE hs ha).mono fun e w' ⟨v,v',τ,μ',h1,h2,h3⟩=>⟨v,v',τ,μ',h1,hr _ _ h2,h3⟩⟩
def MYield (E:World→Prop) (P:Program) (L:Nat) (args:List Value) (σ:H) (R:Value→H→Prop):Prop:=
 ∀ B w0 μ w (args':List Value),E w0→Sim B w0 μ σ w→VRs μ σ.size args args'→YieldAt Fence.wide 0 P L args'.toArray w fun e w'=>
   ∃ v v' τ μ',e=.returned v'∧R v τ∧Sim B w0 μ' τ w'∧VR μ' τ.size v v'∧Agr σ.size μ μ'∧σ.size≤τ.size
theorem MYield.mono {E:World→Prop} {P:Program} {L:Nat} {args:List Value} {σ:H} {R R':Value→H→Prop} (h:MYield E P L args σ R) (hr:∀ v τ,R v τ→R' v τ):MYield E P L args σ R':=
 fun B w0 μ w args' hE hs ha=>(h B w0 μ w args' hE hs ha).mono fun e w' ⟨v,v',τ,μ',h1,h2,h3⟩=>⟨v,v',τ,μ',h1,hr _ _ h2,h3⟩
def FW (ro:Option Nat):Fence:={ Fence.wide with round:=ro }
def wantM (ts:Fr):Option (Nat × Bool)→Bool
 | none=>true
 | some (d,b)=>match ts d with
   | .bool c=>c == b
   | _=>false
def updO (ts:Fr) (d:Option Nat) (v:Value):Fr:=match d with
 | some d=>upd ts d v
 | none=>ts
def mstep (E:World→Prop) (P:Program) (ts:Fr) (σ:H) (op:MOp) (K:Value→H→Prop):Prop:=match op with
 | .call f args=>MCalls E P f (args.map (mev ts)) σ K
 | .callv x args=>match mev ts x with
   | .func (.func f) first cap=>MCalls E P f (first.toList ++ args.map (mev ts) ++ cap.toList) σ K
   | .func (.yield L) first _=>MYield E P L (first.toList ++ args.map (mev ts)) σ K
   | _=>False
 | op=>∃ v τ,mop ts σ op=some (v,τ)∧K v τ
def ml (E:World→Prop) (P:Program):List MI→(Fr→H→Prop)→Fr→H→Prop
 | [],K,ts,σ=>K ts σ
 | i :: rest,K,ts,σ=>if wantM ts i.g=true then mstep E P ts σ i.op (fun v τ=>ml E P rest K (updO ts i.dst v) τ) else ml E P rest K (updO ts i.dst undef) σ
inductive Ex where
 | nor
 | exit (id:Nat)
 | ret
abbrev MQ:=Ex→Fr→H→Prop
def Ex.thn (K:Fr→H→Prop) (Q:MQ):MQ
 | .nor,ts,σ=>K ts σ
 | e,ts,σ=>Q e ts σ
def Ex.inb (id:Nat) (Q:MQ):MQ
 | .exit j,ts,σ=>if j=id then Q .nor ts σ else Q (.exit j) ts σ
 | e,ts,σ=>Q e ts σ
section
variable {E:World→Prop} {P:Program}
def exR:Exit→Ex→Prop
 | .normal,.nor=>True
 | .exit i,.exit j=>i=j
 | .ret,.ret=>True
 | _,_=>False
structure St (E:World→Prop) (B:Fz) (w0:World) (N:Nat) (D:List Deferred) (μ0:Nat→Blk) (n0:Nat) (μ:Nat→Blk) (ts:Fr) (σ:H) (a:Act) (w:World):Prop where
 env:E w0
 sim:Sim B w0 μ σ w
 fr:FrR μ σ.size N ts a.tmps
 defers:a.defers=D
 agr:Agr n0 μ0 μ
 le:n0≤σ.size
def RQ (E:World→Prop) (B:Fz) (w0:World) (N:Nat) (D:List Deferred) (μ0:Nat→Blk) (n0:Nat) (Q:MQ):Exit→Act→World→Prop:=fun e a w=>∃ ex ts σ μ,exR e ex∧Q ex ts σ∧St E B w0 N D μ0 n0 μ ts σ a w
variable {B:Fz} {w0 w:World} {N:Nat} {D:List Deferred} {μ0 μ:Nat→Blk} {n0:Nat} {ts:Fr} {σ:H} {a:Act}
theorem St.put {τ:H} {μ':Nat→Blk} {w':World} {d:Option Nat} {v v':Value} (h:St E B w0 N D μ0 n0 μ ts σ a w) (hd:dstOk N d=true) (hs:Sim B w0 μ' τ w') (hv:VR μ' τ.size v v') (hag:Agr σ.size μ μ')
 (hle:σ.size≤τ.size):St E B w0 N D μ0 n0 μ' (updO ts d v) τ (a.put d v') w':=by
 refine ⟨h.env,hs,?_,?_,h.agr.trans hag h.le,Nat.le_trans h.le hle⟩
 ·have hf:=h.fr.mono hle hag
  cases d with
  | none=>exact hf
  | some d=>exact hf.upd (by simpa [dstOk] using hd) hv
 ·cases d<;>exact h.defers
theorem want_eq (hf:FrR μ σ.size N ts a.tmps) {ops:Array Oper} {o:Oper} {g:Option (Nat × Bool)} (hg:cGuard ops o.guard=some g):Region.wanted o (yielded ops a.tmps)=wantM ts g:=by
 unfold Region.wanted
 cases ho:o.guard with
 | none=>rw [ho] at hg;simp only [cGuard,Option.some.injEq] at hg;subst hg;rfl
 | some p=>
   obtain ⟨j,b⟩:=p
   rw [ho] at hg
   simp only [cGuard] at hg
   cases hd:(ops[j]?).bind (·.dst) with
   | none=>rw [hd] at hg;cases hg
   | some d=>
     rw [hd] at hg
     simp only [Option.some.injEq] at hg
     subst hg
     have hv:=hf.2 d
     simp only [wantM,yielded,hd,Option.bind_some]
     rw [Array.getD_eq_getD_getElem?] at hv
     cases ht:a.tmps[d]? with
     | none=>
       rw [ht] at hv
       simp only [Option.getD_none,undef] at hv
       generalize ts d=q at hv ⊢
       cases hv
       simp
     | some q'=>
       rw [ht] at hv
       simp only [Option.getD_some] at hv
       generalize ts d=q at hv ⊢
       cases hv<;>simp
theorem run_callF {o:Oper} {c:Call} {f:FuncId} (ho:o.op=.call c) (hcal:c.callee=.value (.func f)) (hok:okFn P f=true) (w:World):
 (execOp a.eval o).run P w=.ok (.enter f (c.args.map a.eval)) w:=by
 unfold okFn at hok
 split at hok
 ·rename_i fn hfn
  simp only [Bool.and_eq_true,bne_iff_ne,ne_eq] at hok
  have hb:fn.body.isNone=false:=by cases h:fn.body<;>simp [h] at hok ⊢
  have hn:(fn.name == "runtime.NumGoroutine")=false:=by simpa using hok.1
  simp only [execOp,ho,resolve,hcal,Sem.run_bind,Act.eval,Deferred.ofValue,Sem.run_pure,Result.andThen_ok,invoke,callFunc,run_program,hfn,hn,hb,Bool.false_eq_true,if_false]
  simp
 ·cases hok
theorem run_callV {o:Oper} {c:Call} {x:Operand} {f:FuncId} {first cap:Array Value} (ho:o.op=.call c) (hcal:c.callee=.value x) (hx:a.eval x=.func (.func f) first cap) (hok:okFn P f=true) (w:World):
 (execOp a.eval o).run P w=.ok (.enter f (first ++ c.args.map a.eval ++ cap)) w:=by
 unfold okFn at hok
 split at hok
 ·rename_i fn hfn
  simp only [Bool.and_eq_true,bne_iff_ne,ne_eq] at hok
  have hb:fn.body.isNone=false:=by cases h:fn.body<;>simp [h] at hok ⊢
  have hn:(fn.name == "runtime.NumGoroutine")=false:=by simpa using hok.1
  simp only [execOp,ho,resolve,hcal,hx,Sem.run_bind,Deferred.ofValue,Sem.run_pure,Result.andThen_ok,invoke,callFunc,run_program,hfn,hn,hb,Bool.false_eq_true,if_false]
 ·cases hok
theorem run_callY {o:Oper} {c:Call} {x:Operand} {l:Nat} {first cap:Array Value} (ho:o.op=.call c) (hcal:c.callee=.value x) (hx:a.eval x=.func (.yield l) first cap) (w:World):
 (execOp a.eval o).run P w=(Instr.yield l (first ++ c.args.map a.eval)).run P w:=by
 simp only [execOp,ho,resolve,hcal,hx,Sem.run_bind,Deferred.ofValue,Sem.run_pure,Result.andThen_ok,invoke]
theorem cop_call {c:Call} {m:MOp} (h:cop P (.call c)=some m) (hm:isCallM m=true):ccall P c=some m:=by
 unfold cop at h
 split at h
 ·rename_i m' h1
  simp only [Option.some.injEq] at h;subst h
  exact h1
 ·simp only [Option.some.injEq] at h;subst h;cases hm
theorem ccall_call {c:Call} {f:FuncId} {args:List Opd} (h:ccall P c=some (.call f args)):c.callee=.value (.func f)∧c.args.toList.mapM copd=some args:=by
 unfold ccall at h
 simp only [bind,Option.bind_eq_some_iff] at h
 obtain ⟨as,ha,h⟩:=h
 split at h
 ·rename_i g hc
  simp only [Option.some.injEq,MOp.call.injEq] at h
  obtain ⟨rfl,rfl⟩:=h
  exact ⟨hc,ha⟩
 ·simp only [Option.map_eq_some_iff] at h;obtain ⟨_,_,h⟩:=h;cases h
 ·cases h
 ·exfalso
  split at h
  ·repeat' split at h
   all_goals first | cases h | (simp at h)
  ·repeat' split at h
   all_goals first | cases h | (simp at h;obtain ⟨_,_,h⟩:=h;cases h) | (simp at h)
  ·repeat' split at h
   all_goals first | cases h | (simp at h)
  ·repeat' split at h
   all_goals first | cases h | (simp at h)
  ·simp at h
  ·simp at h
  ·cases h
theorem ccall_callv {c:Call} {x:Opd} {args:List Opd} (h:ccall P c=some (.callv x args)):(∃ y,c.callee=.value y∧copd y=some x)∧c.args.toList.mapM copd=some args:=by
 unfold ccall at h
 simp only [bind,Option.bind_eq_some_iff] at h
 obtain ⟨as,ha,h⟩:=h
 split at h
 ·simp at h
 ·rename_i y hy hc
  simp only [Option.map_eq_some_iff] at h
  obtain ⟨z,hz,h⟩:=h
  simp only [MOp.callv.injEq] at h
  obtain ⟨rfl,rfl⟩:=h
  exact ⟨⟨y,hc,hz⟩,ha⟩
 ·cases h
 ·exfalso
  split at h
  ·repeat' split at h
   all_goals first | cases h | (simp at h)
  ·repeat' split at h
   all_goals first | cases h | (simp at h;obtain ⟨_,_,h⟩:=h;cases h) | (simp at h)
  ·repeat' split at h
   all_goals first | cases h | (simp at h)
  ·repeat' split at h
   all_goals first | cases h | (simp at h)
  ·simp at h
  ·simp at h
  ·cases h
end
end Go.Mini
namespace Go.Mini
open Go.RowKit (Below)
section
variable {E:World→Prop} {P:Program} {B:Fz} {w0 w:World} {N:Nat} {D:List Deferred} {μ0 μ:Nat→Blk} {n0:Nat} {ts:Fr} {σ:H} {a:Act} {Q:Exit→Act→World→Prop} {ro:Option Nat}
theorem cMI_spec {ops:Array Oper} {o:Oper} {i:MI} (h:cMI P N ops o=some i):
 cop P o.op=some i.op∧cGuard ops o.guard=some i.g∧i.dst=o.dst∧dstOk N o.dst=true∧(isCallM i.op=true→isCallO o.op=true):=by
 unfold cMI at h
 split at h
 ·rename_i m g hm hg
  split at h
  ·rename_i hc
   simp only [Option.some.injEq] at h
   subst h
   simp only [Bool.and_eq_true,Bool.or_eq_true,Bool.not_eq_true'] at hc
   refine ⟨hm,hg,rfl,hc.1,fun hcm=>?_⟩
   rcases hc.2 with h | h
   ·rw [h] at hcm;cases hcm
   ·exact h
  ·cases h
 ·cases h
theorem mstep_sound {o:Oper} {d:Option Nat} {op:MOp} {K:Value→H→Prop} {next:Act→World→Prop} (hc:cop P o.op=some op) (hcall:isCallM op=true→isCallO o.op=true) (hd:dstOk N o.dst=true)
 (st:St E B w0 N D μ0 n0 μ ts σ a w) (h:mstep E P ts σ op K)
 (hK:∀ v τ μ' a' w',K v τ→St E B w0 N D μ0 n0 μ' (updO ts o.dst v) τ a' w'→(∃ v',a'=a.put o.dst v')→next a' w'):o.wpIn (FW ro) 0 P a w next Q:=by
 unfold Oper.wpIn
 refine ⟨fun _ _=>trivial,?_⟩
 rw [Oper.semAt_eq _ _ _ (fun c e=>by rw [e] at hc;cases hc;obtain ⟨_,_,h,_⟩:=h;cases h)]
 have plainCase:(∃ v τ,mop ts σ op=some (v,τ)∧K v τ)→o.uponIn (FW ro) 0 P a next Q ((execOp a.eval o).run P w):=by
  rintro ⟨v,τ,hm,hk⟩
  obtain ⟨v',w',μ',hrun,hs,hv,hag,hle⟩:=cop_sound hc st.sim st.fr.2 hm
  rcases hrun with hrun | ⟨hrun,rfl⟩
  ·rw [hrun];exact hK v τ μ' _ w' hk (st.put hd hs hv hag hle) ⟨_,rfl⟩
  ·rw [hrun];exact hK v τ μ' _ w' hk (st.put hd hs hv hag hle) ⟨_,rfl⟩
 have callCase:∀ {f:FuncId} {args:List Value} {args':Array Value},MCalls E P f args σ K→VRs μ σ.size args args'.toList→(execOp a.eval o).run P w=.ok (.enter f args') w→
  o.uponIn (FW ro) 0 P a next Q ((execOp a.eval o).run P w):=by
  intro f args args' hm hv hrun
  rw [hrun]
  have:=hm.2 B w0 μ w args'.toList st.env st.sim hv
  rw [Array.toArray_toList] at this
  refine ⟨fun h=>(by cases h),(CallsIn.mono (callsIn_wide.2 this) ?_:CallsIn Fence.wide _ _ _ _ _ _)⟩
  rintro e w' ⟨v,v',τ,μ',rfl,hk,hs,hv',hag,hle⟩
  exact hK v τ μ' _ w' hk (st.put hd hs hv' hag hle) ⟨_,rfl⟩
 cases op with
 | call f args=>
   have hco:=hcall rfl
   cases ho:o.op with
   | call c=>
     rw [ho] at hc
     obtain ⟨h1,h2⟩:=ccall_call (cop_call hc rfl)
     exact callCase h (by simpa using copds_sound st.fr.2 h2) (run_callF ho h1 h.1 w)
   | _=>rw [ho] at hco;cases hco
 | callv x args=>
   have hco:=hcall rfl
   cases ho:o.op with
   | call c=>
     rw [ho] at hc
     obtain ⟨⟨y,h1,h3⟩,h2⟩:=ccall_callv (cop_call hc rfl)
     simp only [mstep] at h
     split at h
     ·rename_i f first cap e
      have hx:=copd_sound st.fr.2 h3
      rw [e] at hx
      obtain ⟨first',cap',hy,hf1,hf2⟩:=hx.inv_func
      refine callCase h ?_ (run_callV ho h1 hy h.1 w)
      simpa using (hf1.append (copds_sound st.fr.2 h2)).append hf2
     ·rename_i l first cap e
      have hx:=copd_sound st.fr.2 h3
      rw [e] at hx
      obtain ⟨first',cap',hy,hf1,hf2⟩:=hx.inv_func
      obtain ⟨fn,tmps,assign,body,hy1,hR⟩:=h B w0 μ w _ st.env st.sim (hf1.append (copds_sound st.fr.2 h2))
      rw [run_callY ho h1 hy w]
      have he:(first'.toList ++ (c.args.map a.eval).toList).toArray=first' ++ c.args.map a.eval:=by simp
      simp only [Array.toList_map] at he
      rw [he] at hy1
      rw [hy1]
      refine ⟨fun h=>(by cases h),(RoundIn.mono hR ?_:RoundIn Fence.wide _ _ _ _ _ _ _ _ _)⟩
      rintro e w' ⟨v,v',τ,μ',rfl,hk,hs,hv',hag,hle⟩
      exact hK v τ μ' _ w' hk (st.put hd hs hv' hag hle) ⟨_,rfl⟩
     ·exact h.elim
   | _=>rw [ho] at hco;cases hco
 | _=>exact plainCase h
theorem ml_sound {ops:Array Oper}:∀ {l:List Oper} {l':List MI} {K:Fr→H→Prop} {ts:Fr} {σ:H} {μ:Nat→Blk} {a:Act} {w:World},l.mapM (cMI P N ops)=some l'→ml E P l' K ts σ→St E B w0 N D μ0 n0 μ ts σ a w→
 (∀ ts σ μ a w,K ts σ→St E B w0 N D μ0 n0 μ ts σ a w→Q .normal a w)→wpListIn (FW ro) 0 P ops Q l a w
 | [],l',K,ts,σ,μ,a,w,hc,h,st,hK=>by
   simp only [List.mapM_nil,pure,Option.some.injEq] at hc
   subst hc
   exact hK ts σ μ a w h st
 | o :: l,l',K,ts,σ,μ,a,w,hc,h,st,hK=>by
   cases l' with
   | nil=>have:=mapM_nil_some hc;cases this
   | cons i l'=>
     obtain ⟨o',l0,e,h1,h2⟩:=mapM_cons_some hc
     cases e
     obtain ⟨c1,c2,c3,c4,c5⟩:=cMI_spec h1
     simp only [wpListIn]
     rw [want_eq st.fr c2]
     simp only [ml] at h
     split at h
     ·rename_i hw
      rw [hw]
      simp only [if_true]
      rw [c3] at h
      refine mstep_sound (d:=i.dst) c1 c5 c4 st h ?_
      intro v τ μ' a' w' hk st' _
      exact ml_sound h2 hk st' hK
     ·rename_i hw
      simp only [hw,if_false]
      have:wantM ts i.g=false:=by simpa using hw
      simp only [Bool.false_eq_true,if_false]
      rw [c3] at h
      exact ⟨fun _ _=>trivial,ml_sound h2 h (st.put c4 st.sim (.tuple .nil) (.refl _ _) (Nat.le_refl _)) hK⟩
theorem RQ.mono {μ1:Nat→Blk} {n1:Nat} {Q Q':MQ} {e:Exit} {a:Act} {w:World} (h:RQ E B w0 N D μ1 n1 Q e a w) (hag:Agr n0 μ0 μ1) (hle:n0≤n1) (hq:∀ e ts σ,Q e ts σ→Q' e ts σ):RQ E B w0 N D μ0 n0 Q' e a w:=by
 obtain ⟨ex,ts,σ,μ,h1,h2,st⟩:=h
 exact ⟨ex,ts,σ,μ,h1,hq _ _ _ h2,⟨st.env,st.sim,st.fr,st.defers,hag.trans st.agr hle,Nat.le_trans hle st.le⟩⟩
end
end Go.Mini
