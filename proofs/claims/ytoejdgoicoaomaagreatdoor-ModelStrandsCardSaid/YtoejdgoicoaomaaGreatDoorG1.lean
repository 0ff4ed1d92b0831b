/- A small world beside the model's own: heaps without capacities, draws and addresses; the relation between the two. Program-independent. -/
import Derived.Below
import Derived.Tactics
import Derived.Orders
import Derived.Deep.LoopGhost
import Derived.Deep.Draws
namespace Go.Mini
open Go.RowKit (Below)
structure Blk where
 b:Nat
 o:Nat
 sz:Nat
 n:Nat
 ex:Bool
structure OR where
 p:(Nat→Blk)→Nat→Nat→Obj→Prop
 mono:∀ {μ μ':Nat→Blk} {n n' b:Nat} {o:Obj},n≤n'→(∀ i,i < n→μ' i=μ i)→p μ n b o→p μ' n' b o
inductive MObj where
 | cells (sz:Nat) (cs:List Value)
 | ro (cs:List Value)
 | map (es:List (Value × Value)) (clock:Nat)
 | oth (R:OR)
 | typ (T:TypeId) (cs:List Value)
 | dead
structure H where
 size:Nat
 get:Nat→MObj
 wf:∀ i,size≤i→get i=.dead
namespace H
def empty:H:=⟨0,fun _=>.dead,fun _ _=>rfl⟩
def push (σ:H) (o:MObj):H:=⟨σ.size + 1,fun i=>if i=σ.size then o else σ.get i,fun i h=>by
 show (if i=σ.size then o else σ.get i)=.dead
 rw [if_neg (by omega)];exact σ.wf i (by omega)⟩
def set (σ:H) (k:Nat) (o:MObj):H:=⟨σ.size,fun i=>if i=k∧k < σ.size then o else σ.get i,fun i h=>by
 show (if i=k∧k < σ.size then o else σ.get i)=.dead
 rw [if_neg (by omega)];exact σ.wf i h⟩
theorem lt_of_cells {σ:H} {i sz:Nat} {cs:List Value} (h:σ.get i=.cells sz cs):i < σ.size:=by
 rcases Nat.lt_or_ge i σ.size with hlt | hge
 ·exact hlt
 ·rw [σ.wf i hge] at h;cases h
theorem lt_of_live {σ:H} {i:Nat} (h:σ.get i≠.dead):i < σ.size:=by
 rcases Nat.lt_or_ge i σ.size with hlt | hge
 ·exact hlt
 ·exact absurd (σ.wf i hge) h
@[simp] theorem size_push (σ:H) (o:MObj):(σ.push o).size=σ.size + 1:=rfl
@[simp] theorem size_set (σ:H) (k:Nat) (o:MObj):(σ.set k o).size=σ.size:=rfl
@[simp] theorem get_push_self (σ:H) (o:MObj):(σ.push o).get σ.size=o:=by simp [push]
theorem get_push_ne {σ:H} {o:MObj} {i:Nat} (h:i≠σ.size):(σ.push o).get i=σ.get i:=by simp [push,h]
theorem get_push_lt {σ:H} {o:MObj} {i:Nat} (h:i < σ.size):(σ.push o).get i=σ.get i:=get_push_ne (by omega)
theorem get_set_self {σ:H} {k:Nat} {o:MObj} (h:k < σ.size):(σ.set k o).get k=o:=by simp [set,h]
theorem get_set_ne {σ:H} {k i:Nat} {o:MObj} (h:i≠k):(σ.set k o).get i=σ.get i:=by simp [set,h]
end H
structure Ext (σ τ:H):Prop where
 size:σ.size≤τ.size
 get:∀ i,i < σ.size→τ.get i=σ.get i
theorem Ext.refl (σ:H):Ext σ σ:=⟨Nat.le_refl _,fun _ _=>rfl⟩
theorem Ext.trans {a b c:H} (h:Ext a b) (k:Ext b c):Ext a c:=
 ⟨Nat.le_trans h.size k.size,fun i hi=>(k.get i (Nat.lt_of_lt_of_le hi h.size)).trans (h.get i hi)⟩
theorem Ext.push (σ:H) (o:MObj):Ext σ (σ.push o):=⟨by simp,fun i hi=>H.get_push_lt hi⟩
theorem Ext.cells {σ τ:H} (h:Ext σ τ) {i sz:Nat} {cs:List Value} (hc:σ.get i=.cells sz cs):τ.get i=.cells sz cs:=
 (h.get i (H.lt_of_cells hc)).trans hc
theorem Ext.live {σ τ:H} (h:Ext σ τ) {i:Nat} {o:MObj} (hc:σ.get i=o) (ho:o≠.dead):τ.get i=o:=
 (h.get i (H.lt_of_live (by rw [hc];exact ho))).trans hc
mutual
inductive VR (μ:Nat→Blk) (n:Nat):Value→Value→Prop where
 | bool (b:Bool):VR μ n (.bool b) (.bool b)
 | int (k:IntKind) (x:Int):VR μ n (.int k x) (.int k x)
 | string (s:ByteArray):VR μ n (.string s) (.string s)
 | nilPtr:VR μ n (.pointer none) (.pointer none)
 | nilSlice:VR μ n (.slice none 0 0) (.slice none 0 0)
 | nilMap:VR μ n (.map none) (.map none)
 | nilFunc:VR μ n .nilFunc .nilFunc
 | nilIface:VR μ n .nilIface .nilIface
 | ptr {id off:Nat} (h:id < n):VR μ n (.pointer (some ⟨id,off,none⟩)) (.pointer (some ⟨(μ id).b,(μ id).o + off,none⟩))
 | slice {id off len cap cap' o':Nat} (h:id < n) (hl:len≤cap) (hc:cap≤cap') (ho:0 < cap→o'=(μ id).o + off)
    (hz:(μ id).sz≠0→o' + cap' * (μ id).sz≤(μ id).n) (he:(μ id).ex=true→cap'=cap):
    VR μ n (.slice (some ⟨id,off,none⟩) len cap) (.slice (some ⟨(μ id).b,o',none⟩) len cap')
 | map {id:Nat} (h:id < n):VR μ n (.map (some id)) (.map (some (μ id).b))
 | func {fn:Fn} {f f' c c':Array Value} (hf:VRs μ n f.toList f'.toList) (hc:VRs μ n c.toList c'.toList):VR μ n (.func fn f c) (.func fn f' c')
 | iface {t:TypeId} {v v':Value} (h:VR μ n v v'):VR μ n (.iface t v) (.iface t v')
 | agg {c c':Array Value} (h:VRs μ n c.toList c'.toList):VR μ n (.agg c) (.agg c')
 | tuple {c c':Array Value} (h:VRs μ n c.toList c'.toList):VR μ n (.tuple c) (.tuple c')
 | junk (a:Option Addr) (l c:Nat):VR μ n (.chan none) (.slice a l c)
 | junkP (a:Option Addr):VR μ n (.chan none) (.pointer a)
inductive VRs (μ:Nat→Blk) (n:Nat):List Value→List Value→Prop where
 | nil:VRs μ n [] []
 | cons {v v':Value} {l l':List Value} (h:VR μ n v v') (hs:VRs μ n l l'):VRs μ n (v :: l) (v' :: l')
end
section
variable {μ μ':Nat→Blk} {n n':Nat}
mutual
theorem VR.mono (hn:n≤n') (hm:∀ i,i < n→μ' i=μ i):∀ {v v':Value},VR μ n v v'→VR μ' n' v v'
 | _,_,.bool b=>.bool b
 | _,_,.int k x=>.int k x
 | _,_,.string s=>.string s
 | _,_,.nilPtr=>.nilPtr
 | _,_,.nilSlice=>.nilSlice
 | _,_,.nilMap=>.nilMap
 | _,_,.nilFunc=>.nilFunc
 | _,_,.nilIface=>.nilIface
 | _,_,.ptr (id:=id) h=>by rw [← hm id h];exact .ptr (Nat.lt_of_lt_of_le h hn)
 | _,_,.slice (id:=id) h hl hc ho hz he=>by rw [← hm id h] at ho hz he ⊢;exact .slice (Nat.lt_of_lt_of_le h hn) hl hc ho hz he
 | _,_,.map (id:=id) h=>by rw [← hm id h];exact .map (Nat.lt_of_lt_of_le h hn)
 | _,_,.func hf hc=>.func (VRs.mono hn hm hf) (VRs.mono hn hm hc)
 | _,_,.iface h=>.iface (VR.mono hn hm h)
 | _,_,.agg h=>.agg (VRs.mono hn hm h)
 | _,_,.tuple h=>.tuple (VRs.mono hn hm h)
 | _,_,.junk a l c=>.junk a l c
 | _,_,.junkP a=>.junkP a
theorem VRs.mono (hn:n≤n') (hm:∀ i,i < n→μ' i=μ i):∀ {l l':List Value},VRs μ n l l'→VRs μ' n' l l'
 | _,_,.nil=>.nil
 | _,_,.cons h hs=>.cons (VR.mono hn hm h) (VRs.mono hn hm hs)
end
theorem VRs.length:∀ {l l':List Value},VRs μ n l l'→l'.length=l.length
 | _,_,.nil=>rfl
 | _,_,.cons _ hs=>by simp [VRs.length hs]
theorem VRs.get:∀ {l l':List Value} {i:Nat} {v:Value},VRs μ n l l'→l[i]?=some v→∃ v',l'[i]?=some v'∧VR μ n v v'
 | _,_,i,v,.nil,h=>by simp at h
 | _,_,0,v,.cons h hs,e=>by simp at e;subst e;exact ⟨_,by simp,h⟩
 | _,_,i + 1,v,.cons h hs,e=>by simp only [List.getElem?_cons_succ] at e ⊢;exact VRs.get hs e
theorem VRs.of_get:∀ {l l':List Value},l'.length=l.length→(∀ (i:Nat) (v:Value),l[i]?=some v→∃ v',l'[i]?=some v'∧VR μ n v v')→VRs μ n l l'
 | [],[],_,_=>.nil
 | [],_ :: _,h,_=>by simp at h
 | _ :: _,[],h,_=>by simp at h
 | v :: l,v' :: l',h,hg=>.cons (by obtain ⟨u,hu,hv⟩:=hg 0 v rfl;simp at hu;subst hu;exact hv)
     (VRs.of_get (by simpa using h) (fun i u hu=>by simpa using hg (i + 1) u (by simpa using hu)))
theorem VRs.append:∀ {a a' b b':List Value},VRs μ n a a'→VRs μ n b b'→VRs μ n (a ++ b) (a' ++ b')
 | _,_,_,_,.nil,h=>h
 | _,_,_,_,.cons h hs,k=>.cons h (VRs.append hs k)
theorem VRs.take {l l':List Value} (h:VRs μ n l l') (k:Nat):VRs μ n (l.take k) (l'.take k):=by
 refine .of_get (by simp [h.length]) fun i v hv=>?_
 rw [List.getElem?_take] at hv ⊢
 split at hv
 ·rename_i hi;rw [if_pos hi];exact h.get hv
 ·cases hv
theorem VRs.drop {l l':List Value} (h:VRs μ n l l') (k:Nat):VRs μ n (l.drop k) (l'.drop k):=by
 refine .of_get (by simp [h.length]) fun i v hv=>?_
 rw [List.getElem?_drop] at hv ⊢
 exact h.get hv
theorem VRs.set:∀ {l l':List Value} {v v':Value},VRs μ n l l'→VR μ n v v'→∀ k:Nat,VRs μ n (l.set k v) (l'.set k v')
 | _,_,_,_,.nil,_,_=>.nil
 | _,_,_,_,.cons h hs,k,0=>.cons k hs
 | _,_,_,_,.cons h hs,k,i + 1=>.cons h (VRs.set hs k i)
def plain:Value→Bool
 | .bool _ | .int _ _ | .string _ | .pointer none | .slice none 0 0 | .map none | .nilFunc | .nilIface=>true
 | _=>false
theorem VR.of_plain:∀ {v:Value},plain v=true→VR μ n v v
 | .bool b,_=>.bool b
 | .int k x,_=>.int k x
 | .string s,_=>.string s
 | .pointer none,_=>.nilPtr
 | .slice none 0 0,_=>.nilSlice
 | .map none,_=>.nilMap
 | .nilFunc,_=>.nilFunc
 | .nilIface,_=>.nilIface
theorem VRs.of_plain:∀ {l:List Value},l.all plain=true→VRs μ n l l
 | [],_=>.nil
 | v :: l,h=>by simp at h;exact .cons (VR.of_plain h.1) (VRs.of_plain (by simpa using h.2))
theorem VR.eq_of_plain {v v':Value} (h:VR μ n v v') (hp:plain v=true):v'=v:=by
 cases h<;>first | rfl | (simp [plain] at hp)
theorem VR.cells {v v':Value} (h:VR μ n v v'):VRs μ n v.cells.toList v'.cells.toList:=by
 cases h with
 | agg h=>exact h
 | bool b=>exact .cons (.bool b) .nil
 | int k x=>exact .cons (.int k x) .nil
 | string s=>exact .cons (.string s) .nil
 | nilPtr=>exact .cons .nilPtr .nil
 | nilSlice=>exact .cons .nilSlice .nil
 | nilMap=>exact .cons .nilMap .nil
 | nilFunc=>exact .cons .nilFunc .nil
 | nilIface=>exact .cons .nilIface .nil
 | ptr h=>exact .cons (.ptr h) .nil
 | slice h a b c d e=>exact .cons (.slice h a b c d e) .nil
 | map h=>exact .cons (.map h) .nil
 | func a b=>exact .cons (.func a b) .nil
 | iface a=>exact .cons (.iface a) .nil
 | tuple a=>exact .cons (.tuple a) .nil
 | junk a l c=>exact .cons (.junk a l c) .nil
 | junkP a=>exact .cons (.junkP a) .nil
end
def CellsR (μ:Nat→Blk) (n:Nat) (cs:List Value) (cs':Array Value) (o:Nat):Prop:=
 ∀ j v,cs[j]?=some v→∃ v',cs'[o + j]?=some v'∧VR μ n v v'
theorem CellsR.mono {μ μ':Nat→Blk} {n n':Nat} (hn:n≤n') (hm:∀ i,i < n→μ' i=μ i) {cs:List Value} {cs':Array Value} {o:Nat}
 (h:CellsR μ n cs cs' o):CellsR μ' n' cs cs' o:=fun j v hv=>let ⟨v',h1,h2⟩:=h j v hv;⟨v',h1,h2.mono hn hm⟩
def Unfrozen (c:Array Value) (fz:Nat × Nat):Prop:=∀ j,j < c.size→¬ (fz.1≤j∧j < fz.2)
def EntriesR (μ:Nat→Blk) (n:Nat) (es:List (Value × Value)) (es':Array MapEntry):Prop:=
 es'.size=es.length∧∀ (j:Nat) (k v:Value),es[j]?=some (k,v)→∃ e':MapEntry,es'[j]?=some e'∧VR μ n k e'.key∧VR μ n v e'.val
structure Fz where
 n:Nat
 x:Nat→Option Obj
instance:Coe Nat Fz:=⟨fun n=>⟨n,fun _=>none⟩⟩
def Fz.le (B:Fz) (k:Nat):Prop:=B.n≤k∧B.x k=none
structure Sim (B:Fz) (w0:World) (μ:Nat→Blk) (σ:H) (w:World):Prop where
 below:Below B.n w0 w
 base:B.n≤w.heap.size
 fx:∀ k o,B.x k=some o→w.heap[k]?=some o
 wh:w0.heap.size≤B.n
 fin:∀ i,i < σ.size→(μ i).b < w.heap.size
 own:∀ i sz cs,σ.get i=.cells sz cs→(B.le (μ i).b∧(μ i).sz=sz∧(sz=0→(μ i).ex=true))∧∃ cs' t fz,w.heap[(μ i).b]?=some (.cells cs' t fz)∧(Unfrozen cs' fz∧cs'.size=(μ i).n)∧CellsR μ σ.size cs cs' (μ i).o
 ro:∀ i cs,σ.get i=.ro cs→(B.x (μ i).b=none∧(μ i).sz=0)∧∃ cs' t fz,w.heap[(μ i).b]?=some (.cells cs' t fz)∧CellsR μ σ.size cs cs' (μ i).o
 map:∀ i es c,σ.get i=.map es c→B.le (μ i).b∧∃ es',w.heap[(μ i).b]?=some (.map es' c)∧EntriesR μ σ.size es es'
 oth:∀ i R,σ.get i=.oth R→B.le (μ i).b∧∃ o,w.heap[(μ i).b]?=some o∧R.p μ σ.size (μ i).b o
 typ:∀ i T cs,σ.get i=.typ T cs→B.le (μ i).b∧((μ i).o=0∧(μ i).sz=0)∧∃ cs',w.heap[(μ i).b]?=some (.cells cs' T (0,0))∧cs'.size=cs.length∧CellsR μ σ.size cs cs' (μ i).o
 inj:∀ i j,σ.get i≠.dead→σ.get j≠.dead→(∀ cs,σ.get i≠.ro cs)→i≠j→(μ i).b≠(μ j).b
abbrev Fr:=Nat→Value
def upd (ts:Fr) (d:Nat) (v:Value):Fr:=fun i=>if i=d then v else ts i
theorem upd_same (ts:Fr) (d:Nat) (v:Value):upd ts d v d=v:=by simp [upd]
theorem upd_ne {ts:Fr} {d i:Nat} {v:Value} (h:i≠d):upd ts d v i=ts i:=by simp [upd,h]
def FrR (μ:Nat→Blk) (n:Nat) (N:Nat) (ts:Fr) (tmps:Array Value):Prop:=
 tmps.size=N∧∀ i,VR μ n (ts i) (tmps.getD i undef)
theorem FrR.mono {μ μ':Nat→Blk} {n n' N:Nat} (hn:n≤n') (hm:∀ i,i < n→μ' i=μ i) {ts:Fr} {tmps:Array Value}
 (h:FrR μ n N ts tmps):FrR μ' n' N ts tmps:=⟨h.1,fun i=>(h.2 i).mono hn hm⟩
theorem FrR.upd {μ:Nat→Blk} {n N d:Nat} {ts:Fr} {tmps:Array Value} {v v':Value} (h:FrR μ n N ts tmps) (hd:d < N) (hv:VR μ n v v'):
 FrR μ n N (upd ts d v) (tmps.setIfInBounds d v'):=by
 refine ⟨by simp [h.1],fun i=>?_⟩
 have hd':d < tmps.size:=by rw [h.1];exact hd
 by_cases e:i=d
 ·subst e;simp [Mini.upd,Array.getD_eq_getD_getElem?,Array.getElem?_setIfInBounds,hd'];exact hv
 ·have e':¬ d=i:=fun x=>e x.symm
  simp only [Mini.upd,if_neg e,Array.getD_eq_getD_getElem?,Array.getElem?_setIfInBounds,if_neg e']
  have:=h.2 i;rwa [Array.getD_eq_getD_getElem?] at this
def Agr (n:Nat) (μ μ':Nat→Blk):Prop:=∀ i,i < n→μ' i=μ i
theorem Agr.refl (n:Nat) (μ:Nat→Blk):Agr n μ μ:=fun _ _=>rfl
theorem Agr.trans {n m:Nat} {a b c:Nat→Blk} (h:Agr n a b) (k:Agr m b c) (hn:n≤m):Agr n a c:=
 fun i hi=>(k i (Nat.lt_of_lt_of_le hi hn)).trans (h i hi)
section
variable {B:Fz} {w0 w:World} {μ:Nat→Blk} {σ:H}
theorem Sim.drewN (h:Sim B w0 μ σ w) (k:Nat):Sim B w0 μ σ { w with drawn:=w.drawn + k }:=
 ⟨⟨h.below.os,h.below.tape,h.below.output,h.below.size,h.below.block⟩,h.base,h.fx,h.wh,h.fin,h.own,h.ro,h.map,h.oth,h.typ,h.inj⟩
theorem Sim.next (h:Sim B w0 μ σ w):B.le w.heap.size:=by
 refine ⟨h.base,?_⟩
 cases e:B.x w.heap.size with
 | none=>rfl
 | some o=>have:=h.fx _ o e;simp at this
theorem Sim.free (h:Sim B w0 μ σ w) {i:Nat} (hi:σ.get i≠.dead):B.x (μ i).b=none:=by
 cases hg:σ.get i with
 | cells sz cs=>exact (h.own i sz cs hg).1.1.2
 | ro cs=>exact (h.ro i cs hg).1.1
 | map es c=>exact (h.map i es c hg).1.2
 | oth R=>exact (h.oth i R hg).1.2
 | typ T cs=>exact (h.typ i T cs hg).1.2
 | dead=>exact absurd hg hi
theorem Sim.weaken {B':Fz} (h:Sim B' w0 μ σ w) (hn:B'.n=B.n) (hx:∀ k o,B.x k=some o→B'.x k=some o):Sim B w0 μ σ w:=by
 have hx':∀ {k},B'.x k=none→B.x k=none:=fun {k} e=>by
  cases e2:B.x k with
  | none=>rfl
  | some o=>rw [hx k o e2] at e;cases e
 have hle:∀ {k},B'.le k→B.le k:=fun ⟨a,b⟩=>⟨hn ▸ a,hx' b⟩
 refine ⟨hn ▸ h.below,hn ▸ h.base,fun k o e=>h.fx k o (hx k o e),hn ▸ h.wh,h.fin,fun i sz cs hc=>?_,fun i cs hc=>?_,fun i es c hc=>?_,fun i R hc=>?_,fun i T cs hc=>?_,h.inj⟩
 ·obtain ⟨⟨h1,h2⟩,h3⟩:=h.own i sz cs hc;exact ⟨⟨hle h1,h2⟩,h3⟩
 ·obtain ⟨⟨h1,h2⟩,h3⟩:=h.ro i cs hc;exact ⟨⟨hx' h1,h2⟩,h3⟩
 ·obtain ⟨h1,h3⟩:=h.map i es c hc;exact ⟨hle h1,h3⟩
 ·obtain ⟨h1,h3⟩:=h.oth i R hc;exact ⟨hle h1,h3⟩
 ·obtain ⟨h1,h3⟩:=h.typ i T cs hc;exact ⟨hle h1,h3⟩
def Fz.add (B:Fz) (k:Nat) (o:Obj):Fz:=⟨B.n,fun j=>if j=k then some o else B.x j⟩
def Fz.del (B:Fz) (k:Nat):Fz:=⟨B.n,fun j=>if j=k then none else B.x j⟩
theorem Sim.freeze (h:Sim B w0 μ σ w) {k:Nat} {o:Obj} (hk:w.heap[k]?=some o) (hf:∀ i,σ.get i≠.dead→(μ i).b≠k):Sim (B.add k o) w0 μ σ w:=by
 have hx':∀ {i},σ.get i≠.dead→B.x (μ i).b=none→(B.add k o).x (μ i).b=none:=fun {i} hi e=>by
  simp only [Fz.add];rw [if_neg (hf i hi)];exact e
 refine ⟨h.below,h.base,fun j o' e=>?_,h.wh,h.fin,fun i sz cs hc=>?_,fun i cs hc=>?_,fun i es c hc=>?_,fun i R hc=>?_,fun i T cs hc=>?_,h.inj⟩
 ·simp only [Fz.add] at e
  split at e
  ·rename_i ej;subst ej;cases e;exact hk
  ·exact h.fx j o' e
 ·obtain ⟨⟨⟨h0,h1⟩,h2⟩,h3⟩:=h.own i sz cs hc;exact ⟨⟨⟨h0,hx' (by rw [hc];simp) h1⟩,h2⟩,h3⟩
 ·obtain ⟨⟨h1,h2⟩,h3⟩:=h.ro i cs hc;exact ⟨⟨hx' (by rw [hc];simp) h1,h2⟩,h3⟩
 ·obtain ⟨⟨h0,h1⟩,h3⟩:=h.map i es c hc;exact ⟨⟨h0,hx' (by rw [hc];simp) h1⟩,h3⟩
 ·obtain ⟨⟨h0,h1⟩,h3⟩:=h.oth i R hc;exact ⟨⟨h0,hx' (by rw [hc];simp) h1⟩,h3⟩
 ·obtain ⟨⟨h0,h1⟩,h3⟩:=h.typ i T cs hc;exact ⟨⟨h0,hx' (by rw [hc];simp) h1⟩,h3⟩
theorem Sim.of_grown {w':World} (h:Sim B w0 μ σ w) (hb:Below w.heap.size w w'):Sim B w0 μ σ w':=by
 have hk:∀ k,k < w.heap.size→w'.heap[k]?=w.heap[k]?:=hb.block
 have lt:∀ {k o},w.heap[k]?=some o→k < w.heap.size:=fun {k o} e=>by
  rcases Nat.lt_or_ge k w.heap.size with x | x
  ·exact x
  ·simp [Array.getElem?_eq_none x] at e
 refine ⟨h.below.trans (hb.mono h.base),Nat.le_trans h.base hb.size,fun k o e=>by rw [hk _ (lt (h.fx k o e))];exact h.fx k o e,h.wh,fun i hi=>Nat.lt_of_lt_of_le (h.fin i hi) hb.size,?_,?_,?_,?_,?_,h.inj⟩
 ·intro i sz cs hc
  obtain ⟨h1,cs',t,fz,h2,h3,h4⟩:=h.own i sz cs hc
  exact ⟨h1,cs',t,fz,by rw [hk _ (lt h2)];exact h2,h3,h4⟩
 ·intro i cs hc
  obtain ⟨h0,cs',t,fz,h2,h4⟩:=h.ro i cs hc
  exact ⟨h0,cs',t,fz,by rw [hk _ (lt h2)];exact h2,h4⟩
 ·intro i es c hc
  obtain ⟨h1,es',h2,h4⟩:=h.map i es c hc
  exact ⟨h1,es',by rw [hk _ (lt h2)];exact h2,h4⟩
 ·intro i R hc
  obtain ⟨h1,o,h2,h4⟩:=h.oth i R hc
  exact ⟨h1,o,by rw [hk _ (lt h2)];exact h2,h4⟩
 ·intro i T cs hc
  obtain ⟨h1,h0,cs',h2,h3,h4⟩:=h.typ i T cs hc
  exact ⟨h1,h0,cs',by rw [hk _ (lt h2)];exact h2,h3,h4⟩
def setMu (μ:Nat→Blk) (k:Nat) (p:Blk):Nat→Blk:=fun i=>if i=k then p else μ i
theorem setMu_self (μ:Nat→Blk) (k:Nat) (p:Blk):setMu μ k p k=p:=by simp [setMu]
theorem Agr.setMu {n:Nat} (μ:Nat→Blk) (p:Blk):Agr n μ (setMu μ n p):=fun i hi=>by
 simp only [Mini.setMu];rw [if_neg (by omega)]
theorem Sim.push' {sz:Nat} {cs:List Value} {cs':Array Value} {t:TypeId} {fz:Nat × Nat} {p:Blk} (h:Sim B w0 μ σ w) (hB:B.le p.b) (hin:p.b < w.heap.size) (hsz:p.sz=sz) (hex:sz=0→p.ex=true)
 (hp:w.heap[p.b]?=some (.cells cs' t fz)) (hz:Unfrozen cs' fz∧cs'.size=p.n) (hc:CellsR μ σ.size cs cs' p.o) (hnew:∀ i,σ.get i≠.dead→(μ i).b≠p.b):
 Sim B w0 (setMu μ σ.size p) (σ.push (.cells sz cs)) w:=by
 have hag:Agr σ.size μ (setMu μ σ.size p):=.setMu μ _
 have hs:σ.size≤(σ.push (.cells sz cs)).size:=by simp
 refine ⟨h.below,h.base,h.fx,h.wh,?_,?_,?_,?_,?_,?_,?_⟩
 ·intro i hi
  simp only [H.size_push] at hi
  by_cases e:i=σ.size
  ·subst e;rw [setMu_self];exact hin
  ·rw [hag i (by omega)];exact h.fin i (by omega)
 ·intro i s ds hd
  by_cases e:i=σ.size
  ·subst e
   rw [H.get_push_self] at hd
   cases hd
   rw [setMu_self]
   exact ⟨⟨hB,hsz,hex⟩,cs',t,fz,hp,hz,hc.mono hs hag⟩
  ·rw [H.get_push_ne e] at hd
   have hi:=H.lt_of_cells hd
   rw [hag i hi]
   obtain ⟨h1,ds',t',fz',h2,h3,h4⟩:=h.own i s ds hd
   exact ⟨h1,ds',t',fz',h2,h3,h4.mono hs hag⟩
 ·intro i ds hd
  by_cases e:i=σ.size
  ·subst e;rw [H.get_push_self] at hd;cases hd
  ·rw [H.get_push_ne e] at hd
   have hi:=H.lt_of_live (σ:=σ) (i:=i) (by rw [hd];simp)
   rw [hag i hi]
   obtain ⟨h0,ds',t',fz',h2,h4⟩:=h.ro i ds hd
   exact ⟨h0,ds',t',fz',h2,h4.mono hs hag⟩
 ·intro i es c hd
  by_cases e:i=σ.size
  ·subst e;rw [H.get_push_self] at hd;cases hd
  ·rw [H.get_push_ne e] at hd
   have hi:=H.lt_of_live (σ:=σ) (i:=i) (by rw [hd];simp)
   rw [hag i hi]
   obtain ⟨h1,es',h2,h3,h4⟩:=h.map i es c hd
   exact ⟨h1,es',h2,h3,fun j k v e=>let ⟨e',a,b,c⟩:=h4 j k v e;⟨e',a,b.mono hs hag,c.mono hs hag⟩⟩
 ·intro i R hd
  by_cases e:i=σ.size
  ·subst e;rw [H.get_push_self] at hd;cases hd
  ·rw [H.get_push_ne e] at hd
   have hi:=H.lt_of_live (σ:=σ) (i:=i) (by rw [hd];simp)
   rw [hag i hi]
   obtain ⟨h1,o,h2,h3⟩:=h.oth i R hd
   exact ⟨h1,o,h2,R.mono hs hag h3⟩
 ·intro i T ds hd
  by_cases e:i=σ.size
  ·subst e;rw [H.get_push_self] at hd;cases hd
  ·rw [H.get_push_ne e] at hd
   have hi:=H.lt_of_live (σ:=σ) (i:=i) (by rw [hd];simp)
   rw [hag i hi]
   obtain ⟨h1,h0,ds',h2,h3,h4⟩:=h.typ i T ds hd
   exact ⟨h1,h0,ds',h2,h3,h4.mono hs hag⟩
 ·intro i j hi hj hr hne
  by_cases ei:i=σ.size
  ·subst ei
   have ej:j≠σ.size:=fun e=>hne e.symm
   rw [H.get_push_ne ej] at hj
   rw [setMu_self,hag j (H.lt_of_live hj)]
   exact Ne.symm (hnew j hj)
  ·rw [H.get_push_ne ei] at hi
   have hi':=H.lt_of_live hi
   by_cases ej:j=σ.size
   ·subst ej
    rw [setMu_self,hag i hi']
    exact hnew i hi
   ·rw [H.get_push_ne ej] at hj
    rw [hag i hi',hag j (H.lt_of_live hj)]
    exact h.inj i j hi hj (fun cs=>by have:=hr cs;rwa [H.get_push_ne ei] at this) hne
theorem Sim.push {sz:Nat} {cs:List Value} {cs':Array Value} {t:TypeId} {fz:Nat × Nat} (h:Sim B w0 μ σ w) (hz:Unfrozen cs' fz) (hc:CellsR μ σ.size cs cs' 0):
 Sim B w0 (setMu μ σ.size ⟨w.heap.size,0,sz,cs'.size,sz == 0⟩) (σ.push (.cells sz cs)) { w with heap:=w.heap.push (.cells cs' t fz) }:=by
 have hb:Below w.heap.size w { w with heap:=w.heap.push (.cells cs' t fz) }:=
  ⟨rfl,rfl,rfl,by simp,fun k hk=>by simp [Array.getElem?_push];intro e;omega⟩
 refine (h.of_grown hb).push' (p:=⟨w.heap.size,0,sz,cs'.size,sz == 0⟩) h.next (by simp) rfl (fun e=>by simp [e]) (by simp;rfl) ⟨hz,rfl⟩ hc ?_
 intro i hi
 have:=h.fin i (H.lt_of_live hi)
 show _≠w.heap.size
 omega
theorem Sim.setOwn {k sz:Nat} {cs:List Value} {o:MObj} (h:Sim B w0 μ σ w) (hk:σ.get k=.cells sz cs) {c':Array Value} {t:TypeId} {fz:Nat × Nat} {w':World}
 (hw:w'={ w with heap:=w.heap.setIfInBounds (μ k).b (.cells c' t fz) }) (hz:Unfrozen c' fz∧c'.size=(μ k).n)
 (ho:(∃ ds,o=.cells sz ds∧CellsR μ σ.size ds c' (μ k).o)∨o=.dead):
 Sim B w0 μ (σ.set k o) w':=by
 subst hw
 have hlt:=H.lt_of_cells hk
 obtain ⟨hB,_,_,_,hold,_,_⟩:=h.own k sz cs hk
 have hin:(μ k).b < w.heap.size:=h.fin k hlt
 have other:∀ b,b≠(μ k).b→({ w with heap:=w.heap.setIfInBounds (μ k).b (.cells c' t fz) }:World).heap[b]?=w.heap[b]?:=fun b hb=>by
  simp [Array.getElem?_setIfInBounds,Ne.symm hb]
 have same:({ w with heap:=w.heap.setIfInBounds (μ k).b (.cells c' t fz) }:World).heap[(μ k).b]?=some (.cells c' t fz):=by simp [Array.getElem?_setIfInBounds,hin]
 have apart:∀ i,i≠k→σ.get i≠.dead→(μ i).b≠(μ k).b:=fun i hi hd=>Ne.symm (h.inj k i (by rw [hk];simp) hd (fun cs=>by rw [hk];simp) (Ne.symm hi))
 refine ⟨h.below.trans ⟨rfl,rfl,rfl,by simp,fun b hb=>other b (by have:=hB.1.1;omega)⟩,by simpa using h.base,fun k' o e=>by rw [other k' (fun e2=>by have:=hB.1.2;rw [← e2,e] at this;cases this)];exact h.fx k' o e,h.wh,by simpa using h.fin,?_,?_,?_,?_,?_,?_⟩
 ·intro i s ds hd
  by_cases e:i=k
  ·subst e
   rw [H.get_set_self hlt] at hd
   rcases ho with ⟨ds',e,hc⟩ | e
   ·rw [e] at hd;cases hd
    exact ⟨hB,c',t,fz,same,hz,by simpa using hc⟩
   ·rw [e] at hd;cases hd
  ·rw [H.get_set_ne e] at hd
   obtain ⟨h1,ds',t',fz',h2,h3,h4⟩:=h.own i s ds hd
   exact ⟨h1,ds',t',fz',by rw [other _ (apart i e (by rw [hd];simp))];exact h2,h3,by simpa using h4⟩
 ·intro i ds hd
  by_cases e:i=k
  ·subst e
   rw [H.get_set_self hlt] at hd
   rcases ho with ⟨ds',e,hc⟩ | e<;>(rw [e] at hd;cases hd)
  ·rw [H.get_set_ne e] at hd
   obtain ⟨h0,ds',t',fz',h2,h4⟩:=h.ro i ds hd
   exact ⟨h0,ds',t',fz',by rw [other _ (apart i e (by rw [hd];simp))];exact h2,by simpa using h4⟩
 ·intro i es c hd
  by_cases e:i=k
  ·subst e
   rw [H.get_set_self hlt] at hd
   rcases ho with ⟨ds',e,hc⟩ | e<;>(rw [e] at hd;cases hd)
  ·rw [H.get_set_ne e] at hd
   obtain ⟨h1,es',h2,h3,h4⟩:=h.map i es c hd
   exact ⟨h1,es',by rw [other _ (apart i e (by rw [hd];simp))];exact h2,h3,by simpa using h4⟩
 ·intro i R hd
  by_cases e:i=k
  ·subst e
   rw [H.get_set_self hlt] at hd
   rcases ho with ⟨ds',e,hc⟩ | e<;>(rw [e] at hd;cases hd)
  ·rw [H.get_set_ne e] at hd
   obtain ⟨h1,o',h2,h3⟩:=h.oth i R hd
   exact ⟨h1,o',by rw [other _ (apart i e (by rw [hd];simp))];exact h2,by simpa using h3⟩
 ·intro i T ds hd
  by_cases e:i=k
  ·subst e;rw [H.get_set_self hlt] at hd
   rcases ho with ⟨ds',e,hc⟩ | e<;>(rw [e] at hd;cases hd)
  ·rw [H.get_set_ne e] at hd
   obtain ⟨h1,h0,ds',h2,h3,h4⟩:=h.typ i T ds hd
   exact ⟨h1,h0,ds',by rw [other _ (apart i e (by rw [hd];simp))];exact h2,h3,by simpa using h4⟩
 ·intro i j hi hj hr hne
  have live:∀ x,(σ.set k o).get x≠.dead→σ.get x≠.dead:=fun x hx=>by
   by_cases e:x=k
   ·subst e;rw [hk];simp
   ·rwa [H.get_set_ne e] at hx
  refine h.inj i j (live i hi) (live j hj) (fun ds=>?_) hne
  by_cases e:i=k
  ·subst e;rw [hk];simp
  ·have:=hr ds;rwa [H.get_set_ne e] at this
theorem Sim.pushOth {R:OR} {o:Obj} (h:Sim B w0 μ σ w) (hp:∀ μ',Agr σ.size μ μ'→R.p μ' (σ.size + 1) w.heap.size o):
 Sim B w0 (setMu μ σ.size ⟨w.heap.size,0,0,0,true⟩) (σ.push (.oth R)) { w with heap:=w.heap.push o }:=by
 have hb:Below w.heap.size w { w with heap:=w.heap.push o }:=
  ⟨rfl,rfl,rfl,by simp,fun k hk=>by simp [Array.getElem?_push];intro e;omega⟩
 have hag:Agr σ.size μ (setMu μ σ.size ⟨w.heap.size,0,0,0,true⟩):=.setMu μ _
 have hs:σ.size≤(σ.push (.oth R)).size:=by simp
 have h':=h.of_grown hb
 refine ⟨h'.below,h'.base,h'.fx,h'.wh,?_,?_,?_,?_,?_,?_,?_⟩
 ·intro i hi
  simp only [H.size_push] at hi
  by_cases e:i=σ.size
  ·subst e;rw [setMu_self];simp
  ·rw [hag i (by omega)];exact h'.fin i (by omega)
 ·intro i s ds hd
  by_cases e:i=σ.size
  ·subst e;rw [H.get_push_self] at hd;cases hd
  ·rw [H.get_push_ne e] at hd
   have hi:=H.lt_of_cells hd
   rw [hag i hi]
   obtain ⟨h1,ds',t',fz',h2,h3,h4⟩:=h'.own i s ds hd
   exact ⟨h1,ds',t',fz',h2,h3,h4.mono hs hag⟩
 ·intro i ds hd
  by_cases e:i=σ.size
  ·subst e;rw [H.get_push_self] at hd;cases hd
  ·rw [H.get_push_ne e] at hd
   have hi:=H.lt_of_live (σ:=σ) (i:=i) (by rw [hd];simp)
   rw [hag i hi]
   obtain ⟨h0,ds',t',fz',h2,h4⟩:=h'.ro i ds hd
   exact ⟨h0,ds',t',fz',h2,h4.mono hs hag⟩
 ·intro i es c hd
  by_cases e:i=σ.size
  ·subst e;rw [H.get_push_self] at hd;cases hd
  ·rw [H.get_push_ne e] at hd
   have hi:=H.lt_of_live (σ:=σ) (i:=i) (by rw [hd];simp)
   rw [hag i hi]
   obtain ⟨h1,es',h2,h3,h4⟩:=h'.map i es c hd
   exact ⟨h1,es',h2,h3,fun j k v e=>let ⟨e',a,b,c⟩:=h4 j k v e;⟨e',a,b.mono hs hag,c.mono hs hag⟩⟩
 ·intro i R' hd
  by_cases e:i=σ.size
  ·subst e
   rw [H.get_push_self] at hd
   cases hd
   rw [setMu_self]
   exact ⟨h.next,o,by simp,hp _ hag⟩
  ·rw [H.get_push_ne e] at hd
   have hi:=H.lt_of_live (σ:=σ) (i:=i) (by rw [hd];simp)
   rw [hag i hi]
   obtain ⟨h1,o',h2,h3⟩:=h'.oth i R' hd
   exact ⟨h1,o',h2,R'.mono hs hag h3⟩
 ·intro i T ds hd
  by_cases e:i=σ.size
  ·subst e;rw [H.get_push_self] at hd;cases hd
  ·rw [H.get_push_ne e] at hd
   have hi:=H.lt_of_live (σ:=σ) (i:=i) (by rw [hd];simp)
   rw [hag i hi]
   obtain ⟨h1,h0,ds',h2,h3,h4⟩:=h'.typ i T ds hd
   exact ⟨h1,h0,ds',h2,h3,h4.mono hs hag⟩
 ·intro i j hi hj hr hne
  by_cases ei:i=σ.size
  ·subst ei
   have ej:j≠σ.size:=fun e=>hne e.symm
   rw [H.get_push_ne ej] at hj
   have hj':=H.lt_of_live hj
   rw [setMu_self,hag j hj']
   have:=h.fin j hj'
   show w.heap.size≠_
   omega
  ·rw [H.get_push_ne ei] at hi
   have hi':=H.lt_of_live hi
   by_cases ej:j=σ.size
   ·subst ej
    rw [setMu_self,hag i hi']
    have:=h.fin i hi'
    show _≠w.heap.size
    omega
   ·rw [H.get_push_ne ej] at hj
    rw [hag i hi',hag j (H.lt_of_live hj)]
    exact h.inj i j hi hj (fun cs=>by have:=hr cs;rwa [H.get_push_ne ei] at this) hne
theorem Sim.setOth {k:Nat} {R:OR} {m:MObj} {o:Obj} (h:Sim B w0 μ σ w) (hk:σ.get k=.oth R)
 (hm:(∃ R',m=.oth R'∧R'.p μ σ.size (μ k).b o)∨m=.dead):
 Sim B w0 μ (σ.set k m) { w with heap:=w.heap.setIfInBounds (μ k).b o }:=by
 have hlt:=H.lt_of_live (σ:=σ) (i:=k) (by rw [hk];simp)
 obtain ⟨hB,_,hold,_⟩:=h.oth k R hk
 have hin:(μ k).b < w.heap.size:=h.fin k hlt
 have other:∀ b,b≠(μ k).b→({ w with heap:=w.heap.setIfInBounds (μ k).b o }:World).heap[b]?=w.heap[b]?:=fun b hb=>by
  simp [Array.getElem?_setIfInBounds,Ne.symm hb]
 have same:({ w with heap:=w.heap.setIfInBounds (μ k).b o }:World).heap[(μ k).b]?=some o:=by simp [Array.getElem?_setIfInBounds,hin]
 have apart:∀ i,i≠k→σ.get i≠.dead→(μ i).b≠(μ k).b:=fun i hi hd=>Ne.symm (h.inj k i (by rw [hk];simp) hd (fun cs=>by rw [hk];simp) (Ne.symm hi))
 refine ⟨h.below.trans ⟨rfl,rfl,rfl,by simp,fun b hb=>other b (by have:=hB.1;omega)⟩,by simpa using h.base,fun k' o e=>by rw [other k' (fun e2=>by have:=hB.2;rw [← e2,e] at this;cases this)];exact h.fx k' o e,h.wh,by simpa using h.fin,?_,?_,?_,?_,?_,?_⟩
 ·intro i s ds hd
  by_cases e:i=k
  ·subst e;rw [H.get_set_self hlt] at hd
   rcases hm with ⟨R',e,hc⟩ | e<;>(rw [e] at hd;cases hd)
  ·rw [H.get_set_ne e] at hd
   obtain ⟨h1,ds',t',fz',h2,h3,h4⟩:=h.own i s ds hd
   exact ⟨h1,ds',t',fz',by rw [other _ (apart i e (by rw [hd];simp))];exact h2,h3,by simpa using h4⟩
 ·intro i ds hd
  by_cases e:i=k
  ·subst e;rw [H.get_set_self hlt] at hd
   rcases hm with ⟨R',e,hc⟩ | e<;>(rw [e] at hd;cases hd)
  ·rw [H.get_set_ne e] at hd
   obtain ⟨h0,ds',t',fz',h2,h4⟩:=h.ro i ds hd
   exact ⟨h0,ds',t',fz',by rw [other _ (apart i e (by rw [hd];simp))];exact h2,by simpa using h4⟩
 ·intro i es3 c3 hd
  by_cases e:i=k
  ·subst e;rw [H.get_set_self hlt] at hd
   rcases hm with ⟨R',e,hc⟩ | e<;>(rw [e] at hd;cases hd)
  ·rw [H.get_set_ne e] at hd
   obtain ⟨h1,es',h2,h3⟩:=h.map i es3 c3 hd
   exact ⟨h1,es',by rw [other _ (apart i e (by rw [hd];simp))];exact h2,by simpa using h3⟩
 ·intro i R2 hd
  by_cases e:i=k
  ·subst e;rw [H.get_set_self hlt] at hd
   rcases hm with ⟨R',e,hc⟩ | e
   ·rw [e] at hd;cases hd
    exact ⟨hB,o,same,by simpa using hc⟩
   ·rw [e] at hd;cases hd
  ·rw [H.get_set_ne e] at hd
   obtain ⟨h1,o',h2,h3⟩:=h.oth i R2 hd
   exact ⟨h1,o',by rw [other _ (apart i e (by rw [hd];simp))];exact h2,by simpa using h3⟩
 ·intro i T ds hd
  by_cases e:i=k
  ·subst e;rw [H.get_set_self hlt] at hd
   rcases hm with ⟨R',e,hc⟩ | e<;>(rw [e] at hd;cases hd)
  ·rw [H.get_set_ne e] at hd
   obtain ⟨h1,h0,ds',h2,h3,h4⟩:=h.typ i T ds hd
   exact ⟨h1,h0,ds',by rw [other _ (apart i e (by rw [hd];simp))];exact h2,h3,by simpa using h4⟩
 ·intro i j hi hj hr hne
  have live:∀ x,(σ.set k m).get x≠.dead→σ.get x≠.dead:=fun x hx=>by
   by_cases e:x=k
   ·subst e;rw [hk];simp
   ·rwa [H.get_set_ne e] at hx
  refine h.inj i j (live i hi) (live j hj) (fun ds=>?_) hne
  by_cases e:i=k
  ·subst e;rw [hk];simp
  ·have:=hr ds;rwa [H.get_set_ne e] at this
theorem Sim.pushTyp {T:TypeId} {cs:List Value} {cs':Array Value} (h:Sim B w0 μ σ w) (hl:cs'.size=cs.length) (hc:CellsR μ σ.size cs cs' 0):
 Sim B w0 (setMu μ σ.size ⟨w.heap.size,0,0,cs'.size,true⟩) (σ.push (.typ T cs)) { w with heap:=w.heap.push (.cells cs' T (0,0)) }:=by
 have hb:Below w.heap.size w { w with heap:=w.heap.push (.cells cs' T (0,0)) }:=
  ⟨rfl,rfl,rfl,by simp,fun k hk=>by simp [Array.getElem?_push];intro e;omega⟩
 have hag:Agr σ.size μ (setMu μ σ.size ⟨w.heap.size,0,0,cs'.size,true⟩):=.setMu μ _
 have hs:σ.size≤(σ.push (.typ T cs)).size:=by simp
 have h':=h.of_grown hb
 refine ⟨h'.below,h'.base,h'.fx,h'.wh,?_,?_,?_,?_,?_,?_,?_⟩
 ·intro i hi
  simp only [H.size_push] at hi
  by_cases e:i=σ.size
  ·subst e;rw [setMu_self];simp
  ·rw [hag i (by omega)];exact h'.fin i (by omega)
 ·intro i s ds hd
  by_cases e:i=σ.size
  ·subst e;rw [H.get_push_self] at hd;cases hd
  ·rw [H.get_push_ne e] at hd
   have hi:=H.lt_of_cells hd
   rw [hag i hi]
   obtain ⟨h1,ds',t',fz',h2,h3,h4⟩:=h'.own i s ds hd
   exact ⟨h1,ds',t',fz',h2,h3,h4.mono hs hag⟩
 ·intro i ds hd
  by_cases e:i=σ.size
  ·subst e;rw [H.get_push_self] at hd;cases hd
  ·rw [H.get_push_ne e] at hd
   have hi:=H.lt_of_live (σ:=σ) (i:=i) (by rw [hd];simp)
   rw [hag i hi]
   obtain ⟨h0,ds',t',fz',h2,h4⟩:=h'.ro i ds hd
   exact ⟨h0,ds',t',fz',h2,h4.mono hs hag⟩
 ·intro i es c hd
  by_cases e:i=σ.size
  ·subst e;rw [H.get_push_self] at hd;cases hd
  ·rw [H.get_push_ne e] at hd
   have hi:=H.lt_of_live (σ:=σ) (i:=i) (by rw [hd];simp)
   rw [hag i hi]
   obtain ⟨h1,es',h2,h3,h4⟩:=h'.map i es c hd
   exact ⟨h1,es',h2,h3,fun j k v e=>let ⟨e',a,b,c⟩:=h4 j k v e;⟨e',a,b.mono hs hag,c.mono hs hag⟩⟩
 ·intro i R' hd
  by_cases e:i=σ.size
  ·subst e;rw [H.get_push_self] at hd;cases hd
  ·rw [H.get_push_ne e] at hd
   have hi:=H.lt_of_live (σ:=σ) (i:=i) (by rw [hd];simp)
   rw [hag i hi]
   obtain ⟨h1,o',h2,h3⟩:=h'.oth i R' hd
   exact ⟨h1,o',h2,R'.mono hs hag h3⟩
 ·intro i T ds hd
  by_cases e:i=σ.size
  ·subst e
   rw [H.get_push_self] at hd
   cases hd
   rw [setMu_self]
   exact ⟨h.next,⟨rfl,rfl⟩,cs',by simp,hl,hc.mono hs hag⟩
  ·rw [H.get_push_ne e] at hd
   have hi:=H.lt_of_live (σ:=σ) (i:=i) (by rw [hd];simp)
   rw [hag i hi]
   obtain ⟨h1,h0,ds',h2,h3,h4⟩:=h'.typ i T ds hd
   exact ⟨h1,h0,ds',h2,h3,h4.mono hs hag⟩
 ·intro i j hi hj hr hne
  by_cases ei:i=σ.size
  ·subst ei
   have ej:j≠σ.size:=fun e=>hne e.symm
   rw [H.get_push_ne ej] at hj
   have hj':=H.lt_of_live hj
   rw [setMu_self,hag j hj']
   have:=h.fin j hj'
   show w.heap.size≠_
   omega
  ·rw [H.get_push_ne ei] at hi
   have hi':=H.lt_of_live hi
   by_cases ej:j=σ.size
   ·subst ej
    rw [setMu_self,hag i hi']
    have:=h.fin i hi'
    show _≠w.heap.size
    omega
   ·rw [H.get_push_ne ej] at hj
    rw [hag i hi',hag j (H.lt_of_live hj)]
    exact h.inj i j hi hj (fun cs=>by have:=hr cs;rwa [H.get_push_ne ei] at this) hne
theorem Sim.setTyp {k:Nat} {T:TypeId} {cs ds:List Value} {c':Array Value} (h:Sim B w0 μ σ w) (hk:σ.get k=.typ T cs) (hl:c'.size=ds.length) (hc:CellsR μ σ.size ds c' (μ k).o):
 Sim B w0 μ (σ.set k (.typ T ds)) { w with heap:=w.heap.setIfInBounds (μ k).b (.cells c' T (0,0)) }:=by
 have hlt:=H.lt_of_live (σ:=σ) (i:=k) (by rw [hk];simp)
 obtain ⟨hB,h00,_,hold,_⟩:=h.typ k T cs hk
 have hin:(μ k).b < w.heap.size:=h.fin k hlt
 have other:∀ b,b≠(μ k).b→({ w with heap:=w.heap.setIfInBounds (μ k).b (.cells c' T (0,0)) }:World).heap[b]?=w.heap[b]?:=fun b hb=>by
  simp [Array.getElem?_setIfInBounds,Ne.symm hb]
 have same:({ w with heap:=w.heap.setIfInBounds (μ k).b (.cells c' T (0,0)) }:World).heap[(μ k).b]?=some (.cells c' T (0,0)):=by simp [Array.getElem?_setIfInBounds,hin]
 have apart:∀ i,i≠k→σ.get i≠.dead→(μ i).b≠(μ k).b:=fun i hi hd=>Ne.symm (h.inj k i (by rw [hk];simp) hd (fun cs2=>by rw [hk];simp) (Ne.symm hi))
 refine ⟨h.below.trans ⟨rfl,rfl,rfl,by simp,fun b hb=>other b (by have:=hB.1;omega)⟩,by simpa using h.base,fun k' o e=>by rw [other k' (fun e2=>by have:=hB.2;rw [← e2,e] at this;cases this)];exact h.fx k' o e,h.wh,by simpa using h.fin,?_,?_,?_,?_,?_,?_⟩
 ·intro i s ds hd
  by_cases e:i=k
  ·subst e;rw [H.get_set_self hlt] at hd
   cases hd
  ·rw [H.get_set_ne e] at hd
   obtain ⟨h1,ds',t',fz',h2,h3,h4⟩:=h.own i s ds hd
   exact ⟨h1,ds',t',fz',by rw [other _ (apart i e (by rw [hd];simp))];exact h2,h3,by simpa using h4⟩
 ·intro i ds hd
  by_cases e:i=k
  ·subst e;rw [H.get_set_self hlt] at hd
   cases hd
  ·rw [H.get_set_ne e] at hd
   obtain ⟨h0,ds',t',fz',h2,h4⟩:=h.ro i ds hd
   exact ⟨h0,ds',t',fz',by rw [other _ (apart i e (by rw [hd];simp))];exact h2,by simpa using h4⟩
 ·intro i es3 c3 hd
  by_cases e:i=k
  ·subst e;rw [H.get_set_self hlt] at hd
   cases hd
  ·rw [H.get_set_ne e] at hd
   obtain ⟨h1,es',h2,h3⟩:=h.map i es3 c3 hd
   exact ⟨h1,es',by rw [other _ (apart i e (by rw [hd];simp))];exact h2,by simpa using h3⟩
 ·intro i R2 hd
  by_cases e:i=k
  ·subst e;rw [H.get_set_self hlt] at hd
   cases hd
  ·rw [H.get_set_ne e] at hd
   obtain ⟨h1,o',h2,h3⟩:=h.oth i R2 hd
   exact ⟨h1,o',by rw [other _ (apart i e (by rw [hd];simp))];exact h2,by simpa using h3⟩
 ·intro i T2 ds2 hd
  by_cases e:i=k
  ·subst e;rw [H.get_set_self hlt] at hd
   cases hd
   exact ⟨hB,h00,c',same,hl,by simpa using hc⟩
  ·rw [H.get_set_ne e] at hd
   obtain ⟨h1,h0,ds',h2,h3,h4⟩:=h.typ i T2 ds2 hd
   exact ⟨h1,h0,ds',by rw [other _ (apart i e (by rw [hd];simp))];exact h2,h3,by simpa using h4⟩
 ·intro i j hi hj hr hne
  have live:∀ x,(σ.set k (.typ T ds)).get x≠.dead→σ.get x≠.dead:=fun x hx=>by
   by_cases e:x=k
   ·subst e;rw [hk];simp
   ·rwa [H.get_set_ne e] at hx
  refine h.inj i j (live i hi) (live j hj) (fun ds3=>?_) hne
  by_cases e:i=k
  ·subst e;rw [hk];simp
  ·have:=hr ds3;rwa [H.get_set_ne e] at this
end
end Go.Mini
namespace Go.Mini
open Go.RowKit (Below)
inductive Opd where
 | t (i:Nat)
 | c (v:Value)
 | f (k:FuncId)
def mev (ts:Fr):Opd→Value
 | .t i=>ts i
 | .c v=>v
 | .f k=>.func (.func k) #[] #[]
def closed:Value→Bool
 | .agg cs=>cs.toList.all plain
 | .tuple cs=>cs.toList.all plain
 | .iface _ v=>plain v
 | v=>plain v
def copd:Operand→Option Opd
 | .tmp t=>some (.t t)
 | .const v=>if closed v then some (.c v) else none
 | .global _=>none
 | .func f=>some (.f f)
def one:Value→Bool
 | .agg _ | .tuple _=>false
 | _=>true
inductive KD where
 | int | str | bool
def KD.has:KD→Value→Bool
 | .int,.int _ _=>true
 | .str,.string _=>true
 | .bool,.bool _=>true
 | _,_=>false
inductive NK where
 | ptr | slice | map | func | iface
inductive MOp where
 | mv (x:Opd)
 | pick (c a b:Opd)
 | box (x:Opd)
 | alloc (zs:List Value)
 | allocT (T:TypeId) (zs:List Value)
 | load1 (a:Opd)
 | loadN (n:Nat) (a:Opd)
 | store (n:Nat) (a x:Opd)
 | fadd (off:Nat) (a:Opd)
 | iaS (sz:Nat) (x i:Opd)
 | iaA (len sz:Nat) (x i:Opd)
 | idxS (x i:Opd)
 | idxA (len sz:Nat) (agg:Bool) (x i:Opd)
 | fld (off n:Nat) (agg:Bool) (x:Opd)
 | bin (op:BinOp) (x y:Opd)
 | eqB (neg:Bool) (x y:Opd)
 | eqN (k:NK) (neg:Bool) (x y:Opd)
 | eqA (neg:Bool) (ks:List KD) (x y:Opd)
 | not (x:Opd)
 | neg (x:Opd)
 | conv (k:IntKind) (x:Opd)
 | s2b (x:Opd)
 | b2s (x:Opd)
 | mki (t:TypeId) (x:Opd)
 | mkf (fn:Fn) (first cap:List Opd)
 | mks (sz:Nat) (bytes:Nat) (zs:List Value) (l c:Opd)
 | bsl (sz len:Nat) (zs:List Value) (parts:List (Nat × Opd))
 | bld (zs:List Value) (parts:List (Nat × Nat × Opd))
 | slc (sz:Nat) (x:Opd) (lo hi mx:Option Opd)
 | slcS (x:Opd) (lo hi:Option Opd)
 | slcA (n sz:Nat) (x:Opd) (lo hi:Option Opd)
 | ext (x:Opd) (i:Nat)
 | nilck (x:Opd)
 | tasI (t:TypeId) (ok:Bool) (z:Value) (x:Opd)
 | len (str:Bool) (x:Opd)
 | lenC (n:Nat)
 | app (sz bytes:Nat) (s x:Opd)
 | cpy (sz:Nat) (d s:Opd)
 | clr (zs:List Value) (x:Opd)
 | min2 (x y:Opd)
 | max2 (x y:Opd)
 | mkmap
 | mlook (kd:KD) (ok:Bool) (z:Value) (x k:Opd)
 | mupd (kd:KD) (x k v:Opd)
 | mlen (x:Opd)
 | call (f:FuncId) (args:List Opd)
 | callv (x:Opd) (args:List Opd)
 | bad
structure MI where
 dst:Option Nat
 op:MOp
 g:Option (Nat × Bool)
def rowL (cs:List Value):Nat→Nat→Option (List Value)
 | _,0=>some []
 | k,n + 1=>match cs[k]? with
   | some v=>(rowL cs (k + 1) n).map (v :: ·)
   | none=>none
def spl (cs:List Value):Nat→List Value→List Value
 | _,[]=>cs
 | k,v :: vs=>spl (cs.set k v) (k + 1) vs
def H.cell (σ:H) (id off:Nat):Option Value:=match σ.get id with
 | .cells _ cs | .ro cs | .typ _ cs=>cs[off]?
 | _=>none
def H.row (σ:H) (id off n:Nat):Option (List Value):=match σ.get id with
 | .cells _ cs | .ro cs | .typ _ cs=>rowL cs off n
 | _=>none
def putRow (σ:H) (id off:Nat) (vs:List Value):Option H:=match σ.get id with
 | .cells sz cs=>if off + vs.length≤cs.length∧vs.all one=true then some (σ.set id (.cells sz (spl cs off vs))) else none
 | .typ T cs=>if off + vs.length≤cs.length∧vs.all one=true then some (σ.set id (.typ T (spl cs off vs))) else none
 | _=>none
def mbin:BinOp→Value→Value→Option Value
 | .add,.int k a,.int k' b=>if k=k' then some (.int k (k.wrap (a + b))) else none
 | .sub,.int k a,.int k' b=>if k=k' then some (.int k (k.wrap (a - b))) else none
 | .mul,.int k a,.int k' b=>if k=k' then some (.int k (k.wrap (a * b))) else none
 | .quo,.int k a,.int k' b=>if k=k'∧b≠0 then some (.int k (k.wrap (a.tdiv b))) else none
 | .rem,.int k a,.int k' b=>if k=k'∧b≠0 then some (.int k (a.tmod b)) else none
 | .and,.int k a,.int k' b=>if k=k' then some (.int k (k.wrap (BitVec.ofInt k.bits a &&& BitVec.ofInt k.bits b).toNat)) else none
 | .or,.int k a,.int k' b=>if k=k' then some (.int k (k.wrap (BitVec.ofInt k.bits a ||| BitVec.ofInt k.bits b).toNat)) else none
 | .xor,.int k a,.int k' b=>if k=k' then some (.int k (k.wrap (BitVec.ofInt k.bits a ^^^ BitVec.ofInt k.bits b).toNat)) else none
 | .andNot,.int k a,.int k' b=>if k=k' then some (.int k (k.wrap (BitVec.ofInt k.bits a &&& ~~~ BitVec.ofInt k.bits b).toNat)) else none
 | .shl,.int k a,.int _ b=>if 0≤b then some (.int k (k.wrap (a * 2 ^ (min b.toNat k.bits)))) else none
 | .shr,.int k a,.int _ b=>if 0≤b then some (.int k (a.fdiv (2 ^ (min b.toNat k.bits)))) else none
 | .eql,.int k a,.int k' b=>if k=k' then some (.bool (a == b)) else none
 | .neq,.int k a,.int k' b=>if k=k' then some (.bool (a != b)) else none
 | .lss,.int k a,.int k' b=>if k=k' then some (.bool (decide (a < b))) else none
 | .leq,.int k a,.int k' b=>if k=k' then some (.bool (decide (a≤b))) else none
 | .gtr,.int k a,.int k' b=>if k=k' then some (.bool (decide (a > b))) else none
 | .geq,.int k a,.int k' b=>if k=k' then some (.bool (decide (a≥b))) else none
 | .add,.string a,.string b=>if ((a.size + b.size:Nat):Int)≤IntKind.i64.max then some (.string (a ++ b)) else none
 | .eql,.string a,.string b=>some (.bool (a.toList == b.toList))
 | .neq,.string a,.string b=>some (.bool (!(a.toList == b.toList)))
 | .lss,.string a,.string b=>some (.bool (Op.bytesLess a.toList b.toList))
 | .leq,.string a,.string b=>some (.bool (Op.bytesLess a.toList b.toList || a.toList == b.toList))
 | .gtr,.string a,.string b=>some (.bool (!(Op.bytesLess a.toList b.toList || a.toList == b.toList)))
 | .geq,.string a,.string b=>some (.bool (!Op.bytesLess a.toList b.toList))
 | _,_,_=>none
def eqNil:NK→Value→Value→Option Bool
 | .ptr,.pointer none,.pointer b=>some b.isNone
 | .ptr,.pointer (some _),.pointer none=>some false
 | .slice,.slice none _ _,.slice b _ _=>some b.isNone
 | .slice,.slice (some _) _ _,.slice none _ _=>some false
 | .map,.map none,.map b=>some b.isNone
 | .map,.map (some _),.map none=>some false
 | .iface,.nilIface,.nilIface=>some true
 | .iface,.nilIface,.iface _ _=>some false
 | .iface,.iface _ _,.nilIface=>some false
 | .func,.nilFunc,.nilFunc=>some true
 | .func,.nilFunc,.func _ _ _=>some false
 | .func,.func _ _ _,.nilFunc=>some false
 | _,_,_=>none
def eqCell:KD→Value→Value→Option Bool
 | .bool,.bool a,.bool b=>some (a == b)
 | .int,.int k a,.int k' b=>if k=k' then some (a == b) else none
 | .str,.string a,.string b=>some (a.toList == b.toList)
 | _,_,_=>none
def eqCells:List KD→List Value→List Value→Option Bool
 | [],[],[]=>some true
 | k :: ks,x :: xs,y :: ys=>match eqCell k x y with
   | some true=>eqCells ks xs ys
   | some false=>some false
   | none=>none
 | _,_,_=>none
def bnd (y:Nat):Value→Option Nat
 | .int _ i=>if 0≤i∧i≤y then some i.toNat else none
 | _=>none
def bnds (len cap:Nat) (lo hi mx:Option Value):Option (Nat × Nat × Nat):=
 match (match mx with | some v=>bnd cap v | none=>some cap) with
 | none=>none
 | some m=>match (match hi with | some v=>bnd m v | none=>if mx.isNone then some len else none) with
   | none=>none
   | some h=>match (match lo with | some v=>bnd h v | none=>some 0) with
     | none=>none
     | some l=>some (l,h,m)
def isU8:Value→Bool
 | .int .u8 _=>true
 | _=>false
def toU8:Value→UInt8
 | .int _ k=>UInt8.ofNat k.toNat
 | _=>0
def bytesL (l:List UInt8):List Value:=l.map fun b=>.int .u8 b.toNat
def firstL (σ:H) (sz n:Nat):Value→Option (List Value)
 | .slice (some ⟨id,off,none⟩) _ _=>σ.row id off (n * sz)
 | .slice none 0 0=>some []
 | .string s=>if sz=1 then some (bytesL (s.extract 0 n).data.toList) else none
 | _=>none
def lenL:Value→Option Nat
 | .slice _ n _=>some n
 | .string s=>some s.size
 | _=>none
def fillL (cs:List Value):List (Nat × Nat × Value)→Option (List Value)
 | []=>some cs
 | (off,sz,v) :: rest=>if v.cells.size=sz∧off + sz≤cs.length then fillL (spl cs off v.cells.toList) rest else none
def repZ (zs:List Value):Nat→List Value
 | 0=>[]
 | n + 1=>zs ++ repZ zs n
def appMax:Nat:=2 ^ 39
def keyEq:Value→Value→Option Bool
 | .int k a,.int k' b=>if k=k' then some (a == b) else none
 | .string a,.string b=>some (a == b)
 | .bool a,.bool b=>some (a == b)
 | _,_=>none
def lookL (k:Value):List (Value × Value)→Nat→Option (Option (Nat × Value))
 | [],_=>some none
 | e :: es,i=>match keyEq k e.1 with
   | some true=>some (some (i,e.2))
   | some false=>lookL k es (i + 1)
   | none=>none
def okSz (σ:H) (sz id:Nat):Bool:=match σ.get id with
 | .cells s _=>s == sz || s == 0
 | .ro _=>true
 | _=>false
def mop (ts:Fr) (σ:H):MOp→Option (Value × H)
 | .mv x=>some (mev ts x,σ)
 | .pick c a b=>match mev ts c with
   | .bool t=>some (if t then mev ts a else mev ts b,σ)
   | _=>none
 | .box x=>some (.pointer (some ⟨σ.size,0,none⟩),σ.push (.cells 0 (mev ts x).cells.toList))
 | .alloc zs=>some (.pointer (some ⟨σ.size,0,none⟩),σ.push (.cells 0 zs))
 | .allocT T zs=>some (.pointer (some ⟨σ.size,0,none⟩),σ.push (.typ T zs))
 | .load1 a=>match mev ts a with
   | .pointer (some ⟨id,off,none⟩)=>(σ.cell id off).map fun v=>(v,σ)
   | _=>none
 | .loadN n a=>match mev ts a with
   | .pointer (some ⟨id,off,none⟩)=>(σ.row id off n).map fun vs=>(.agg vs.toArray,σ)
   | _=>none
 | .store n a x=>match mev ts a with
   | .pointer (some ⟨id,off,none⟩)=>if (mev ts x).cells.size=n then (putRow σ id off (mev ts x).cells.toList).map fun τ=>(undef,τ) else none
   | _=>none
 | .fadd off a=>match mev ts a with
   | .pointer (some ⟨id,o,none⟩)=>some (.pointer (some ⟨id,o + off,none⟩),σ)
   | _=>none
 | .iaS sz x i=>match mev ts x,mev ts i with
   | .slice (some ⟨id,off,none⟩) len _,.int _ k=>if 0≤k∧k < len then some (.pointer (some ⟨id,off + k.toNat * sz,none⟩),σ) else none
   | _,_=>none
 | .iaA len sz x i=>match mev ts x,mev ts i with
   | .pointer (some ⟨id,off,none⟩),.int _ k=>if 0≤k∧k < len then some (.pointer (some ⟨id,off + k.toNat * sz,none⟩),σ) else none
   | _,_=>none
 | .idxS x i=>match mev ts x,mev ts i with
   | .string s,.int _ k=>if 0≤k∧k < s.size then some (.int .u8 (s.data.toList.getD k.toNat 0).toNat,σ) else none
   | _,_=>none
 | .idxA len sz agg x i=>match mev ts x,mev ts i with
   | .agg cs,.int _ k=>if 0≤k∧k < len then
      (if agg then some (.agg ((cs.toList.drop (k.toNat * sz)).take sz).toArray,σ) else (cs.toList[k.toNat * sz]?).map fun v=>(v,σ)) else none
   | _,_=>none
 | .fld off n agg x=>match mev ts x with
   | .agg cs=>if agg then some (.agg ((cs.toList.drop off).take n).toArray,σ) else (cs.toList[off]?).map fun v=>(v,σ)
   | _=>none
 | .bin op x y=>(mbin op (mev ts x) (mev ts y)).map fun v=>(v,σ)
 | .eqB neg x y=>match mev ts x,mev ts y with
   | .bool a,.bool b=>some (.bool (if neg then !(a == b) else a == b),σ)
   | _,_=>none
 | .eqN k neg x y=>(eqNil k (mev ts x) (mev ts y)).map fun b=>(.bool (if neg then !b else b),σ)
 | .eqA neg ks x y=>match mev ts x,mev ts y with
   | .agg a,.agg b=>if a.toList.length=ks.length∧b.toList.length=ks.length then (eqCells ks a.toList b.toList).map fun b=>(.bool (if neg then !b else b),σ) else none
   | _,_=>none
 | .not x=>match mev ts x with
   | .bool b=>some (.bool (!b),σ)
   | _=>none
 | .neg x=>match mev ts x with
   | .int k n=>some (.int k (k.wrap (0 - n)),σ)
   | _=>none
 | .conv k x=>match mev ts x with
   | .int _ n=>some (.int k (k.wrap n),σ)
   | _=>none
 | .s2b x=>match mev ts x with
   | .string s=>some (.slice (some ⟨σ.size,0,none⟩) s.size s.size,σ.push (.cells 1 (bytesL s.data.toList)))
   | _=>none
 | .b2s x=>match mev ts x with
   | .slice none _ _=>some (.string .empty,σ)
   | .slice (some ⟨id,off,none⟩) n _=>match σ.row id off n with
     | some vs=>if vs.all isU8=true then some (.string ⟨(vs.map toU8).toArray⟩,σ) else none
     | none=>none
   | _=>none
 | .mki t x=>some (.iface t (mev ts x),σ)
 | .mkf fn first cap=>some (.func fn (first.map (mev ts)).toArray (cap.map (mev ts)).toArray,σ)
 | .mks sz bytes zs l c=>match mev ts l,mev ts c with
   | .int _ l,.int _ c=>if 0≤l∧l≤c∧c≤2 ^ 40∧bytes * c≤2 ^ 47 then
      some (.slice (some ⟨σ.size,0,none⟩) l.toNat c.toNat,σ.push (.cells sz (repZ zs c.toNat))) else none
   | _,_=>none
 | .bsl sz len zs parts=>match fillL (repZ zs len) (parts.map fun (i,x)=>(i * sz,sz,mev ts x)) with
   | some cs=>some (.slice (some ⟨σ.size,0,none⟩) len len,σ.push (.cells sz cs))
   | none=>none
 | .bld zs parts=>(fillL zs (parts.map fun (off,sz,x)=>(off,sz,mev ts x))).map fun cs=>(.agg cs.toArray,σ)
 | .slc sz x lo hi mx=>match mev ts x with
   | .slice (some ⟨id,off,none⟩) len cap=>match bnds len cap (lo.map (mev ts)) (hi.map (mev ts)) (mx.map (mev ts)) with
     | some (l,h,m)=>if okSz σ sz id=true then some (.slice (some ⟨id,off + l * sz,none⟩) (h - l) (m - l),σ) else none
     | none=>none
   | .slice none 0 0=>match bnds 0 0 (lo.map (mev ts)) (hi.map (mev ts)) (mx.map (mev ts)) with
     | some (l,h,m)=>some (.slice none 0 0,σ)
     | none=>none
   | _=>none
 | .slcS x lo hi=>match mev ts x with
   | .string s=>match bnds s.size s.size (lo.map (mev ts)) (hi.map (mev ts)) none with
     | some (l,h,_)=>some (.string (s.extract l h),σ)
     | none=>none
   | _=>none
 | .slcA n sz x lo hi=>match mev ts x with
   | .pointer (some ⟨id,off,none⟩)=>match bnds n n (lo.map (mev ts)) (hi.map (mev ts)) none with
     | some (l,h,m)=>(match σ.get id with
       | .cells 0 _=>some (.slice (some ⟨id,if m=l then off else off + l * sz,none⟩) (h - l) (m - l),σ)
       | _=>none)
     | none=>none
   | _=>none
 | .ext x i=>match mev ts x with
   | .tuple vs=>(vs.toList[i]?).map fun v=>(v,σ)
   | _=>none
 | .nilck x=>match mev ts x with
   | .pointer (some a)=>some (.pointer (some a),σ)
   | .func (.func k) f c=>some (.func (.func k) f c,σ)
   | .iface t v=>some (.iface t v,σ)
   | _=>none
 | .tasI t ok z x=>match mev ts x with
   | .iface u v=>if u=t then some (if ok then .tuple #[v,.bool true] else v,σ) else if ok then some (.tuple #[z,.bool false],σ) else none
   | .nilIface=>if ok then some (.tuple #[z,.bool false],σ) else none
   | _=>none
 | .len str x=>match str,mev ts x with
   | true,.string s=>some (.int .i64 s.size,σ)
   | false,.slice _ n _=>some (.int .i64 n,σ)
   | _,_=>none
 | .lenC n=>some (.int .i64 n,σ)
 | .app sz bytes s x=>match mev ts s,lenL (mev ts x) with
   | .slice none 0 0,some n=>if n=0 then some (.slice none 0 0,σ) else
      if n≤appMax∧bytes≤128 then (match firstL σ sz n (mev ts x) with
       | some vs=>some (.slice (some ⟨σ.size,0,none⟩) n n,σ.push (.cells sz vs))
       | none=>none) else none
   | .slice (some ⟨id,off,none⟩) len cap,some n=>
     if len + n≤cap then (match firstL σ sz n (mev ts x) with
      | some vs=>(putRow σ id (off + len * sz) vs).map fun τ=>(.slice (some ⟨id,off,none⟩) (len + n) cap,τ)
      | none=>none)
     else if len + n≤appMax∧bytes≤128 then (match σ.get id,σ.row id off (len * sz),firstL σ sz n (mev ts x) with
      | .cells s _,some old,some vs=>if (old ++ vs).all one=true∧(s=sz∨s=0) then
         some (.slice (some ⟨σ.size,0,none⟩) (len + n) (len + n),(σ.set id .dead).push (.cells sz (old ++ vs))) else none
      | _,_,_=>none)
     else none
   | _,_=>none
 | .cpy sz d s=>match mev ts d,lenL (mev ts s) with
   | .slice none 0 0,some _=>some (.int .i64 0,σ)
   | .slice (some ⟨id,off,none⟩) len cap,some n=>match firstL σ sz (Nat.min n len) (mev ts s) with
     | some vs=>(putRow σ id off vs).map fun τ=>(.int .i64 (Nat.min n len:Nat),τ)
     | none=>none
   | _,_=>none
 | .clr zs x=>match mev ts x with
   | .slice none 0 0=>some (undef,σ)
   | .slice (some ⟨id,off,none⟩) len cap=>if len=0 then some (undef,σ) else (putRow σ id off (repZ zs len)).map fun τ=>(undef,τ)
   | _=>none
 | .min2 x y=>match mev ts x,mev ts y with
   | .int k a,.int _ b=>some (.int k (if b < a then b else a),σ)
   | _,_=>none
 | .max2 x y=>match mev ts x,mev ts y with
   | .int k a,.int _ b=>some (.int k (if b > a then b else a),σ)
   | _,_=>none
 | .mkmap=>some (.map (some σ.size),σ.push (.map [] 0))
 | .mlook kd ok z x k=>match mev ts x with
   | .map (some r)=>match σ.get r with
     | .map es _=>match (if kd.has (mev ts k) then lookL (mev ts k) es 0 else none) with
       | some (some (_,v))=>some (if ok then .tuple #[v,.bool true] else v,σ)
       | some none=>some (if ok then .tuple #[z,.bool false] else z,σ)
       | none=>none
     | _=>none
   | _=>none
 | .mupd kd x k v=>match mev ts x with
   | .map (some r)=>match σ.get r with
     | .map es c=>match (if kd.has (mev ts k) then lookL (mev ts k) es 0 else none) with
       | some (some (i,_))=>some (undef,σ.set r (.map (es.modify i fun e=>(mev ts k,mev ts v)) c))
       | some none=>some (undef,σ.set r (.map (es ++ [(mev ts k,mev ts v)]) (c + 1)))
       | none=>none
     | _=>none
   | _=>none
 | .mlen x=>match mev ts x with
   | .map none=>some (.int .i64 0,σ)
   | .map (some r)=>match σ.get r with
     | .map es _=>some (.int .i64 es.length,σ)
     | _=>none
   | _=>none
 | .call _ _=>none
 | .callv _ _=>none
 | .bad=>none
def isAggT (P:Program) (t:TypeId):Option Bool:=match P.underlying t with
 | some (.struct _) | some (.array _ _)=>some true
 | some _=>some false
 | none=>none
def zeroL (P:Program) (t:TypeId):Option (List Value):=match P.info? t with
 | some i=>match i.zero with
   | some z=>if z.cells.toList.all plain∧z.cells.size=i.size then some z.cells.toList else none
   | none=>none
 | none=>none
def zero1 (P:Program) (t:TypeId):Option Value:=match P.info? t with
 | some i=>match i.zero with
   | some z=>if closed z then some z else none
   | none=>none
 | none=>none
def sizeT (P:Program) (t:TypeId):Option Nat:=(P.info? t).map (·.size)
def isC:Operand→Bool
 | .const _=>true
 | _=>false
def keyKD:TypeDesc→Option KD
 | .int _=>some .int
 | .string=>some .str
 | .bool=>some .bool
 | _=>none
def oopd:Option Operand→Option (Option Opd)
 | none=>some none
 | some x=>(copd x).map some
def flatFs (g:TypeId→Option (List KD)):List Field→Nat→Option (List KD)
 | [],_=>some []
 | f :: fs,off=>if f.name≠ "_"∧f.offset=off then (match g f.type with
     | some ks=>(flatFs g fs (off + ks.length)).map (ks ++ ·)
     | none=>none) else none
def repK (ks:List KD):Nat→List KD
 | 0=>[]
 | n + 1=>ks ++ repK ks n
def flatK (P:Program):Nat→TypeId→Option (List KD)
 | 0,_=>none
 | d + 1,t=>match P.underlying t with
   | some .bool=>if sizeT P t=some 1 then some [.bool] else none
   | some (.int _)=>if sizeT P t=some 1 then some [.int] else none
   | some .string=>if sizeT P t=some 1 then some [.str] else none
   | some (.struct fs)=>if P.stoodInHeld t then none else (match flatFs (flatK P d) fs.toList 0 with
      | some ks=>if sizeT P t=some ks.length then some ks else none
      | none=>none)
   | some (.array n e)=>match flatK P d e with
      | some ks=>if sizeT P t=some (repK ks n).length then some (repK ks n) else none
      | none=>none
   | _=>none
def eqAop (P:Program) (op:BinOp) (t:TypeId) (x y:Opd):Option MOp:=
 if P.eqGuardType P.depth t then none else match flatK P 20 t,op with
  | some ks,.eql=>some (.eqA false ks x y)
  | some ks,.neq=>some (.eqA true ks x y)
  | _,_=>none
def eqNop (k:NK) (op:BinOp) (x y:Opd):Option MOp:=match op with
 | .eql=>some (.eqN k false x y)
 | .neq=>some (.eqN k true x y)
 | _=>none
def cbin (P:Program) (op:BinOp) (t:TypeId) (x y:Operand):Option MOp:=do
 let x' ← copd x
 let y' ← copd y
 match P.underlying t with
 | some (.int _) | some .string=>some (.bin op x' y')
 | some .bool=>match op with
   | .eql=>some (.eqB false x' y')
   | .neq=>some (.eqB true x' y')
   | _=>none
 | some (.interface _)=>match op with
   | .eql=>if isC x || isC y then some (.eqN .iface false x' y') else none
   | .neq=>if isC x || isC y then some (.eqN .iface true x' y') else none
   | _=>none
 | some (.pointer _)=>eqNop .ptr op x' y'
 | some (.slice _)=>eqNop .slice op x' y'
 | some (.map _ _)=>eqNop .map op x' y'
 | some (.func _ _ _)=>eqNop .func op x' y'
 | some (.struct _) | some (.array _ _)=>eqAop P op t x' y'
 | _=>none
def ccall (P:Program) (c:Call):Option MOp:=do
 let args ← c.args.toList.mapM copd
 match c.callee with
 | .value (.func f)=>some (.call f args)
 | .value x=>(copd x).map fun x=>.callv x args
 | .invoke _ _=>none
 | .builtin b=>match b,args with
   | .len,[x]=>match (c.argTypes[0]?).bind P.underlying with
     | some .string=>some (.len true x)
     | some (.slice _)=>some (.len false x)
     | some (.array n _)=>some (.lenC n)
     | some (.map _ _)=>some (.mlen x)
     | some (.pointer e)=>match P.underlying e with
       | some (.array n _)=>some (.lenC n)
       | _=>none
     | _=>none
   | .append,[s,x]=>match (c.argTypes[0]?).bind P.underlying,(c.argTypes[1]?).bind P.underlying with
     | some (.slice e),some (.slice _) | some (.slice e),some .string=>match P.info? e with
       | some i=>if i.bytes=0∨i.size=0 then none else (zeroL P e).map fun _=>.app i.size i.bytes s x
       | none=>none
     | _,_=>none
   | .copy,[d,s]=>match (c.argTypes[0]?).bind P.underlying with
     | some (.slice e)=>(sizeT P e).map fun n=>.cpy n d s
     | _=>none
   | .clear,[x]=>match (c.argTypes[0]?).bind P.underlying with
     | some (.slice e)=>match zeroL P e with
       | some zs=>if zs.length=0 then none else some (.clr zs x)
       | none=>none
     | _=>none
   | .min,[x,y]=>some (.min2 x y)
   | .max,[x,y]=>some (.max2 x y)
   | _,_=>none
def selfT (P:Program) (t:TypeId):Bool:=match P.underlying t with
 | some (.struct fs)=>match fs[0]? with
   | some f=>(match P.underlying f.type with
     | some (.pointer e)=>e == t
     | _=>false)
   | none=>false
 | _=>false
def cop1 (P:Program):Op→Option MOp
 | .move x | .assign x=>(copd x).map .mv
 | .pick c a b=>do return .pick (← copd c) (← copd a) (← copd b)
 | .box _ x=>(copd x).map .box
 | .alloc t=>if selfT P t then (zeroL P t).map (.allocT t) else (zeroL P t).map .alloc
 | .load t a=>do
   let a ← copd a
   let g ← isAggT P t
   let n ← sizeT P t
   return if g then .loadN n a else .load1 a
 | .store t a x=>do return .store (← sizeT P t) (← copd a) (← copd x)
 | .fieldAddr s x f=>do
   let x ← copd x
   match P.underlying s with
   | some (.struct fs)=>match fs[f]? with
     | some fl=>match sizeT P fl.type with
       | some 0=>none
       | some _=>some (.fadd fl.offset x)
       | none=>none
     | none=>none
   | _=>none
 | .indexAddr t x i=>do
   let x ← copd x
   let i ← copd i
   match P.underlying t with
   | some (.slice e)=>match sizeT P e with
     | some n=>some (.iaS n x i)
     | none=>none
   | some (.array len e)=>match sizeT P e with
     | some n=>some (.iaA len n x i)
     | none=>none
   | _=>none
 | .index t x i=>do
   let x ← copd x
   let i ← copd i
   match P.underlying t with
   | some .string=>some (.idxS x i)
   | some (.array len e)=>match sizeT P e,isAggT P e with
     | some n,some g=>some (.idxA len n g x i)
     | _,_=>none
   | _=>none
 | .field t x f=>do
   let x ← copd x
   match P.underlying t with
   | some (.struct fs)=>match fs[f]? with
     | some fl=>match sizeT P fl.type,isAggT P fl.type with
       | some n,some g=>some (.fld fl.offset n g x)
       | _,_=>none
     | none=>none
   | _=>none
 | .binOp op t x y _=>cbin P op t x y
 | .unOp .not _ x=>(copd x).map .not
 | .unOp .neg _ x=>(copd x).map .neg
 | .convert src dst x=>do
   let x ← copd x
   match P.underlying src,P.underlying dst with
   | some (.int _),some (.int k)=>some (.conv k x)
   | some .string,some (.slice e)=>match P.underlying e with
     | some (.int .u8)=>some (.s2b x)
     | _=>none
   | some (.slice e),some .string=>match P.underlying e with
     | some (.int .u8)=>some (.b2s x)
     | _=>none
   | _,_=>none
 | .makeInterface t x=>do
   let x ← copd x
   match P.underlying t with
   | some (.interface _)=>none
   | some _=>some (.mki t x)
   | none=>none
 | .makeFunc fn first cap=>do return .mkf fn (← first.toList.mapM copd) (← cap.toList.mapM copd)
 | .makeSlice t l c=>do
   let l ← copd l
   let c ← copd c
   match P.underlying t with
   | some (.slice e)=>match zeroL P e,P.info? e with
     | some zs,some i=>if i.size=0 then none else some (.mks i.size i.bytes zs l c)
     | _,_=>none
   | _=>none
 | .buildSlice t len parts=>match P.underlying t with
   | some (.slice e)=>match zeroL P e,sizeT P e with
     | some zs,some n=>if len * n > 2 ^ 24∨n=0 then none else
       (parts.toList.mapM fun p=>(copd p.2).map fun x=>(p.1,x)).bind fun ps=>if ps.all (fun p=>decide (p.1 < len)) then some (.bsl n len zs ps) else none
     | _,_=>none
   | _=>none
 | .build t parts=>match zeroL P t with
   | none=>none
   | some zs=>match P.underlying t with
     | some (.struct fs)=>(parts.toList.mapM fun (p:Nat × Operand)=>match fs[p.1]? with
        | some f=>match sizeT P f.type with
          | some n=>(copd p.2).map fun x=>(f.offset,n,x)
          | none=>none
        | none=>none).bind fun ps=>if fs.toList.all (fun (f:Field)=>(sizeT P f.type).isSome) then some (.bld zs ps) else none
     | some (.array _ e)=>match sizeT P e with
       | some n=>(parts.toList.mapM fun p=>(copd p.2).map fun x=>(p.1 * n,n,x)).map (.bld zs)
       | none=>none
     | _=>none
 | .slice t x lo hi mx=>do
   let x ← copd x
   let lo ← oopd lo
   let hi ← oopd hi
   let mx ← oopd mx
   match P.underlying t with
   | some .string=>if mx.isNone then some (.slcS x lo hi) else none
   | some (.slice e)=>match sizeT P e with
     | some n=>some (.slc n x lo hi mx)
     | none=>none
   | some (.array k e)=>match sizeT P e with
     | some n=>if mx.isNone then some (.slcA k n x lo hi) else none
     | none=>none
   | _=>none
 | .extract x i=>(copd x).map fun x=>.ext x i
 | .nilCheck x=>(copd x).map .nilck
 | .typeAssert x _ t ok=>do
   let x ← copd x
   match P.underlying t with
   | some (.interface _)=>none
   | some _=>(zero1 P t).map fun z=>.tasI t ok z x
   | none=>none
 | .makeMap t none=>match P.underlying t with
   | some (.map _ _)=>some .mkmap
   | _=>none
 | .lookup t x k ok=>do
   let x ← copd x
   let k ← copd k
   match P.underlying t with
   | some (.map kt e)=>match (P.underlying kt).bind keyKD,zero1 P e with
     | some kd,some z=>some (.mlook kd ok z x k)
     | _,_=>none
   | _=>none
 | .mapUpdate t m k v | .insert t m k v=>do
   let m ← copd m
   let k ← copd k
   let v ← copd v
   match P.underlying t with
   | some (.map kt _)=>match (P.underlying kt).bind keyKD with
     | some kd=>some (.mupd kd m k v)
     | none=>none
   | _=>none
 | .call c=>ccall P c
 | _=>none
def cop (P:Program) (o:Op):Option MOp:=match cop1 P o with
 | some m=>some m
 | none=>some .bad
end Go.Mini
namespace Go.Mini
open Go.RowKit (Below)
section inv
variable {μ:Nat→Blk} {n:Nat} {y:Value}
theorem VR.inv_bool {b:Bool} (h:VR μ n (.bool b) y):y=.bool b:=by cases h;rfl
theorem VR.inv_int {k:IntKind} {x:Int} (h:VR μ n (.int k x) y):y=.int k x:=by cases h;rfl
theorem VR.inv_string {s:ByteArray} (h:VR μ n (.string s) y):y=.string s:=by cases h;rfl
theorem VR.inv_nilPtr (h:VR μ n (.pointer none) y):y=.pointer none:=by cases h;rfl
theorem VR.inv_nilMap (h:VR μ n (.map none) y):y=.map none:=by cases h;rfl
theorem VR.inv_nilIface (h:VR μ n .nilIface y):y=.nilIface:=by cases h;rfl
theorem VR.inv_nilSlice {l c:Nat} (h:VR μ n (.slice none l c) y):y=.slice none 0 0∧l=0∧c=0:=by cases h;exact ⟨rfl,rfl,rfl⟩
theorem VR.inv_ptr {id off:Nat} (h:VR μ n (.pointer (some ⟨id,off,none⟩)) y):id < n∧y=.pointer (some ⟨(μ id).b,(μ id).o + off,none⟩):=by
 cases h with | ptr h=>exact ⟨h,rfl⟩
theorem VR.inv_ptrA {a:Addr} (h:VR μ n (.pointer (some a)) y):a.block < n∧a.spot=none∧y=.pointer (some ⟨(μ a.block).b,(μ a.block).o + a.off,none⟩):=by
 cases h with | ptr h=>exact ⟨h,rfl,rfl⟩
theorem VR.inv_map {id:Nat} (h:VR μ n (.map (some id)) y):id < n∧y=.map (some (μ id).b):=by cases h with | map h=>exact ⟨h,rfl⟩
theorem VR.inv_slice {a:Addr} {len cap:Nat} (h:VR μ n (.slice (some a) len cap) y):
 ∃ cap' o',y=.slice (some ⟨(μ a.block).b,o',none⟩) len cap'∧a.spot=none∧a.block < n∧len≤cap∧cap≤cap'∧(0 < cap→o'=(μ a.block).o + a.off)∧
   ((μ a.block).sz≠0→o' + cap' * (μ a.block).sz≤(μ a.block).n)∧((μ a.block).ex=true→cap'=cap):=by
 cases h with | slice h hl hc ho hz he=>exact ⟨_,_,rfl,rfl,h,hl,hc,ho,hz,he⟩
theorem VR.inv_agg {c:Array Value} (h:VR μ n (.agg c) y):∃ c',y=.agg c'∧VRs μ n c.toList c'.toList:=by cases h with | agg h=>exact ⟨_,rfl,h⟩
theorem VR.inv_tuple {c:Array Value} (h:VR μ n (.tuple c) y):∃ c',y=.tuple c'∧VRs μ n c.toList c'.toList:=by cases h with | tuple h=>exact ⟨_,rfl,h⟩
theorem VR.inv_iface {t:TypeId} {v:Value} (h:VR μ n (.iface t v) y):∃ v',y=.iface t v'∧VR μ n v v':=by cases h with | iface h=>exact ⟨_,rfl,h⟩
theorem VR.inv_func {fn:Fn} {f c:Array Value} (h:VR μ n (.func fn f c) y):
 ∃ f' c',y=.func fn f' c'∧VRs μ n f.toList f'.toList∧VRs μ n c.toList c'.toList:=by cases h with | func a b=>exact ⟨_,_,rfl,a,b⟩
theorem VR.one_eq {v:Value} (h:VR μ n v y):one y=one v:=by cases h<;>rfl
theorem VR.cells_size {v:Value} (h:VR μ n v y):y.cells.size=v.cells.size:=by have:=h.cells.length;simpa using this
theorem VRs.one_all:∀ {l l':List Value},VRs μ n l l'→l'.all one=l.all one
 | _,_,.nil=>rfl
 | _,_,.cons h hs=>by simp only [List.all_cons,h.one_eq,VRs.one_all hs]
theorem VR.of_closed {v:Value} (h:closed v=true):VR μ n v v:=by
 cases v with
 | agg cs=>exact .agg (.of_plain (by simpa [closed] using h))
 | tuple cs=>exact .tuple (.of_plain (by simpa [closed] using h))
 | iface t v=>exact .iface (.of_plain (by simpa [closed] using h))
 | _=>exact .of_plain (by simpa [closed] using h)
end inv
theorem copd_sound {μ:Nat→Blk} {n:Nat} {ts:Fr} {a:Act} (hf:∀ i,VR μ n (ts i) (a.tmps.getD i undef)) {x:Operand} {x':Opd} (h:copd x=some x'):
 VR μ n (mev ts x') (a.eval x):=by
 cases x with
 | tmp t=>simp only [copd,Option.some.injEq] at h;subst h;exact hf t
 | const v=>
   simp only [copd] at h
   split at h
   ·rename_i hc;simp only [Option.some.injEq] at h;subst h;exact .of_closed hc
   ·cases h
 | global g=>simp [copd] at h
 | func f=>simp only [copd,Option.some.injEq] at h;subst h;exact .func (.nil) (.nil)
theorem copds_sound {μ:Nat→Blk} {n:Nat} {ts:Fr} {a:Act} (hf:∀ i,VR μ n (ts i) (a.tmps.getD i undef)):
 ∀ {xs:List Operand} {xs':List Opd},xs.mapM copd=some xs'→VRs μ n (xs'.map (mev ts)) (xs.map a.eval)
 | [],xs',h=>by simp at h;subst h;exact .nil
 | x :: xs,xs',h=>by
   rw [List.mapM_cons] at h
   cases hx:copd x with
   | none=>simp [hx] at h
   | some x'=>
     cases hxs:xs.mapM copd with
     | none=>simp [hx,hxs] at h
     | some ys=>
       simp [hx,hxs] at h
       subst h
       exact .cons (copd_sound hf hx) (copds_sound hf hxs)
theorem rowL_eq:∀ (n k:Nat) (cs vs:List Value),rowL cs k n=some vs→vs.length=n∧∀ j,j < n→vs[j]?=cs[k + j]?
 | 0,k,cs,vs,h=>by simp [rowL] at h;subst h;exact ⟨rfl,fun j hj=>by omega⟩
 | n + 1,k,cs,vs,h=>by
   simp only [rowL] at h
   split at h
   ·rename_i v hv
    cases hr:rowL cs (k + 1) n with
    | none=>simp [hr] at h
    | some ws=>
      simp [hr] at h
      subst h
      obtain ⟨h1,h2⟩:=rowL_eq n (k + 1) cs ws hr
      refine ⟨by simp [h1],fun j hj=>?_⟩
      cases j with
      | zero=>simp [hv]
      | succ j=>
        simp only [List.getElem?_cons_succ]
        rw [h2 j (by omega),show k + 1 + j=k + (j + 1) by omega]
   ·cases h
theorem rowL_some:∀ (n k:Nat) (cs:List Value),k + n≤cs.length→rowL cs k n=some ((cs.drop k).take n)
 | 0,k,cs,h=>by simp [rowL]
 | n + 1,k,cs,h=>by
   have hk:k < cs.length:=by omega
   simp only [rowL,List.getElem?_eq_getElem hk,rowL_some n (k + 1) cs (by omega),Option.map_some]
   rw [List.drop_eq_getElem_cons hk,List.take_succ_cons]
theorem Sim.rowOf {B:Fz} {w0 w:World} {μ:Nat→Blk} {σ:H} (hs:Sim B w0 μ σ w) {id:Nat} {cs:List Value}
 (h:(∃ sz,σ.get id=.cells sz cs)∨σ.get id=.ro cs∨∃ T,σ.get id=.typ T cs):∃ cs' t fz,w.heap[(μ id).b]?=some (.cells cs' t fz)∧CellsR μ σ.size cs cs' (μ id).o:=by
 rcases h with ⟨sz,h⟩ | h | ⟨T,h⟩
 ·obtain ⟨_,cs',t,fz,h1,_,h2⟩:=hs.own id sz cs h;exact ⟨cs',t,fz,h1,h2⟩
 ·exact (hs.ro id cs h).2
 ·obtain ⟨_,_,cs',h1,_,h2⟩:=hs.typ id T cs h;exact ⟨cs',T,(0,0),h1,h2⟩
theorem Sim.cell {B:Fz} {w0 w:World} {μ:Nat→Blk} {σ:H} (hs:Sim B w0 μ σ w) {id off:Nat} {v:Value} (h:σ.cell id off=some v):
 ∃ v',w.cell? ⟨(μ id).b,(μ id).o + off,none⟩=some v'∧VR μ σ.size v v':=by
 unfold H.cell at h
 split at h
 all_goals first | cases h | skip
 all_goals
  rename_i cs hc
  obtain ⟨cs',t,fz,h1,h2⟩:=hs.rowOf (by first | exact .inl ⟨_,hc⟩ | exact .inr (.inl hc) | exact .inr (.inr ⟨_,hc⟩))
  obtain ⟨v',h3,h4⟩:=h2 off v h
  exact ⟨v',by simp [World.cell?,h1,h3],h4⟩
theorem Sim.row {B:Fz} {w0 w:World} {μ:Nat→Blk} {σ:H} (hs:Sim B w0 μ σ w) {P:Program} {id off n:Nat} {vs:List Value} (h:σ.row id off n=some vs):
 ∃ vs',(loadCells ⟨(μ id).b,(μ id).o + off,none⟩ n).run P w=.ok vs'.toArray w∧VRs μ σ.size vs vs':=by
 unfold H.row at h
 split at h
 all_goals first | cases h | skip
 all_goals
  rename_i cs hc
  obtain ⟨cs',t,fz,h1,h2⟩:=hs.rowOf (by first | exact .inl ⟨_,hc⟩ | exact .inr (.inl hc) | exact .inr (.inr ⟨_,hc⟩))
  obtain ⟨hl,hg⟩:=rowL_eq n off cs vs h
  have hin:(μ id).o + off + n≤cs'.size∨n=0:=by
   rcases Nat.eq_zero_or_pos n with e | e
   ·exact .inr e
   ·left
    have hv:vs[n - 1]?=some vs[n - 1]:=List.getElem?_eq_getElem (by omega)
    rw [hg (n - 1) (by omega)] at hv
    obtain ⟨v',h3,_⟩:=h2 _ _ hv
    rcases Nat.lt_or_ge ((μ id).o + (off + (n - 1))) cs'.size with x | x
    ·omega
    ·rw [Array.getElem?_eq_none x] at h3;cases h3
  have hlen:((cs'.toList.drop ((μ id).o + off)).take n).length=n:=by
   rw [List.length_take,List.length_drop,Array.length_toList];omega
  refine ⟨(cs'.toList.drop ((μ id).o + off)).take n,?_,.of_get (by rw [hlen,hl]) fun i v hv=>?_⟩
  ·have:=run_loadCells_list (P:=P) (w:=w) ⟨(μ id).b,(μ id).o + off,none⟩ ((cs'.toList.drop ((μ id).o + off)).take n) (fun j v hv=>by
    rw [List.getElem?_take] at hv
    split at hv
    ·rw [List.getElem?_drop,Array.getElem?_toList] at hv
     unfold Addr.add
     split
     ·rename_i e;subst e;simp [World.cell?,h1];simpa using hv
     ·simp [World.cell?,h1];exact hv
    ·cases hv)
   rw [hlen] at this
   exact this
  ·have hi:i < n:=by
    rcases Nat.lt_or_ge i n with x | x
    ·exact x
    ·rw [List.getElem?_eq_none (by omega)] at hv;cases hv
   rw [hg i hi] at hv
   obtain ⟨v',h3,h4⟩:=h2 _ _ hv
   refine ⟨v',?_,h4⟩
   rw [List.getElem?_take,if_pos hi,List.getElem?_drop,Array.getElem?_toList,Nat.add_assoc]
   exact h3
def splA (c:Array Value):Nat→List Value→Array Value
 | _,[]=>c
 | k,v :: vs=>splA (c.setIfInBounds k v) (k + 1) vs
theorem splA_size:∀ (vs:List Value) (c:Array Value) (k:Nat),(splA c k vs).size=c.size
 | [],_,_=>rfl
 | v :: vs,c,k=>by simp [splA,splA_size vs]
theorem spl_length:∀ (vs cs:List Value) (k:Nat),(spl cs k vs).length=cs.length
 | [],_,_=>rfl
 | v :: vs,cs,k=>by simp [spl,spl_length vs]
theorem CellsR.spl {μ:Nat→Blk} {n o:Nat}:∀ {vs vs':List Value} {cs:List Value} {cs':Array Value} {k:Nat},VRs μ n vs vs'→CellsR μ n cs cs' o→k + vs.length≤cs.length→
 CellsR μ n (Mini.spl cs k vs) (splA cs' (o + k) vs') o
 | _,_,cs,cs',k,.nil,h,_=>h
 | _,_,cs,cs',k,.cons (v:=v) (v':=v') (l:=l) hv hs,h,hk=>by
   simp only [Mini.spl,splA]
   have h1:CellsR μ n (cs.set k v) (cs'.setIfInBounds (o + k) v') o:=by
    intro j u hu
    by_cases e:k=j
    ·subst e
     have hlt:k < cs.length:=by simp at hk;omega
     rw [List.getElem?_set_self hlt] at hu
     cases hu
     obtain ⟨x,hx,_⟩:=h k cs[k] (List.getElem?_eq_getElem hlt)
     have hin:o + k < cs'.size:=by
      rcases Nat.lt_or_ge (o + k) cs'.size with y | y
      ·exact y
      ·rw [Array.getElem?_eq_none y] at hx;cases hx
     exact ⟨v',by simp [Array.getElem?_setIfInBounds,hin],hv⟩
    ·rw [List.getElem?_set_ne e] at hu
     obtain ⟨x,hx,hr⟩:=h j u hu
     exact ⟨x,by rw [Array.getElem?_setIfInBounds,if_neg (by omega)];exact hx,hr⟩
   have:=CellsR.spl (k:=k + 1) hs h1 (by simp at hk ⊢;omega)
   rwa [← Nat.add_assoc] at this
theorem run_storeRow (P:Program) (b o:Nat) (t:TypeId) (fz:Nat × Nat):∀ (vs:List Value) (i:Nat) (cur:Array Value) (w:World),
 w.heap[b]?=some (.cells cur t fz)→Unfrozen cur fz→o + i + vs.length≤cur.size→vs.all one=true→
 (storeCells ⟨b,o,none⟩ vs i).run P w=.ok () { w with heap:=w.heap.setIfInBounds b (.cells (splA cur (o + i) vs) t fz) }
 | [],i,cur,w,h,_,_,_=>by
   have hb:b < w.heap.size:=by
    rcases Nat.lt_or_ge b w.heap.size with y | y
    ·exact y
    ·rw [Array.getElem?_eq_none y] at h;cases h
   have:w.heap.setIfInBounds b (.cells cur t fz)=w.heap:=by
    apply Array.ext_getElem?
    intro k
    rw [Array.getElem?_setIfInBounds]
    split
    ·rename_i e;subst e;exact h.symm
    ·rfl
   simp [storeCells,splA,this]
 | v :: vs,i,cur,w,h,hz,hl,ho=>by
   have hb:b < w.heap.size:=by
    rcases Nat.lt_or_ge b w.heap.size with y | y
    ·exact y
    ·rw [Array.getElem?_eq_none y] at h;cases h
   simp only [List.all_cons,Bool.and_eq_true] at ho
   simp only [List.length_cons] at hl
   have hadd:(⟨b,o,none⟩:Addr).add i=⟨b,o + i,none⟩:=by
    unfold Addr.add
    split
    ·rename_i e;subst e;rfl
    ·rfl
   have hv':v.oneCell'=true:=by cases v<;>first | rfl | simp [one] at ho
   have hc:w.cell? ⟨b,o + i,none⟩=some cur[o + i]:=by simp [World.cell?,h]
   have hfz:w.frozen? ⟨b,o + i,none⟩=false:=by
    simp only [World.frozen?,h]
    have:=hz (o + i) (by omega)
    simp only [Bool.and_eq_false_iff,decide_eq_false_iff_not]
    rcases Nat.lt_or_ge (o + i) fz.1 with y | y
    ·exact .inl (by omega)
    ·exact .inr (fun x=>this ⟨y,x⟩)
   have hset:w.setCell ⟨b,o + i,none⟩ v={ w with heap:=w.heap.setIfInBounds b (.cells (cur.setIfInBounds (o + i) v) t fz) }:=by
    unfold World.setCell
    congr 1
    apply Array.ext_getElem?
    intro k
    rw [Array.getElem?_modify,Array.getElem?_setIfInBounds]
    split
    ·rename_i e;subst e;show Option.map _ (w.heap[b]?)=_;rw [h];rfl
    ·rfl
   have ih:=run_storeRow P b o t fz vs (i + 1) (cur.setIfInBounds (o + i) v) (w.setCell ⟨b,o + i,none⟩ v) (by rw [hset];simp [Array.getElem?_setIfInBounds,hb])
    (fun j hj=>hz j (by simpa using hj)) (by simp;omega) ho.2
   simp only [storeCells,hadd,Sem.run_bind]
   rw [run_store P w _ v .plain hv',hc]
   simp only [hfz,Bool.false_eq_true,if_false,Result.andThen_ok]
   rw [ih,hset]
   simp only [splA,← Nat.add_assoc]
   congr 2
   apply Array.ext_getElem?
   intro k
   simp only [Array.getElem?_setIfInBounds]
   split<;>simp_all
theorem Sim.putRow {B:Fz} {w0 w:World} {μ:Nat→Blk} {σ τ:H} (hs:Sim B w0 μ σ w) {P:Program} {id off:Nat} {vs vs':List Value} (hv:VRs μ σ.size vs vs')
 (h:Mini.putRow σ id off vs=some τ):∃ w',(storeCells ⟨(μ id).b,(μ id).o + off,none⟩ vs').run P w=.ok () w'∧Sim B w0 μ τ w'∧τ.size=σ.size:=by
 unfold Mini.putRow at h
 split at h
 ·rename_i sz cs hc
  split at h
  ·rename_i hcond
   simp only [Option.some.injEq] at h
   subst h
   obtain ⟨h1,cs',t,fz,h2,⟨h3,h3'⟩,h4⟩:=hs.own id sz cs hc
   have hsz:(μ id).o + off + vs'.length≤cs'.size∨vs'=[]:=by
    rcases Nat.eq_zero_or_pos vs.length with e | e
    ·right
     have:=hv.length
     rw [e] at this
     exact List.length_eq_zero_iff.1 this
    ·left
     have hlt:off + (vs.length - 1) < cs.length:=by omega
     obtain ⟨x,hx,_⟩:=h4 _ _ (List.getElem?_eq_getElem hlt)
     rcases Nat.lt_or_ge ((μ id).o + (off + (vs.length - 1))) cs'.size with y | y
     ·rw [hv.length];omega
     ·rw [Array.getElem?_eq_none y] at hx;cases hx
   refine ⟨{ w with heap:=w.heap.setIfInBounds (μ id).b (.cells (splA cs' ((μ id).o + off) vs') t fz) },?_,?_,by simp⟩
   ·rcases hsz with hsz | hsz
    ·exact run_storeRow P _ _ t fz vs' 0 cs' w h2 h3 (by simpa using hsz) (by rw [hv.one_all];exact hcond.2)
    ·subst hsz
     have hb:(μ id).b < w.heap.size:=hs.fin id (H.lt_of_cells hc)
     have:w.heap.setIfInBounds (μ id).b (.cells cs' t fz)=w.heap:=by
      apply Array.ext_getElem?
      intro k
      rw [Array.getElem?_setIfInBounds]
      split
      ·rename_i e;subst e;exact h2.symm
      ·rfl
     simp [storeCells,splA,this]
   ·exact hs.setOwn hc rfl ⟨fun j hj=>h3 j (by simpa [splA_size] using hj),by rw [splA_size];exact h3'⟩ (.inl ⟨_,rfl,.spl hv h4 hcond.1⟩)
  ·cases h
 ·rename_i T cs hc
  split at h
  ·rename_i hcond
   simp only [Option.some.injEq] at h
   subst h
   obtain ⟨h1,⟨h0,_⟩,cs',h2,h3',h4⟩:=hs.typ id T cs hc
   have h3:Unfrozen cs' (0,0):=fun j hj=>by omega
   have hvl:=hv.length
   refine ⟨{ w with heap:=w.heap.setIfInBounds (μ id).b (.cells (splA cs' ((μ id).o + off) vs') T (0,0)) },?_,?_,by simp⟩
   ·exact run_storeRow P _ _ T (0,0) vs' 0 cs' w h2 h3 (by simp;omega) (by rw [hv.one_all];exact hcond.2)
   ·exact hs.setTyp hc (by rw [splA_size,h3',spl_length]) (.spl hv h4 hcond.1)
  ·cases h
 ·cases h
end Go.Mini
namespace Go.Mini
open Go.RowKit (Below)
def Told (P:Program) (B:Fz) (w0:World) (μ:Nat→Blk) (σ τ:H) (v:Value) (s:Sem Next) (w:World):Prop:=
 ∃ v' w' μ',(s.run P w=.ok (.value v') w'∨(s.run P w=.ok .skip w'∧v'=undef))∧Sim B w0 μ' τ w'∧VR μ' τ.size v v'∧Agr σ.size μ μ'∧σ.size≤τ.size
section
variable {P:Program} {B:Fz} {w0 w:World} {μ:Nat→Blk} {σ τ:H}
theorem Told.same {v v':Value} {s:Sem Next} (hs:Sim B w0 μ σ w) (h:s.run P w=.ok (.value v') w) (hv:VR μ σ.size v v'):Told P B w0 μ σ σ v s w:=
 ⟨v',w,μ,.inl h,hs,hv,.refl _ _,Nat.le_refl _⟩
theorem run_und {t:TypeId} {d:TypeDesc} (h:P.underlying t=some d) (w:World):(underlying t).run P w=.ok d w:=by
 simp [underlying,h]
theorem run_size {t:TypeId} {n:Nat} (h:sizeT P t=some n) (w:World):(sizeOf t).run P w=.ok n w:=by
 unfold sizeT at h
 cases hi:P.info? t with
 | none=>simp [hi] at h
 | some i=>simp [hi] at h;simp [sizeOf,typeInfo,hi,h]
theorem run_agg {t:TypeId} {g:Bool} (h:isAggT P t=some g) (w:World):(isAgg t).run P w=.ok g w:=by
 unfold isAggT at h
 cases hd:P.underlying t with
 | none=>simp [hd] at h
 | some d=>
   simp only [isAgg,Sem.run_bind,run_und hd,Result.andThen_ok]
   cases d<;>simp [hd] at h<;>subst h<;>rfl
theorem run_info {t:TypeId} {i:TypeInfo} (h:P.info? t=some i) (w:World):(typeInfo t).run P w=.ok i w:=by simp [typeInfo,h]
theorem zeroL_spec {t:TypeId} {zs:List Value} (h:zeroL P t=some zs):∃ i z,P.info? t=some i∧i.zero=some z∧z.cells.toList=zs∧zs.all plain=true∧zs.length=i.size∧
 ∀ w,(zeroValue t).run P w=.ok z w:=by
 unfold zeroL at h
 cases hi:P.info? t with
 | none=>simp [hi] at h
 | some i=>
   cases hz:i.zero with
   | none=>simp [hi,hz] at h
   | some z=>
     simp only [hi,hz] at h
     split at h
     ·rename_i hc
      simp only [Option.some.injEq] at h
      subst h
      exact ⟨i,z,rfl,hz,rfl,hc.1,by simpa using hc.2,fun w=>by simp [zeroValue,typeInfo,hi,hz]⟩
     ·cases h
theorem zero1_spec {t:TypeId} {z:Value} (h:zero1 P t=some z):closed z=true∧∀ w,(zeroValue t).run P w=.ok z w:=by
 unfold zero1 at h
 cases hi:P.info? t with
 | none=>simp [hi] at h
 | some i=>
   cases hz:i.zero with
   | none=>simp [hi,hz] at h
   | some z'=>
     simp only [hi,hz] at h
     split at h
     ·rename_i hc
      simp only [Option.some.injEq] at h
      subst h
      exact ⟨hc,fun w=>by simp [zeroValue,typeInfo,hi,hz]⟩
     ·cases h
theorem Sim.newRow {sz:Nat} {cs cs':List Value} {more:List Value} (hs:Sim B w0 μ σ w) (h:VRs μ σ.size cs cs') (t:TypeId) {fz:Nat × Nat} (hz:Unfrozen (cs' ++ more).toArray fz):
 Sim B w0 (setMu μ σ.size ⟨w.heap.size,0,sz,cs'.length + more.length,sz == 0⟩) (σ.push (.cells sz cs)) { w with heap:=w.heap.push (.cells (cs' ++ more).toArray t fz) }:=by
 have:=hs.push (sz:=sz) (t:=t) hz (cs:=cs) fun j v hv=>by
  obtain ⟨v',h1,h2⟩:=h.get hv
  refine ⟨v',?_,h2⟩
  simp only [Nat.zero_add,List.getElem?_toArray]
  rw [List.getElem?_append_left]
  ·exact h1
  ·rcases Nat.lt_or_ge j cs'.length with x | x
   ·exact x
   ·rw [List.getElem?_eq_none x] at h1;cases h1
 simpa using this
theorem unfrozen0 (c:Array Value):Unfrozen c (0,0):=fun j _ h=>by simp at h
theorem setMu_ptr (μ:Nat→Blk) (k:Nat) (p:Blk) (ho:p.o=0):VR (setMu μ k p) (k + 1) (.pointer (some ⟨k,0,none⟩)) (.pointer (some ⟨p.b,0,none⟩)):=by
 have:=VR.ptr (μ:=setMu μ k p) (n:=k + 1) (id:=k) (off:=0) (by omega)
 rw [setMu_self,ho] at this
 exact this
theorem setMu_slice (μ:Nat→Blk) (k:Nat) (p:Blk) {len cap cap':Nat} (hl:len≤cap) (hc:cap≤cap') (hz:p.sz≠0→p.o + cap' * p.sz≤p.n) (he:p.ex=true→cap'=cap):
 VR (setMu μ k p) (k + 1) (.slice (some ⟨k,0,none⟩) len cap) (.slice (some ⟨p.b,p.o,none⟩) len cap'):=by
 have:=VR.slice (μ:=setMu μ k p) (n:=k + 1) (id:=k) (off:=0) (len:=len) (cap:=cap) (cap':=cap') (o':=p.o) (by omega) hl hc (fun _=>by rw [setMu_self];rfl)
  (by rw [setMu_self];exact hz) (by rw [setMu_self];exact he)
 rw [setMu_self] at this
 exact this
variable {ts:Fr} {ρ:Operand→Value} {v:Value}
theorem told_mv (hs:Sim B w0 μ σ w) {x':Opd} {u:Value} (hx:VR μ σ.size (mev ts x') u) (hm:mop ts σ (.mv x')=some (v,τ)) {s:Sem Next}
 (hr:s.run P w=.ok (.value u) w):Told P B w0 μ σ τ v s w:=by
 simp only [mop,Option.some.injEq,Prod.mk.injEq] at hm
 obtain ⟨rfl,rfl⟩:=hm
 exact .same hs hr hx
theorem told_pick (hs:Sim B w0 μ σ w) {c a b:Opd} {c' a' b':Value} (hc:VR μ σ.size (mev ts c) c') (ha:VR μ σ.size (mev ts a) a') (hb:VR μ σ.size (mev ts b) b')
 (hm:mop ts σ (.pick c a b)=some (v,τ)):Told P B w0 μ σ τ v (do pure (.value (if ← asBool c' then a' else b'))) w:=by
 simp only [mop] at hm
 split at hm
 ·rename_i t e
  rw [e] at hc
  obtain rfl:=hc.inv_bool
  simp only [Option.some.injEq,Prod.mk.injEq] at hm
  obtain ⟨rfl,rfl⟩:=hm
  refine .same (v':=if t then a' else b') hs (by simp [asBool]) ?_
  cases t
  ·simpa using hb
  ·simpa using ha
 ·cases hm
theorem told_box (hs:Sim B w0 μ σ w) {x:Opd} {x':Value} {t:TypeId} (hx:VR μ σ.size (mev ts x) x') (hm:mop ts σ (.box x)=some (v,τ)):
 Told P B w0 μ σ τ v (do pure (.value (← Instr.box t x'))) w:=by
 simp only [mop,Option.some.injEq,Prod.mk.injEq] at hm
 obtain ⟨rfl,rfl⟩:=hm
 refine ⟨.pointer (some ⟨w.heap.size,0,none⟩),_,_,.inl (by simp [Instr.box,newVar,Go.newRow];rfl),?_,setMu_ptr _ _ ⟨w.heap.size,0,0,x'.cells.size,true⟩ rfl,.setMu _ _,by simp⟩
 have:=hs.newRow (sz:=0) (more:=[]) hx.cells t (fz:=(0,0)) (unfrozen0 _)
 simpa using this
theorem told_alloc (hs:Sim B w0 μ σ w) {zs:List Value} {t:TypeId} (hz:zeroL P t=some zs) (hm:mop ts σ (.alloc zs)=some (v,τ)):
 Told P B w0 μ σ τ v (do pure (.value (← Instr.alloc t true (.tuple #[])))) w:=by
 simp only [mop,Option.some.injEq,Prod.mk.injEq] at hm
 obtain ⟨rfl,rfl⟩:=hm
 obtain ⟨i,z,hi,hz1,hz2,hz3,hz4,hz5⟩:=zeroL_spec hz
 refine ⟨.pointer (some ⟨w.heap.size,0,none⟩),_,_,.inl (by simp [Instr.alloc,newVar,Go.newRow,hz5];rfl),?_,setMu_ptr _ _ ⟨w.heap.size,0,0,zs.length,true⟩ rfl,.setMu _ _,by simp⟩
 have:=hs.newRow (sz:=0) (more:=[]) (VRs.of_plain hz3) t (fz:=(0,0)) (unfrozen0 _)
 rw [← hz2] at this ⊢
 simpa using this
theorem told_allocT (hs:Sim B w0 μ σ w) {zs:List Value} {t:TypeId} (hz:zeroL P t=some zs) (hm:mop ts σ (.allocT t zs)=some (v,τ)):
 Told P B w0 μ σ τ v (do pure (.value (← Instr.alloc t true (.tuple #[])))) w:=by
 simp only [mop,Option.some.injEq,Prod.mk.injEq] at hm
 obtain ⟨rfl,rfl⟩:=hm
 obtain ⟨i,z,hi,hz1,hz2,hz3,hz4,hz5⟩:=zeroL_spec hz
 refine ⟨.pointer (some ⟨w.heap.size,0,none⟩),_,_,.inl (by simp [Instr.alloc,newVar,Go.newRow,hz5];rfl),?_,setMu_ptr _ _ ⟨w.heap.size,0,0,zs.length,true⟩ rfl,.setMu _ _,by simp⟩
 have hr:VRs μ σ.size zs zs:=VRs.of_plain hz3
 have:=hs.pushTyp (T:=t) (cs:=zs) (cs':=zs.toArray) (by simp) (fun j v hv=>⟨v,by simpa using hv,by obtain ⟨v',h1,h2⟩:=hr.get hv;rw [hv] at h1;cases h1;exact h2⟩)
 rw [← hz2] at this ⊢
 simpa using this
theorem told_load1 (hs:Sim B w0 μ σ w) {x:Opd} {x':Value} {t:TypeId} (hx:VR μ σ.size (mev ts x) x') (hg:isAggT P t=some false) (hm:mop ts σ (.load1 x)=some (v,τ)):
 Told P B w0 μ σ τ v (do pure (.value (← Instr.loadAt t x'))) w:=by
 simp only [mop] at hm
 split at hm
 ·rename_i id off e
  rw [e] at hx
  obtain ⟨hid,rfl⟩:=hx.inv_ptr
  cases hc:σ.cell id off with
  | none=>simp [hc] at hm
  | some u=>
    simp [hc] at hm
    obtain ⟨rfl,rfl⟩:=hm
    obtain ⟨u',h1,h2⟩:=hs.cell hc
    exact .same hs (by simp [Instr.loadAt,Instr.sureAddr,loadVar,run_agg hg,h1]) h2
 ·cases hm
theorem told_loadN (hs:Sim B w0 μ σ w) {x:Opd} {x':Value} {t:TypeId} {n:Nat} (hx:VR μ σ.size (mev ts x) x') (hg:isAggT P t=some true) (hn:sizeT P t=some n)
 (hm:mop ts σ (.loadN n x)=some (v,τ)):Told P B w0 μ σ τ v (do pure (.value (← Instr.loadAt t x'))) w:=by
 simp only [mop] at hm
 split at hm
 ·rename_i id off e
  rw [e] at hx
  obtain ⟨hid,rfl⟩:=hx.inv_ptr
  cases hc:σ.row id off n with
  | none=>simp [hc] at hm
  | some u=>
    simp [hc] at hm
    obtain ⟨rfl,rfl⟩:=hm
    obtain ⟨u',h1,h2⟩:=hs.row (P:=P) hc
    exact .same hs (by simp [Instr.loadAt,Instr.sureAddr,loadVar,run_agg hg,run_size hn,h1];rfl) (.agg (by simpa using h2))
 ·cases hm
theorem told_store (hs:Sim B w0 μ σ w) {x y:Opd} {x' y':Value} {t:TypeId} {n:Nat} (hx:VR μ σ.size (mev ts x) x') (hy:VR μ σ.size (mev ts y) y') (hn:sizeT P t=some n)
 (hm:mop ts σ (.store n x y)=some (v,τ)):Told P B w0 μ σ τ v (do Instr.storeAt t x' y';pure .skip) w:=by
 simp only [mop] at hm
 split at hm
 ·rename_i id off e
  rw [e] at hx
  obtain ⟨hid,rfl⟩:=hx.inv_ptr
  split at hm
  ·rename_i hsz
   cases hp:putRow σ id off (mev ts y).cells.toList with
   | none=>simp [hp] at hm
   | some τ'=>
     simp [hp] at hm
     obtain ⟨rfl,rfl⟩:=hm
     obtain ⟨w',h1,h2,h3⟩:=hs.putRow (P:=P) hy.cells hp
     refine ⟨undef,w',μ,.inr ⟨?_,rfl⟩,h2,.tuple .nil,.refl _ _,by omega⟩
     have hsz':y'.cells.size=n:=by rw [hy.cells_size,hsz]
     simp [Instr.storeAt,Instr.sureAddr,storeVar,run_size hn,hsz',h1]
  ·cases hm
 ·cases hm
theorem told_fadd (hs:Sim B w0 μ σ w) {x:Opd} {x':Value} {t:TypeId} {fs:Array Field} {f:Nat} {fl:Field} {n:Nat} (hx:VR μ σ.size (mev ts x) x') (hu:P.underlying t=some (.struct fs))
 (hf:fs[f]?=some fl) (hn:sizeT P fl.type=some (n + 1)) (hm:mop ts σ (.fadd fl.offset x)=some (v,τ)):Told P B w0 μ σ τ v (do pure (.value (← Instr.fieldAt t x' f))) w:=by
 simp only [mop] at hm
 split at hm
 ·rename_i id off e
  rw [e] at hx
  obtain ⟨hid,rfl⟩:=hx.inv_ptr
  simp only [Option.some.injEq,Prod.mk.injEq] at hm
  obtain ⟨rfl,rfl⟩:=hm
  refine .same (v':=.pointer (some ⟨(μ id).b,(μ id).o + off + fl.offset,none⟩)) hs ?_ (by rw [Nat.add_assoc];exact .ptr hid)
  have:(⟨(μ id).b,(μ id).o + off,none⟩:Addr).add fl.offset=⟨(μ id).b,(μ id).o + off + fl.offset,none⟩:=by
   unfold Addr.add;split
   ·rename_i e;rw [e];rfl
   ·rfl
  simp [Instr.fieldAt,Instr.sureAddr,run_und hu,hf,fieldPlace,run_size hn,this]
 ·cases hm
theorem addr_add (b o k:Nat):(⟨b,o,none⟩:Addr).add k=⟨b,o + k,none⟩:=by
 unfold Addr.add;split
 ·rename_i e;rw [e];rfl
 ·rfl
theorem told_iaS (hs:Sim B w0 μ σ w) {x y:Opd} {x' y':Value} {t e:TypeId} {n:Nat} (hx:VR μ σ.size (mev ts x) x') (hy:VR μ σ.size (mev ts y) y') (hu:P.underlying t=some (.slice e))
 (hn:sizeT P e=some n) (hm:mop ts σ (.iaS n x y)=some (v,τ)):Told P B w0 μ σ τ v (do pure (.value (← Instr.indexAt t x' y'))) w:=by
 simp only [mop] at hm
 split at hm
 ·rename_i id off len cap k q e1 e2
  rw [e1] at hx
  rw [e2] at hy
  obtain rfl:=hy.inv_int
  obtain ⟨cap',o',rfl,_,hid,hl,hc,ho,_,_⟩:=hx.inv_slice
  split at hm
  ·rename_i hb
   simp only [Option.some.injEq,Prod.mk.injEq] at hm
   obtain ⟨rfl,rfl⟩:=hm
   have ho':=ho (by omega)
   dsimp only at ho' hid ⊢
   refine .same (v':=.pointer (some ⟨(μ id).b,(μ id).o + off + q.toNat * n,none⟩)) hs ?_ (by rw [Nat.add_assoc];exact .ptr hid)
   simp [Instr.indexAt,asIntOf,run_und hu,run_size hn,hb,addr_add,ho']
  ·cases hm
 ·cases hm
theorem told_iaA (hs:Sim B w0 μ σ w) {x y:Opd} {x' y':Value} {t e:TypeId} {len n:Nat} (hx:VR μ σ.size (mev ts x) x') (hy:VR μ σ.size (mev ts y) y') (hu:P.underlying t=some (.array len e))
 (hn:sizeT P e=some n) (hm:mop ts σ (.iaA len n x y)=some (v,τ)):Told P B w0 μ σ τ v (do pure (.value (← Instr.indexAt t x' y'))) w:=by
 simp only [mop] at hm
 split at hm
 ·rename_i id off k q e1 e2
  rw [e1] at hx
  rw [e2] at hy
  obtain rfl:=hy.inv_int
  obtain ⟨hid,rfl⟩:=hx.inv_ptr
  split at hm
  ·rename_i hb
   simp only [Option.some.injEq,Prod.mk.injEq] at hm
   obtain ⟨rfl,rfl⟩:=hm
   refine .same (v':=.pointer (some ⟨(μ id).b,(μ id).o + off + q.toNat * n,none⟩)) hs ?_ (by rw [Nat.add_assoc];exact .ptr hid)
   simp [Instr.indexAt,asIntOf,Instr.sureAddr,run_und hu,run_size hn,hb,addr_add]
  ·cases hm
 ·cases hm
theorem told_idxS (hs:Sim B w0 μ σ w) {x y:Opd} {x' y':Value} {t:TypeId} (hx:VR μ σ.size (mev ts x) x') (hy:VR μ σ.size (mev ts y) y') (hu:P.underlying t=some .string)
 (hm:mop ts σ (.idxS x y)=some (v,τ)):Told P B w0 μ σ τ v (do pure (.value (← Instr.index t x' y'))) w:=by
 simp only [mop] at hm
 split at hm
 ·rename_i s k q e1 e2
  rw [e1] at hx
  rw [e2] at hy
  obtain rfl:=hy.inv_int
  obtain rfl:=hx.inv_string
  split at hm
  ·rename_i hb
   simp only [Option.some.injEq,Prod.mk.injEq] at hm
   obtain ⟨rfl,rfl⟩:=hm
   have hlt:q.toNat < s.size:=by omega
   refine .same (v':=.int .u8 (s.data.toList.getD q.toNat 0).toNat) hs ?_ (.int _ _)
   have hg:s[q.toNat]?=some s[q.toNat]:=getElem?_pos s q.toNat hlt
   have hd:s.data.toList.getD q.toNat 0=s[q.toNat]:=by
    rw [List.getD_eq_getElem?_getD,Array.getElem?_toList,Array.getElem?_eq_getElem hlt];rfl
   have hd':s.data[q.toNat]?.getD 0=s[q.toNat]:=by rw [Array.getElem?_eq_getElem hlt];rfl
   simp [Instr.index,asIntOf,run_und hu,hb.1,hg,hd']
  ·cases hm
 ·cases hm
theorem run_part {t:TypeId} {g:Bool} {n off:Nat} {c:Array Value} (hg:isAggT P t=some g) (hn:sizeT P t=some n):
 (part t c off).run P w=if g then .ok (.agg (c.extract off (off + n))) w else match c[off]? with | some v=>.ok v w | none=>.halt (.stuck "part: no such cell") w:=by
 unfold part
 simp only [Sem.run_bind,run_agg hg,Result.andThen_ok]
 cases g
 ·simp;cases c[off]?<;>rfl
 ·simp [run_size hn]
theorem extract_list (c:Array Value) (off n:Nat):(c.extract off (off + n)).toList=(c.toList.drop off).take n:=by
 rw [Array.toList_extract,List.extract_eq_take_drop,show off + n - off=n by omega]
theorem told_part (hs:Sim B w0 μ σ w) {t:TypeId} {g:Bool} {n off:Nat} {c c':Array Value} (h:VRs μ σ.size c.toList c'.toList) (hg:isAggT P t=some g) (hn:sizeT P t=some n)
 (hm:(if g then some (Value.agg ((c.toList.drop off).take n).toArray,σ) else (c.toList[off]?).map fun v=>(v,σ))=some (v,τ)):
 τ=σ∧∃ v',(part t c' off).run P w=.ok v' w∧VR μ σ.size v v':=by
 rw [run_part hg hn]
 cases g
 ·simp only [Bool.false_eq_true,if_false] at hm ⊢
  cases hc:c.toList[off]? with
  | none=>simp [hc] at hm
  | some u=>
    simp only [hc,Option.map_some,Option.some.injEq,Prod.mk.injEq] at hm
    obtain ⟨rfl,rfl⟩:=hm
    obtain ⟨u',h1,h2⟩:=h.get hc
    rw [Array.getElem?_toList] at h1
    exact ⟨rfl,u',by simp [h1],h2⟩
 ·simp only [if_true,Option.some.injEq,Prod.mk.injEq] at hm ⊢
  obtain ⟨rfl,rfl⟩:=hm
  exact ⟨rfl,_,rfl,.agg (by rw [extract_list];simpa using (h.drop off).take n)⟩
theorem told_idxA (hs:Sim B w0 μ σ w) {x y:Opd} {x' y':Value} {t e:TypeId} {len n:Nat} {g:Bool} (hx:VR μ σ.size (mev ts x) x') (hy:VR μ σ.size (mev ts y) y')
 (hu:P.underlying t=some (.array len e)) (hn:sizeT P e=some n) (hg:isAggT P e=some g) (hm:mop ts σ (.idxA len n g x y)=some (v,τ)):
 Told P B w0 μ σ τ v (do pure (.value (← Instr.index t x' y'))) w:=by
 simp only [mop] at hm
 split at hm
 ·rename_i cs k q e1 e2
  rw [e1] at hx
  rw [e2] at hy
  obtain rfl:=hy.inv_int
  obtain ⟨c',rfl,hc⟩:=hx.inv_agg
  split at hm
  ·rename_i hb
   obtain ⟨rfl,v',h1,h2⟩:=told_part (P:=P) (w:=w) hs (off:=q.toNat * n) hc hg hn hm
   exact .same hs (by simp [Instr.index,asIntOf,run_und hu,run_size hn,hb,h1]) h2
  ·cases hm
 ·cases hm
theorem told_fld (hs:Sim B w0 μ σ w) {x:Opd} {x':Value} {t:TypeId} {fs:Array Field} {f:Nat} {fl:Field} {n:Nat} {g:Bool} (hx:VR μ σ.size (mev ts x) x')
 (hu:P.underlying t=some (.struct fs)) (hf:fs[f]?=some fl) (hn:sizeT P fl.type=some n) (hg:isAggT P fl.type=some g) (hm:mop ts σ (.fld fl.offset n g x)=some (v,τ)):
 Told P B w0 μ σ τ v (do pure (.value (← Instr.field t x' f))) w:=by
 simp only [mop] at hm
 split at hm
 ·rename_i cs e1
  rw [e1] at hx
  obtain ⟨c',rfl,hc⟩:=hx.inv_agg
  obtain ⟨rfl,v',h1,h2⟩:=told_part (P:=P) (w:=w) hs (off:=fl.offset) hc hg hn hm
  exact .same hs (by simp [Instr.field,run_und hu,hf,asAgg,h1]) h2
 ·cases hm
theorem told_not (hs:Sim B w0 μ σ w) {x:Opd} {x':Value} (hx:VR μ σ.size (mev ts x) x') (hm:mop ts σ (.not x)=some (v,τ)):Told P B w0 μ σ τ v (do pure (.value (← Op.unary .not x'))) w:=by
 simp only [mop] at hm
 split at hm
 ·rename_i b e
  rw [e] at hx
  obtain rfl:=hx.inv_bool
  simp only [Option.some.injEq,Prod.mk.injEq] at hm
  obtain ⟨rfl,rfl⟩:=hm
  exact .same hs (by simp [Op.unary]) (.bool _)
 ·cases hm
theorem told_neg (hs:Sim B w0 μ σ w) {x:Opd} {x':Value} (hx:VR μ σ.size (mev ts x) x') (hm:mop ts σ (.neg x)=some (v,τ)):Told P B w0 μ σ τ v (do pure (.value (← Op.unary .neg x'))) w:=by
 simp only [mop] at hm
 split at hm
 ·rename_i k n e
  rw [e] at hx
  obtain rfl:=hx.inv_int
  simp only [Option.some.injEq,Prod.mk.injEq] at hm
  obtain ⟨rfl,rfl⟩:=hm
  exact .same hs (by simp [Op.unary,Op.intArith]) (.int _ _)
 ·cases hm
theorem told_conv (hs:Sim B w0 μ σ w) {x:Opd} {x':Value} {s d:TypeId} {j k:IntKind} (h1:P.underlying s=some (.int j)) (h2:P.underlying d=some (.int k)) (hx:VR μ σ.size (mev ts x) x')
 (hm:mop ts σ (.conv k x)=some (v,τ)):Told P B w0 μ σ τ v (do pure (.value (← convert s d x'))) w:=by
 simp only [mop] at hm
 split at hm
 ·rename_i q n e
  rw [e] at hx
  obtain rfl:=hx.inv_int
  simp only [Option.some.injEq,Prod.mk.injEq] at hm
  obtain ⟨rfl,rfl⟩:=hm
  exact .same hs (by simp [convert,run_und h1,run_und h2,Conv.intToInt]) (.int _ _)
 ·cases hm
theorem told_mki (hs:Sim B w0 μ σ w) {x:Opd} {x':Value} {t:TypeId} {d:TypeDesc} (h1:P.underlying t=some d) (hd:∀ ms,d≠.interface ms) (hx:VR μ σ.size (mev ts x) x')
 (hm:mop ts σ (.mki t x)=some (v,τ)):Told P B w0 μ σ τ v (do pure (.value (← Instr.makeInterface t x'))) w:=by
 simp only [mop,Option.some.injEq,Prod.mk.injEq] at hm
 obtain ⟨rfl,rfl⟩:=hm
 refine .same (v':=.iface t x') hs ?_ (.iface hx)
 cases d<;>first | exact absurd rfl (hd _) | simp [Instr.makeInterface,run_und h1]
theorem told_ext (hs:Sim B w0 μ σ w) {x:Opd} {x':Value} {i:Nat} (hx:VR μ σ.size (mev ts x) x')
 (hm:mop ts σ (.ext x i)=some (v,τ)):Told P B w0 μ σ τ v (do pure (.value (← Instr.extract x' i))) w:=by
 simp only [mop] at hm
 split at hm
 ·rename_i vs e
  rw [e] at hx
  obtain ⟨c',rfl,hc⟩:=hx.inv_tuple
  cases hg:vs.toList[i]? with
  | none=>simp only [hg,Option.map_none] at hm;cases hm
  | some u=>
    simp only [hg,Option.map_some,Option.some.injEq,Prod.mk.injEq] at hm
    obtain ⟨rfl,rfl⟩:=hm
    obtain ⟨u',h1,h2⟩:=hc.get hg
    rw [Array.getElem?_toList] at h1
    exact .same hs (by simp [Instr.extract,h1]) h2
 ·cases hm
theorem told_min (hs:Sim B w0 μ σ w) {x y:Opd} {x' y':Value} {ats:Array TypeId} {t:TypeId} (hx:VR μ σ.size (mev ts x) x') (hy:VR μ σ.size (mev ts y) y')
 (hm:mop ts σ (.min2 x y)=some (v,τ)):Told P B w0 μ σ τ v (do pure (.value (← Builtin.min_ ats t #[x',y']))) w:=by
 simp only [mop] at hm
 split at hm
 ·rename_i k a k' b e1 e2
  rw [e1] at hx
  rw [e2] at hy
  obtain rfl:=hx.inv_int
  obtain rfl:=hy.inv_int
  simp only [Option.some.injEq,Prod.mk.injEq] at hm
  obtain ⟨rfl,rfl⟩:=hm
  exact .same hs (by simp [Builtin.min_,Builtin.min2]) (.int _ _)
 ·cases hm
theorem told_max (hs:Sim B w0 μ σ w) {x y:Opd} {x' y':Value} {ats:Array TypeId} {t:TypeId} (hx:VR μ σ.size (mev ts x) x') (hy:VR μ σ.size (mev ts y) y')
 (hm:mop ts σ (.max2 x y)=some (v,τ)):Told P B w0 μ σ τ v (do pure (.value (← Builtin.max_ ats t #[x',y']))) w:=by
 simp only [mop] at hm
 split at hm
 ·rename_i k a k' b e1 e2
  rw [e1] at hx
  rw [e2] at hy
  obtain rfl:=hx.inv_int
  obtain rfl:=hy.inv_int
  simp only [Option.some.injEq,Prod.mk.injEq] at hm
  obtain ⟨rfl,rfl⟩:=hm
  exact .same hs (by simp [Builtin.max_,Builtin.max2]) (.int _ _)
 ·cases hm
end
end Go.Mini
