/- Regions that draw their order: one order stands for all. -/
import Derived.Test.YtoejdgoicoaomaaGreatDoorG3
import Derived.Scope
set_option linter.unusedVariables false
set_option linter.unusedSimpArgs false
namespace Go.Mini
open Go.RowKit (Below)
def rdX:Opd→List Nat
 | .t i=>[i]
 | _=>[]
def rdO:Option Opd→List Nat
 | some x=>rdX x
 | none=>[]
def rdM:MOp→List Nat
 | .mv x | .box x | .load1 x | .loadN _ x | .fadd _ x | .fld _ _ _ x | .not x | .neg x | .conv _ x | .s2b x | .b2s x | .mki _ x | .ext x _ | .nilck x | .tasI _ _ _ x | .len _ x | .mlen x | .clr _ x=>rdX x
 | .pick c a b=>rdX c ++ rdX a ++ rdX b
 | .alloc _ | .allocT _ _ | .lenC _ | .mkmap | .bad=>[]
 | .store _ a x=>rdX a ++ rdX x
 | .iaS _ x i | .iaA _ _ x i | .idxS x i | .idxA _ _ _ x i | .bin _ x i | .eqB _ x i | .eqN _ _ x i | .eqA _ _ x i | .app _ _ x i | .cpy _ x i | .min2 x i | .max2 x i | .mks _ _ _ x i | .mlook _ _ _ x i=>rdX x ++ rdX i
 | .mkf _ a b=>a.flatMap rdX ++ b.flatMap rdX
 | .bsl _ _ _ ps=>ps.flatMap fun p=>rdX p.2
 | .bld _ ps=>ps.flatMap fun p=>rdX p.2.2
 | .slc _ x a b c=>rdX x ++ rdO a ++ rdO b ++ rdO c
 | .slcS x a b | .slcA _ _ x a b=>rdX x ++ rdO a ++ rdO b
 | .mupd _ x k v=>rdX x ++ rdX k ++ rdX v
 | .call _ as=>as.flatMap rdX
 | .callv x as=>rdX x ++ as.flatMap rdX
def rdG:Option (Nat × Bool)→List Nat
 | some (d,_)=>[d]
 | none=>[]
def rdI (i:MI):List Nat:=rdM i.op ++ rdG i.g
structure DI where
 mi:MI
 ix:Nat
 loud:Bool
 ext:Bool
section
variable {ts ts':Fr} {σ τ:H}
theorem mev_congr {x:Opd} (h:∀ s ∈ rdX x,ts s=ts' s):mev ts x=mev ts' x:=by
 cases x with
 | t i=>exact h i (by simp [rdX])
 | _=>rfl
theorem mevs_congr {l:List Opd} (h:∀ s ∈ l.flatMap rdX,ts s=ts' s):l.map (mev ts)=l.map (mev ts'):=
 List.map_congr_left fun x hx=>mev_congr fun s hs=>h s (List.mem_flatMap.2 ⟨x,hx,hs⟩)
theorem mevo_congr {x:Option Opd} (h:∀ s ∈ rdO x,ts s=ts' s):x.map (mev ts)=x.map (mev ts'):=by
 cases x with
 | none=>rfl
 | some x=>simp only [Option.map_some];rw [mev_congr h]
theorem mop_congr {op:MOp} (h:∀ s ∈ rdM op,ts s=ts' s):mop ts σ op=mop ts' σ op:=by
 have two:∀ {x y:Opd},(∀ s ∈ rdX x ++ rdX y,ts s=ts' s)→mev ts x=mev ts' x∧mev ts y=mev ts' y:=fun h=>
  ⟨mev_congr fun s hs=>h s (List.mem_append.2 (.inl hs)),mev_congr fun s hs=>h s (List.mem_append.2 (.inr hs))⟩
 have three:∀ {x y z:Opd},(∀ s ∈ rdX x ++ rdX y ++ rdX z,ts s=ts' s)→mev ts x=mev ts' x∧mev ts y=mev ts' y∧mev ts z=mev ts' z:=fun h=>
  ⟨mev_congr fun s hs=>h s (by simp [hs]),mev_congr fun s hs=>h s (by simp [hs]),mev_congr fun s hs=>h s (by simp [hs])⟩
 cases op with
 | pick c a b=>obtain ⟨h1,h2,h3⟩:=three h;simp only [mop,h1,h2,h3]
 | mupd kd c a b=>obtain ⟨h1,h2,h3⟩:=three h;simp only [mop,h1,h2,h3]
 | alloc zs=>rfl
 | allocT T zs=>rfl
 | lenC n=>rfl
 | mkmap=>rfl
 | mkf fn a b=>
   simp only [mop]
   rw [mevs_congr fun s hs=>h s (List.mem_append.2 (.inl hs)),mevs_congr fun s hs=>h s (List.mem_append.2 (.inr hs))]
 | bsl sz n zs ps=>
   have:(ps.map fun (i,x)=>(i * sz,sz,mev ts x))=ps.map fun (i,x)=>(i * sz,sz,mev ts' x):=List.map_congr_left fun p hp=>by
    show (p.1 * sz,sz,mev ts p.2)=(p.1 * sz,sz,mev ts' p.2)
    rw [mev_congr fun s hs=>h s (List.mem_flatMap.2 ⟨p,hp,hs⟩)]
   simp only [mop,this]
 | bld zs ps=>
   have:(ps.map fun (o,s,x)=>(o,s,mev ts x))=ps.map fun (o,s,x)=>(o,s,mev ts' x):=List.map_congr_left fun p hp=>by
    show (p.1,p.2.1,mev ts p.2.2)=(p.1,p.2.1,mev ts' p.2.2)
    rw [mev_congr fun s hs=>h s (List.mem_flatMap.2 ⟨p,hp,hs⟩)]
   simp only [mop,this]
 | slc n x a b c=>
   have h1:mev ts x=mev ts' x:=mev_congr fun s hs=>h s (by simp [rdM,hs])
   have h2:=mevo_congr (ts:=ts) (ts':=ts') (x:=a) fun s hs=>h s (by simp [rdM,hs])
   have h3:=mevo_congr (ts:=ts) (ts':=ts') (x:=b) fun s hs=>h s (by simp [rdM,hs])
   have h4:=mevo_congr (ts:=ts) (ts':=ts') (x:=c) fun s hs=>h s (by simp [rdM,hs])
   simp only [mop,h1,h2,h3,h4]
 | slcS x a b=>
   have h1:mev ts x=mev ts' x:=mev_congr fun s hs=>h s (by simp [rdM,hs])
   have h2:=mevo_congr (ts:=ts) (ts':=ts') (x:=a) fun s hs=>h s (by simp [rdM,hs])
   have h3:=mevo_congr (ts:=ts) (ts':=ts') (x:=b) fun s hs=>h s (by simp [rdM,hs])
   simp only [mop,h1,h2,h3]
 | slcA k n x a b=>
   have h1:mev ts x=mev ts' x:=mev_congr fun s hs=>h s (by simp [rdM,hs])
   have h2:=mevo_congr (ts:=ts) (ts':=ts') (x:=a) fun s hs=>h s (by simp [rdM,hs])
   have h3:=mevo_congr (ts:=ts) (ts':=ts') (x:=b) fun s hs=>h s (by simp [rdM,hs])
   simp only [mop,h1,h2,h3]
 | call f as=>rfl
 | callv x as=>rfl
 | bad=>rfl
 | _=>first
   | (have h1:=mev_congr (ts:=ts) (ts':=ts') h;simp only [mop,h1];done)
   | (obtain ⟨h1,h2⟩:=two h;simp only [mop,h1,h2];done)
theorem cell_ext (h:Ext σ τ) {id off:Nat} {v:Value} (hc:σ.cell id off=some v):τ.cell id off=some v:=by
 unfold H.cell at *
 cases hg:σ.get id with
 | cells sz cs=>rw [hg] at hc;rw [h.live hg (by simp)];exact hc
 | ro cs=>rw [hg] at hc;rw [h.live hg (by simp)];exact hc
 | typ T cs=>rw [hg] at hc;rw [h.live hg (by simp)];exact hc
 | _=>rw [hg] at hc;cases hc
theorem row_ext (h:Ext σ τ) {id off n:Nat} {v:List Value} (hc:σ.row id off n=some v):τ.row id off n=some v:=by
 unfold H.row at *
 cases hg:σ.get id with
 | cells sz cs=>rw [hg] at hc;rw [h.live hg (by simp)];exact hc
 | ro cs=>rw [hg] at hc;rw [h.live hg (by simp)];exact hc
 | typ T cs=>rw [hg] at hc;rw [h.live hg (by simp)];exact hc
 | _=>rw [hg] at hc;cases hc
theorem okSz_ext (h:Ext σ τ) {sz id:Nat} (hc:okSz σ sz id=true):okSz τ sz id=true:=by
 unfold okSz at *
 cases hg:σ.get id with
 | cells s cs=>rw [hg] at hc;rw [h.live hg (by simp)];exact hc
 | ro cs=>rw [hg] at hc;rw [h.live hg (by simp)]
 | _=>rw [hg] at hc;cases hc
theorem quiet_ext {op:MOp} (hq:quietM op=true) {v:Value} {σ':H} (hm:mop ts σ op=some (v,σ')):σ'=σ∧∀ τ,Ext σ τ→mop ts τ op=some (v,τ):=by
 cases op<;>first | (simp [quietM] at hq;done) | skip
 case load1 a=>
  simp only [mop] at hm ⊢
  split at hm
  ·rename_i id off e
   cases hc:σ.cell id off with
   | none=>rw [hc] at hm;cases hm
   | some u=>
     rw [hc] at hm
     simp only [Option.map_some,Option.some.injEq,Prod.mk.injEq] at hm
     obtain ⟨rfl,rfl⟩:=hm
     exact ⟨rfl,fun τ h=>by simp only [cell_ext h hc,Option.map_some]⟩
  ·cases hm
 case loadN n a=>
  simp only [mop] at hm ⊢
  split at hm
  ·rename_i id off e
   cases hc:σ.row id off n with
   | none=>rw [hc] at hm;cases hm
   | some u=>
     rw [hc] at hm
     simp only [Option.map_some,Option.some.injEq,Prod.mk.injEq] at hm
     obtain ⟨rfl,rfl⟩:=hm
     exact ⟨rfl,fun τ h=>by simp only [row_ext h hc,Option.map_some]⟩
  ·cases hm
 case b2s x=>
  simp only [mop] at hm ⊢
  split at hm
  ·simp only [Option.some.injEq,Prod.mk.injEq] at hm
   obtain ⟨rfl,rfl⟩:=hm
   exact ⟨rfl,fun τ h=>rfl⟩
  ·rename_i id off n c e
   cases hc:σ.row id off n with
   | none=>rw [hc] at hm;cases hm
   | some u=>
     rw [hc] at hm
     simp only at hm
     split at hm
     ·rename_i hall
      simp only [Option.some.injEq,Prod.mk.injEq] at hm
      obtain ⟨rfl,rfl⟩:=hm
      exact ⟨rfl,fun τ h=>by simp only [row_ext h hc,hall,if_true]⟩
     ·cases hm
  ·cases hm
 case slc n x lo hi mx=>
  simp only [mop] at hm ⊢
  split at hm
  ·rename_i id off len cap e
   split at hm
   ·rename_i l h m hb
    split at hm
    ·rename_i hok
     simp only [Option.some.injEq,Prod.mk.injEq] at hm
     obtain ⟨rfl,rfl⟩:=hm
     exact ⟨rfl,fun τ h=>by simp only [okSz_ext h hok,if_true]⟩
    ·cases hm
   ·cases hm
  ·split at hm
   ·simp only [Option.some.injEq,Prod.mk.injEq] at hm
    obtain ⟨rfl,rfl⟩:=hm
    exact ⟨rfl,fun τ h=>rfl⟩
   ·cases hm
  ·cases hm
 case slcA k n x lo hi=>
  simp only [mop] at hm ⊢
  split at hm
  ·rename_i id off e
   split at hm
   ·rename_i l h m hb
    split at hm
    ·rename_i cs hg
     simp only [Option.some.injEq,Prod.mk.injEq] at hm
     obtain ⟨rfl,rfl⟩:=hm
     exact ⟨rfl,fun τ h=>by simp only [h.live hg (by simp)]⟩
    ·cases hm
   ·cases hm
  ·cases hm
 case mlook kd ok z x k=>
  simp only [mop] at hm ⊢
  split at hm
  ·rename_i r e
   split at hm
   ·rename_i es c hg
    split at hm
    ·rename_i i u hl
     simp only [Option.some.injEq,Prod.mk.injEq] at hm
     obtain ⟨rfl,rfl⟩:=hm
     exact ⟨rfl,fun τ h=>by simp only [h.live hg (by simp),hl]⟩
    ·rename_i hl
     simp only [Option.some.injEq,Prod.mk.injEq] at hm
     obtain ⟨rfl,rfl⟩:=hm
     exact ⟨rfl,fun τ h=>by simp only [h.live hg (by simp),hl]⟩
    ·cases hm
   ·cases hm
  ·cases hm
 case mlen x=>
  simp only [mop] at hm ⊢
  split at hm
  ·simp only [Option.some.injEq,Prod.mk.injEq] at hm
   obtain ⟨rfl,rfl⟩:=hm
   exact ⟨rfl,fun τ h=>rfl⟩
  ·split at hm
   ·rename_i es c hg
    simp only [Option.some.injEq,Prod.mk.injEq] at hm
    obtain ⟨rfl,rfl⟩:=hm
    exact ⟨rfl,fun τ h=>by simp only [h.live hg (by simp)]⟩
   ·cases hm
  ·cases hm
 case min2 x y=>
  simp only [mop] at hm ⊢
  split at hm
  ·simp only [Option.some.injEq,Prod.mk.injEq] at hm
   obtain ⟨rfl,rfl⟩:=hm
   exact ⟨rfl,fun τ h=>rfl⟩
  ·cases hm
 case max2 x y=>
  simp only [mop] at hm ⊢
  split at hm
  ·simp only [Option.some.injEq,Prod.mk.injEq] at hm
   obtain ⟨rfl,rfl⟩:=hm
   exact ⟨rfl,fun τ h=>rfl⟩
  ·cases hm
 all_goals
  simp only [mop] at hm ⊢
  first
  | (simp only [Option.some.injEq,Prod.mk.injEq] at hm
     obtain ⟨rfl,rfl⟩:=hm
     exact ⟨rfl,fun τ h=>rfl⟩)
  | (simp only [Option.map_eq_some_iff,Prod.mk.injEq] at hm
     obtain ⟨u,h1,rfl,rfl⟩:=hm
     exact ⟨rfl,fun τ h=>by simp only [h1,Option.map_some]⟩)
  | (repeat' split at hm
     all_goals first
      | (cases hm;done)
      | (simp only [Option.some.injEq,Prod.mk.injEq] at hm
         obtain ⟨rfl,rfl⟩:=hm
         exact ⟨rfl,fun τ h=>by first | rfl | simp_all⟩)
      | (simp only [Option.map_eq_some_iff,Prod.mk.injEq] at hm
         obtain ⟨u,h1,rfl,rfl⟩:=hm
         exact ⟨rfl,fun τ h=>by simp_all⟩))
end
def pureM:MOp→Bool
 | .mv _ | .pick .. | .fadd .. | .iaS .. | .iaA .. | .idxS .. | .idxA .. | .fld .. | .bin .. | .eqB .. | .eqN .. | .eqA .. | .not _ | .neg _ | .conv .. | .mki .. | .mkf .. | .bld ..
 | .slcS .. | .ext .. | .nilck _ | .tasI .. | .len .. | .lenC _=>true
 | _=>false
section
variable {ts:Fr} {σ:H}
theorem pure_any {op:MOp} (hq:pureM op=true) {v:Value} {σ':H} (hm:mop ts σ op=some (v,σ')):∀ τ,mop ts τ op=some (v,τ):=by
 intro τ
 cases op<;>first | (simp [pureM] at hq;done) | skip
 all_goals
  simp only [mop] at hm ⊢
  first
  | (simp only [Option.some.injEq,Prod.mk.injEq] at hm
     obtain ⟨rfl,rfl⟩:=hm
     rfl)
  | (simp only [Option.map_eq_some_iff,Prod.mk.injEq] at hm
     obtain ⟨u,h1,rfl,rfl⟩:=hm
     simp only [h1,Option.map_some])
  | (repeat' split at hm
     all_goals first
      | (cases hm;done)
      | (simp only [Option.some.injEq,Prod.mk.injEq] at hm
         obtain ⟨rfl,rfl⟩:=hm
         first | rfl | simp_all)
      | (simp only [Option.map_eq_some_iff,Prod.mk.injEq] at hm
         obtain ⟨u,h1,rfl,rfl⟩:=hm
         simp_all))
end
def rch (T:List Nat) (i j:Nat):Bool:=(T.getD j 0).testBit i
def orT (T:List Nat) (l:List Edge):Nat:=l.foldl (fun s e=>if Region.binds .any e then s ||| 2 ^ e.on ||| T.getD e.on 0 else s) 0
def tabRow (ops:Array Oper) (T:List Nat) (j:Nat):Bool:=match ops[j]? with
 | some o=>T.getD j 0 == orT T o.after.toList && o.after.toList.all fun e=>!Region.binds .any e || decide (e.on < j)
 | none=>false
def tabOk (ops:Array Oper) (T:List Nat):Bool:=decide (T.length=ops.size) && (List.range ops.size).all (tabRow ops T)
def mkTab (ops:Array Oper):List Nat:=ops.toList.foldl (fun T o=>T ++ [orT T o.after.toList]) []
def okPair (T:List Nat) (a b:DI):Bool:=
 (rch T a.ix b.ix ||
   ((match b.mi.dst with | some d=>!(rdI a.mi).contains d && a.mi.dst != some d | none=>true) && (match a.mi.dst with | some d=>!(rdI b.mi).contains d | none=>true))) &&
 (b.loud || (match b.mi.dst with | some d=>!(rdI a.mi).contains d && a.mi.dst != some d | none=>true)) &&
 (a.ix != b.ix)
def allC (fl:List DI) (OS:List Nat) (k:Nat):Bool:=fl.all fun a=>a.mi.dst != some k || (!a.loud && a.mi.g.isNone && match a.mi.op with | .mv (.t s)=>OS.contains s | .load1 _=>a.ext | .bin ..=>true | _=>false)
def srcOk (T:List Nat) (fl:List DI) (OS:List Nat) (b:DI) (k:Nat):Bool:=OS.contains k || (allC fl OS k && fl.any fun a=>a.mi.dst == some k && rch T a.ix b.ix)
def mkD (ops:Array Oper) (T:List Nat) (fl:List DI) (OS:List Nat) (b:DI):Bool:=
 b.loud && b.mi.g.isNone && b.mi.dst.isSome && (match ops[b.ix]? with | some o=>(match o.op with | .buildSlice ..=>true | .alloc _=>true | _=>false) | none=>false) &&
 (match b.mi.op with | .bsl sz len zs ps=>sz == 1 && zs.length == 1 && zs.all plain && (ps.all fun p=>decide (p.1 < len) && (match p.2 with | .c v=>plain v | .t k=>srcOk T fl OS b k | .f _=>false)) | .alloc zs=>zs.all plain | _=>false)
def okOne (ops:Array Oper) (T:List Nat) (fl:List DI) (OS:List Nat) (l:List DI) (b:DI):Bool:=
 (l.all fun a=>okPair T a b) && (if mkD ops T fl OS b then l.all fun a=>a.mi.dst != b.mi.dst else l.all fun a=>!a.loud || rch T a.ix b.ix) &&
 (b.loud || (quietM b.mi.op && (match b.mi.dst with | some d=>!(rdI b.mi).contains d | none=>true))) &&
 (match ops[b.ix]? with | some o=>o.after.toList.all fun e=>!Region.binds .any e || l.any fun a=>a.ix == e.on | none=>false) && (!b.loud || b.ext || l.all fun a=>pureM a.mi.op || rch T a.ix b.ix) && decide (b.ix < ops.size)
def okAll (ops:Array Oper) (T:List Nat) (fl:List DI) (OS:List Nat):List DI→List DI→Bool
 | _,[]=>true
 | l,b :: rest=>okOne ops T fl OS l b && okAll ops T fl OS (l ++ [b]) rest
end Go.Mini
namespace Go.Mini
open Go.RowKit (Below)
def pendOf (fl:List DI) (d:DI):List MOp:=((fl.takeWhile fun a=>a.ix != d.ix).filter fun a=>!a.loud && !pureM a.mi.op).map fun a=>a.mi.op
def KeepM (fl:List DI) (d:DI) (ts:Fr) (σ τ:H):Prop:=match d.loud with
 | true=>Ext σ τ∨∀ m ∈ pendOf fl d,∀ v,mop ts σ m=some (v,σ)→mop ts τ m=some (v,τ)
 | false=>∀ v,mop ts σ d.mi.op=some (v,σ)→plain v=true
theorem KeepM.of_ext {fl:List DI} {d:DI} {ts:Fr} {σ τ:H} (hm:d.loud=false→∀ v,mop ts σ d.mi.op=some (v,σ)→plain v=true) (h:Ext σ τ):KeepM fl d ts σ τ:=by
 unfold KeepM
 split
 ·exact .inl h
 ·rename_i hl;exact hm hl
theorem KeepM.loud {fl:List DI} {d:DI} {ts:Fr} {σ τ:H} (hl:d.loud=true) (h:KeepM fl d ts σ τ):Ext σ τ∨∀ m ∈ pendOf fl d,∀ v,mop ts σ m=some (v,σ)→mop ts τ m=some (v,τ):=by
 unfold KeepM at h
 rw [hl] at h
 exact h
theorem KeepM.quiet {fl:List DI} {d:DI} {ts:Fr} {σ τ:H} (hl:d.loud=false) (h:KeepM fl d ts σ τ):∀ v,mop ts σ d.mi.op=some (v,σ)→plain v=true:=by
 unfold KeepM at h
 rw [hl] at h
 exact h
def mld (E:World→Prop) (P:Program) (fl:List DI):List DI→(Fr→H→Prop)→Fr→H→Prop
 | [],K,ts,σ=>K ts σ
 | d :: rest,K,ts,σ=>if wantM ts d.mi.g=true then mstep E P ts σ d.mi.op (fun v τ=>(d.ext=true→KeepM fl d ts σ τ)∧mld E P fl rest K (updO ts d.mi.dst v) τ) else mld E P fl rest K (updO ts d.mi.dst undef) σ
section
variable {E:World→Prop} {P:Program} {ops:Array Oper} {T:List Nat}
theorem okAll_split {fl:List DI} {OS:List Nat}:∀ {l:List DI} {a:List DI} {b:DI} {c:List DI},okAll ops T fl OS l (a ++ b :: c)=true→okOne ops T fl OS (l ++ a) b=true
 | l,[],b,c,h=>by
   simp only [List.nil_append,okAll,Bool.and_eq_true] at h
   simpa using h.1
 | l,x :: a,b,c,h=>by
   simp only [List.cons_append,okAll,Bool.and_eq_true] at h
   have:=okAll_split h.2
   simpa using this
def Lst (listed:Array Bool) (i:Nat):Prop:=listed.getD i false=true
def Closed (ops:Array Oper) (listed:Array Bool):Prop:=∀ j o,Lst listed j→ops[j]?=some o→∀ e ∈ o.after,Region.binds .any e=true→Lst listed e.on
theorem orT_bit {T:List Nat} {i:Nat}:∀ (l:List Edge) (s:Nat),(l.foldl (fun s e=>if Region.binds .any e then s ||| 2 ^ e.on ||| T.getD e.on 0 else s) s).testBit i=true→
 s.testBit i=true∨∃ e ∈ l,Region.binds .any e=true∧(e.on=i∨(T.getD e.on 0).testBit i=true)
 | [],s,h=>.inl h
 | e :: l,s,h=>by
   simp only [List.foldl_cons] at h
   rcases orT_bit l _ h with h | ⟨x,hx,h⟩
   ·by_cases hb:Region.binds .any e=true
    ·rw [if_pos hb] at h
     simp only [Nat.testBit_or,Bool.or_eq_true] at h
     rcases h with (h | h) | h
     ·exact .inl h
     ·rw [Nat.testBit_two_pow] at h
      exact .inr ⟨e,by simp,hb,.inl (by simpa using h)⟩
     ·exact .inr ⟨e,by simp,hb,.inr h⟩
    ·rw [if_neg hb] at h;exact .inl h
   ·exact .inr ⟨x,by simp [hx],h⟩
theorem dst_listed {listed:Array Bool} (hT:tabOk ops T=true) (hc:Closed ops listed):∀ (j:Nat) {i:Nat} {o:Oper},rch T i j=true→ops[j]?=some o→(∀ e ∈ o.after,Region.binds .any e=true→Lst listed e.on)→Lst listed i:=by
 intro j
 induction j using Nat.strongRecOn with
 | ind j ih=>
   intro i o h ho hd
   have hlt:j < ops.size:=by
    rcases Nat.lt_or_ge j ops.size with x | x
    ·exact x
    ·rw [Array.getElem?_eq_none x] at ho;cases ho
   unfold tabOk at hT
   simp only [Bool.and_eq_true,List.all_eq_true,List.mem_range] at hT
   have hrow:=hT.2 j hlt
   unfold tabRow at hrow
   rw [ho] at hrow
   simp only [Bool.and_eq_true,beq_iff_eq,List.all_eq_true,Bool.or_eq_true,Bool.not_eq_true',decide_eq_true_eq] at hrow
   unfold rch at h
   rw [hrow.1] at h
   rcases orT_bit _ _ h with h | ⟨e,he,hb,h⟩
   ·simp at h
   ·have hl:=hd e (by simpa using he) hb
    rcases h with h | h
    ·rw [← h];exact hl
    ·have hej:e.on < j:=by
      rcases hrow.2 e he with x | x
      ·rw [hb] at x;cases x
      ·exact x
     have ho2:ops[e.on]?=some ops[e.on]:=Array.getElem?_eq_getElem (by omega)
     exact ih e.on hej h ho2 (hc e.on _ hl ho2)
def PV (q:MI) (ts:Fr) (σ:H):Prop:=
 (wantM ts q.g=true∧∃ v,mop ts σ q.op=some (v,σ)∧∀ d,q.dst=some d→ts d=v)∨(wantM ts q.g=false∧∀ d,q.dst=some d→ts d=undef)
theorem wantM_congr {ts ts':Fr} {g:Option (Nat × Bool)} (h:∀ s ∈ rdG g,ts s=ts' s):wantM ts g=wantM ts' g:=by
 cases g with
 | none=>rfl
 | some p=>obtain ⟨d,b⟩:=p;simp only [wantM];rw [h d (by simp [rdG])]
theorem PV.upd {q:MI} {ts:Fr} {σ:H} {d:Option Nat} {v:Value} (h:PV q ts σ) (h1:∀ x,d=some x→x ∉ rdI q) (h2:∀ x,d=some x→q.dst≠some x):PV q (updO ts d v) σ:=by
 cases d with
 | none=>exact h
 | some x=>
   have hx:=h1 x rfl
   have hd:=h2 x rfl
   have same:∀ s ∈ rdI q,ts s=updO ts (some x) v s:=fun s hs=>by
    have:s≠x:=fun e=>hx (e ▸ hs)
    simp [updO,Mini.upd,this]
   have sd:∀ y,q.dst=some y→updO ts (some x) v y=ts y:=fun y hy=>by
    have:y≠x:=fun e=>hd (e ▸ hy)
    simp [updO,Mini.upd,this]
   have hw:=wantM_congr (g:=q.g) fun s hs=>same s (by simp [rdI,hs])
   have hm:mop ts σ q.op=mop (updO ts (some x) v) σ q.op:=mop_congr fun s hs=>same s (by simp [rdI,hs])
   rcases h with ⟨a,u,b,c⟩ | ⟨a,c⟩
   ·exact .inl ⟨by rw [← hw];exact a,u,by rw [← hm];exact b,fun y hy=>by rw [sd y hy];exact c y hy⟩
   ·exact .inr ⟨by rw [← hw];exact a,fun y hy=>by rw [sd y hy];exact c y hy⟩
theorem PV.ext {q:MI} {ts:Fr} {σ τ:H} (h:PV q ts σ) (hq:quietM q.op=true) (he:Ext σ τ):PV q ts τ:=by
 rcases h with ⟨a,u,b,c⟩ | h
 ·exact .inl ⟨a,u,(quiet_ext hq b).2 τ he,c⟩
 ·exact .inr h
theorem PV.pure {q:MI} {ts:Fr} {σ τ:H} (h:PV q ts σ) (hq:pureM q.op=true):PV q ts τ:=by
 rcases h with ⟨a,u,b,c⟩ | h
 ·exact .inl ⟨a,u,pure_any hq b τ,c⟩
 ·exact .inr h
theorem mstep_congr {ts ts':Fr} {σ:H} {op:MOp} {K:Value→H→Prop} (h:∀ s ∈ rdM op,ts s=ts' s):mstep E P ts σ op K→mstep E P ts' σ op K:=by
 cases op with
 | call f as=>simp only [mstep];rw [mevs_congr h];exact id
 | callv x as=>
   simp only [mstep]
   rw [mev_congr (x:=x) fun s hs=>h s (List.mem_append.2 (.inl hs)),mevs_congr fun s hs=>h s (List.mem_append.2 (.inr hs))]
   exact id
 | _=>simp only [mstep];rw [mop_congr h];exact id
theorem mstep_mono {ts:Fr} {σ:H} {op:MOp} {K K':Value→H→Prop} (h:mstep E P ts σ op K) (hk:∀ v τ,K v τ→K' v τ):mstep E P ts σ op K':=by
 cases op with
 | call f as=>exact MCalls.mono h hk
 | callv x as=>
   simp only [mstep] at h ⊢
   split at h
   ·exact MCalls.mono h hk
   ·exact MYield.mono h hk
   ·exact h.elim
 | _=>obtain ⟨v,τ,h1,h2⟩:=h;exact ⟨v,τ,h1,hk _ _ h2⟩
structure Fit (ops:Array Oper) (T:List Nat) (fl:List DI) (OS:List Nat) (l:List DI) (b:DI):Prop where
 pair:∀ a ∈ l,rch T a.ix b.ix=true∨((∀ d,b.mi.dst=some d→d ∉ rdI a.mi∧a.mi.dst≠some d)∧∀ d,a.mi.dst=some d→d ∉ rdI b.mi)
 fresh:∀ a ∈ l,b.loud=true∨∀ d,b.mi.dst=some d→d ∉ rdI a.mi∧a.mi.dst≠some d
 ne:∀ a ∈ l,a.ix≠b.ix
 quiet:b.loud=true∨(quietM b.mi.op=true∧∀ d,b.mi.dst=some d→d ∉ rdI b.mi)
 deps:∃ o,ops[b.ix]?=some o∧∀ e ∈ o.after,Region.binds .any e=true→∃ a ∈ l,a.ix=e.on
 ext:b.loud=true→b.ext=true∨∀ a ∈ l,pureM a.mi.op=true∨rch T a.ix b.ix=true
 chain:(mkD ops T fl OS b=true∧∀ a ∈ l,a.mi.dst≠b.mi.dst)∨(mkD ops T fl OS b=false∧∀ a ∈ l,a.loud=true→rch T a.ix b.ix=true)
theorem okOne_fit {fl:List DI} {OS:List Nat} {l:List DI} {b:DI} (h:okOne ops T fl OS l b=true):Fit ops T fl OS l b:=by
 unfold okOne at h
 simp only [Bool.and_eq_true,List.all_eq_true,Bool.or_eq_true,decide_eq_true_eq] at h
 obtain ⟨⟨⟨⟨⟨h1,h2⟩,h3⟩,h4⟩,h5⟩,h6⟩:=h
 have nd:∀ (x:Option Nat) (l:List Nat) (y:Option Nat),(match x with | some d=>!l.contains d && y != some d | none=>true)=true→∀ d,x=some d→d ∉ l∧y≠some d:=by
  intro x l y hx d e
  subst e
  simp at hx
  exact ⟨hx.1,hx.2⟩
 have nd1:∀ (x:Option Nat) (l:List Nat),(match x with | some d=>!l.contains d | none=>true)=true→∀ d,x=some d→d ∉ l:=by
  intro x l hx d e
  subst e
  simpa using hx
 refine ⟨?_,?_,?_,?_,?_,?_,?_⟩
 ·intro a ha
  have:=h1 a ha
  unfold okPair at this
  simp only [Bool.and_eq_true,Bool.or_eq_true] at this
  rcases this.1.1 with x | ⟨x,y⟩
  ·exact .inl x
  ·exact .inr ⟨nd _ _ _ x,nd1 _ _ y⟩
 ·intro a ha
  have:=h1 a ha
  unfold okPair at this
  simp only [Bool.and_eq_true,Bool.or_eq_true] at this
  rcases this.1.2 with x | x
  ·exact .inl x
  ·exact .inr (nd _ _ _ x)
 ·intro a ha
  have:=h1 a ha
  unfold okPair at this
  simp only [Bool.and_eq_true,Bool.or_eq_true,bne_iff_ne,ne_eq] at this
  exact this.2
 ·rcases h3 with x | ⟨x,y⟩
  ·exact .inl x
  ·exact .inr ⟨x,nd1 _ _ y⟩
 ·cases ho:ops[b.ix]? with
  | none=>rw [ho] at h4;simp at h4
  | some o=>
    rw [ho] at h4
    refine ⟨o,rfl,fun e he hb=>?_⟩
    simp only [List.all_eq_true,Bool.or_eq_true,Bool.not_eq_true',List.any_eq_true,beq_iff_eq] at h4
    rcases h4 e (by simpa using he) with x | x
    ·rw [hb] at x;cases x
    ·exact x
 ·intro hl
  rcases h5 with (x | x) | x
  ·rw [hl] at x;cases x
  ·exact .inl x
  ·exact .inr x
 ·cases hm:mkD ops T fl OS b with
  | true=>
    rw [hm] at h2
    simp only [if_true,List.all_eq_true,bne_iff_ne,ne_eq] at h2
    exact .inl ⟨rfl,h2⟩
  | false=>
    rw [hm] at h2
    simp only [Bool.false_eq_true,if_false,List.all_eq_true,Bool.or_eq_true,Bool.not_eq_true'] at h2
    refine .inr ⟨rfl,fun a ha hl=>?_⟩
    rcases h2 a ha with y | y
    ·rw [hl] at y;cases y
    ·exact y
theorem spl_plain:∀ {cs:List Value} {k:Nat} {v:Value},cs.all plain=true→plain v=true→(spl cs k [v]).all plain=true:=by
 intro cs k v h hv
 rw [List.all_eq_true] at h ⊢
 intro x hx
 have:∀ (cs:List Value) (k:Nat),(∀ x ∈ cs,plain x=true)→∀ x ∈ spl cs k [v],plain x=true:=by
  intro cs k h x hx
  simp only [spl] at hx
  rcases List.mem_or_eq_of_mem_set hx with h1 | h1
  ·exact h x h1
  ·rw [h1];exact hv
 exact this cs k h x hx
theorem plain_cells {v:Value} (h:plain v=true):v.cells=#[v]:=by
 cases v<;>first | rfl | (simp [plain] at h)
theorem fill_plain:∀ {ps:List (Nat × Nat × Value)} {cs:List Value},cs.all plain=true→(∀ p ∈ ps,p.1 < cs.length∧p.2.1=1∧plain p.2.2=true)→∃ cs',fillL cs ps=some cs'∧cs'.all plain=true
 | [],cs,h,_=>⟨cs,rfl,h⟩
 | (o,sz,v) :: ps,cs,h,hp=>by
   obtain ⟨h1,h2,h3⟩:=hp (o,sz,v) (List.mem_cons_self ..)
   simp only at h1 h2 h3
   subst h2
   have hc:=plain_cells h3
   simp only [fillL,hc]
   have hsz:(#[v]:Array Value).size=1:=rfl
   rw [if_pos ⟨hsz,by omega⟩]
   refine fill_plain (spl_plain h h3) fun p hpm=>?_
   have:=hp p (List.mem_cons_of_mem _ hpm)
   rw [spl_length]
   exact this
def litV (q:Option Nat) (b:Nat):Value:=match q with
 | some len=>.slice (some ⟨b,0,none⟩) len len
 | none=>.pointer (some ⟨b,0,none⟩)
def litZ (q:Option Nat):Nat:=match q with
 | some _=>1
 | none=>0
def litOf (ts:Fr):MOp→Option (Option Nat × List Value)
 | .bsl sz len zs ps=>if sz=1 then (fillL (repZ zs len) (ps.map fun (i,x)=>(i * 1,1,mev ts x))).map fun cs=>(some len,cs) else none
 | .alloc zs=>some (none,zs)
 | _=>none
theorem litOf_mop {ts:Fr} {op:MOp} {q:Option Nat} {cs:List Value} (h:litOf ts op=some (q,cs)) (σ:H):mop ts σ op=some (litV q σ.size,σ.push (.cells (litZ q) cs)):=by
 cases op<;>first | (simp [litOf] at h;done) | skip
 case alloc zs=>
  simp only [litOf,Option.some.injEq,Prod.mk.injEq] at h
  obtain ⟨rfl,rfl⟩:=h
  rfl
 case bsl sz len zs ps=>
  simp only [litOf] at h
  split at h
  ·rename_i e
   subst e
   simp only [Option.map_eq_some_iff,Prod.mk.injEq] at h
   obtain ⟨c,hc,rfl,rfl⟩:=h
   simp only [mop,hc];rfl
  ·cases h
theorem litOf_congr {ts ts':Fr} {op:MOp} (h:∀ s ∈ rdM op,ts s=ts' s):litOf ts op=litOf ts' op:=by
 cases op<;>first | rfl | skip
 case bsl sz len zs ps=>
  have:(ps.map fun (i,x)=>(i * 1,1,mev ts x))=ps.map fun (i,x)=>(i * 1,1,mev ts' x):=List.map_congr_left fun p hp=>by
   show (p.1 * 1,1,mev ts p.2)=(p.1 * 1,1,mev ts' p.2)
   rw [mev_congr fun s hs=>h s (List.mem_flatMap.2 ⟨p,hp,hs⟩)]
  simp only [litOf,this]
theorem mkD_spec {fl:List DI} {OS:List Nat} {b:DI} (h:mkD ops T fl OS b=true):b.loud=true∧b.mi.g=none∧(∀ k ∈ rdI b.mi,srcOk T fl OS b k=true)∧∃ dd o,b.mi.dst=some dd∧ops[b.ix]?=some o∧((∃ t ln prs,o.op=.buildSlice t ln prs)∨∃ t,o.op=.alloc t)∧
 (∀ ts:Fr,(∀ k ∈ rdI b.mi,plain (ts k)=true)→∃ q cs,litOf ts b.mi.op=some (q,cs)∧cs.all plain=true):=by
 unfold mkD at h
 simp only [Bool.and_eq_true] at h
 obtain ⟨⟨⟨⟨h1,h2⟩,h3⟩,h4⟩,h5⟩:=h
 have hg:b.mi.g=none:=by simpa using h2
 obtain ⟨dd,hd⟩:=Option.isSome_iff_exists.1 h3
 have hop2:∃ o,ops[b.ix]?=some o∧((∃ t ln prs,o.op=.buildSlice t ln prs)∨∃ t,o.op=.alloc t):=by
  split at h4
  ·rename_i o ho
   refine ⟨o,ho,?_⟩
   split at h4
   ·rename_i t ln prs hop;exact .inl ⟨t,ln,prs,hop⟩
   ·rename_i t hop;exact .inr ⟨t,hop⟩
   ·cases h4
  ·cases h4
 obtain ⟨o,ho,hop2⟩:=hop2
 split at h5
 ·rename_i sz len zs ps hop
  simp only [Bool.and_eq_true,beq_iff_eq] at h5
  obtain ⟨⟨⟨rfl,hz1⟩,hz⟩,h6⟩:=h5
  have hrd:rdI b.mi=ps.flatMap fun p=>rdX p.2:=by unfold rdI;rw [hg,hop];simp [rdM,rdG]
  have hps:∀ p ∈ ps,p.1 < len∧(match p.2 with | .c v=>plain v | .t k=>srcOk T fl OS b k | .f _=>false)=true:=fun p hp=>by
   have:=List.all_eq_true.1 h6 p hp
   rwa [Bool.and_eq_true,decide_eq_true_eq] at this
  refine ⟨h1,hg,fun k hk=>?_,dd,o,hd,ho,hop2,fun ts hts=>?_⟩
  ·rw [hrd,List.mem_flatMap] at hk
   obtain ⟨p,hp,hk⟩:=hk
   have:=(hps p hp).2
   cases e:p.2 with
   | t k'=>rw [e] at this hk;simp [rdX] at hk;subst hk;exact this
   | c v=>rw [e] at hk;simp [rdX] at hk
   | f q=>rw [e] at hk;simp [rdX] at hk
  ·obtain ⟨cs,hf,hp⟩:=fill_plain (ps:=ps.map fun (i,x)=>(i * 1,1,mev ts x)) (repZ_plain hz len) fun q hq=>by
    obtain ⟨⟨i,x⟩,hp,rfl⟩:=List.mem_map.1 hq
    obtain ⟨a1,a2⟩:=hps _ hp
    refine ⟨by rw [repZ_length,hz1];simp only at a1 ⊢;omega,rfl,?_⟩
    simp only at a2 ⊢
    cases x with
    | c v=>exact a2
    | t k=>exact hts k (by rw [hrd];exact List.mem_flatMap.2 ⟨_,hp,by simp [rdX]⟩)
    | f q=>cases a2
   exact ⟨some len,cs,by simp only [hop,litOf,if_true,hf,Option.map_some],hp⟩
 ·rename_i zs hop
  have hrd:rdI b.mi=[]:=by unfold rdI;rw [hg,hop];simp [rdM,rdG]
  exact ⟨h1,hg,fun k hk=>(by rw [hrd] at hk;cases hk),dd,o,hd,ho,hop2,fun ts _=>⟨none,zs,by rw [hop];rfl,h5⟩⟩
 ·cases h5
end
end Go.Mini
namespace Go.Mini
open Go.RowKit (Below)
section
variable {E:World→Prop} {P:Program} {ops:Array Oper} {T:List Nat} {OS:List Nat} {B:Fz} {w0:World} {N:Nat} {D:List Deferred} {μ0:Nat→Blk} {n0:Nat} {ro:Option Nat}
theorem VRs.eq_of_plain {μ:Nat→Blk} {n:Nat}:∀ {l l':List Value},VRs μ n l l'→l.all plain=true→l'=l
 | [],_,.nil,_=>rfl
 | v :: l,_,.cons h hs,hp=>by
   simp only [List.all_cons,Bool.and_eq_true] at hp
   rw [h.eq_of_plain hp.1,VRs.eq_of_plain hs hp.2]
structure Full (P:Program) (N:Nat) (ops:Array Oper) (T:List Nat) (OS:List Nat) (full:List DI):Prop where
 tab:tabOk ops T=true
 ok:okAll ops T full OS [] full=true
 outs:∀ s ∈ OS,∀ d ∈ full,d.mi.dst≠some s
 comp:∀ i,i < ops.size→∃ d ∈ full,d.ix=i
 cmi:∀ d ∈ full,∃ o,ops[d.ix]?=some o∧cMI P N ops o=some d.mi
theorem Full.at {full:List DI} (h:Full P N ops T OS full) {a c:List DI} {b:DI} (e:full=a ++ b :: c):Fit ops T full OS a b:=by
 have:okAll ops T full OS [] (a ++ b :: c)=true:=by rw [← e];exact h.ok
 have:=okAll_split this
 rw [List.nil_append] at this
 exact okOne_fit this
theorem Full.uniq {full:List DI} (h:Full P N ops T OS full) {x y:DI} (hx:x ∈ full) (hy:y ∈ full) (e:x.ix=y.ix):x=y:=by
 obtain ⟨l1,l2,rfl⟩:=List.append_of_mem hx
 rcases List.mem_append.1 hy with hy | hy
 ·exact absurd e.symm ((h.at (a:=l1) (b:=x) (c:=l2) rfl).ne y hy)
 ·rcases List.mem_cons.1 hy with hy | hy
  ·exact hy.symm
  ·obtain ⟨m1,m2,rfl⟩:=List.append_of_mem hy
   exact absurd e ((h.at (a:=l1 ++ x :: m1) (b:=y) (c:=m2) (by simp)).ne x (by simp))
theorem Full.apart {full:List DI} (h:Full P N ops T OS full) {x y:DI} (hx:x ∈ full) (hy:y ∈ full) (hmx:mkD ops T full OS x=true) (hmy:mkD ops T full OS y=true) (e:x.ix≠y.ix):x.mi.dst≠y.mi.dst:=by
 have key:∀ {l c:List DI} {b a:DI},full=l ++ b :: c→mkD ops T full OS b=true→a ∈ l→a.mi.dst≠b.mi.dst:=fun ef hb ha=>by
  rcases (h.at ef).chain with ⟨_,h2⟩ | ⟨h2,_⟩
  ·exact h2 _ ha
  ·rw [hb] at h2;cases h2
 obtain ⟨l1,l2,ef⟩:=List.append_of_mem hx
 have hy':=hy
 rw [ef] at hy'
 rcases List.mem_append.1 hy' with hy' | hy'
 ·exact (key ef hmx hy').symm
 ·rcases List.mem_cons.1 hy' with hy' | hy'
  ·exact absurd (by rw [hy']) e
  ·obtain ⟨m1,m2,ef2⟩:=List.append_of_mem hy'
   exact key (l:=l1 ++ x :: m1) (c:=m2) (by rw [ef,ef2];simp) hmy (by simp)
def HidR (B:Fz) (a:Act) (ts:Fr) (p:Nat) (d:DI):Prop:=
 ∃ dd q cs cs' e,d.mi.dst=some dd∧d.mi.g=none∧litOf ts d.mi.op=some (q,cs)∧
   B.x p=some (.cells cs' e (0,0))∧B.n≤p∧(∀ len,q=some len→cs'.size=len * 1)∧(∀ μ n,VRs μ n cs cs'.toList)∧a.tmps.getD dd undef=litV q p
theorem HidR.upd {B:Fz} {a:Act} {ts ts':Fr} {p:Nat} {d:DI} (h:HidR B a ts p d) (hs:∀ s ∈ rdI d.mi,ts s=ts' s):HidR B a ts' p d:=by
 obtain ⟨dd,q,cs,cs',e,hd,hg,hfill,r⟩:=h
 refine ⟨dd,q,cs,cs',e,hd,hg,?_,r⟩
 rw [← litOf_congr (ts:=ts) fun s hm=>hs s (by simp only [rdI];exact List.mem_append.2 (.inl hm))]
 exact hfill
def ShpR (OS:List Nat) (full pre:List DI) (ts:Fr):Prop:=(∀ s ∈ OS,plain (ts s)=true)∧∀ k,allC full OS k=true→(∃ a ∈ pre,a.mi.dst=some k)→plain (ts k)=true
structure J (E:World→Prop) (P:Program) (ops:Array Oper) (T:List Nat) (OS:List Nat) (B:Fz) (w0:World) (N:Nat) (D:List Deferred) (μ0:Nat→Blk) (n0:Nat) (full:List DI) (K:Fr→H→Prop) (pre rest:List DI) (listed:Array Bool) (ts:Fr) (σ:H) (a:Act) (w:World):Prop where
 split:full=pre ++ rest
 size:listed.size=ops.size
 closed:Closed ops listed
 loudL:∀ d ∈ pre,d.loud=true→Lst listed d.ix
 hidden:∀ d ∈ rest,Lst listed d.ix→mkD ops T full OS d=true
 shp:ShpR OS full pre ts
 pend:∀ d ∈ pre,¬ Lst listed d.ix→PV d.mi ts σ
 run:mld E P full rest K ts σ
 st:∃ (Bx:Fz) (ts2:Fr) (μ:Nat→Blk) (pf:Nat→Nat),(Bx.n=B.n∧∀ k o,B.x k=some o→Bx.x k=some o)∧St E Bx w0 N D μ0 n0 μ ts2 σ a w∧
  (∀ s,(∀ d ∈ pre,¬ Lst listed d.ix→d.mi.dst≠some s)→(∀ d ∈ rest,Lst listed d.ix→d.mi.dst≠some s)→ts2 s=ts s)∧
  (∀ d ∈ rest,Lst listed d.ix→HidR Bx a ts (pf d.ix) d∧B.x (pf d.ix)=none)∧
  (∀ d1 ∈ rest,∀ d2 ∈ rest,Lst listed d1.ix→Lst listed d2.ix→d1.ix≠d2.ix→pf d1.ix≠pf d2.ix)
theorem quiet_mstep {ts:Fr} {σ:H} {op:MOp} {K:Value→H→Prop} (hq:quietM op=true) (h:mstep E P ts σ op K):∃ v,mop ts σ op=some (v,σ)∧K v σ:=by
 have:∃ v τ,mop ts σ op=some (v,τ)∧K v τ:=by
  cases op<;>first | (simp [quietM] at hq;done) | exact h
 obtain ⟨v,τ,h1,h2⟩:=this
 obtain ⟨rfl,_⟩:=quiet_ext hq h1
 exact ⟨v,h1,h2⟩
theorem lit_mstep {ts:Fr} {σ:H} {op:MOp} {K:Value→H→Prop} {r:Option Nat × List Value} (hq:litOf ts op=some r) (h:mstep E P ts σ op K):∃ v τ,mop ts σ op=some (v,τ)∧K v τ:=by
 cases op<;>first | (simp [litOf] at hq;done) | exact h
theorem allC_spec {full:List DI} {k:Nat} (h:allC full OS k=true) {b:DI} (hb:b ∈ full) (hd:b.mi.dst=some k):b.loud=false∧b.mi.g=none∧((∃ s ∈ OS,b.mi.op=.mv (.t s))∨(∃ a,b.mi.op=.load1 a∧b.ext=true)∨∃ op x y,b.mi.op=.bin op x y):=by
 unfold allC at h
 have:=List.all_eq_true.1 h b hb
 rw [hd] at this
 simp only [bne_self_eq_false,Bool.false_or,Bool.and_eq_true,Bool.not_eq_true'] at this
 obtain ⟨⟨h1,h2⟩,h3⟩:=this
 refine ⟨h1,by simpa using h2,?_⟩
 split at h3
 ·rename_i s hop
  exact .inl ⟨s,by simpa using h3,hop⟩
 ·rename_i a hop
  exact .inr (.inl ⟨a,hop,h3⟩)
 ·rename_i op x y hop
  exact .inr (.inr ⟨op,x,y,hop⟩)
 ·cases h3
theorem bin_plain {op:BinOp} {x y v:Value} (h:mbin op x y=some v):plain v=true:=by
 unfold mbin at h
 split at h
 all_goals first
  | (cases h;done)
  | (simp only [Option.some.injEq] at h;subst h;rfl)
  | (split at h
     ·simp only [Option.some.injEq] at h;subst h;rfl
     ·cases h)
theorem ShpR.upd {full pre:List DI} {ts:Fr} (hF:Full P N ops T OS full) (h:ShpR OS full pre ts) {b:DI} {v:Value} (hb:b ∈ full) (hv:∀ k,b.mi.dst=some k→allC full OS k=true→plain v=true):ShpR OS full (pre ++ [b]) (updO ts b.mi.dst v):=by
 have other:∀ k,b.mi.dst≠some k→updO ts b.mi.dst v k=ts k:=fun k hk=>by
  cases hd:b.mi.dst with
  | none=>rfl
  | some y=>
    have:k≠y:=fun e=>hk (by rw [hd,e])
    simp [updO,Mini.upd,this]
 refine ⟨fun s hs=>?_,fun k hk hex=>?_⟩
 ·rw [other s (hF.outs s hs b hb)];exact h.1 s hs
 ·by_cases hd:b.mi.dst=some k
  ·have:=hv k hd hk
   rw [hd];simpa [updO,Mini.upd] using this
  ·rw [other k hd]
   obtain ⟨a,ha,ha2⟩:=hex
   rcases List.mem_append.1 ha with ha | ha
   ·exact h.2 k hk ⟨a,ha,ha2⟩
   ·simp at ha;subst ha;exact absurd ha2 hd
theorem Full.lit {full:List DI} (hF:Full P N ops T OS full) {x b:DI} (hx:mkD ops T full OS x=true) (hb:b ∈ full) (hl:b.loud=true) {k:Nat} (hk:k ∈ rdI x.mi):b.mi.dst≠some k:=by
 intro hd
 have:=(mkD_spec hx).2.2.1 k hk
 unfold srcOk at this
 simp only [Bool.or_eq_true,Bool.and_eq_true] at this
 rcases this with h | ⟨h,_⟩
 ·exact hF.outs k (by simpa using h) b hb hd
 ·rw [(allC_spec h hb hd).1] at hl;cases hl
theorem updO_other {ts:Fr} {d:Option Nat} {v:Value} {k:Nat} (h:d≠some k):ts k=updO ts d v k:=by
 cases d with
 | none=>rfl
 | some y=>
   have:k≠y:=fun e=>h (by rw [e])
   simp [updO,Mini.upd,this]
theorem St.show {B Bx:Fz} {w0 w:World} {N:Nat} {D:List Deferred} {μ0 μ:Nat→Blk} {n0:Nat} {ts2:Fr} {σ:H} {a:Act} {p dd:Nat} {q:Option Nat} {cs:List Value} {cs':Array Value} {e:TypeId}
 (st:St E Bx w0 N D μ0 n0 μ ts2 σ a w) (hp:Bx.x p=some (.cells cs' e (0,0))) (hn:Bx.n≤p) (hl:∀ len,q=some len→cs'.size=len * 1) (hc:VRs μ σ.size cs cs'.toList) (ht:a.tmps.getD dd undef=litV q p):
 St E (Bx.del p) w0 N D μ0 n0 (setMu μ σ.size ⟨p,0,litZ q,cs'.size,litZ q == 0⟩) (updO ts2 (some dd) (litV q σ.size)) (σ.push (.cells (litZ q) cs)) a w:=by
 have hw:=st.sim.fx _ _ hp
 have hlt:p < w.heap.size:=by
  rcases Nat.lt_or_ge p w.heap.size with x | x
  ·exact x
  ·rw [Array.getElem?_eq_none x] at hw;cases hw
 have hwk:Sim (Bx.del p) w0 μ σ w:=st.sim.weaken rfl fun k o ek=>by
  simp only [Fz.del] at ek
  split at ek
  ·cases ek
  ·exact ek
 have hag:Agr σ.size μ (setMu μ σ.size ⟨p,0,litZ q,cs'.size,litZ q == 0⟩):=.setMu μ _
 refine ⟨st.env,hwk.push' (p:=⟨p,0,litZ q,cs'.size,litZ q == 0⟩) ⟨hn,by simp [Fz.del]⟩ hlt rfl (fun e=>by simp [e]) hw ⟨unfrozen0 _,rfl⟩ (fun j v hv=>?_) (fun i hi=>?_),⟨st.fr.1,fun i=>?_⟩,st.defers,st.agr.trans hag st.le,by have:=st.le;simp;omega⟩
 ·obtain ⟨v',h1,h2⟩:=hc.get hv
  exact ⟨v',by simpa using h1,h2⟩
 ·intro e2
  have:=st.sim.free hi
  rw [e2,hp] at this;cases this
 ·by_cases ei:i=dd
  ·subst ei
   simp only [updO,upd_same,ht,H.size_push]
   cases q with
   | some len=>exact setMu_slice μ σ.size ⟨p,0,1,cs'.size,false⟩ (Nat.le_refl _) (Nat.le_refl _) (fun _=>by simp only;have:=hl len rfl;omega) (fun _=>rfl)
   | none=>exact setMu_ptr μ σ.size ⟨p,0,0,cs'.size,true⟩ rfl
  ·simp only [updO,upd_ne ei,H.size_push]
   exact (st.fr.2 i).mono (by omega) hag
theorem J.advance {full:List DI} {K:Fr→H→Prop} (hF:Full P N ops T OS full):∀ {rest pre:List DI} {listed:Array Bool} {ts:Fr} {σ:H} {a:Act} {w:World},J E P ops T OS B w0 N D μ0 n0 full K pre rest listed ts σ a w→
 ∃ pre' rest' ts' σ',J E P ops T OS B w0 N D μ0 n0 full K pre' rest' listed ts' σ' a w∧∀ h tl,rest'=h :: tl→h.loud=true∧¬ Lst listed h.ix
 | [],pre,listed,ts,σ,a,w,j=>⟨pre,[],ts,σ,j,fun _ _ e=>by cases e⟩
 | b :: rest,pre,listed,ts,σ,a,w,j=>by
   have fit:=hF.at j.split
   by_cases hL:Lst listed b.ix
   ·
    obtain ⟨Bx,ts2,μ,pf,hB,st,hs,hh,hpf⟩:=j.st
    obtain ⟨⟨dd,q,cs,cs',e,hd,hg,hfill,hx,hn,hl,hv,ht⟩,hbx⟩:=hh b (List.mem_cons_self ..) hL
    have hmk:=j.hidden b (List.mem_cons_self ..) hL
    have hbl:=(mkD_spec hmk).1
    have hbf:b ∈ full:=by rw [j.split];simp
    have hrun:=j.run
    simp only [mld] at hrun
    rw [hg] at hrun
    simp only [wantM,if_true] at hrun
    obtain ⟨v,τ,hm,_,hk⟩:=lit_mstep hfill hrun
    rw [litOf_mop hfill σ] at hm
    simp only [Option.some.injEq,Prod.mk.injEq] at hm
    obtain ⟨rfl,rfl⟩:=hm
    obtain ⟨ob,hob,hdeps⟩:=fit.deps
    have hreach:∀ x,rch T x b.ix=true→Lst listed x:=fun x hx=>dst_listed hF.tab j.closed _ hx hob fun e' he' hb=>j.closed _ ob hL hob e' he' hb
    refine J.advance hF (pre:=pre ++ [b]) (ts:=updO ts b.mi.dst (litV q σ.size)) ⟨by rw [j.split];simp,j.size,j.closed,fun d hdm hdl=>?_,fun d hdm=>j.hidden d (List.mem_cons_of_mem _ hdm),j.shp.upd hF hbf (fun k hdk hck=>by rw [(allC_spec hck hbf hdk).1] at hbl;cases hbl),fun d hdm hdl=>?_,hk,?_⟩
    ·rcases List.mem_append.1 hdm with h | h
     ·exact j.loudL d h hdl
     ·simp at h;subst h;exact hL
    ·have hdp:d ∈ pre:=by
      rcases List.mem_append.1 hdm with h | h
      ·exact h
      ·simp at h;subst h;exact absurd hL hdl
     have hdq:quietM d.mi.op=true:=by
      obtain ⟨q1,q2,eq⟩:=List.append_of_mem hdp
      have ef2:full=q1 ++ d :: (q2 ++ b :: rest):=by rw [j.split,eq];simp
      exact ((hF.at ef2).quiet.resolve_left (fun hl=>hdl (j.loudL d hdp hl))).1
     have hnd:¬ rch T d.ix b.ix=true:=fun h=>hdl (hreach _ h)
     have hp:=(fit.pair d hdp).resolve_left hnd
     exact ((j.pend d hdp hdl).ext hdq (Ext.push _ _)).upd (fun y hy=>(hp.1 y hy).1) (fun y hy=>(hp.1 y hy).2)
    ·refine ⟨Bx.del (pf b.ix),updO ts2 (some dd) (litV q σ.size),_,pf,⟨hB.1,fun k o ek=>?_⟩,St.show (B:=B) st hx hn hl (hv _ _) ht,fun s h1 h2=>?_,fun d hdm hdl=>?_,fun d1 m1 d2 m2=>hpf d1 (List.mem_cons_of_mem _ m1) d2 (List.mem_cons_of_mem _ m2)⟩
     ·simp only [Fz.del]
      rw [if_neg (fun ek2=>by rw [ek2,hbx] at ek;cases ek)]
      exact hB.2 k o ek
     ·rw [hd]
      by_cases es:s=dd
      ·subst es;simp [updO,Mini.upd]
      ·simp only [updO,Mini.upd,es,if_false]
       exact hs s (fun d hdm hdl=>h1 d (by simp [hdm]) hdl) fun d hdm hdl=>by
        rcases List.mem_cons.1 hdm with h | h
        ·subst h;rw [hd];intro e2;cases e2;exact es rfl
        ·exact h2 d h hdl
     ·obtain ⟨hr0,hbx2⟩:=hh d (List.mem_cons_of_mem _ hdm) hdl
      obtain ⟨dd2,q2,cs2,cs2',e2,hd2,hg2,hfill2,hx2,r2⟩:=hr0.upd (ts':=updO ts b.mi.dst (litV q σ.size)) fun s hs=>updO_other (hF.lit (j.hidden d (List.mem_cons_of_mem _ hdm) hdl) hbf hbl hs)
      have hne:b.ix≠d.ix:=by
       obtain ⟨m1,m2,em⟩:=List.append_of_mem hdm
       exact (hF.at (a:=pre ++ b :: m1) (b:=d) (c:=m2) (by rw [j.split,em];simp)).ne b (by simp)
      have hpne:=hpf b (List.mem_cons_self ..) d (List.mem_cons_of_mem _ hdm) hL hdl hne
      refine ⟨⟨dd2,q2,cs2,cs2',e2,hd2,hg2,hfill2,?_,r2⟩,hbx2⟩
      simp only [Fz.del]
      rw [if_neg (fun e=>hpne e.symm)]
      exact hx2
   ·by_cases hl:b.loud=true
    ·exact ⟨pre,b :: rest,ts,σ,j,fun h tl e=>by cases e;exact ⟨hl,hL⟩⟩
    ·obtain ⟨hq,hself⟩:=fit.quiet.resolve_left hl
     have hbf:b ∈ full:=by rw [j.split];simp
     have main:∀ v,(∀ k,b.mi.dst=some k→allC full OS k=true→plain v=true)→mld E P full rest K (updO ts b.mi.dst v) σ→PV b.mi (updO ts b.mi.dst v) σ→J E P ops T OS B w0 N D μ0 n0 full K (pre ++ [b]) rest listed (updO ts b.mi.dst v) σ a w:=by
      intro v hsh hrun hpv
      refine ⟨by rw [j.split];simp,j.size,j.closed,fun d hd hdl=>?_,fun d hd=>j.hidden d (List.mem_cons_of_mem _ hd),j.shp.upd hF hbf hsh,fun d hd hdl=>?_,hrun,?_⟩
      ·rcases List.mem_append.1 hd with h | h
       ·exact j.loudL d h hdl
       ·simp at h;subst h;exact absurd hdl hl
      ·rcases List.mem_append.1 hd with h | h
       ·have fr:=(fit.fresh d h).resolve_left hl
        exact (j.pend d h hdl).upd (fun x hx=>(fr x hx).1) (fun x hx=>(fr x hx).2)
       ·simp at h;subst h;exact hpv
      ·obtain ⟨Bx,ts2,μ,pf,hB,st,hs,hh,hpf⟩:=j.st
       refine ⟨Bx,ts2,μ,pf,hB,st,fun s hp hp2=>?_,fun d hdm hdl=>⟨(hh d (List.mem_cons_of_mem _ hdm) hdl).1.upd fun s hs=>updO_other fun hbd=>?_,(hh d (List.mem_cons_of_mem _ hdm) hdl).2⟩,fun d1 m1 d2 m2=>hpf d1 (List.mem_cons_of_mem _ m1) d2 (List.mem_cons_of_mem _ m2)⟩
       rw [hs s (fun d hd hdl=>hp d (by simp [hd]) hdl) fun d hd hdl=>by
        rcases List.mem_cons.1 hd with h | h
        ·subst h;exact absurd hdl hL
        ·exact hp2 d h hdl]
       have:=hp b (by simp) hL
       cases hd:b.mi.dst with
       | none=>rfl
       | some x=>
         rw [hd] at this
         have hsx:s≠x:=fun e=>this (by rw [e])
         simp [updO,Mini.upd,hsx]
       obtain ⟨m1,m2,em⟩:=List.append_of_mem hdm
       have ef2:full=(pre ++ b :: m1) ++ d :: m2:=by rw [j.split,em];simp
       rcases (hF.at ef2).pair b (by simp) with h | ⟨_,h⟩
       ·obtain ⟨od,hod,_⟩:=hF.cmi d (by rw [ef2];simp)
        exact hL (dst_listed hF.tab j.closed _ h hod fun e' he' hb=>j.closed _ od hdl hod e' he' hb)
       ·exact h s hbd hs
     have same:∀ v,∀ s ∈ rdI b.mi,ts s=updO ts b.mi.dst v s:=fun v s hs=>by
      cases hd:b.mi.dst with
      | none=>rfl
      | some x=>
        have:s≠x:=fun e=>hself x hd (e ▸ hs)
        simp [updO,Mini.upd,this]
     have hrun:=j.run
     simp only [mld] at hrun
     split at hrun
     ·rename_i hw
      obtain ⟨v,hm,hk0,hk⟩:=quiet_mstep hq hrun
      refine J.advance hF (main v (fun k hdk hck=>?_) hk (.inl ⟨?_,v,?_,fun d hd=>?_⟩))
      ·obtain ⟨hlo,_,⟨s,hsO,hop⟩ | ⟨aa,hop,hex⟩ | ⟨op,x,y,hop⟩⟩:=allC_spec hck hbf hdk
       ·rw [hop] at hm
        simp only [mop,mev,Option.some.injEq,Prod.mk.injEq,and_true] at hm
        rw [← hm];exact j.shp.1 s hsO
       ·exact (hk0 hex).quiet hlo v hm
       ·rw [hop] at hm
        simp only [mop,Option.map_eq_some_iff,Prod.mk.injEq] at hm
        obtain ⟨u,hu,rfl,_⟩:=hm
        exact bin_plain hu
      ·rw [← wantM_congr (g:=b.mi.g) fun s hs=>same v s (by simp [rdI,hs])];exact hw
      ·rw [← mop_congr fun s hs=>same v s (by simp [rdI,hs])];exact hm
      ·rw [hd];simp [updO,Mini.upd]
     ·rename_i hw
      refine J.advance hF (main undef (fun k hdk hck=>by rw [(allC_spec hck hbf hdk).2.1] at hw;exact absurd rfl hw) hrun (.inr ⟨?_,fun d hd=>?_⟩))
      ·rw [← wantM_congr (g:=b.mi.g) fun s hs=>same undef s (by simp [rdI,hs])];simpa using hw
      ·rw [hd];simp [updO,Mini.upd]
theorem lst_set {listed:Array Bool} {i j:Nat} (hi:i < listed.size):Lst (listed.setIfInBounds i true) j↔(j=i∨Lst listed j):=by
 unfold Lst
 simp only [Array.getD_eq_getD_getElem?,Array.getElem?_setIfInBounds]
 by_cases e:i=j
 ·subst e;simp [hi]
 ·have:j≠i:=fun x=>e x.symm
  simp [e,this]
theorem filter_lt {α:Type} {p q:α→Bool}:∀ {l:List α},(∀ x ∈ l,q x=true→p x=true)→(∃ x ∈ l,p x=true∧q x=false)→(l.filter q).length < (l.filter p).length
 | [],_,h=>by obtain ⟨x,hx,_⟩:=h;cases hx
 | a :: l,h1,h2=>by
   have hle:∀ {l:List α},(∀ x ∈ l,q x=true→p x=true)→(l.filter q).length≤(l.filter p).length:=by
    intro l
    induction l with
    | nil=>intro _;simp
    | cons a l ih=>
      intro h
      have ih':=ih fun x hx=>h x (by simp [hx])
      have ha:=h a (by simp)
      by_cases hq:q a=true
      ·simp [List.filter_cons,hq,ha hq,ih']
      ·by_cases hp:p a=true
       ·simp [List.filter_cons,hq,hp];omega
       ·simp [List.filter_cons,hq,hp,ih']
   have ha:=h1 a (by simp)
   obtain ⟨x,hx,hp,hq⟩:=h2
   rcases List.mem_cons.1 hx with e | hx'
   ·subst e
    have:=hle (l:=l) fun y hy=>h1 y (by simp [hy])
    simp [List.filter_cons,hp,hq];omega
   ·have ih:=filter_lt (l:=l) (fun y hy=>h1 y (by simp [hy])) ⟨x,hx',hp,hq⟩
    by_cases hqa:q a=true
    ·simp [List.filter_cons,hqa,ha hqa,ih]
    ·by_cases hpa:p a=true
     ·simp [List.filter_cons,hqa,hpa];omega
     ·simp [List.filter_cons,hqa,hpa,ih]
theorem cop_alloc {t:TypeId} {zs:List Value} (h:cop P (.alloc t)=some (.alloc zs)):zeroL P t=some zs:=by
 unfold cop at h
 split at h
 ·rename_i m' h1
  simp only [Option.some.injEq] at h;subst h
  simp only [cop1] at h1
  split at h1
  ·simp only [Option.map_eq_some_iff] at h1
   obtain ⟨_,_,h2⟩:=h1;cases h2
  ·simp only [Option.map_eq_some_iff] at h1
   obtain ⟨z,h2,h3⟩:=h1;cases h3;exact h2
 ·cases h
theorem cop_alloc_ne {t:TypeId} {sz len:Nat} {zs:List Value} {ps:List (Nat × Opd)} (h:cop P (.alloc t)=some (.bsl sz len zs ps)):False:=by
 unfold cop at h
 split at h
 ·rename_i m' h1
  simp only [Option.some.injEq] at h;subst h
  simp only [cop1] at h1
  split at h1
  ·simp only [Option.map_eq_some_iff] at h1
   obtain ⟨_,_,h2⟩:=h1;cases h2
  ·simp only [Option.map_eq_some_iff] at h1
   obtain ⟨z,h2,h3⟩:=h1;cases h3
 ·cases h
theorem cop_bsl_ne {t:TypeId} {ln:Nat} {prs:Array (Nat × Operand)} {zs:List Value} (h:cop P (.buildSlice t ln prs)=some (.alloc zs)):False:=by
 unfold cop at h
 split at h
 ·rename_i m' h1
  simp only [Option.some.injEq] at h;subst h
  simp only [cop1] at h1
  split at h1
  ·split at h1
   ·split at h1
    ·cases h1
    ·simp only [Option.bind_eq_some_iff] at h1
     obtain ⟨_,_,h2⟩:=h1
     split at h2<;>cases h2
   ·cases h1
  ·cases h1
 ·cases h
theorem lit_sound {μ:Nat→Blk} {ts:Fr} {σ:H} {a:Act} {w:World} {o:Oper} {m:MOp} (ho:(∃ t ln prs,o.op=.buildSlice t ln prs)∨∃ t,o.op=.alloc t) (hc:cop P o.op=some m)
 (hf:∀ i,VR μ σ.size (ts i) (a.tmps.getD i undef)) {q:Option Nat} {cs:List Value} (hfill:litOf ts m=some (q,cs)):
 ∃ (ca2:Array Value) (e:TypeId),(execOp a.eval o).run P w=.ok (.value (litV q w.heap.size)) { w with heap:=w.heap.push (.cells ca2 e (0,0)) }∧VRs μ σ.size cs ca2.toList∧∀ len,q=some len→ca2.size=len * 1:=by
 cases m<;>first | (simp [litOf] at hfill;done) | skip
 case bsl sz len zs ps=>
  simp only [litOf] at hfill
  split at hfill
  ·rename_i e
   subst e
   simp only [Option.map_eq_some_iff,Prod.mk.injEq] at hfill
   obtain ⟨c,hc2,rfl,rfl⟩:=hfill
   rcases ho with ⟨t,ln,prs,ho⟩ | ⟨t,ho⟩
   ·obtain ⟨ca2,e,h1,h2,h3,_⟩:=bsl_sound (w:=w) ho hc hf hc2
    exact ⟨ca2,e,h1,h2,fun l hl=>by injection hl with hl;rw [← hl];exact h3⟩
   ·exfalso
    rw [ho] at hc
    exact cop_alloc_ne hc
  ·cases hfill
 case alloc zs=>
  simp only [litOf,Option.some.injEq,Prod.mk.injEq] at hfill
  obtain ⟨rfl,rfl⟩:=hfill
  rcases ho with ⟨t,ln,prs,ho⟩ | ⟨t,ho⟩
  ·exfalso
   rw [ho] at hc
   exact cop_bsl_ne hc
  ·rw [ho] at hc
   have hz:=cop_alloc hc
   obtain ⟨i,z,hi,hz1,hz2,hz3,hz4,hz5⟩:=zeroL_spec hz
   refine ⟨z.cells,t,?_,?_,fun l hl=>(by cases hl)⟩
   ·simp only [execOp,ho]
    simp [Instr.alloc,newVar,Go.newRow,hz5]
    rfl
   ·rw [hz2];exact VRs.of_plain hz3
theorem takeWhile_pre {d:DI}:∀ {l c:List DI},(∀ a ∈ l,a.ix≠d.ix)→((l ++ d :: c).takeWhile fun a=>a.ix != d.ix)=l
 | [],c,_=>by simp [List.takeWhile]
 | a :: l,c,h=>by
   have:=h a (by simp)
   simp only [List.cons_append,List.takeWhile,bne_iff_ne.2 this]
   rw [takeWhile_pre fun x hx=>h x (by simp [hx])]
theorem drawn {full:List DI} {K:Fr→H→Prop} {Q:Exit→Act→World→Prop} (hF:Full P N ops T OS full)
 (hK:∀ ts σ μ a w,K ts σ→St E B w0 N D μ0 n0 μ ts σ a w→Q .normal a w):∀ (fuel:Nat) {pre rest:List DI} {listed:Array Bool} {ts:Fr} {σ:H} {a:Act} {w:World},
 J E P ops T OS B w0 N D μ0 n0 full K pre rest listed ts σ a w→(full.filter fun d=>!listed.getD d.ix false).length≤fuel→wpAnyIn (FW ro) 0 P .any ops Q fuel listed a w:=by
 intro fuel
 have done:∀ {pre rest:List DI} {listed:Array Bool} {ts:Fr} {σ:H} {a:Act} {w:World},J E P ops T OS B w0 N D μ0 n0 full K pre rest listed ts σ a w→(∀ d ∈ full,Lst listed d.ix)→Q .normal a w:=by
  intro pre rest listed ts σ a w j0 hall
  obtain ⟨pre,rest,ts,σ,j,hhead⟩:=j0.advance hF
  have hrest:rest=[]:=by
   cases hr:rest with
   | nil=>rfl
   | cons h tl=>exact absurd (hall h (by rw [j.split,hr];simp)) (hhead h tl hr).2
  subst hrest
  obtain ⟨Bx,ts2,μ,pf,hB,st,hs,_,_⟩:=j.st
  have:ts2=ts:=funext fun s=>hs s (fun d hd hdl=>absurd (hall d (by rw [j.split];simp [hd])) hdl) (fun d hd=>by cases hd)
  subst this
  exact hK _ _ _ _ _ j.run ⟨st.env,st.sim.weaken hB.1 hB.2,st.fr,st.defers,st.agr,st.le⟩
 have idle:∀ {pre rest:List DI} {listed:Array Bool} {ts:Fr} {σ:H} {a:Act} {w:World},J E P ops T OS B w0 N D μ0 n0 full K pre rest listed ts σ a w→Region.ready .any ops listed=[]→∀ d ∈ full,Lst listed d.ix:=by
  intro pre rest listed ts σ a w j hr
  have:∀ (n:Nat) (l c:List DI),l.length=n→full=l ++ c→∀ d ∈ l,Lst listed d.ix:=by
   intro n
   induction n with
   | zero=>intro l c h0 _ d hd;rw [List.length_eq_zero_iff.1 h0] at hd;cases hd
   | succ n ih0=>
     intro l0 c h0 e d hd
     obtain ⟨l,b,rfl⟩:∃ l b,l0=l ++ [b]:=by
      rcases List.eq_nil_or_concat l0 with h | ⟨l,b,h⟩
      ·subst h;simp at h0
      ·exact ⟨l,b,by simpa using h⟩
     have ih:∀ c,full=l ++ c→∀ d ∈ l,Lst listed d.ix:=fun c=>ih0 l c (by simpa using h0)
     have e':full=l ++ b :: c:=by rw [e];simp
     have hl:=ih (b :: c) e'
     rcases List.mem_append.1 hd with h | h
     ·exact hl d h
     ·simp at h
      subst h
      obtain ⟨o,ho,hd⟩:=(hF.at e').deps
      apply Classical.byContradiction
      intro hn
      have hlt:d.ix < ops.size:=by
       rcases Nat.lt_or_ge d.ix ops.size with x | x
       ·exact x
       ·rw [Array.getElem?_eq_none x] at ho;cases ho
      have hmem:d.ix ∈ Region.ready .any ops listed:=mem_ready.2 ⟨by
       have hsz:d.ix < listed.size:=by rw [j.size];exact hlt
       unfold Lst at hn
       rw [Array.getD_eq_getD_getElem?,Array.getElem?_eq_getElem hsz] at hn ⊢
       simpa using hn,o,ho,fun e' he' hb=>by
        obtain ⟨x,hx,ex⟩:=hd e' he' hb
        rw [← ex];exact hl x hx⟩
      rw [hr] at hmem
      cases hmem
  exact this full.length full [] rfl (by simp)
 induction fuel with
 | zero=>
   intro pre rest listed ts σ a w j hm
   have hall:∀ d ∈ full,Lst listed d.ix:=by
    intro d hd
    apply Classical.byContradiction
    intro hn
    have h0:(full.filter fun d=>!listed.getD d.ix false)=[]:=List.length_eq_zero_iff.1 (by omega)
    have:d ∈ full.filter fun d=>!listed.getD d.ix false:=List.mem_filter.2 ⟨hd,by unfold Lst at hn;simpa using hn⟩
    rw [h0] at this
    cases this
   refine ⟨?_,done j hall⟩
   apply Classical.byContradiction
   intro hne
   obtain ⟨i,hi⟩:=List.exists_mem_of_ne_nil _ hne
   obtain ⟨h1,o,ho,_⟩:=mem_ready.1 hi
   have hlt:i < ops.size:=by
    rcases Nat.lt_or_ge i ops.size with x | x
    ·exact x
    ·rw [Array.getElem?_eq_none x] at ho;cases ho
   obtain ⟨d,hd,e⟩:=hF.comp i hlt
   have:=hall d hd
   unfold Lst at this
   rw [e] at this
   have hsz:i < listed.size:=by rw [j.size];exact hlt
   rw [Array.getD_eq_getD_getElem?,Array.getElem?_eq_getElem hsz] at h1 this
   simp at h1 this
   rw [h1] at this;cases this
 | succ fuel ih=>
   intro pre rest listed ts σ a w j0 hm
   obtain ⟨pre,rest,ts,σ,j,hhead⟩:=j0.advance hF
   clear j0
   refine ⟨fun hr=>done j (idle j hr),fun i hi=>?_⟩
   obtain ⟨h1,o,ho,hdeps⟩:=mem_ready.1 hi
   have hlt:i < ops.size:=by
    rcases Nat.lt_or_ge i ops.size with x | x
    ·exact x
    ·rw [Array.getElem?_eq_none x] at ho;cases ho
   have hsz:i < listed.size:=by rw [j.size];exact hlt
   have hni:¬ Lst listed i:=by
    unfold Lst
    rw [Array.getD_eq_getD_getElem?,Array.getElem?_eq_getElem hsz] at h1 ⊢
    simp at h1 ⊢;exact h1
   obtain ⟨d,hd,e⟩:=hF.comp i hlt
   obtain ⟨o',ho',hcmi⟩:=hF.cmi d hd
   rw [e,ho] at ho'
   cases ho'
   obtain ⟨c1,c2,c3,c4,c5⟩:=cMI_spec hcmi
   obtain ⟨Bx,ts2,μ,pf,hB,st,hs,hh,hpf⟩:=j.st
   have hmeas:∀ {l':Array Bool},l'=listed.setIfInBounds i true→(full.filter fun d=>!l'.getD d.ix false).length≤fuel:=by
    intro l' el
    subst el
    have:=filter_lt (l:=full) (p:=fun d=>!listed.getD d.ix false) (q:=fun d=>!(listed.setIfInBounds i true).getD d.ix false) (fun x _ hx=>by
     have hx':¬ Lst (listed.setIfInBounds i true) x.ix:=by unfold Lst;simpa using hx
     have:¬ Lst listed x.ix:=fun h=>hx' ((lst_set hsz).2 (.inr h))
     unfold Lst at this
     simpa using this) ⟨d,hd,by rw [e];unfold Lst at hni;simpa using hni,by
      have:Lst (listed.setIfInBounds i true) d.ix:=(lst_set hsz).2 (.inl e)
      unfold Lst at this
      simpa using this⟩
    omega
   have hclosed:Closed ops (listed.setIfInBounds i true):=by
    intro k ok hk hok e' he' hb
    refine (lst_set hsz).2 ?_
    rcases (lst_set hsz).1 hk with h | h
    ·subst h
     rw [ho] at hok
     cases hok
     exact .inr (hdeps e' he' hb)
    ·exact .inr (j.closed k ok h hok e' he' hb)
   have hsz':(listed.setIfInBounds i true).size=ops.size:=by simpa using j.size
   have hreach:∀ x,rch T x i=true→Lst listed x:=fun x hx=>dst_listed hF.tab j.closed _ hx ho hdeps
   have hback:∀ {x y:DI},y ∈ full→Lst listed y.ix→rch T x.ix y.ix=true→Lst listed x.ix:=fun {x y} hy hl hr=>by
    obtain ⟨oy,hoy,_⟩:=hF.cmi y hy
    exact dst_listed hF.tab j.closed _ hr hoy fun e' he' hb=>j.closed _ oy hl hoy e' he' hb
   have hpre:∀ {x:DI},x ∈ pre→x ∈ full:=fun h=>by rw [j.split];simp [h]
   have hres:∀ {x:DI},x ∈ rest→x ∈ full:=fun h=>by rw [j.split];simp [h]
   have hdn:¬ Lst listed d.ix:=by rw [e];exact hni
   have early:∀ {x:DI} {l c:List DI},full=l ++ x :: c→d ∈ l→Lst listed x.ix→(∀ y,x.mi.dst=some y→y ∉ rdI d.mi∧d.mi.dst≠some y):=fun {x l c} ef hm hx=>by
    refine (((hF.at ef).pair d hm).resolve_left fun h=>hdn (hback (by rw [ef];simp) hx h)).1
   have read:∀ {l c:List DI},full=l ++ d :: c→(∀ x ∈ pre,¬ Lst listed x.ix→x.loud≠true)→(∀ x ∈ pre,¬ Lst listed x.ix→x=d∨x ∈ l∨x ∈ c)→(∀ x ∈ rest,Lst listed x.ix→∀ y,x.mi.dst=some y→y ∉ rdI d.mi∧d.mi.dst≠some y)→∀ s ∈ rdI d.mi,ts2 s=ts s:=by
    intro l c ef hq hpos hhid s hsr
    refine hs s (fun x hx hxl hdst=>?_) fun x hx hxl hdst=>(hhid x hx hxl s hdst).1 hsr
    rcases hpos x hx hxl with h | h | h
    ·subst h
     by_cases hl:x.loud=true
     ·exact hq x hx hxl hl
     ·exact ((hF.at ef).quiet.resolve_left hl).2 s hdst hsr
    ·rcases (hF.at ef).pair x h with h2 | ⟨_,h2⟩
     ·rw [e] at h2;exact hxl (hreach _ h2)
     ·exact h2 s hdst hsr
    ·obtain ⟨c1,c2,rfl⟩:=List.append_of_mem h
     have ef2:full=(l ++ d :: c1) ++ x :: c2:=by rw [ef];simp
     have:=((hF.at ef2).fresh d (by simp)).resolve_left (hq x hx hxl)
     exact (this s hdst).1 hsr
   have hpq:∀ x ∈ pre,¬ Lst listed x.ix→x.loud≠true:=fun x hx hxl hl=>hxl (j.loudL x hx hl)
   have hmem:d ∈ pre∨d ∈ rest:=by
    have:=hd
    rw [j.split] at this
    exact List.mem_append.1 this
   have hwant:(∀ s ∈ rdI d.mi,ts2 s=ts s)→Region.wanted o (yielded ops a.tmps)=wantM ts d.mi.g:=fun h=>by
    rw [want_eq st.fr c2]
    exact wantM_congr fun s hs=>h s (by simp [rdI,hs])
   have keep:∀ {x:DI} {v':Value},HidR Bx a ts (pf x.ix) x→(∀ y,x.mi.dst=some y→d.mi.dst≠some y)→HidR Bx (a.put o.dst v') ts (pf x.ix) x:=fun {x v'} hx hne=>by
    obtain ⟨dd,q,cs,cs',e,hd2,hg,hfill,hx2,hn,hl,hv,ht⟩:=hx
    refine ⟨dd,q,cs,cs',e,hd2,hg,hfill,hx2,hn,hl,hv,?_⟩
    rw [← ht]
    have:=hne dd hd2
    rw [c3] at this
    cases hdo:o.dst with
    | none=>rfl
    | some y=>
      have hy:y≠dd:=fun e2=>this (by rw [hdo,e2])
      simp only [Act.put,Array.getD_eq_getD_getElem?,Array.getElem?_setIfInBounds,if_neg hy]
   have hset:∀ {x:DI},x ∈ full→x≠d→Lst (listed.setIfInBounds i true) x.ix→Lst listed x.ix:=fun {x} hx hne h=>by
    rcases (lst_set hsz).1 h with h | h
    ·exact absurd (hF.uniq hx hd (by rw [h,e])) hne
    ·exact h
   unfold wpOpIn
   simp only [ho]
   rcases hmem with hpred | hrest
   ·
    obtain ⟨p1,p2,ep⟩:=List.append_of_mem hpred
    have ef:full=p1 ++ d :: (p2 ++ rest):=by rw [j.split,ep];simp
    have hdl:d.loud≠true:=hpq d hpred hdn
    have hq:=((hF.at ef).quiet.resolve_left hdl).1
    have hhid:∀ x ∈ rest,Lst listed x.ix→∀ y,x.mi.dst=some y→y ∉ rdI d.mi∧d.mi.dst≠some y:=fun x hx hxl=>by
     obtain ⟨r1,r2,er⟩:=List.append_of_mem hx
     exact early (l:=pre ++ r1) (c:=r2) (by rw [j.split,er];simp) (by simp [hpred]) hxl
    have hrd:∀ s ∈ rdI d.mi,ts2 s=ts s:=read ef hpq (fun x hx _=>by
     rw [ep] at hx
     rcases List.mem_append.1 hx with h | h
     ·exact .inr (.inl h)
     ·rcases List.mem_cons.1 h with h | h
      ·exact .inl h
      ·exact .inr (.inr (by simp [h]))) hhid
    have hrne:∀ x ∈ rest,x≠d:=fun x hx ex=>by
     subst ex
     obtain ⟨r1,r2,er⟩:=List.append_of_mem hx
     exact (hF.at (a:=pre ++ r1) (b:=x) (c:=r2) (by rw [j.split,er];simp)).ne x (by simp [hpred]) rfl
    rw [hwant hrd]
    have fin:∀ {v v':Value} {w':World} {μ':Nat→Blk},Sim Bx w0 μ' σ w'→VR μ' σ.size v v'→Agr σ.size μ μ'→(∀ x,d.mi.dst=some x→ts x=v)→wpAnyIn (FW ro) 0 P .any ops Q fuel (listed.setIfInBounds i true) (a.put o.dst v') w':=by
     intro v v' w' μ' hsim hv hag hval
     refine ih (pre:=pre) (rest:=rest) (ts:=ts) (σ:=σ) ⟨j.split,hsz',hclosed,fun x hx hl=>(lst_set hsz).2 (.inr (j.loudL x hx hl)),fun x hx hxl=>j.hidden x hx (hset (hres hx) (hrne x hx) hxl),j.shp,fun x hx hxl=>j.pend x hx fun h=>hxl ((lst_set hsz).2 (.inr h)),j.run,?_⟩ (hmeas rfl)
     refine ⟨Bx,updO ts2 o.dst v,μ',pf,hB,st.put c4 hsim hv hag (Nat.le_refl _),fun s hp hp2=>?_,fun x hx hxl=>?_,fun x1 m1 x2 m2 l1 l2=>hpf x1 m1 x2 m2 (hset (hres m1) (hrne x1 m1) l1) (hset (hres m2) (hrne x2 m2) l2)⟩
     ·rw [← c3]
      by_cases hsd:d.mi.dst=some s
      ·rw [hsd];simp [updO,Mini.upd];exact (hval s hsd).symm
      ·have h2:updO ts2 d.mi.dst v s=ts2 s:=by
        cases hdd:d.mi.dst with
        | none=>rfl
        | some x=>
          have:s≠x:=fun ee=>hsd (by rw [hdd,ee])
          simp [updO,Mini.upd,this]
       rw [h2]
       refine hs s (fun x hx hxl hdst=>?_) fun x hx hxl=>hp2 x hx ((lst_set hsz).2 (.inr hxl))
       by_cases hxd:x=d
       ·subst hxd;exact hsd hdst
       ·exact hp x hx (fun h=>hxl (hset (hpre hx) hxd h)) hdst
     ·have hl:=hset (hres hx) (hrne x hx) hxl
      obtain ⟨g1,g2⟩:=hh x hx hl
      exact ⟨keep g1 fun y hy=>(hhid x hx hl y hy).2,g2⟩
    rcases j.pend d hpred hdn with ⟨hw,v,hm,hval⟩ | ⟨hw,hval⟩
    ·rw [hw]
     simp only [if_true]
     have hm2:mop ts2 σ d.mi.op=some (v,σ):=by rw [mop_congr fun s hs=>hrd s (by simp [rdI,hs])];exact hm
     obtain ⟨v',w',μ',hrun,hsim,hv,hag,_⟩:=cop_sound c1 st.sim st.fr.2 hm2
     unfold Oper.wpIn
     refine ⟨fun _ _=>trivial,?_⟩
     rw [Oper.semAt_eq _ _ _ (fun c e=>by rw [e] at c1;injection c1 with c1;rw [← c1] at hm2;cases hm2)]
     rcases hrun with hrun | ⟨hrun,rfl⟩
     ·rw [hrun];exact fin hsim hv hag hval
     ·rw [hrun];exact fin hsim hv hag hval
    ·rw [hw]
     simp only [Bool.false_eq_true,if_false]
     exact ⟨fun _ _=>trivial,fin st.sim (.tuple .nil) (.refl _ _) hval⟩
   ·
    cases hr:rest with
    | nil=>rw [hr] at hrest;cases hrest
    | cons h tl=>
      obtain ⟨hhl,hhn⟩:=hhead h tl hr
      by_cases hdh:d=h
      ·subst hdh
       have ef:full=pre ++ d :: tl:=by rw [j.split,hr]
       have fit:=hF.at ef
       have htn:∀ x ∈ tl,x≠d:=fun x hx ex=>by
        subst ex
        obtain ⟨r1,r2,er⟩:=List.append_of_mem hx
        exact (hF.at (a:=pre ++ x :: r1) (b:=x) (c:=r2) (by rw [ef,er];simp)).ne x (by simp) rfl
       have hhid:∀ x ∈ rest,Lst listed x.ix→∀ y,x.mi.dst=some y→y ∉ rdI d.mi∧d.mi.dst≠some y:=fun x hx hxl=>by
        rw [hr] at hx
        rcases List.mem_cons.1 hx with h | h
        ·subst h;exact absurd hxl hhn
        ·obtain ⟨r1,r2,er⟩:=List.append_of_mem h
         exact early (l:=pre ++ d :: r1) (c:=r2) (by rw [ef,er];simp) (by simp) hxl
       have hrd:∀ s ∈ rdI d.mi,ts2 s=ts s:=read ef hpq (fun x hx _=>.inr (.inl hx)) hhid
       have htl:∀ {x},x ∈ tl→x ∈ rest:=fun h=>by rw [hr];exact List.mem_cons_of_mem _ h
       rw [hwant hrd]
       have hrun:=j.run
       rw [hr] at hrun
       simp only [mld] at hrun
       have fin:∀ {v:Value} {τ:H} {μ':Nat→Blk} {a':Act} {w':World},((d.ext=true→KeepM full d ts σ τ))→mld E P full tl K (updO ts d.mi.dst v) τ→St E Bx w0 N D μ0 n0 μ' (updO ts2 o.dst v) τ a' w'→(∃ v',a'=a.put o.dst v')→wpAnyIn (FW ro) 0 P .any ops Q fuel (listed.setIfInBounds i true) a' w':=by
        rintro v τ μ' a' w' hext hk st' ⟨v',rfl⟩
        refine ih (pre:=pre ++ [d]) (rest:=tl) (ts:=updO ts d.mi.dst v) (σ:=τ) ⟨by rw [ef];simp,hsz',hclosed,fun x hx hl=>?_,fun x hx hxl=>j.hidden x (htl hx) (hset (hres (htl hx)) (htn x hx) hxl),j.shp.upd hF hd (fun k hdk hck=>by rw [(allC_spec hck hd hdk).1] at hhl;cases hhl),fun x hx hxl=>?_,hk,?_⟩ (hmeas rfl)
        ·rcases List.mem_append.1 hx with h | h
         ·exact (lst_set hsz).2 (.inr (j.loudL x h hl))
         ·simp at h;subst h;exact (lst_set hsz).2 (.inl e)
        ·have hxp:x ∈ pre:=by
          rcases List.mem_append.1 hx with h | h
          ·exact h
          ·simp at h;subst h;exact absurd ((lst_set hsz).2 (.inl e)) hxl
         have hxn:¬ Lst listed x.ix:=fun h=>hxl ((lst_set hsz).2 (.inr h))
         have hxq:quietM x.mi.op=true:=by
          obtain ⟨q1,q2,eq⟩:=List.append_of_mem hxp
          have ef2:full=q1 ++ x :: (q2 ++ d :: tl):=by rw [ef,eq];simp
          exact ((hF.at ef2).quiet.resolve_left (hpq x hxp hxn)).1
         have hnd:¬ rch T x.ix d.ix=true:=fun h=>by rw [e] at h;exact hxn (hreach _ h)
         have hE:PV x.mi ts τ:=by
          rcases fit.ext hhl with h | h
          ·rcases (hext h).loud hhl with hx1 | hx1
           ·exact (j.pend x hxp hxn).ext hxq hx1
           ·rcases j.pend x hxp hxn with ⟨pa,u,pb,pc⟩ | hp0
            ·by_cases hpu:pureM x.mi.op=true
             ·exact .inl ⟨pa,u,pure_any hpu pb τ,pc⟩
             ·refine .inl ⟨pa,u,hx1 _ ?_ u pb,pc⟩
              unfold pendOf
              rw [ef,takeWhile_pre fun a ha=>fit.ne a ha]
              exact List.mem_map.2 ⟨x,List.mem_filter.2 ⟨hxp,by have:=hpq x hxp hxn;simp [this,hpu]⟩,rfl⟩
            ·exact .inr hp0
          ·rcases h x hxp with h | h
           ·exact (j.pend x hxp hxn).pure h
           ·exact absurd h hnd
         have hp:=(fit.pair x hxp).resolve_left hnd
         exact hE.upd (fun y hy=>(hp.1 y hy).1) (fun y hy=>(hp.1 y hy).2)
        ·refine ⟨Bx,updO ts2 o.dst v,μ',pf,hB,st',fun s hp hp2=>?_,fun x hx hxl=>?_,fun x1 m1 x2 m2 l1 l2=>hpf x1 (htl m1) x2 (htl m2) (hset (hres (htl m1)) (htn x1 m1) l1) (hset (hres (htl m2)) (htn x2 m2) l2)⟩
         ·rw [← c3]
          have hrd2:∀ x ∈ rest,Lst listed x.ix→x.mi.dst≠some s:=fun x hx hxl=>by
           rw [hr] at hx
           rcases List.mem_cons.1 hx with h | h
           ·subst h;exact absurd hxl hhn
           ·exact hp2 x h ((lst_set hsz).2 (.inr hxl))
          have hpd2:∀ x ∈ pre,¬ Lst listed x.ix→x.mi.dst≠some s:=fun x hx hxl=>hp x (by simp [hx]) (fun h=>by
           rcases (lst_set hsz).1 h with h | h
           ·exact fit.ne x hx (by rw [h,e])
           ·exact hxl h)
          cases hdd:d.mi.dst with
          | none=>exact hs s hpd2 hrd2
          | some y=>
            by_cases hsy:s=y
            ·subst hsy;simp [updO,Mini.upd]
            ·simp only [updO,Mini.upd,hsy,if_false]
             exact hs s hpd2 hrd2
         ·have hl:=hset (hres (htl hx)) (htn x hx) hxl
          obtain ⟨g1,g2⟩:=hh x (htl hx) hl
          exact ⟨(keep g1 fun y hy=>(hhid x (htl hx) hl y hy).2).upd fun s hs=>updO_other (hF.lit (j.hidden x (htl hx) hl) hd hhl hs),g2⟩
       split at hrun
       ·rename_i hw
        rw [hw]
        simp only [if_true]
        have hms:=mstep_congr (P:=P) (ts':=ts2) (fun s hs'=>(hrd s (by simp [rdI,hs'])).symm) hrun
        refine mstep_sound (d:=d.mi.dst) c1 c5 c4 st hms ?_
        intro v τ μ' a' w' hk st' ha'
        exact fin hk.1 hk.2 st' ha'
       ·rename_i hw
        have hwf:wantM ts d.mi.g=false:=by simpa using hw
        rw [hwf]
        simp only [Bool.false_eq_true,if_false]
        refine ⟨fun _ _=>trivial,?_⟩
        refine fin (v:=undef) (μ':=μ) (fun _=>KeepM.of_ext (fun h=>by rw [hhl] at h;cases h) (Ext.refl σ)) hrun ?_ ⟨_,rfl⟩
        exact st.put c4 st.sim (.tuple .nil) (.refl _ _) (Nat.le_refl _)
      ·
       have hdt:d ∈ tl:=by
        rw [hr] at hrest
        exact (List.mem_cons.1 hrest).resolve_left hdh
       obtain ⟨t1,t2,et⟩:=List.append_of_mem hdt
       have ef:full=(pre ++ h :: t1) ++ d :: t2:=by rw [j.split,hr,et];simp
       have hmk:mkD ops T full OS d=true:=by
        rcases (hF.at ef).chain with ⟨h1,_⟩ | ⟨_,h2⟩
        ·exact h1
        ·have:=h2 h (by simp) hhl
         rw [e] at this
         exact absurd (hreach _ this) hhn
       obtain ⟨hlo,hg,hsrc,dd,o2,hdd,ho2,hop2,hfillA⟩:=mkD_spec hmk
       rw [e,ho] at ho2
       cases ho2
       have hrd:∀ s ∈ rdI d.mi,ts2 s=ts s:=read ef hpq (fun x hx _=>.inr (.inl (by simp [hx]))) fun x hx hxl y hy=>
        ⟨fun hyr=>hF.lit hmk (hres hx) (mkD_spec (j.hidden x hx hxl)).1 hyr hy,fun hdy=>hF.apart (hres hx) hd (j.hidden x hx hxl) hmk (fun ee=>hdn (ee ▸ hxl)) (by rw [hy,hdy])⟩
       obtain ⟨q,cs,hfill,hpl⟩:=hfillA ts fun k hk=>by
        have:=hsrc k hk
        unfold srcOk at this
        simp only [Bool.or_eq_true,Bool.and_eq_true,List.any_eq_true,beq_iff_eq] at this
        rcases this with h | ⟨h,aa,haf,had,har⟩
        ·exact j.shp.1 k (by simpa using h)
        ·refine j.shp.2 k h ⟨aa,?_,had⟩
         rw [e] at har
         have hal:=hreach _ har
         have:=haf
         rw [j.split] at this
         rcases List.mem_append.1 this with h1 | h1
         ·exact h1
         ·have h2:=(mkD_spec (j.hidden aa h1 hal)).1
          rw [(allC_spec h haf had).1] at h2;cases h2
       have hfill2:litOf ts2 d.mi.op=some (q,cs):=by
        rw [litOf_congr fun s hm=>hrd s (by simp only [rdI];exact List.mem_append.2 (.inl hm))]
        exact hfill
       rw [hwant hrd,hg]
       simp only [wantM,if_true]
       obtain ⟨ca2,e2,hrun,hv2,hsz2⟩:=lit_sound (w:=w) hop2 c1 st.fr.2 hfill2
       unfold Oper.wpIn
       refine ⟨fun _ _=>trivial,?_⟩
       rw [Oper.semAt_eq _ _ _ (fun c e=>by rcases hop2 with ⟨_,_,_,h⟩ | ⟨_,h⟩<;>(rw [e] at h;cases h)),hrun]
       have hca:ca2.toList=cs:=VRs.eq_of_plain hv2 hpl
       have hgrow:Below w.heap.size w { w with heap:=w.heap.push (.cells ca2 e2 (0,0)) }:=
        ⟨rfl,rfl,rfl,by simp,fun k hk=>by simp [Array.getElem?_push];intro e;omega⟩
       have hsim:Sim (Bx.add w.heap.size (.cells ca2 e2 (0,0))) w0 μ σ { w with heap:=w.heap.push (.cells ca2 e2 (0,0)) }:=(st.sim.of_grown hgrow).freeze (by simp) fun i hi=>by
        have:=st.sim.fin i (H.lt_of_live hi)
        omega
       have hBw:Bx.x w.heap.size=none:=st.sim.next.2
       have hcd:o.dst=some dd:=by rw [← c3];exact hdd
       have hddN:dd < N:=by rw [hcd] at c4;simpa [dstOk] using c4
       have hdsz:dd < a.tmps.size:=by rw [st.fr.1];exact hddN
       have hpsz:∀ {x:DI},x ∈ rest→Lst listed x.ix→pf x.ix≠w.heap.size:=fun {x} hx hl=>by
        obtain ⟨⟨_,_,_,_,_,_,_,_,hx2,_⟩,_⟩:=hh x hx hl
        intro ee
        rw [ee,hBw] at hx2;cases hx2
       have hother:∀ {x:DI},x ∈ rest→x≠d→Lst (listed.setIfInBounds i true) x.ix→Lst listed x.ix∧x.ix≠d.ix:=fun {x} hx hne hl=>
        ⟨hset (hres hx) hne hl,fun ee=>hne (hF.uniq (hres hx) hd ee)⟩
       refine ih (pre:=pre) (rest:=rest) (ts:=ts) (σ:=σ) ⟨j.split,hsz',hclosed,fun x hx hl=>(lst_set hsz).2 (.inr (j.loudL x hx hl)),fun x hx hxl=>?_,j.shp,fun x hx hxl=>j.pend x hx fun h=>hxl ((lst_set hsz).2 (.inr h)),j.run,?_⟩ (hmeas rfl)
       ·by_cases hxd:x=d
        ·subst hxd;exact hmk
        ·exact j.hidden x hx (hother hx hxd hxl).1
       ·refine ⟨Bx.add w.heap.size (.cells ca2 e2 (0,0)),updO ts2 (some dd) (.chan none),μ,fun k=>if k=d.ix then w.heap.size else pf k,⟨hB.1,fun k ob ek=>?_⟩,⟨st.env,hsim,?_,?_,st.agr,st.le⟩,fun s hp hp2=>?_,fun x hx hxl=>?_,fun x1 m1 x2 m2 l1 l2 hne=>?_⟩
        ·simp only [Fz.add]
         rw [if_neg (fun ee=>by have:=hB.2 k ob ek;rw [ee,hBw] at this;cases this)]
         exact hB.2 k ob ek
        ·rw [hcd]
         exact st.fr.upd hddN (by cases q with | some len=>exact .junk _ _ _ | none=>exact .junkP _)
        ·rw [hcd];exact st.defers
        ·have hsd:s≠dd:=fun ee=>hp2 d hrest ((lst_set hsz).2 (.inl e)) (by rw [hdd,ee])
         simp only [updO,Mini.upd,hsd,if_false]
         refine hs s (fun x hx hxl=>hp x hx fun hl=>?_) fun x hx hxl=>hp2 x hx ((lst_set hsz).2 (.inr hxl))
         refine hxl (hset (hpre hx) (fun ee=>?_) hl)
         subst ee
         exact (hF.at ef).ne x (by simp [hx]) rfl
        ·by_cases hxd:x=d
         ·subst hxd
          simp only [if_true]
          refine ⟨⟨dd,q,cs,ca2,e2,hdd,hg,hfill,by simp [Fz.add],st.sim.next.1,hsz2,fun μ n=>by rw [hca];exact VRs.of_plain hpl,?_⟩,?_⟩
          ·rw [hcd]
           simp [Act.put,Array.getD_eq_getD_getElem?,Array.getElem?_setIfInBounds,hdsz]
          ·cases ex:B.x w.heap.size with
           | none=>rfl
           | some ob=>have:=hB.2 _ _ ex;rw [hBw] at this;cases this
         ·obtain ⟨hl,hne⟩:=hother hx hxd hxl
          obtain ⟨g1,g2⟩:=hh x hx hl
          simp only [if_neg hne]
          refine ⟨?_,g2⟩
          have hap:=hF.apart (hres hx) hd (j.hidden x hx hl) hmk hne
          obtain ⟨dd3,q3,cs3,cs3',e3,hd3,hg3,hfill3,hx3,r3⟩:=keep (v':=litV q w.heap.size) g1 fun y hy=>by
           rw [← hy];exact hap.symm
          refine ⟨dd3,q3,cs3,cs3',e3,hd3,hg3,hfill3,?_,r3⟩
          simp only [Fz.add]
          rw [if_neg (hpsz hx hl)]
          exact hx3
        ·by_cases h1:x1=d
         ·subst h1
          by_cases h2:x2=x1
          ·subst h2;exact absurd rfl hne
          ·obtain ⟨hl2,hne2⟩:=hother m2 h2 l2
           simp only [if_true,if_neg hne2]
           exact (hpsz m2 hl2).symm
         ·obtain ⟨hl1,hne1⟩:=hother m1 h1 l1
          by_cases h2:x2=d
          ·subst h2
           simp only [if_true,if_neg hne1]
           exact hpsz m1 hl1
          ·obtain ⟨hl2,hne2⟩:=hother m2 h2 l2
           simp only [if_neg hne1,if_neg hne2]
           exact hpf x1 m1 x2 m2 hl1 hl2 hne
end
end Go.Mini
namespace Go.Mini
open Go.RowKit (Below)
inductive MC where
 | skip
 | ops (l:List MI)
 | dops (l:List DI)
 | seq (a b:MC)
 | cond (c:Opd) (a b:MC)
 | block (id:Nat) (b:MC)
 | loop (b:MC)
 | exit (id:Nat)
 | ret
 | bad
def deps (o:Oper):List Nat:=(o.after.toList.filter (Region.binds .any ·)).map (·.on)
def loudI (its:List MI) (j:Nat) (m:MI):Bool:=
 !quietM m.op || (match m.dst with
  | some d=>(rdI m).contains d || (its.take j).any fun a=>(rdI a).contains d || a.dst == some d
  | none=>false)
def pickNext (ops:Array Oper) (loud:List Bool) (listed:List Nat) (wantLoud:Bool):Option Nat:=
 (List.range ops.size).find? fun j=>!listed.contains j && (loud.getD j true == wantLoud) && (match ops[j]? with | some o=>(deps o).all fun e=>listed.contains e | none=>false)
def orderOf (ops:Array Oper) (loud:List Bool):Nat→List Nat→List Nat
 | 0,acc=>acc
 | n + 1,acc=>match pickNext ops loud acc false with
   | some j=>orderOf ops loud n (acc ++ [j])
   | none=>match pickNext ops loud acc true with
     | some j=>orderOf ops loud n (acc ++ [j])
     | none=>acc
def pickL (ops:Array Oper) (cls:List Nat) (listed:List Nat) (want:Nat):Option Nat:=
 (List.range ops.size).find? fun j=>!listed.contains j && (cls.getD j 1 == want) && (match ops[j]? with | some o=>(deps o).all fun e=>listed.contains e | none=>false)
def orderL (ops:Array Oper) (cls:List Nat):Nat→List Nat→List Nat
 | 0,acc=>acc
 | n + 1,acc=>match pickL ops cls acc 0 with
   | some j=>orderL ops cls n (acc ++ [j])
   | none=>match pickL ops cls acc 1 with
     | some j=>orderL ops cls n (acc ++ [j])
     | none=>match pickL ops cls acc 2 with
       | some j=>orderL ops cls n (acc ++ [j])
       | none=>acc
def outS (its:List MI):List Nat:=
 let dsts:=its.filterMap fun m=>m.dst
 (its.flatMap fun m=>match m.op with
   | .bsl _ _ _ ps=>ps.filterMap fun p=>match p.2 with
     | .t k=>if dsts.contains k then ((its.find? fun a=>a.dst == some k).bind fun a=>match a.op with | .mv (.t s)=>if dsts.contains s then none else some s | _=>none) else some k
     | _=>none
   | _=>[]).eraseDups
def litLd (its:List MI) (m:MI):Bool:=match m.op,m.dst with
 | .load1 _,some d=>its.any fun a=>match a.op with
   | .bsl _ _ _ ps=>ps.any fun p=>match p.2 with
     | .t k=>k == d
     | _=>false
   | _=>false
 | _,_=>false
def cDrawIts (P:Program) (N:Nat) (ops:Array Oper) (T:List Nat) (its:List MI) (late:Bool) (lit:Bool) (ld:Bool):List DI:=
 let loud:=its.zipIdx.map fun (m,j)=>loudI its j m
 let isLit:=fun (m:MI) (j:Nat)=>if lit then (match m.op with | .bsl ..=>true | _=>false) else mkD ops T [] [] ⟨m,j,true,false⟩
 let ord:=if late then orderL ops (its.zipIdx.map fun (m,j)=>if loudI its j m then (if isLit m j then 2 else 1) else 0) ops.size [] else orderOf ops loud ops.size []
 ord.zipIdx.map fun (j,p)=>⟨its.getD j ⟨none,.mkmap,none⟩,j,loud.getD j true,(loud.getD j true && !(ord.take p).all fun i=>pureM (its.getD i ⟨none,.mkmap,none⟩).op || rch T i j) || (ld && !loud.getD j true && litLd its (its.getD j ⟨none,.mkmap,none⟩))⟩
def sameIts (P:Program) (N:Nat) (ops:Array Oper) (its:List MI) (d:DI):Bool:=match its[d.ix]? with
 | some _=>true
 | none=>false
def drawOk (P:Program) (ops:Array Oper) (OS:List Nat) (l:List DI):Bool:=
 P.follows .mixedOrders && tabOk ops (mkTab ops) && okAll ops (mkTab ops) l OS [] l && (OS.all fun s=>l.all fun d=>d.mi.dst != some s) && ((List.range ops.size).all fun i=>l.any fun d=>d.ix == i) && decide (l.length=ops.size)
def cDraw (P:Program) (N:Nat) (ops:Array Oper):Option (List Nat × List DI):=
 match cReg P N ops with
 | some its=>
   if drawOk P ops [] (cDrawIts P N ops (mkTab ops) its false false false)=true then some ([],cDrawIts P N ops (mkTab ops) its false false false)
   else if drawOk P ops [] (cDrawIts P N ops (mkTab ops) its true false false)=true then some ([],cDrawIts P N ops (mkTab ops) its true false false)
   else if drawOk P ops (outS its) (cDrawIts P N ops (mkTab ops) its true true false)=true then some (outS its,cDrawIts P N ops (mkTab ops) its true true false)
   else if drawOk P ops [] (cDrawIts P N ops (mkTab ops) its false false true)=true then some ([],cDrawIts P N ops (mkTab ops) its false false true) else none
 | none=>none
theorem cDraw_spec {P:Program} {N:Nat} {ops:Array Oper} {OS:List Nat} {l:List DI} (h:cDraw P N ops=some (OS,l)):∃ its b c e,cReg P N ops=some its∧l=cDrawIts P N ops (mkTab ops) its b c e∧drawOk P ops OS l=true:=by
 unfold cDraw at h
 split at h
 ·rename_i its hits
  split at h
  ·rename_i hc
   simp only [Option.some.injEq,Prod.mk.injEq] at h
   obtain ⟨rfl,rfl⟩:=h
   exact ⟨its,false,false,false,hits,rfl,hc⟩
  ·split at h
   ·rename_i hc
    simp only [Option.some.injEq,Prod.mk.injEq] at h
    obtain ⟨rfl,rfl⟩:=h
    exact ⟨its,true,false,false,hits,rfl,hc⟩
   ·split at h
    ·rename_i hc
     simp only [Option.some.injEq,Prod.mk.injEq] at h
     obtain ⟨rfl,rfl⟩:=h
     exact ⟨its,true,true,false,hits,rfl,hc⟩
    ·split at h
     ·rename_i hc
      simp only [Option.some.injEq,Prod.mk.injEq] at h
      obtain ⟨rfl,rfl⟩:=h
      exact ⟨its,false,false,true,hits,rfl,hc⟩
     ·cases h
 ·cases h
theorem cDraw_len {P:Program} {N:Nat} {ops:Array Oper} {OS:List Nat} {l:List DI} (h:cDraw P N ops=some (OS,l)):l.length=ops.size:=by
 obtain ⟨_,_,_,_,_,_,hc⟩:=cDraw_spec h
 unfold drawOk at hc
 simp only [Bool.and_eq_true,decide_eq_true_eq] at hc
 exact hc.2
theorem cDraw_full {P:Program} {N:Nat} {ops:Array Oper} {OS:List Nat} {l:List DI} (h:cDraw P N ops=some (OS,l)):P.follows .mixedOrders=true∧Full P N ops (mkTab ops) OS l:=by
 obtain ⟨its,b,c,e0,hits,hl,hc⟩:=cDraw_spec h
 unfold drawOk at hc
 simp only [Bool.and_eq_true,decide_eq_true_eq] at hc
 obtain ⟨⟨⟨⟨⟨h1,h2⟩,h3⟩,h6⟩,h4⟩,h5⟩:=hc
 refine ⟨h1,h2,h3,fun s hs d hd=>?_,fun i hi=>?_,fun d hd=>?_⟩
 ·have:=List.all_eq_true.1 (List.all_eq_true.1 h6 s hs) d hd
  simpa using this
 ·have:=List.all_eq_true.1 h4 i (List.mem_range.2 hi)
  obtain ⟨d,hd,e⟩:=List.any_eq_true.1 this
  exact ⟨d,hd,by simpa using e⟩
 ·
  have hlt:d.ix < ops.size:=by
   obtain ⟨a,c,e⟩:=List.append_of_mem hd
   have h3':okAll ops (mkTab ops) l OS [] (a ++ d :: c)=true:=by rw [← e];exact h3
   have fit:=okOne_fit (okAll_split h3')
   obtain ⟨o,ho,_⟩:=fit.deps
   rcases Nat.lt_or_ge d.ix ops.size with x | x
   ·exact x
   ·rw [Array.getElem?_eq_none x] at ho;cases ho
  obtain ⟨g1,g2⟩:=mapM_get hits
  rw [hl] at hd
  unfold cDrawIts at hd
  simp only [List.mem_map] at hd
  obtain ⟨⟨j,p⟩,_,rfl⟩:=hd
  simp only at hlt ⊢
  have hj:its[j]?=some (its.getD j ⟨none,.mkmap,none⟩):=by
   rw [List.getD_eq_getElem?_getD,List.getElem?_eq_getElem (by rw [g1];simpa using hlt)];rfl
  obtain ⟨o,ho,hm⟩:=g2 j _ hj
  exact ⟨o,by simpa using ho,hm⟩
def chkS (s:Nat):MI:=⟨none,.bin .eql (.t s) (.t s),none⟩
def dropsS:List Nat × List DI→MC
 | ([],l)=>.dops l
 | (OS,l)=>.seq (.ops (OS.map chkS)) (.dops l)
def cC (P:Program) (N:Nat):Code→Option MC
 | .skip=>some .skip
 | .region _ ops false=>(cReg P N ops).map .ops
 | .region _ ops true=>(cDraw P N ops).map dropsS
 | .seq a b=>match cC P N a,cC P N b with
   | some a,some b=>some (.seq a b)
   | _,_=>none
 | .cond c a b=>match copd c,cC P N a,cC P N b with
   | some c,some a,some b=>some (.cond c a b)
   | _,_,_=>none
 | .block id b=>(cC P N b).map (.block id)
 | .loop b=>(cC P N b).map .loop
 | .exit id=>some (.exit id)
 | .scope b=>cC P N b
 | .label _=>some .skip
 | .ret=>some .ret
 | .goto _=>some .bad
 | .refuse _=>some .bad
 | .rangeFunc _ _ _ _=>some .bad
def mx (E:World→Prop) (P:Program):MC→MQ→Fr→H→Prop
 | .skip,Q,ts,σ=>Q .nor ts σ
 | .ops l,Q,ts,σ=>ml E P l (Q .nor) ts σ
 | .dops l,Q,ts,σ=>mld E P l l (Q .nor) ts σ
 | .seq a b,Q,ts,σ=>mx E P a (Ex.thn (mx E P b Q) Q) ts σ
 | .cond c a b,Q,ts,σ=>match mev ts c with
   | .bool true=>mx E P a Q ts σ
   | .bool false=>mx E P b Q ts σ
   | _=>False
 | .block id b,Q,ts,σ=>mx E P b (Ex.inb id Q) ts σ
 | .loop b,Q,ts,σ=>∃ (I:Nat→Fr→H→Prop) (n:Nat),I n ts σ∧∀ n ts σ,I n ts σ→mx E P b (Ex.thn (fun ts' σ'=>∃ m,m < n∧I m ts' σ') Q) ts σ
 | .exit id,Q,ts,σ=>Q (.exit id) ts σ
 | .ret,Q,ts,σ=>Q .ret ts σ
 | .bad,_,_,_=>False
theorem chkS_ml {E:World→Prop} {P:Program} {K:Fr→H→Prop} {ts:Fr} {σ:H}:∀ {OS:List Nat},ml E P (OS.map chkS) K ts σ→(∀ s ∈ OS,plain (ts s)=true)∧K ts σ
 | [],h=>⟨(fun s hs=>(by cases hs)),h⟩
 | s :: OS,h=>by
   simp only [List.map_cons,ml,chkS,wantM,if_true] at h
   obtain ⟨v,τ,hm,hk⟩:=h
   simp only [mop,mev,Option.map_eq_some_iff,Prod.mk.injEq] at hm
   obtain ⟨u,hu,rfl,rfl⟩:=hm
   have hp:plain (ts s)=true:=by
    cases e:ts s<;>rw [e] at hu<;>first | rfl | (simp [mbin] at hu)
   obtain ⟨h1,h2⟩:=chkS_ml hk
   exact ⟨fun s' hs=>by
    rcases List.mem_cons.1 hs with e | e
    ·rw [e];exact hp
    ·exact h1 s' e,h2⟩
theorem dropsS_mx {E:World→Prop} {P:Program} {Q:MQ} {ts:Fr} {σ:H} {OS:List Nat} {l:List DI} (h:mx E P (dropsS (OS,l)) Q ts σ):(∀ s ∈ OS,plain (ts s)=true)∧mld E P l l (Q .nor) ts σ:=by
 cases OS with
 | nil=>exact ⟨(fun s hs=>(by cases hs)),h⟩
 | cons s OS=>
   simp only [dropsS,mx] at h
   exact chkS_ml h
section
variable {E:World→Prop} {P:Program} {B:Fz} {w0 w:World} {N:Nat} {D:List Deferred} {μ0 μ:Nat→Blk} {n0:Nat} {ts:Fr} {σ:H} {a:Act} {Q:Exit→Act→World→Prop} {ro:Option Nat}
theorem wpIn_scope_straight {F:Fence} {m:Nat} {c:Code} {Q:Exit→Act→World→Prop} (h:c.wpIn F m P (Exit.noGoto Q) a w):(Code.scope c).wpIn F m P Q a w:=by
 intro b k cs hro hb hr
 have s0:step P (lone (b.atR a (.code (.scope c) :: k)) cs w)=.next (lone (b.atR a (.code c :: .inScope c :: k)) cs w):=step_lone_go (by simp [stepG,stepG.exec,Frame.atR])
 have s1:∀ a w,step P (lone (b.atR a (.inScope c :: k)) cs w)=.next (lone (b.atR a k) cs w):=fun a w=>step_lone_go (by simp [stepG,stepG.exec,Frame.atR])
 have h0:=StepsIn.one (I:=Machine.fenced P F) (fenced_calm (fr:=b.atR a (.code (.scope c) :: k)) (w:=w) (cs:=cs) (n:=m) hb hr rfl) s0
 obtain ⟨e,a₁,w₁,hq,harr⟩:=h b (.inScope c :: k) cs hro hb hr
 cases e with
 | normal=>exact ⟨.normal,a₁,w₁,hq,StepsIn.trans h0 (StepsIn.trans harr (.one (fenced_calm (fr:=b.atR a₁ (.inScope c :: k)) hb hr rfl) (s1 a₁ w₁)))⟩
 | exit id=>exact ⟨.exit id,a₁,w₁,hq,ArrivesIn.of_steps h0 ⟨fun k' hk=>harr.1 k' (by simp [exitTo,hk]),fun hr hk=>harr.2 hr (by simp [exitTo,hk])⟩⟩
 | goto l=>exact hq.elim
 | ret=>exact ⟨_,a₁,w₁,hq,.of_steps h0 harr⟩
 | panic ch=>exact ⟨_,a₁,w₁,hq,.of_steps h0 harr⟩
 | outgrown=>exact ⟨_,a₁,w₁,hq,.of_steps h0 harr⟩
theorem mx_sound:∀ {c:Code} {m:MC},cC P N c=some m→∀ {Q:MQ} {ts:Fr} {σ:H} {μ:Nat→Blk} {a:Act} {w:World},mx E P m Q ts σ→St E B w0 N D μ0 n0 μ ts σ a w→c.wpIn (FW ro) 0 P (RQ E B w0 N D μ0 n0 Q) a w:=by
 intro c
 induction c with
 | skip=>
   intro m hc Q ts σ μ a w h st
   simp only [cC,Option.some.injEq] at hc;subst hc
   exact wpIn_skip ⟨.nor,ts,σ,μ,trivial,h,st⟩
 | region id ops draw=>
   intro m hc Q ts σ μ a w h st
   cases draw with
   | false=>
     simp only [cC,Option.map_eq_some_iff] at hc
     obtain ⟨l,hl,rfl⟩:=hc
     exact wpIn_region_list (ml_sound hl h st fun ts σ μ a w hk st'=>⟨.nor,ts,σ,μ,trivial,hk,st'⟩)
   | true=>
     simp only [cC] at hc
     cases hd:cDraw P N ops with
     | none=>rw [hd] at hc;cases hc
     | some r=>
       obtain ⟨OS,l⟩:=r
       rw [hd] at hc
       simp only [Option.map_some,Option.some.injEq] at hc
       subst hc
       obtain ⟨hm,hF⟩:=cDraw_full hd
       obtain ⟨hpl,h⟩:=dropsS_mx h
       refine wpIn_region_any hm ?_
       have hst:St E B w0 N D μ0 n0 μ ts σ a { w with drawn:=w.drawn + 1 }:=⟨st.env,st.sim.drewN 1,st.fr,st.defers,st.agr,st.le⟩
       have j:J E P ops (mkTab ops) OS B w0 N D μ0 n0 l (Q .nor) [] l (Array.replicate ops.size false) ts σ a { w with drawn:=w.drawn + 1 }:=by
        have hno:∀ i,¬ Lst (Array.replicate ops.size false) i:=by
         intro i h
         unfold Lst at h
         rw [Array.getD_eq_getD_getElem?,Array.getElem?_replicate] at h
         split at h<;>simp at h
        exact ⟨rfl,by simp,(fun j o h=>absurd h (hno j)),(fun d hd=>absurd hd (by simp)),(fun d hd hl=>absurd hl (hno _)),⟨hpl,fun k _ ⟨_,ha,_⟩=>by cases ha⟩,(fun d hd=>absurd hd (by simp)),h,B,ts,μ,(fun _=>0),⟨rfl,fun _ _ e=>e⟩,hst,(fun s _ _=>rfl),(fun d hd hl=>absurd hl (hno _)),(fun d1 _ d2 _ l1=>absurd l1 (hno _))⟩
       refine drawn hF (fun ts σ μ a w hk st'=>⟨.nor,ts,σ,μ,trivial,hk,st'⟩) ops.size j ?_
       have:=cDraw_len hd
       refine Nat.le_trans (List.length_filter_le _ _) ?_
       omega
 | seq x y ihx ihy=>
   intro m hc Q ts σ μ a w h st
   simp only [cC] at hc
   split at hc
   ·rename_i x' y' hx hy
    simp only [Option.some.injEq] at hc;subst hc
    refine wpIn_seq (wpIn_mono (ihx hx h st) ?_)
    rintro e a' w' ⟨ex,ts',σ',μ',h1,h2,st'⟩
    cases ex with
    | nor=>
      cases e<;>first | exact h1.elim | skip
      exact ihy hy h2 st'
    | exit i=>
      cases e<;>first | exact h1.elim | skip
      exact ⟨_,ts',σ',μ',h1,h2,st'⟩
    | ret=>
      cases e<;>first | exact h1.elim | skip
      exact ⟨_,ts',σ',μ',h1,h2,st'⟩
   ·cases hc
 | cond c x y ihx ihy=>
   intro m hc Q ts σ μ a w h st
   simp only [cC] at hc
   split at hc
   ·rename_i c' x' y' hcc hx hy
    simp only [Option.some.injEq] at hc;subst hc
    have hv:=copd_sound st.fr.2 hcc
    simp only [mx] at h
    split at h
    ·rename_i e;rw [e] at hv;exact wpIn_cond_true hv.inv_bool (ihx hx h st)
    ·rename_i e;rw [e] at hv;exact wpIn_cond_false hv.inv_bool (ihy hy h st)
    ·exact h.elim
   ·cases hc
 | block id b ih=>
   intro m hc Q ts σ μ a w h st
   simp only [cC,Option.map_eq_some_iff] at hc
   obtain ⟨b',hb,rfl⟩:=hc
   refine wpIn_block (wpIn_mono (ih hb h st) ?_)
   rintro e a' w' ⟨ex,ts',σ',μ',h1,h2,st'⟩
   cases ex with
   | nor=>
     cases e<;>first | exact h1.elim | skip
     exact ⟨.nor,ts',σ',μ',trivial,h2,st'⟩
   | exit i=>
     cases e<;>first | exact h1.elim | skip
     rename_i i'
     have h1':i'=i:=h1
     subst h1'
     simp only [Ex.inb] at h2
     simp only [Exit.inBlock]
     split at h2
     ·rename_i e;rw [if_pos e];exact ⟨.nor,ts',σ',μ',trivial,h2,st'⟩
     ·rename_i e;rw [if_neg e];exact ⟨.exit i',ts',σ',μ',rfl,h2,st'⟩
   | ret=>
     cases e<;>first | exact h1.elim | skip
     exact ⟨.ret,ts',σ',μ',trivial,h2,st'⟩
 | loop b ih=>
   intro m hc Q ts σ μ a w h st
   simp only [cC,Option.map_eq_some_iff] at hc
   obtain ⟨b',hb,rfl⟩:=hc
   obtain ⟨I,n,hI,hround⟩:=h
   refine wpIn_loop_ghost (fun n a w=>∃ ts σ μ,I n ts σ∧St E B w0 N D μ0 n0 μ ts σ a w) n ⟨ts,σ,μ,hI,st⟩ ?_
   rintro n a w ⟨ts,σ,μ,hI,st⟩
   refine wpIn_mono (ih hb (hround n ts σ hI) st) ?_
   rintro e a' w' ⟨ex,ts',σ',μ',h1,h2,st'⟩
   cases ex with
   | nor=>
     cases e<;>first | exact h1.elim | skip
     obtain ⟨k,hk,hI'⟩:=h2
     exact ⟨k,hk,ts',σ',μ',hI',st'⟩
   | exit i=>
     cases e<;>first | exact h1.elim | skip
     exact ⟨_,ts',σ',μ',h1,h2,st'⟩
   | ret=>
     cases e<;>first | exact h1.elim | skip
     exact ⟨_,ts',σ',μ',h1,h2,st'⟩
 | scope b ih=>
   intro m hc Q ts σ μ a w h st
   simp only [cC] at hc
   refine wpIn_scope_straight (wpIn_mono (ih hc h st) ?_)
   rintro e a' w' ⟨ex,ts',σ',μ',h1,h2,st'⟩
   cases e<;>first | (cases ex<;>exact h1.elim) | exact ⟨ex,ts',σ',μ',h1,h2,st'⟩
 | label l=>
   intro m hc Q ts σ μ a w h st
   simp only [cC,Option.some.injEq] at hc;subst hc
   exact wpIn_label ⟨.nor,ts,σ,μ,trivial,h,st⟩
 | exit id=>
   intro m hc Q ts σ μ a w h st
   simp only [cC,Option.some.injEq] at hc;subst hc
   exact wpIn_exit ⟨.exit id,ts,σ,μ,rfl,h,st⟩
 | ret=>
   intro m hc Q ts σ μ a w h st
   simp only [cC,Option.some.injEq] at hc;subst hc
   exact wpIn_ret ⟨.ret,ts,σ,μ,trivial,h,st⟩
 | _=>
   intro m hc Q ts σ μ a w h st
   simp only [cC,Option.some.injEq] at hc;subst hc
   exact h.elim
inductive RV where
 | t (i:Nat)
 | cell (i n:Nat) (agg:Bool)
def cRV (P:Program):ResultVar→Option RV
 | .tmp i=>some (.t i)
 | .cell i t=>match sizeT P t,isAggT P t with
   | some n,some g=>some (.cell i n g)
   | _,_=>none
def rvVal (ts:Fr) (σ:H):RV→Option Value
 | .t i=>some (ts i)
 | .cell i n g=>match ts i with
   | .pointer (some ⟨id,off,none⟩)=>if g then (σ.row id off n).map fun vs=>.agg vs.toArray else σ.cell id off
   | _=>none
def tup:List Value→Value
 | [v]=>v
 | vs=>.tuple vs.toArray
def rvVals (ts:Fr) (σ:H):List RV→Option (List Value)
 | []=>some []
 | r :: rs=>match rvVal ts σ r,rvVals ts σ rs with
   | some v,some vs=>some (v :: vs)
   | _,_=>none
def mpost (rs:List RV) (R:Value→H→Prop):MQ
 | .exit _,_,_=>False
 | _,ts,σ=>∃ vs,rvVals ts σ rs=some vs∧R (tup vs) σ
def initFr (args:List Value):Fr:=fun i=>args.getD i undef
def cFn (P:Program) (f:FuncId):Option (MC × List RV × Nat):=match P.funcs[f]? with
 | some fn=>match fn.body with
   | some c=>match cC P fn.ntmps c,fn.results.toList.mapM (cRV P) with
     | some m,some rs=>if fn.name != "runtime.NumGoroutine" then some (m,rs,fn.ntmps) else none
     | _,_=>none
   | none=>none
 | none=>none
theorem rvs_sound {rs:List ResultVar} {rs':List RV} (hc:rs.mapM (cRV P)=some rs') (hs:Sim B w0 μ σ w) (hf:FrR μ σ.size N ts a.tmps) {vs:List Value} (h:rvVals ts σ rs'=some vs):
 ∃ vs',(rs.mapM (fun r=>match r with
   | .tmp t=>pure (a.tmps.getD t undef)
   | .cell x t=>do loadVar t (← asAddr (a.tmps.getD x undef)):ResultVar→Sem Value)).run P w=.ok vs' w∧VRs μ σ.size vs vs':=by
 induction rs generalizing rs' vs with
 | nil=>
   simp only [List.mapM_nil,pure,Option.some.injEq] at hc
   subst hc
   simp only [rvVals,Option.some.injEq] at h
   subst h
   exact ⟨[],by simp,.nil⟩
 | cons r rs ih=>
   cases rs' with
   | nil=>have:=mapM_nil_some hc;cases this
   | cons r' rs'=>
     obtain ⟨_,_,e,h1,h2⟩:=mapM_cons_some hc
     cases e
     simp only [rvVals] at h
     split at h
     ·rename_i v vs0 hv hvs
      simp only [Option.some.injEq] at h
      subst h
      obtain ⟨vs',g1,g2⟩:=ih h2 hvs
      rw [List.mapM_cons]
      revert g1
      generalize (rs.mapM _:Sem (List Value))=M
      intro g1
      cases r with
      | tmp t=>
        simp only [cRV,Option.some.injEq] at h1
        subst h1
        simp only [rvVal,Option.some.injEq] at hv
        subst hv
        exact ⟨a.tmps.getD t undef :: vs',by simp only [Sem.run_bind,Sem.run_pure,Result.andThen_ok,g1],.cons (hf.2 t) g2⟩
      | cell x t=>
        simp only [cRV] at h1
        split at h1
        ·rename_i n g hn hg
         simp only [Option.some.injEq] at h1
         subst h1
         simp only [rvVal] at hv
         split at hv
         ·rename_i id off e
          have hx:=hf.2 x
          rw [e] at hx
          obtain ⟨hid,hx⟩:=hx.inv_ptr
          cases g
          ·simp only [Bool.false_eq_true,if_false] at hv
           obtain ⟨v',k1,k2⟩:=hs.cell hv
           refine ⟨v' :: vs',?_,.cons k2 g2⟩
           simp only [hx,asAddr,Sem.run_bind,Sem.run_pure,Result.andThen_ok,loadVar,run_agg hg,Bool.false_eq_true,if_false,run_load,k1,g1]
          ·simp only [if_true,Option.map_eq_some_iff] at hv
           obtain ⟨us,k0,rfl⟩:=hv
           obtain ⟨us',k1,k2⟩:=hs.row (P:=P) k0
           refine ⟨.agg us'.toArray :: vs',?_,.cons (.agg (by simpa using k2)) g2⟩
           simp only [hx,asAddr,Sem.run_bind,Sem.run_pure,Result.andThen_ok,loadVar,run_agg hg,if_true,run_size hn,k1,g1]
         ·cases hv
        ·cases h1
     ·cases h
theorem mcalls_of {f:FuncId} {m:MC} {rs:List RV} {n:Nat} (hc:cFn P f=some (m,rs,n)) {args:List Value} {σ:H} {R:Value→H→Prop} (hl:args.length≤n) (h:mx E P m (mpost rs R) (initFr args) σ):MCalls E P f args σ R:=by
 unfold cFn at hc
 split at hc
 ·rename_i fn hfn
  split at hc
  ·rename_i c hb
   split at hc
   ·rename_i m' rs' hm hr
    split at hc
    ·rename_i hn
     simp only [Option.some.injEq,Prod.mk.injEq] at hc
     obtain ⟨rfl,rfl,rfl⟩:=hc
     refine ⟨by simp [okFn,hfn,hb];simpa using hn,fun B w0 μ w args' hE hs ha=>calls_of_wp hfn hb ?_⟩
     have hal:=ha.length
     have st:St E B w0 fn.ntmps [] μ σ.size μ (initFr args) σ { tmps:=args'.toArray ++ Array.replicate (fn.ntmps - args'.toArray.size) undef,defers:=[] } w:=by
      refine ⟨hE,hs,⟨by simp;omega,fun i=>?_⟩,rfl,.refl _ _,Nat.le_refl _⟩
      simp only [initFr]
      rcases Nat.lt_or_ge i args.length with x | x
      ·obtain ⟨v',h1,h2⟩:=ha.get (List.getElem?_eq_getElem x)
       have:(args'.toArray ++ Array.replicate (fn.ntmps - args'.toArray.size) undef).getD i undef=v':=by
        rw [Array.getD_eq_getD_getElem?,Array.getElem?_append_left (by simp;omega)]
        simp [h1]
       rw [this,List.getD_eq_getElem?_getD,List.getElem?_eq_getElem x]
       exact h2
      ·have h1:args.getD i undef=undef:=by rw [List.getD_eq_getElem?_getD,List.getElem?_eq_none x];rfl
       have h2:(args'.toArray ++ Array.replicate (fn.ntmps - args'.toArray.size) undef).getD i undef=undef:=by
        rw [Array.getD_eq_getD_getElem?,Array.getElem?_append_right (by simp;omega)]
        simp only [Array.getElem?_replicate]
        split<;>rfl
       rw [h1,h2]
       exact .tuple .nil
     refine wp_mono (wpIn_wide.1 (mx_sound (ro:=none) hm h st:c.wpIn Fence.wide 0 P _ _ _)) ?_
     rintro e a' w' ⟨ex,ts,τ,μ',h1,h2,st'⟩
     have fin:(∃ vs,rvVals ts τ rs'=some vs∧R (tup vs) τ)→a'.defers=[]∧∃ v,(results fn a'.tmps).run P w'=.ok v w'∧∃ v0 v' τ μ',Ending.returned v=.returned v'∧R v0 τ∧Sim B w0 μ' τ w'∧VR μ' τ.size v0 v'∧Agr σ.size μ μ'∧σ.size≤τ.size:=by
      rintro ⟨vs,hv,hR⟩
      obtain ⟨vs',g1,g2⟩:=rvs_sound (a:=a') hr st'.sim st'.fr hv
      have hres:(results fn a'.tmps).run P w'=.ok (tup vs') w':=by
       have hmap:(fn.results.mapM (fun r=>match r with
        | .tmp t=>pure (a'.tmps.getD t undef)
        | .cell x t=>do loadVar t (← asAddr (a'.tmps.getD x undef)):ResultVar→Sem Value)).run P w'=.ok vs'.toArray w':=by
        rw [← Array.toArray_toList (xs:=fn.results),List.mapM_toArray]
        simp only [Sem.run_map,g1,Result.andThen_ok]
       unfold results
       rw [Sem.run_bind]
       refine (congrArg (fun r=>Result.andThen r _) hmap).trans ?_
       simp only [Result.andThen_ok,Sem.run_pure]
       congr 1
       split
       ·rename_i h1
        simp at h1
        match vs',h1 with
        | [x],_=>rfl
       ·rename_i h1
        simp at h1
        match vs',h1 with
        | [],_=>rfl
        | x :: y :: l,_=>rfl
      refine ⟨st'.defers,_,hres,tup vs,tup vs',τ,μ',rfl,hR,st'.sim,?_,st'.agr,st'.le⟩
      cases g2 with
      | nil=>exact .tuple .nil
      | cons h hs=>
        cases hs with
        | nil=>exact h
        | cons h2 hs2=>exact .tuple (.cons h (.cons h2 hs2))
     cases ex with
     | nor=>
       cases e<;>first | exact h1.elim | skip
       exact fin h2
     | exit i=>exact h2.elim
     | ret=>
       cases e<;>first | exact h1.elim | skip
       exact fin h2
    ·cases hc
   ·cases hc
  ·cases hc
 ·cases hc
end
end Go.Mini
namespace Go.Mini
open Go.RowKit (Below)
def defdR:OR:=⟨fun _ _ _ o=>o=.deferred (some []),fun _ _ h=>h⟩
def loopR (L N:Nat) (ts:Fr) (ps:Array Tmp) (assign body:Code) (s:LoopState) (pend:Option Code):OR:=
 ⟨fun μ n b o=>b=L∧∃ tmps d fn,o=.loop { state:=s,pending:=pend,fn,tmps,params:=ps,assign,body,defers:=d }∧FrR μ n N ts tmps,
  fun hn hm ⟨h1,tmps,d,fn,h2,h3⟩=>⟨h1,tmps,d,fn,h2,h3.mono hn hm⟩⟩
def putL:Fr→List Nat→List Value→Fr
 | ts,p :: ps,v :: vs=>putL (upd ts p v) ps vs
 | ts,_,_=>ts
def roundQ (ℓ:Nat) (rec:LoopState→Option Code→OR) (R:Value→H→Prop):MQ:=fun ex ts τ=>τ.get ℓ=.oth (rec .busy none)∧match ex with
 | .nor=>R (.bool true) (τ.set ℓ (.oth (rec .ready none)))
 | .ret=>R (.bool false) (τ.set ℓ (.oth (rec .done (some .ret))))
 | .exit id=>R (.bool false) (τ.set ℓ (.oth (rec .done (some (.exit id)))))
section
variable {E:World→Prop} {P:Program} {B:Fz} {w0 w:World} {N:Nat} {D:List Deferred} {μ0 μ:Nat→Blk} {n0:Nat} {ts:Fr} {σ:H} {a:Act}
end
end Go.Mini
namespace Go.Mini
open Go.RowKit (Below)
inductive MR where
 | plain (m:MC)
 | seq (a b:MR)
 | cond (c:Opd) (a b:MR)
 | block (id:Nat) (b:MR)
 | rng (g:Opd) (ps:Array Tmp) (ca cb:Code) (ma mb:MC)
def hasR:Code→Bool
 | .rangeFunc _ _ _ _=>true
 | .seq a b=>hasR a || hasR b
 | .cond _ a b=>hasR a || hasR b
 | .block _ b=>hasR b
 | _=>false
def cR (P:Program) (N:Nat):Code→Option MR
 | .rangeFunc g ps a b=>match copd g,cC P N a,cC P N b,ps.toList.all (·< N) with
   | some g,some ma,some mb,true=>some (.rng g ps a b ma mb)
   | _,_,_,_=>none
 | .seq a b=>if hasR a || hasR b then (match cR P N a,cR P N b with
    | some a,some b=>some (.seq a b)
    | _,_=>none) else (cC P N (.seq a b)).map .plain
 | .cond c a b=>if hasR a || hasR b then (match copd c,cR P N a,cR P N b with
    | some c,some a,some b=>some (.cond c a b)
    | _,_,_=>none) else (cC P N (.cond c a b)).map .plain
 | .block id b=>if hasR b then (cR P N b).map (.block id) else (cC P N (.block id b)).map .plain
 | c=>(cC P N c).map .plain
abbrev RQ3:=Ex→List Nat→Fr→H→Prop
def Ex.thnR (K:List Nat→Fr→H→Prop) (Q:RQ3):RQ3
 | .nor,ds,ts,σ=>K ds ts σ
 | e,ds,ts,σ=>Q e ds ts σ
def Ex.inbR (id:Nat) (Q:RQ3):RQ3
 | .exit i,ds,ts,σ=>if i=id then Q .nor ds ts σ else Q (.exit i) ds ts σ
 | e,ds,ts,σ=>Q e ds ts σ
def jumpQ (Q:RQ3) (ds:List Nat) (ts:Fr) (σ:H):Option Code→Prop
 | none=>Q .nor ds ts σ
 | some .ret=>Q .ret ds ts σ
 | some (.exit id)=>Q (.exit id) ds ts σ
 | _=>False
def mxR (E:World→Prop) (P:Program) (N:Nat):MR→RQ3→List Nat→Fr→H→Prop
 | .plain m,Q,ds,ts,σ=>mx E P m (fun ex=>Q ex ds) ts σ
 | .seq a b,Q,ds,ts,σ=>mxR E P N a (Ex.thnR (mxR E P N b Q) Q) ds ts σ
 | .cond c a b,Q,ds,ts,σ=>match mev ts c with
   | .bool true=>mxR E P N a Q ds ts σ
   | .bool false=>mxR E P N b Q ds ts σ
   | _=>False
 | .block id b,Q,ds,ts,σ=>mxR E P N b (Ex.inbR id Q) ds ts σ
 | .rng g ps ca cb ma mb,Q,ds,ts,σ=>cC P N ca=some ma→cC P N cb=some mb→∃ f first cap,mev ts g=.func (.func f) first cap∧
    ∀ L,MCalls E P f (first.toList ++ [.func (.yield L) #[] #[]] ++ cap.toList) ((σ.push (.oth defdR)).push (.oth (loopR L N ts ps ca cb .ready none)))
      (fun _ τ=>∃ s pend,s≠.busy∧τ.get (σ.size + 1)=.oth (loopR L N ts ps ca cb s pend)∧jumpQ Q (σ.size :: ds) ts (τ.set (σ.size + 1) .dead) pend)
section
variable {E:World→Prop} {P:Program} {B:Fz} {w0 w:World} {N:Nat} {μ0 μ:Nat→Blk} {n0:Nat} {ts:Fr} {σ:H} {a:Act}
def markOf (μ:Nat→Blk) (i:Nat):Deferred:={ target:=.collected (μ i).b,args:=#[] }
def RR (E:World→Prop) (B:Fz) (w0:World) (N:Nat) (μ0:Nat→Blk) (n0:Nat) (Q:RQ3):Exit→Act→World→Prop:=fun e a w=>
 ∃ ex ds ts σ μ,exR e ex∧Q ex ds ts σ∧St E B w0 N (ds.map (markOf μ)) μ0 n0 μ ts σ a w∧∀ i ∈ ds,i < σ.size
end
end Go.Mini
namespace Go.Mini
open Go.RowKit (Below)
section
variable {E:World→Prop} {P:Program} {B:Fz} {w0 w:World} {N:Nat} {μ0 μ:Nat→Blk} {n0:Nat} {ts:Fr} {σ:H} {a:Act}
def shutAll (σ:H):List Nat→H
 | []=>σ
 | d :: ds=>shutAll (σ.set d .dead) ds
def allDefd (σ:H):List Nat→Prop
 | []=>True
 | d :: ds=>σ.get d=.oth defdR∧allDefd (σ.set d .dead) ds
def mpostR (rs:List RV) (R:Value→H→Prop):RQ3
 | .exit _,_,_,_=>False
 | _,ds,ts,σ=>allDefd σ ds∧∃ vs,rvVals ts (shutAll σ ds) rs=some vs∧R (tup vs) (shutAll σ ds)
def cFnR (P:Program) (f:FuncId):Option (MR × List RV × Nat):=match P.funcs[f]? with
 | some fn=>match fn.body with
   | some c=>match cR P fn.ntmps c,fn.results.toList.mapM (cRV P) with
     | some m,some rs=>if fn.name != "runtime.NumGoroutine" then some (m,rs,fn.ntmps) else none
     | _,_=>none
   | none=>none
 | none=>none
end
def rngParts:Code→List (Code × Code)
 | .rangeFunc _ _ a b=>[(a,b)]
 | .seq a b=>rngParts a ++ rngParts b
 | .cond _ a b=>rngParts a ++ rngParts b
 | .block _ b=>rngParts b
 | _=>[]
def rngA (P:Program) (k i:Nat):Code:=((rngParts (((P.funcs[k]?).bind (·.body)).getD .skip)).getD i (.skip,.skip)).1
def rngB (P:Program) (k i:Nat):Code:=((rngParts (((P.funcs[k]?).bind (·.body)).getD .skip)).getD i (.skip,.skip)).2
end Go.Mini
