/- Words for proofs over the small code. -/
import Derived.Test.YtoejdgoicoaomaaGreatDoorG4
import Derived.Test.YtoejdgoicoaomaaGreatDoorGrow
import Derived.Test.YtoejdgoicoaomaaGreatDoorCode
import Derived.Lib.OthersKept
import Derived.Deep.LoopGhost
import Derived.Shelf.Lays
import Derived.Test.YtoejdgoicoaomaaGreatDoorProg
set_option linter.unusedVariables false
set_option linter.unusedSimpArgs false
namespace Go.Mini
structure Bel (n:Nat) (σ τ:H):Prop where
 size:σ.size≤τ.size
 get:∀ i,i < n→τ.get i=σ.get i
theorem Bel.refl (n:Nat) (σ:H):Bel n σ σ:=⟨Nat.le_refl _,fun _ _=>rfl⟩
theorem Bel.trans {n:Nat} {a b c:H} (h:Bel n a b) (k:Bel n b c):Bel n a c:=⟨Nat.le_trans h.size k.size,fun i hi=>(k.get i hi).trans (h.get i hi)⟩
theorem Bel.mono {n m:Nat} {a b:H} (h:Bel n a b) (hm:m≤n):Bel m a b:=⟨h.size,fun i hi=>h.get i (Nat.lt_of_lt_of_le hi hm)⟩
theorem Bel.ext {σ τ:H} (h:Bel σ.size σ τ):Ext σ τ:=⟨h.size,h.get⟩
theorem Ext.bel {σ τ:H} (h:Ext σ τ) {n:Nat} (hn:n≤σ.size):Bel n σ τ:=⟨h.size,fun i hi=>h.get i (Nat.lt_of_lt_of_le hi hn)⟩
theorem Bel.push {n:Nat} {σ:H} (o:MObj) (hn:n≤σ.size):Bel n σ (σ.push o):=(Ext.push σ o).bel hn
theorem Bel.set {n k:Nat} {σ:H} (o:MObj) (hk:n≤k):Bel n σ (σ.set k o):=⟨by simp,fun i hi=>H.get_set_ne (by omega)⟩
theorem i64wrap {x:Int} (h1:-9223372036854775808≤x) (h2:x≤9223372036854775807):IntKind.i64.wrap x=x:=by
 show (if true && decide (x % (2 ^ 64:Int)≥2 ^ 63) then x % (2 ^ 64:Int) - 2 ^ 64 else x % (2 ^ 64:Int))=x
 by_cases h:0≤x
 ·have e:x % (2 ^ 64:Int)=x:=Int.emod_eq_of_lt h (by omega)
  rw [e,if_neg (by simp;omega)]
 ·have e:x % (2 ^ 64:Int)=x + 2 ^ 64:=by omega
  rw [e,if_pos (by simp;omega)];omega
theorem u64wrap {x:Int} (h1:0≤x) (h2:x≤18446744073709551615):IntKind.u64.wrap x=x:=by
 show (if false && decide (x % (2 ^ 64:Int)≥2 ^ 63) then x % (2 ^ 64:Int) - 2 ^ 64 else x % (2 ^ 64:Int))=x
 rw [if_neg (by simp)];exact Int.emod_eq_of_lt h1 (by omega)
theorem u8wrap {x:Int} (h1:0≤x) (h2:x≤255):IntKind.u8.wrap x=x:=by
 show (if false && decide (x % (2 ^ 8:Int)≥2 ^ 7) then x % (2 ^ 8:Int) - 2 ^ 8 else x % (2 ^ 8:Int))=x
 rw [if_neg (by simp)];exact Int.emod_eq_of_lt h1 (by omega)
theorem u32wrap {x:Int} (h1:0≤x) (h2:x≤4294967295):IntKind.u32.wrap x=x:=by
 show (if false && decide (x % (2 ^ 32:Int)≥2 ^ 31) then x % (2 ^ 32:Int) - 2 ^ 32 else x % (2 ^ 32:Int))=x
 rw [if_neg (by simp)];exact Int.emod_eq_of_lt h1 (by omega)
theorem i32wrap {x:Int} (h1:-2147483648≤x) (h2:x≤2147483647):IntKind.i32.wrap x=x:=by
 show (if true && decide (x % (2 ^ 32:Int)≥2 ^ 31) then x % (2 ^ 32:Int) - 2 ^ 32 else x % (2 ^ 32:Int))=x
 by_cases h:0≤x
 ·have e:x % (2 ^ 32:Int)=x:=Int.emod_eq_of_lt h (by omega)
  rw [e,if_neg (by simp;omega)]
 ·have e:x % (2 ^ 32:Int)=x + 2 ^ 32:=by omega
  rw [e,if_pos (by simp;omega)];omega
inductive Own (σ:H) (sz:Nat):Value→Option Nat→List Value→Prop where
 | nil:Own σ sz (.slice none 0 0) none []
 | full {id n:Nat} {cs:List Value} (h:σ.get id=.cells sz cs) (hl:cs.length=n * sz):Own σ sz (.slice (some ⟨id,0,none⟩) n n) (some id) cs
theorem rowAll {cs:List Value} {n:Nat} (h:cs.length=n):rowL cs 0 n=some cs:=by
 rw [rowL_some n 0 cs (by omega),List.drop_zero,List.take_of_length_le (by omega)]
theorem app_one {ts:Fr} {σ:H} {sz bytes:Nat} {xs xx:Opd} {v:Value} {oid:Option Nat} {cs vs:List Value} {tid:Nat} (ho:Own σ sz v oid cs) (hv:mev ts xs=v) (hx:mev ts xx=.slice (some ⟨tid,0,none⟩) 1 1)
 (ht:σ.get tid=.cells sz vs) (hl:vs.length=sz) (hz:sz≠0) (h1:(cs ++ vs).all one=true) (hb:bytes≤128) (hn:cs.length < appMax):
 ∃ v' τ,mop ts σ (.app sz bytes xs xx)=some (v',τ)∧Own τ sz v' (some σ.size) (cs ++ vs)∧τ.size=σ.size + 1∧(∀ i,i < σ.size→oid≠some i→τ.get i=σ.get i):=by
 have hrow:firstL σ sz 1 (.slice (some ⟨tid,0,none⟩) 1 1)=some vs:=by
  simp only [firstL,H.row,ht,Nat.one_mul];exact rowAll hl
 cases ho with
 | nil=>
   refine ⟨.slice (some ⟨σ.size,0,none⟩) 1 1,σ.push (.cells sz vs),?_,?_,by simp,fun i hi _=>H.get_push_lt hi⟩
   ·have:1≤appMax∧bytes≤128:=⟨by simp [appMax],hb⟩
    simp only [mop,hv,hx,lenL,hrow,this,and_self,if_true]
    simp
   ·exact .full (by simp) (by simpa using hl)
 | @full id n _ h hlen=>
   have happ:n + 1≤appMax∧bytes≤128:=by
    refine ⟨?_,hb⟩
    have:n≤cs.length:=by rw [hlen];exact Nat.le_mul_of_pos_right n (by omega)
    omega
   have hr:σ.row id 0 (n * sz)=some cs:=by simp only [H.row,h];exact rowAll hlen
   refine ⟨.slice (some ⟨σ.size,0,none⟩) (n + 1) (n + 1),(σ.set id .dead).push (.cells sz (cs ++ vs)),?_,?_,by simp,fun i hi hne=>?_⟩
   ·simp only [mop,hv,hx,lenL,hrow,happ,and_self,if_true,h,hr,h1,true_or]
    rw [if_neg (by omega)]
   ·refine .full ?_ (by simp [hlen,hl,Nat.add_mul])
    have:=H.get_push_self (σ.set id .dead) (.cells sz (cs ++ vs))
    rwa [H.size_set] at this
   ·have hid:=H.lt_of_cells h
    have hni:i≠id:=fun e=>hne (by rw [e])
    rw [H.get_push_lt (by simpa using hi),H.get_set_ne hni]
def vi (x:Int):Value:=.int .i64 x
def ints (l:List Int):List Value:=l.map (Value.int .i64)
theorem ints_one (l:List Int):(ints l).all one=true:=by unfold ints;rw [List.all_map,List.all_eq_true];intro _ _;rfl
section
variable {E:World→Prop} {P:Program} {ts:Fr} {σ τ:H} {v:Value} {K:Fr→H→Prop} {Q:MQ} {rest:List MI} {drest fl:List DI}
theorem mx_seq {a b:MC} (h:mx E P a (Ex.thn (mx E P b Q) Q) ts σ):mx E P (.seq a b) Q ts σ:=h
theorem mx_ops {l:List MI} (h:ml E P l (Q .nor) ts σ):mx E P (.ops l) Q ts σ:=h
theorem mx_dops {l:List DI} (h:mld E P l l (Q .nor) ts σ):mx E P (.dops l) Q ts σ:=h
theorem mx_skip (h:Q .nor ts σ):mx E P .skip Q ts σ:=h
theorem mx_block {id:Nat} {b:MC} (h:mx E P b (Ex.inb id Q) ts σ):mx E P (.block id b) Q ts σ:=h
theorem mx_exit {id:Nat} (h:Q (.exit id) ts σ):mx E P (.exit id) Q ts σ:=h
theorem mx_ret (h:Q .ret ts σ):mx E P .ret Q ts σ:=h
theorem thn_nor (h:K ts σ):Ex.thn K Q .nor ts σ:=h
theorem thn_exit {id:Nat} (h:Q (.exit id) ts σ):Ex.thn K Q (.exit id) ts σ:=h
theorem thn_ret (h:Q .ret ts σ):Ex.thn K Q .ret ts σ:=h
theorem inb_nor {id:Nat} (h:Q .nor ts σ):Ex.inb id Q .nor ts σ:=h
theorem inb_ret {id:Nat} (h:Q .ret ts σ):Ex.inb id Q .ret ts σ:=h
theorem inb_exit {id:Nat} (h:Q .nor ts σ):Ex.inb id Q (.exit id) ts σ:=by simp only [Ex.inb,if_true];exact h
theorem inb_out {id j:Nat} (hne:(j == id)=false) (h:Q (.exit j) ts σ):Ex.inb id Q (.exit j) ts σ:=by
 simp only [Ex.inb];rw [if_neg (by simpa using hne)];exact h
theorem mx_cond_t {c:Opd} {a b:MC} (hc:mev ts c=.bool true) (h:mx E P a Q ts σ):mx E P (.cond c a b) Q ts σ:=by simp only [mx,hc];exact h
theorem mx_cond_f {c:Opd} {a b:MC} (hc:mev ts c=.bool false) (h:mx E P b Q ts σ):mx E P (.cond c a b) Q ts σ:=by simp only [mx,hc];exact h
theorem ml_nil (h:K ts σ):ml E P [] K ts σ:=h
theorem mld_nil (h:K ts σ):mld E P fl [] K ts σ:=h
theorem mstep_of {op:MOp} {J:Value→H→Prop} (hm:mop ts σ op=some (v,τ)) (h:J v τ):mstep E P ts σ op J:=by
 cases op<;>first | (simp [mop] at hm;done) | exact ⟨v,τ,hm,h⟩
theorem ml_any {i:MI} (hw:wantM ts i.g=true) (h:mstep E P ts σ i.op (fun v τ=>ml E P rest K (updO ts i.dst v) τ)):ml E P (i :: rest) K ts σ:=by
 simp only [ml,hw,if_true];exact h
theorem mld_any {d:DI} (hw:wantM ts d.mi.g=true) (hq:d.loud=false→d.ext=true→∀ v,mop ts σ d.mi.op=some (v,σ)→plain v=true) (h:mstep E P ts σ d.mi.op (fun v τ=>(d.ext=true→Ext σ τ)∧mld E P fl drest K (updO ts d.mi.dst v) τ)):mld E P fl (d :: drest) K ts σ:=by
 simp only [mld,hw,if_true];exact mstep_mono h fun v τ hv=>⟨fun e=>KeepM.of_ext (fun hl=>hq hl e) (hv.1 e),hv.2⟩
theorem mld_keep {d:DI} (hw:wantM ts d.mi.g=true) (h:mstep E P ts σ d.mi.op (fun v τ=>(d.ext=true→KeepM fl d ts σ τ)∧mld E P fl drest K (updO ts d.mi.dst v) τ)):mld E P fl (d :: drest) K ts σ:=by
 simp only [mld,hw,if_true];exact h
theorem ml_step {d:Option Nat} {op:MOp} {g:Option (Nat × Bool)} (hw:wantM ts g=true) (hm:mop ts σ op=some (v,τ)) (h:ml E P rest K (updO ts d v) τ):ml E P (⟨d,op,g⟩ :: rest) K ts σ:=
 ml_any hw (mstep_of hm h)
theorem ml_stepN {d:Option Nat} {op:MOp} (hm:mop ts σ op=some (v,τ)) (h:ml E P rest K (updO ts d v) τ):ml E P (⟨d,op,none⟩ :: rest) K ts σ:=
 ml_any rfl (mstep_of hm h)
theorem mld_stepN {d:Option Nat} {op:MOp} {ix:Nat} {l:Bool} (hm:mop ts σ op=some (v,τ)) (h:mld E P fl drest K (updO ts d v) τ):mld E P fl (⟨⟨d,op,none⟩,ix,l,false⟩ :: drest) K ts σ:=
 mld_any rfl (fun _ h=>nomatch h) (mstep_of hm ⟨(fun h=>nomatch h),h⟩)
theorem ml_skip {d:Option Nat} {op:MOp} {g:Option (Nat × Bool)} (hw:wantM ts g=false) (h:ml E P rest K (updO ts d undef) σ):ml E P (⟨d,op,g⟩ :: rest) K ts σ:=by
 simp only [ml,hw,Bool.false_eq_true,if_false];exact h
theorem mld_step {d:Option Nat} {op:MOp} {g:Option (Nat × Bool)} {ix:Nat} {l:Bool} (hw:wantM ts g=true) (hm:mop ts σ op=some (v,τ)) (h:mld E P fl drest K (updO ts d v) τ):
 mld E P fl (⟨⟨d,op,g⟩,ix,l,false⟩ :: drest) K ts σ:=
 mld_any hw (fun _ h=>nomatch h) (mstep_of hm ⟨(fun h=>nomatch h),h⟩)
theorem mld_stepE {d:Option Nat} {op:MOp} {g:Option (Nat × Bool)} {ix:Nat} {e:Bool} (hw:wantM ts g=true) (hm:mop ts σ op=some (v,τ)) (he:Ext σ τ) (h:mld E P fl drest K (updO ts d v) τ):
 mld E P fl (⟨⟨d,op,g⟩,ix,true,e⟩ :: drest) K ts σ:=
 mld_any hw (fun h=>nomatch h) (mstep_of hm ⟨fun _=>he,h⟩)
theorem mld_stepP {d:Option Nat} {op:MOp} {g:Option (Nat × Bool)} {ix:Nat} (hw:wantM ts g=true) (hm:mop ts σ op=some (v,σ)) (hp:plain v=true) (h:mld E P fl drest K (updO ts d v) σ):
 mld E P fl (⟨⟨d,op,g⟩,ix,false,true⟩ :: drest) K ts σ:=
 mld_any hw (fun _ _ v' hv'=>by rw [hm] at hv';cases hv';exact hp) (mstep_of hm ⟨fun _=>Ext.refl _,h⟩)
theorem mld_skip {d:Option Nat} {op:MOp} {g:Option (Nat × Bool)} {ix:Nat} {l e:Bool} (hw:wantM ts g=false) (h:mld E P fl drest K (updO ts d undef) σ):mld E P fl (⟨⟨d,op,g⟩,ix,l,e⟩ :: drest) K ts σ:=by
 simp only [mld,hw,Bool.false_eq_true,if_false];exact h
theorem ml_call {d:Option Nat} {f:FuncId} {args:List Opd} {g:Option (Nat × Bool)} {R:Value→H→Prop} {avs:List Value} (hw:wantM ts g=true) (ha:args.map (mev ts)=avs) (hc:MCalls E P f avs σ R)
 (h:∀ v τ,R v τ→ml E P rest K (updO ts d v) τ):ml E P (⟨d,.call f args,g⟩ :: rest) K ts σ:=
 ml_any hw (MCalls.mono (by rw [ha];exact hc) h)
theorem mld_call {d:Option Nat} {f:FuncId} {args:List Opd} {g:Option (Nat × Bool)} {R:Value→H→Prop} {ix:Nat} {l e:Bool} {avs:List Value} (hw:wantM ts g=true) (ha:args.map (mev ts)=avs) (hc:MCalls E P f avs σ R)
 (he:∀ v τ,R v τ→Ext σ τ) (h:∀ v τ,R v τ→mld E P fl drest K (updO ts d v) τ):mld E P fl (⟨⟨d,.call f args,g⟩,ix,l,e⟩ :: drest) K ts σ:=
 mld_any hw (fun _ _ v hv=>by simp [mop] at hv) (MCalls.mono (by rw [ha];exact hc) fun v τ hr=>⟨fun _=>he v τ hr,h v τ hr⟩)
theorem mld_callW {d:Option Nat} {f:FuncId} {args:List Opd} {g:Option (Nat × Bool)} {R:Value→H→Prop} {ix:Nat} {l:Bool} {avs:List Value} (hw:wantM ts g=true) (ha:args.map (mev ts)=avs) (hc:MCalls E P f avs σ R)
 (h:∀ v τ,R v τ→mld E P fl drest K (updO ts d v) τ):mld E P fl (⟨⟨d,.call f args,g⟩,ix,l,false⟩ :: drest) K ts σ:=
 mld_any hw (fun _ h=>nomatch h) (MCalls.mono (by rw [ha];exact hc) fun v τ hr=>⟨(fun h=>nomatch h),h v τ hr⟩)
theorem ml_callv {d:Option Nat} {x:Opd} {f:FuncId} {first cap:Array Value} {args:List Opd} {g:Option (Nat × Bool)} {R:Value→H→Prop} (hw:wantM ts g=true) (hx:mev ts x=.func (.func f) first cap)
 {avs:List Value} (ha:first.toList ++ args.map (mev ts) ++ cap.toList=avs) (hc:MCalls E P f avs σ R) (h:∀ v τ,R v τ→ml E P rest K (updO ts d v) τ):ml E P (⟨d,.callv x args,g⟩ :: rest) K ts σ:=
 ml_any hw (by simp only [mstep,hx];exact MCalls.mono (by rw [ha];exact hc) h)
theorem mx_loop {b:MC} (I:Nat→Fr→H→Prop) (n:Nat) (h0:I n ts σ) (h:∀ n ts σ,I n ts σ→mx E P b (Ex.thn (fun ts' σ'=>∃ m,m < n∧I m ts' σ') Q) ts σ):mx E P (.loop b) Q ts σ:=⟨I,n,h0,h⟩
theorem ml_app1 {d:Option Nat} {g:Option (Nat × Bool)} {sz bytes:Nat} {xs xx:Opd} {v:Value} {oid:Option Nat} {cs vs:List Value} {tid:Nat} (hw:wantM ts g=true) (hv:mev ts xs=v) (hx:mev ts xx=.slice (some ⟨tid,0,none⟩) 1 1)
 (ho:Own σ sz v oid cs) (ht:σ.get tid=.cells sz vs) (hl:vs.length=sz) (hz:sz≠0) (h1:(cs ++ vs).all one=true) (hb:bytes≤128) (hn:cs.length < appMax)
 (h:∀ v' τ,Own τ sz v' (some σ.size) (cs ++ vs)→τ.size=σ.size + 1→(∀ i,i < σ.size→oid≠some i→τ.get i=σ.get i)→ml E P rest K (updO ts d v') τ):
 ml E P (⟨d,.app sz bytes xs xx,g⟩ :: rest) K ts σ:=by
 obtain ⟨v',τ,h2,h3,h4,h5⟩:=app_one (ts:=ts) ho hv hx ht hl hz h1 hb hn
 exact ml_step hw h2 (h v' τ h3 h4 h5)
theorem ints_len (l:List Int):(ints l).length=l.length:=by simp [ints]
theorem ints_app (l k:List Int):ints (l ++ k)=ints l ++ ints k:=by simp [ints]
theorem ml_appI {d:Option Nat} {g:Option (Nat × Bool)} {bytes:Nat} {xs xx:Opd} {v:Value} {oid:Option Nat} {l:List Int} {n:Int} {tid:Nat} (hw:wantM ts g=true) (hv:mev ts xs=v) (hx:mev ts xx=.slice (some ⟨tid,0,none⟩) 1 1)
 (ho:Own σ 1 v oid (ints l)) (ht:σ.get tid=.cells 1 [.int .i64 n]) (hb:bytes≤128) (hn:l.length < appMax)
 (h:∀ v' τ,Own τ 1 v' (some σ.size) (ints (l ++ [n]))→τ.size=σ.size + 1→(∀ i,i < σ.size→oid≠some i→τ.get i=σ.get i)→ml E P rest K (updO ts d v') τ):
 ml E P (⟨d,.app 1 bytes xs xx,g⟩ :: rest) K ts σ:=by
 have e:ints l ++ [Value.int .i64 n]=ints (l ++ [n]):=by simp [ints]
 refine ml_app1 hw hv hx ho ht rfl (by omega) (by rw [e];exact ints_one _) hb (by rw [ints_len];exact hn) fun v' τ h1 h2 h3=>h v' τ (by rw [← e];exact h1) h2 h3
theorem Own.ext {σ τ:H} {sz:Nat} {v:Value} {oid:Option Nat} {cs:List Value} (h:Own σ sz v oid cs) (hx:∀ i,oid=some i→τ.get i=σ.get i):Own τ sz v oid cs:=by
 cases h with
 | nil=>exact .nil
 | full h hl=>exact .full (by rw [hx _ rfl];exact h) hl
theorem Own.lt {σ:H} {sz:Nat} {v:Value} {i:Nat} {cs:List Value} (h:Own σ sz v (some i) cs):i < σ.size:=by
 cases h with
 | full h hl=>exact H.lt_of_cells h
theorem Own.of_ext {σ τ:H} {sz:Nat} {v:Value} {oid:Option Nat} {cs:List Value} (h:Own σ sz v oid cs) (hx:Ext σ τ):Own τ sz v oid cs:=
 h.ext fun i hi=>hx.get i (by subst hi;exact h.lt)
theorem Own.cells1 {σ:H} {sz:Nat} {v:Value} {oid:Option Nat} {cs:List Value} (h:Own σ sz v oid cs):v.cells=#[v]:=by cases h<;>rfl
theorem Own.one1 {σ:H} {sz:Nat} {v:Value} {oid:Option Nat} {cs:List Value} (h:Own σ sz v oid cs):one v=true:=by cases h<;>rfl
theorem Ext.set' {σ0 σ:H} (h:Ext σ0 σ) {k:Nat} (hk:σ0.size≤k) (o:MObj):Ext σ0 (σ.set k o):=
 ⟨by simpa using h.size,fun i hi=>by rw [H.get_set_ne (by omega)];exact h.get i hi⟩
theorem o_iaS {sz:Nat} {x i:Opd} {id off len cap:Nat} {k:IntKind} {q:Int} (hx:mev ts x=.slice (some ⟨id,off,none⟩) len cap) (hi:mev ts i=.int k q) (h0:0≤q) (h1:q < len):
 mop ts σ (.iaS sz x i)=some (.pointer (some ⟨id,off + q.toNat * sz,none⟩),σ):=by
 simp only [mop,hx,hi,h0,h1,and_self,if_true]
theorem o_iaA {len sz:Nat} {x i:Opd} {id off:Nat} {k:IntKind} {q:Int} (hx:mev ts x=.pointer (some ⟨id,off,none⟩)) (hi:mev ts i=.int k q) (h0:0≤q) (h1:q < len):
 mop ts σ (.iaA len sz x i)=some (.pointer (some ⟨id,off + q.toNat * sz,none⟩),σ):=by
 simp only [mop,hx,hi,h0,h1,and_self,if_true]
theorem o_idxS {x i:Opd} {s:ByteArray} {k:IntKind} {q:Int} (hx:mev ts x=.string s) (hi:mev ts i=.int k q) (h0:0≤q) (h1:q < s.size):
 mop ts σ (.idxS x i)=some (.int .u8 (s.data.toList.getD q.toNat 0).toNat,σ):=by
 simp only [mop,hx,hi,h0,h1,and_self,if_true]
theorem o_load1 {a:Opd} {id off:Nat} (ha:mev ts a=.pointer (some ⟨id,off,none⟩)) (hc:σ.cell id off=some v):mop ts σ (.load1 a)=some (v,σ):=by
 simp only [mop,ha,hc,Option.map_some]
theorem o_loadN {n:Nat} {a:Opd} {id off:Nat} {vs:List Value} (ha:mev ts a=.pointer (some ⟨id,off,none⟩)) (hc:σ.row id off n=some vs):mop ts σ (.loadN n a)=some (.agg vs.toArray,σ):=by
 simp only [mop,ha,hc,Option.map_some]
theorem cell_of {id off sz:Nat} {cs:List Value} (h:σ.get id=.cells sz cs) (hc:cs[off]?=some v):σ.cell id off=some v:=by simp only [H.cell,h,hc]
theorem row_of {id off n sz:Nat} {cs vs:List Value} (h:σ.get id=.cells sz cs) (hc:rowL cs off n=some vs):σ.row id off n=some vs:=by simp only [H.row,h,hc]
theorem row_ro {id off n:Nat} {cs vs:List Value} (h:σ.get id=.ro cs) (hc:rowL cs off n=some vs):σ.row id off n=some vs:=by simp only [H.row,h,hc]
theorem o_store1 {a x:Opd} {id off sz:Nat} {cs:List Value} (ha:mev ts a=.pointer (some ⟨id,off,none⟩)) (hx:mev ts x=v) (h1:v.cells=#[v]) (h2:one v=true) (h:σ.get id=.cells sz cs) (ho:off < cs.length):
 mop ts σ (.store 1 a x)=some (undef,σ.set id (.cells sz (cs.set off v))):=by
 simp only [mop,ha,hx,h1,putRow,h]
 simp [h2,spl]
 omega
theorem o_quo {x y:Opd} {k:IntKind} {a b:Int} (hx:mev ts x=.int k a) (hy:mev ts y=.int k b) (hb:b≠0):mop ts σ (.bin .quo x y)=some (.int k (k.wrap (a.tdiv b)),σ):=by
 simp only [mop,hx,hy,mbin,ne_eq,hb,not_false_eq_true,and_self,if_true,Option.map_some]
theorem o_rem {x y:Opd} {k:IntKind} {a b:Int} (hx:mev ts x=.int k a) (hy:mev ts y=.int k b) (hb:b≠0):mop ts σ (.bin .rem x y)=some (.int k (a.tmod b),σ):=by
 simp only [mop,hx,hy,mbin,ne_eq,hb,not_false_eq_true,and_self,if_true,Option.map_some]
theorem fin1 {i:Nat} {R:Value→H→Prop} (h:R (ts i) σ):mpost [.t i] R .ret ts σ:=⟨[ts i],rfl,h⟩
theorem fin2 {i j:Nat} {R:Value→H→Prop} (h:R (.tuple #[ts i,ts j]) σ):mpost [.t i,.t j] R .ret ts σ:=⟨[ts i,ts j],rfl,h⟩
theorem fin0 {R:Value→H→Prop} (h:R (.tuple #[]) σ):mpost [] R .ret ts σ:=⟨[],rfl,h⟩
theorem fin0n {R:Value→H→Prop} (h:R (.tuple #[]) σ):mpost [] R .nor ts σ:=⟨[],rfl,h⟩
theorem ml_idxS {d:Option Nat} {g:Option (Nat × Bool)} {x i:Opd} {s:ByteArray} {k:IntKind} {q:Int} (hw:wantM ts g=true) (hx:mev ts x=.string s) (hi:mev ts i=.int k q) (h0:0≤q) (h1:q < s.size) (hn:ml E P rest K (updO ts d (.int .u8 (s.data.toList.getD q.toNat 0).toNat)) σ):ml E P (⟨d,.idxS x i,g⟩ :: rest) K ts σ:=ml_step hw (o_idxS hx hi h0 h1) hn
theorem mld_idxS {d:Option Nat} {g:Option (Nat × Bool)} {ix:Nat} {l:Bool} {x i:Opd} {s:ByteArray} {k:IntKind} {q:Int} (hw:wantM ts g=true) (hx:mev ts x=.string s) (hi:mev ts i=.int k q) (h0:0≤q) (h1:q < s.size) (hn:mld E P fl drest K (updO ts d (.int .u8 (s.data.toList.getD q.toNat 0).toNat)) σ):mld E P fl (⟨⟨d,.idxS x i,g⟩,ix,l,false⟩ :: drest) K ts σ:=mld_step hw (o_idxS hx hi h0 h1) hn
theorem ml_iaS {d:Option Nat} {g:Option (Nat × Bool)} {sz:Nat} {x i:Opd} {id off len cap:Nat} {k:IntKind} {q:Int} (hw:wantM ts g=true) (hx:mev ts x=.slice (some ⟨id,off,none⟩) len cap) (hi:mev ts i=.int k q) (h0:0≤q) (h1:q < len) (hn:ml E P rest K (updO ts d (.pointer (some ⟨id,off + q.toNat * sz,none⟩))) σ):ml E P (⟨d,.iaS sz x i,g⟩ :: rest) K ts σ:=ml_step hw (o_iaS hx hi h0 h1) hn
theorem mld_iaS {d:Option Nat} {g:Option (Nat × Bool)} {ix:Nat} {l:Bool} {sz:Nat} {x i:Opd} {id off len cap:Nat} {k:IntKind} {q:Int} (hw:wantM ts g=true) (hx:mev ts x=.slice (some ⟨id,off,none⟩) len cap) (hi:mev ts i=.int k q) (h0:0≤q) (h1:q < len) (hn:mld E P fl drest K (updO ts d (.pointer (some ⟨id,off + q.toNat * sz,none⟩))) σ):mld E P fl (⟨⟨d,.iaS sz x i,g⟩,ix,l,false⟩ :: drest) K ts σ:=mld_step hw (o_iaS hx hi h0 h1) hn
theorem ml_iaA {d:Option Nat} {g:Option (Nat × Bool)} {len sz:Nat} {x i:Opd} {id off:Nat} {k:IntKind} {q:Int} (hw:wantM ts g=true) (hx:mev ts x=.pointer (some ⟨id,off,none⟩)) (hi:mev ts i=.int k q) (h0:0≤q) (h1:q < len) (hn:ml E P rest K (updO ts d (.pointer (some ⟨id,off + q.toNat * sz,none⟩))) σ):ml E P (⟨d,.iaA len sz x i,g⟩ :: rest) K ts σ:=ml_step hw (o_iaA hx hi h0 h1) hn
theorem mld_iaA {d:Option Nat} {g:Option (Nat × Bool)} {ix:Nat} {l:Bool} {len sz:Nat} {x i:Opd} {id off:Nat} {k:IntKind} {q:Int} (hw:wantM ts g=true) (hx:mev ts x=.pointer (some ⟨id,off,none⟩)) (hi:mev ts i=.int k q) (h0:0≤q) (h1:q < len) (hn:mld E P fl drest K (updO ts d (.pointer (some ⟨id,off + q.toNat * sz,none⟩))) σ):mld E P fl (⟨⟨d,.iaA len sz x i,g⟩,ix,l,false⟩ :: drest) K ts σ:=mld_step hw (o_iaA hx hi h0 h1) hn
theorem ml_load1 {d:Option Nat} {g:Option (Nat × Bool)} {a:Opd} {id off:Nat} (hw:wantM ts g=true) (ha:mev ts a=.pointer (some ⟨id,off,none⟩)) (hc:σ.cell id off=some v) (hn:ml E P rest K (updO ts d v) σ):ml E P (⟨d,.load1 a,g⟩ :: rest) K ts σ:=ml_step hw (o_load1 ha hc) hn
theorem mld_load1 {d:Option Nat} {g:Option (Nat × Bool)} {ix:Nat} {l:Bool} {a:Opd} {id off:Nat} (hw:wantM ts g=true) (ha:mev ts a=.pointer (some ⟨id,off,none⟩)) (hc:σ.cell id off=some v) (hn:mld E P fl drest K (updO ts d v) σ):mld E P fl (⟨⟨d,.load1 a,g⟩,ix,l,false⟩ :: drest) K ts σ:=mld_step hw (o_load1 ha hc) hn
theorem ml_loadN {d:Option Nat} {g:Option (Nat × Bool)} {n:Nat} {a:Opd} {id off:Nat} {vs:List Value} (hw:wantM ts g=true) (ha:mev ts a=.pointer (some ⟨id,off,none⟩)) (hc:σ.row id off n=some vs) (hn:ml E P rest K (updO ts d (.agg vs.toArray)) σ):ml E P (⟨d,.loadN n a,g⟩ :: rest) K ts σ:=ml_step hw (o_loadN ha hc) hn
theorem mld_loadN {d:Option Nat} {g:Option (Nat × Bool)} {ix:Nat} {l:Bool} {n:Nat} {a:Opd} {id off:Nat} {vs:List Value} (hw:wantM ts g=true) (ha:mev ts a=.pointer (some ⟨id,off,none⟩)) (hc:σ.row id off n=some vs) (hn:mld E P fl drest K (updO ts d (.agg vs.toArray)) σ):mld E P fl (⟨⟨d,.loadN n a,g⟩,ix,l,false⟩ :: drest) K ts σ:=mld_step hw (o_loadN ha hc) hn
theorem ml_store1 {d:Option Nat} {g:Option (Nat × Bool)} {a x:Opd} {id off sz:Nat} {cs:List Value} (hw:wantM ts g=true) (ha:mev ts a=.pointer (some ⟨id,off,none⟩)) (hx:mev ts x=v) (h1:v.cells=#[v]) (h2:one v=true) (h:σ.get id=.cells sz cs) (ho:off < cs.length) (hn:ml E P rest K (updO ts d undef) (σ.set id (.cells sz (cs.set off v)))):ml E P (⟨d,.store 1 a x,g⟩ :: rest) K ts σ:=ml_step hw (o_store1 ha hx h1 h2 h ho) hn
theorem ml_quo {d:Option Nat} {g:Option (Nat × Bool)} {x y:Opd} {k:IntKind} {a b:Int} (hw:wantM ts g=true) (hx:mev ts x=.int k a) (hy:mev ts y=.int k b) (hb:b≠0) (hn:ml E P rest K (updO ts d (.int k (k.wrap (a.tdiv b)))) σ):ml E P (⟨d,.bin .quo x y,g⟩ :: rest) K ts σ:=ml_step hw (o_quo hx hy hb) hn
theorem mld_quo {d:Option Nat} {g:Option (Nat × Bool)} {ix:Nat} {l:Bool} {x y:Opd} {k:IntKind} {a b:Int} (hw:wantM ts g=true) (hx:mev ts x=.int k a) (hy:mev ts y=.int k b) (hb:b≠0) (hn:mld E P fl drest K (updO ts d (.int k (k.wrap (a.tdiv b)))) σ):mld E P fl (⟨⟨d,.bin .quo x y,g⟩,ix,l,false⟩ :: drest) K ts σ:=mld_step hw (o_quo hx hy hb) hn
theorem ml_rem {d:Option Nat} {g:Option (Nat × Bool)} {x y:Opd} {k:IntKind} {a b:Int} (hw:wantM ts g=true) (hx:mev ts x=.int k a) (hy:mev ts y=.int k b) (hb:b≠0) (hn:ml E P rest K (updO ts d (.int k (a.tmod b))) σ):ml E P (⟨d,.bin .rem x y,g⟩ :: rest) K ts σ:=ml_step hw (o_rem hx hy hb) hn
theorem mld_rem {d:Option Nat} {g:Option (Nat × Bool)} {ix:Nat} {l:Bool} {x y:Opd} {k:IntKind} {a b:Int} (hw:wantM ts g=true) (hx:mev ts x=.int k a) (hy:mev ts y=.int k b) (hb:b≠0) (hn:mld E P fl drest K (updO ts d (.int k (a.tmod b))) σ):mld E P fl (⟨⟨d,.bin .rem x y,g⟩,ix,l,false⟩ :: drest) K ts σ:=mld_step hw (o_rem hx hy hb) hn
theorem ml_op {d:Option Nat} {g:Option (Nat × Bool)} {op:MOp} (hw:wantM ts g=true) (hm:mop ts σ op=some (v,τ)) (hn:ml E P rest K (updO ts d v) τ):ml E P (⟨d,op,g⟩ :: rest) K ts σ:=ml_step hw (hm) hn
theorem mld_op {d:Option Nat} {g:Option (Nat × Bool)} {ix:Nat} {l:Bool} {op:MOp} (hw:wantM ts g=true) (hm:mop ts σ op=some (v,τ)) (hn:mld E P fl drest K (updO ts d v) τ):mld E P fl (⟨⟨d,op,g⟩,ix,l,false⟩ :: drest) K ts σ:=mld_step hw (hm) hn
end
end Go.Mini
namespace Go.Mini
open Go.RowKit (Below)
def flat:Nat→Value→Bool
 | 0,v=>plain v
 | n + 1,.agg cs=>cs.toList.all (flat n)
 | n + 1,.tuple cs=>cs.toList.all (flat n)
 | n + 1,.iface _ v=>flat n v
 | n + 1,.func _ f c=>f.toList.all (flat n) && c.toList.all (flat n)
 | _ + 1,v=>plain v
theorem VRs.of_flat {μ:Nat→Blk} {n k:Nat} (ih:∀ v,flat k v=true→VR μ n v v):∀ l:List Value,l.all (flat k)=true→VRs μ n l l
 | [],_=>.nil
 | v :: l,h=>by
   simp only [List.all_cons,Bool.and_eq_true] at h
   exact .cons (ih v h.1) (VRs.of_flat ih l h.2)
theorem VR.of_flat {μ:Nat→Blk} {n:Nat}:∀ (k:Nat) (v:Value),flat k v=true→VR μ n v v
 | 0,v,h=>VR.of_plain h
 | k + 1,v,h=>by
   have ih:=VR.of_flat (μ:=μ) (n:=n) k
   cases v<;>first
    | exact VR.of_plain h
    | exact .agg (VRs.of_flat ih _ h)
    | exact .tuple (VRs.of_flat ih _ h)
    | exact .iface (ih _ h)
    | (simp only [flat,Bool.and_eq_true] at h;exact .func (VRs.of_flat ih _ h.1) (VRs.of_flat ih _ h.2))
theorem VRs.eq_of_flat {μ:Nat→Blk} {n k:Nat} (ih:∀ v v',VR μ n v v'→flat k v=true→v'=v):∀ l l':List Value,VRs μ n l l'→l.all (flat k)=true→l'=l
 | _,_,.nil,_=>rfl
 | _,_,.cons h hs,hp=>by
   simp only [List.all_cons,Bool.and_eq_true] at hp
   rw [ih _ _ h hp.1,VRs.eq_of_flat ih _ _ hs hp.2]
theorem VR.eq_of_flat {μ:Nat→Blk} {n:Nat}:∀ (k:Nat) (v v':Value),VR μ n v v'→flat k v=true→v'=v
 | 0,v,v',h,hp=>VR.eq_of_plain h hp
 | k + 1,v,v',h,hp=>by
   have ih:=VR.eq_of_flat (μ:=μ) (n:=n) k
   cases h with
   | agg h=>have:=VRs.eq_of_flat ih _ _ h hp;rw [Array.ext' this]
   | tuple h=>have:=VRs.eq_of_flat ih _ _ h hp;rw [Array.ext' this]
   | iface h=>rw [ih _ _ h hp]
   | func hf hc=>
     simp only [flat,Bool.and_eq_true] at hp
     rw [Array.ext' (VRs.eq_of_flat ih _ _ hf hp.1),Array.ext' (VRs.eq_of_flat ih _ _ hc hp.2)]
   | ptr h=>simp [flat,plain] at hp
   | slice h=>simp [flat,plain] at hp
   | map h=>simp [flat,plain] at hp
   | junk=>simp [flat,plain] at hp
   | junkP=>simp [flat,plain] at hp
   | _=>rfl
theorem Sim.start (w:World) (μ:Nat→Blk):Sim w.heap.size w μ H.empty w:=
 ⟨.refl _ w,Nat.le_refl _,(fun _ _ e=>nomatch e),Nat.le_refl _,fun i hi=>absurd hi (Nat.not_lt_zero _),(fun _ _ _ h=>nomatch h),(fun _ _ h=>nomatch h),(fun _ _ _ h=>nomatch h),(fun _ _ h=>nomatch h),(fun _ _ _ h=>nomatch h),(fun _ _ h=>absurd rfl h)⟩
theorem mcalls_below {E:World→Prop} {P:Program} {f:FuncId} {args:List Value} {v:Value} {σ:H} (ka kv:Nat) (hok:okFn P f=true) (ha:args.all (flat ka)=true) (hv:flat kv v=true)
 (h:∀ w,Calls P f args.toArray w fun e w'=>e=.returned v∧Below w.heap.size w w'):MCalls E P f args σ (fun v' τ=>v'=v∧τ=σ):=by
 refine ⟨hok,fun B w0 μ w args' hE hs hargs=>?_⟩
 rw [VRs.eq_of_flat (VR.eq_of_flat ka) _ _ hargs ha]
 exact (h w).mono fun e w' ⟨he,hb⟩=>⟨v,v,σ,μ,he,⟨rfl,rfl⟩,hs.of_grown hb,.of_flat kv v hv,.refl _ _,Nat.le_refl _⟩
theorem mcalls_same {E:World→Prop} {P:Program} {f:FuncId} {args:List Value} {v:Value} {σ:H} (ka kv:Nat) (hok:okFn P f=true) (ha:args.all (flat ka)=true) (hv:flat kv v=true)
 (h:∀ w,Calls P f args.toArray w fun e w'=>e=.returned v∧w'=w):MCalls E P f args σ (fun v' τ=>v'=v∧τ=σ):=
 mcalls_below ka kv hok ha hv fun w=>(h w).mono fun e w' ⟨he,hw⟩=>⟨he,by rw [hw];exact .refl _ w⟩
theorem calls_of_mcalls {E:World→Prop} {P:Program} {f:FuncId} {args:List Value} {v:Value} (ka kv:Nat) (ha:args.all (flat ka)=true) (hv:flat kv v=true)
 (h:MCalls E P f args H.empty (fun v' _=>v'=v)) (w:World) (hE:E w):Calls P f args.toArray w fun e w'=>e=.returned v∧Below w.heap.size w w':=by
 refine (h.2 w.heap.size w (fun _=>⟨0,0,0,0,true⟩) w args hE (Sim.start w _) (VRs.of_flat (VR.of_flat ka) _ ha)).mono fun e w' ⟨v1,v',τ,μ',he,hr,hs,hvr,_,_⟩=>?_
 subst hr
 rw [VR.eq_of_flat kv _ _ hvr hv] at he
 exact ⟨he,hs.below⟩
theorem u8eq (b:UInt8) (n:Nat) (hn:n < 256):((b.toNat:Int) == (n:Int))=(b == UInt8.ofNat n):=by
 by_cases h:b=UInt8.ofNat n
 ·subst h;simp [UInt8.toNat_ofNat'];omega
 ·rw [beq_eq_false_iff_ne.2 h,beq_eq_false_iff_ne]
  intro e
  refine h ?_
  have:b.toNat=n:=by omega
  rw [← this];simp
theorem u8ne (b:UInt8) (n:Nat) (hn:n < 256):((b.toNat:Int) != (n:Int))=(b != UInt8.ofNat n):=by
 rw [bne,bne,u8eq b n hn]
def Out (σ τ:H) (sz:Nat) (v:Value) (cs:List Value):Prop:=Ext σ τ∧∃ oid,Own τ sz v oid cs∧∀ id,oid=some id→σ.size≤id
theorem ext_list (s:ByteArray) (a b:Nat):(s.extract a b).data.toList=(s.data.toList.drop a).take (b - a):=by
 rw [ByteArray.data_extract,Array.toList_extract,List.extract_eq_take_drop]
theorem ext_getD (s:ByteArray) (a b i:Nat) (h:a + i < b):(s.extract a b).data.toList.getD i 0=s.data.toList.getD (a + i) 0:=by
 rw [ext_list,List.getD_eq_getElem?_getD,List.getElem?_take,if_pos (by omega),List.getElem?_drop,List.getD_eq_getElem?_getD]
theorem ext_ext (s:ByteArray) (a b c d:Nat) (h:d≤b - a):(s.extract a b).extract c d=s.extract (a + c) (a + d):=by
 have:∀ x y:ByteArray,x.data.toList=y.data.toList→x=y:=fun x y h=>by
  cases x;cases y;simp at h;simpa using h
 apply this
 rw [ext_list,ext_list,ext_list,List.drop_take,List.take_take,List.drop_drop,show a + d - (a + c)=d - c by omega,Nat.min_eq_left (by omega)]
section
variable {E:World→Prop} {P:Program} {ts:Fr} {σ τ:H} {v:Value} {K:Fr→H→Prop} {Q:MQ} {rest:List MI} {drest fl:List DI}
theorem bnd_ok {y:Nat} {k:IntKind} {q:Int} (h0:0≤q) (h1:q≤y):bnd y (.int k q)=some q.toNat:=by simp only [bnd,h0,h1,and_self,if_true]
theorem o_slcS_hi {x hi:Opd} {s:ByteArray} {k:IntKind} {q:Int} (hx:mev ts x=.string s) (hh:mev ts hi=.int k q) (h0:0≤q) (h1:q≤s.size):mop ts σ (.slcS x none (some hi))=some (.string (s.extract 0 q.toNat),σ):=by
 simp only [mop,hx,Option.map_some,Option.map_none,hh,bnds,bnd_ok h0 h1]
theorem o_slcS_lo {x lo:Opd} {s:ByteArray} {k:IntKind} {q:Int} (hx:mev ts x=.string s) (hl:mev ts lo=.int k q) (h0:0≤q) (h1:q≤s.size):mop ts σ (.slcS x (some lo) none)=some (.string (s.extract q.toNat s.size),σ):=by
 simp only [mop,hx,Option.map_some,Option.map_none,hl,bnds,bnd_ok h0 h1,Option.isNone_none,if_true]
end
theorem spl_get:∀ (vs cs:List Value) (k i:Nat),k + vs.length≤cs.length→(spl cs k vs)[i]?=if k≤i∧i < k + vs.length then vs[i - k]? else cs[i]?
 | [],cs,k,i,h=>by simp [spl];omega
 | v :: vs,cs,k,i,h=>by
   simp only [spl,List.length_cons] at h ⊢
   rw [spl_get vs _ _ _ (by simp;omega)]
   by_cases h1:k + 1≤i∧i < k + 1 + vs.length
   ·rw [if_pos h1,if_pos (by omega),show i - k=(i - (k + 1)) + 1 by omega,List.getElem?_cons_succ]
   ·rw [if_neg h1]
    by_cases h2:i=k
    ·subst h2;rw [if_pos (by omega)];simp [List.getElem?_set];omega
    ·rw [if_neg (by omega),List.getElem?_set_ne (by omega)]
theorem spl_all {vs cs:List Value} (h:vs.length=cs.length):spl cs 0 vs=vs:=by
 apply List.ext_getElem?
 intro i
 rw [spl_get _ _ _ _ (by omega)]
 by_cases hi:i < vs.length
 ·rw [if_pos (by omega)];rfl
 ·rw [if_neg (by omega),List.getElem?_eq_none (by omega),List.getElem?_eq_none (by omega)]
section
variable {E:World→Prop} {P:Program} {ts:Fr} {σ τ:H} {v:Value} {K:Fr→H→Prop} {Q:MQ} {rest:List MI} {drest fl:List DI}
theorem o_storeAll {n:Nat} {a x:Opd} {id sz:Nat} {cs:List Value} {vs:Array Value} (ha:mev ts a=.pointer (some ⟨id,0,none⟩)) (hx:mev ts x=.agg vs) (hg:σ.get id=.cells sz cs) (h1:vs.size=n) (h2:cs.length=n) (h3:vs.toList.all one=true):
 mop ts σ (.store n a x)=some (undef,σ.set id (.cells sz vs.toList)):=by
 have hl:vs.toList.length=cs.length:=by rw [h2,← h1];simp
 simp only [mop,ha,hx,Value.cells,h1,if_true,putRow,hg,Nat.zero_add,h3,and_true,Option.map_some]
 rw [if_pos (by omega),spl_all hl];rfl
theorem o_store {n:Nat} {a x:Opd} {id off sz:Nat} {cs vs:List Value} (ha:mev ts a=.pointer (some ⟨id,off,none⟩)) (hx:(mev ts x).cells=vs.toArray) (hg:σ.get id=.cells sz cs) (h1:vs.length=n) (h2:off + n≤cs.length) (h3:vs.all one=true):
 mop ts σ (.store n a x)=some (undef,σ.set id (.cells sz (spl cs off vs))):=by
 simp only [mop,ha,hx,List.size_toArray,h1,if_true,putRow,hg,h3,and_true,Option.map_some]
 rw [if_pos (by omega)];rfl
end
theorem toList_data (s:ByteArray):s.toList=s.data.toList:=ByteArray.toList_eq s
section
variable {E:World→Prop} {P:Program} {ts:Fr} {σ τ:H} {v:Value} {K:Fr→H→Prop} {Q:MQ} {rest:List MI} {drest fl:List DI}
theorem o_slc_lo {x lo:Opd} {id off len sz:Nat} {cs:List Value} {k:IntKind} {q:Int} (hx:mev ts x=.slice (some ⟨id,off,none⟩) len len) (hl:mev ts lo=.int k q) (h0:0≤q) (h1:q≤len) (hg:σ.get id=.cells sz cs):
 mop ts σ (.slc sz x (some lo) none none)=some (.slice (some ⟨id,off + q.toNat * sz,none⟩) (len - q.toNat) (len - q.toNat),σ):=by
 simp only [mop,hx,Option.map_some,Option.map_none,hl,bnds,bnd_ok h0 h1,Option.isNone_none,if_true,okSz,hg,beq_self_eq_true,Bool.true_or]
end
attribute [go_sem] undef mop mev wantM updO upd initFr mbin eqNil Option.map_some Option.map_none List.getD_cons_zero List.getD_cons_succ Bool.false_eq_true beq_self_eq_true decide_true decide_false List.map_cons List.map_nil Bool.not_true Bool.not_false Value.cells H.cell H.row rowL H.get_push_self H.size_push List.getElem?_cons_zero List.getElem?_cons_succ ge_iff_le gt_iff_lt List.getElem?_toArray Nat.zero_add Nat.add_zero beq_true beq_false fillL repZ spl List.append_nil List.nil_append List.cons_append List.set_cons_zero List.set_cons_succ Nat.zero_mul Nat.mul_zero Nat.one_mul Nat.mul_one List.size_toArray List.length_cons List.length_nil and_self true_and and_true Nat.le_refl List.toList_toArray Int.toNat_natCast Int.cast_ofNat_Int Bool.and_self Bool.true_and Bool.false_and Bool.and_true Bool.and_false Bool.or_self Bool.true_or Bool.false_or Bool.or_true Bool.or_false Bool.not_not Option.isSome_none Option.isSome_some Option.getD_some Option.getD_none
theorem Sd {p:Prop} (h:p:=by first | with_reducible rfl | (simp only [go_sem,reduceIte,Nat.reduceEqDiff,reduceCtorEq,Nat.reduceAdd,Nat.reduceLeDiff,Int.reduceNeg,Int.reduceToNat,Int.reduceBEq,Int.reduceBNe,Int.reduceLT,Int.reduceLE,Int.reduceAdd,Int.reduceSub,fx];done) | (simp only [go_sem,reduceIte,Nat.reduceEqDiff,reduceCtorEq,Nat.reduceAdd,Nat.reduceLeDiff,Int.reduceNeg,Int.reduceToNat,Int.reduceBEq,Int.reduceBNe,Int.reduceLT,Int.reduceLE,Int.reduceAdd,Int.reduceSub,fx];with_reducible rfl) | (simp only [go_sem,reduceIte,Nat.reduceEqDiff,reduceCtorEq,Nat.reduceAdd,Nat.reduceLeDiff,Int.reduceNeg,Int.reduceToNat,Int.reduceBEq,Int.reduceBNe,Int.reduceLT,Int.reduceLE,Int.reduceAdd,Int.reduceSub,fx];(try simp (disch:=omega) only [i64wrap,u64wrap,u8wrap,u32wrap,i32wrap]);first | with_reducible rfl | done | (refine congrArg (Value.int _) ?_;omega)) | (simp only [go_sem,reduceIte,Nat.reduceEqDiff,reduceCtorEq,Nat.reduceAdd,Nat.reduceLeDiff,Int.reduceNeg,Int.reduceToNat,Int.reduceBEq,Int.reduceBNe,Int.reduceLT,Int.reduceLE,Int.reduceAdd,Int.reduceSub,fx];rfl)):p:=h
theorem Sd0 {p:Prop} (h:p:=by first | with_reducible rfl | (simp only [go_sem,reduceIte,Nat.reduceEqDiff,reduceCtorEq,Nat.reduceAdd,Nat.reduceLeDiff,Int.reduceNeg,Int.reduceToNat,Int.reduceBEq,Int.reduceBNe,Int.reduceLT,Int.reduceLE,Int.reduceAdd,Int.reduceSub];done) | (simp only [go_sem,reduceIte,Nat.reduceEqDiff,reduceCtorEq,Nat.reduceAdd,Nat.reduceLeDiff,Int.reduceNeg,Int.reduceToNat,Int.reduceBEq,Int.reduceBNe,Int.reduceLT,Int.reduceLE,Int.reduceAdd,Int.reduceSub];with_reducible rfl) | (simp only [go_sem,reduceIte,Nat.reduceEqDiff,reduceCtorEq,Nat.reduceAdd,Nat.reduceLeDiff,Int.reduceNeg,Int.reduceToNat,Int.reduceBEq,Int.reduceBNe,Int.reduceLT,Int.reduceLE,Int.reduceAdd,Int.reduceSub];(try simp (disch:=omega) only [i64wrap,u64wrap,u8wrap,u32wrap,i32wrap]);first | with_reducible rfl | done | (refine congrArg (Value.int _) ?_;omega)) | (simp only [go_sem,reduceIte,Nat.reduceEqDiff,reduceCtorEq,Nat.reduceAdd,Nat.reduceLeDiff,Int.reduceNeg,Int.reduceToNat,Int.reduceBEq,Int.reduceBNe,Int.reduceLT,Int.reduceLE,Int.reduceAdd,Int.reduceSub];rfl)):p:=h
theorem Sw {f p:Prop} (fx:f) (h:f→p:=by intro fx;exact Sd):p:=h fx
theorem An {a b:Prop} (x:a) (y:b):a∧b:=⟨x,y⟩
theorem Wg0 {p:Prop} (h:p:=by first | with_reducible rfl | (simp only [go_sem,reduceIte,Nat.reduceEqDiff,reduceCtorEq,Nat.reduceAdd,Nat.reduceLeDiff,Int.reduceNeg,Int.reduceToNat,Int.reduceBEq,Int.reduceBNe,Int.reduceLT,Int.reduceLE,Int.reduceAdd,Int.reduceSub];done) | (simp only [go_sem,reduceIte,Nat.reduceEqDiff,reduceCtorEq,Nat.reduceAdd,Nat.reduceLeDiff,Int.reduceNeg,Int.reduceToNat,Int.reduceBEq,Int.reduceBNe,Int.reduceLT,Int.reduceLE,Int.reduceAdd,Int.reduceSub];with_reducible rfl) | (simp only [go_sem,reduceIte,Nat.reduceEqDiff,reduceCtorEq,Nat.reduceAdd,Nat.reduceLeDiff,Int.reduceNeg,Int.reduceToNat,Int.reduceBEq,Int.reduceBNe,Int.reduceLT,Int.reduceLE,Int.reduceAdd,Int.reduceSub];(try simp only [Value.bool.injEq,beq_iff_eq,bne_iff_ne,decide_eq_true_eq,decide_eq_false_iff_not,beq_eq_false_iff_ne,bne_eq_false_iff_eq,Bool.not_eq_true',Bool.not_eq_false',Bool.and_eq_true,Bool.or_eq_true]);omega)):p:=h
theorem Wg1 {p:Prop} (h:p:=by first | with_reducible rfl | (simp only [go_sem,reduceIte,Nat.reduceEqDiff,reduceCtorEq,Nat.reduceAdd,Nat.reduceLeDiff,Int.reduceNeg,Int.reduceToNat,Int.reduceBEq,Int.reduceBNe,Int.reduceLT,Int.reduceLE,Int.reduceAdd,Int.reduceSub,fx];done) | (simp only [go_sem,reduceIte,Nat.reduceEqDiff,reduceCtorEq,Nat.reduceAdd,Nat.reduceLeDiff,Int.reduceNeg,Int.reduceToNat,Int.reduceBEq,Int.reduceBNe,Int.reduceLT,Int.reduceLE,Int.reduceAdd,Int.reduceSub,fx];with_reducible rfl) | (simp only [go_sem,reduceIte,Nat.reduceEqDiff,reduceCtorEq,Nat.reduceAdd,Nat.reduceLeDiff,Int.reduceNeg,Int.reduceToNat,Int.reduceBEq,Int.reduceBNe,Int.reduceLT,Int.reduceLE,Int.reduceAdd,Int.reduceSub,fx];(try simp only [Value.bool.injEq,beq_iff_eq,bne_iff_ne,decide_eq_true_eq,decide_eq_false_iff_not,beq_eq_false_iff_ne,bne_eq_false_iff_eq,Bool.not_eq_true',Bool.not_eq_false',Bool.and_eq_true,Bool.or_eq_true]);omega)):p:=h
theorem Wo0 {p:Prop} (h:p:=by simp only [go_sem,reduceIte,Nat.reduceEqDiff,reduceCtorEq,Nat.reduceAdd,Nat.reduceLeDiff,Int.reduceNeg,Int.reduceToNat,Int.reduceBEq,Int.reduceBNe,Int.reduceLT,Int.reduceLE,Int.reduceAdd,Int.reduceSub];(try simp (disch:=omega) only [i64wrap,u64wrap,u8wrap,u32wrap,i32wrap]);with_reducible rfl):p:=h
theorem Wo1 {p:Prop} (h:p:=by simp only [go_sem,reduceIte,Nat.reduceEqDiff,reduceCtorEq,Nat.reduceAdd,Nat.reduceLeDiff,Int.reduceNeg,Int.reduceToNat,Int.reduceBEq,Int.reduceBNe,Int.reduceLT,Int.reduceLE,Int.reduceAdd,Int.reduceSub,fx];(try simp (disch:=omega) only [i64wrap,u64wrap,u8wrap,u32wrap,i32wrap]);with_reducible rfl):p:=h
structure Left (q:Prop):Prop where
 unbox:q
theorem stepR {f p q:Prop} (fx:f) (h:q) (hp:f→Left q→p:=by intro fx stepH;(repeat (first | apply mx_seq | apply mx_ops | apply thn_nor | apply ml_nil | (apply ml_stepN;(·exact Wo1)) | (apply ml_step;(·exact Wg1);(·exact Wo1)) | (apply ml_skip;(·exact Wg1)) | (apply mld_stepN;(·exact Wo1)) | (apply mld_step;(·exact Wg1);(·exact Wo1)) | (apply mld_skip;(·exact Wg1)) | (apply mld_stepE;(·exact Wg1);(·exact Wo1);(·first | exact Ext.refl _ | exact Ext.push _ _)) | (apply mld_stepP;(·exact Wg1);(·exact Wo1);(·rfl)) | (apply ml_iaS;(·exact Wg1);(·exact Wg1);(·exact Wg1);(·omega);(·omega)) | (apply mld_iaS;(·exact Wg1);(·exact Wg1);(·exact Wg1);(·omega);(·omega)) | (apply ml_iaA;(·exact Wg1);(·exact Wg1);(·exact Wg1);(·omega);(·omega)) | (apply mld_iaA;(·exact Wg1);(·exact Wg1);(·exact Wg1);(·omega);(·omega)) | (apply ml_idxS;(·exact Wg1);(·exact Wg1);(·exact Wg1);(·omega);(·omega)) | (apply mld_idxS;(·exact Wg1);(·exact Wg1);(·exact Wg1);(·omega);(·omega)) | (apply ml_rem;(·exact Wg1);(·exact Wg1);(·exact Wg1);(·omega)) | (apply mld_rem;(·exact Wg1);(·exact Wg1);(·exact Wg1);(·omega)) | (apply ml_quo;(·exact Wg1);(·exact Wg1);(·exact Wg1);(·omega)) | (apply mld_quo;(·exact Wg1);(·exact Wg1);(·exact Wg1);(·omega)) | apply mx_dops | apply mld_nil | (apply mx_cond_t;(·exact Wg1)) | (apply mx_cond_f;(·exact Wg1)) | apply mx_block | apply mx_skip | apply inb_nor | apply mx_exit | apply thn_exit | apply inb_exit | (apply inb_out;(·rfl)) | apply mx_ret | apply thn_ret | apply inb_ret));exact stepH.unbox):p:=hp fx ⟨h⟩
theorem stepR0 {p q:Prop} (h:q) (hp:Left q→p:=by intro stepH;(repeat (first | apply mx_seq | apply mx_ops | apply thn_nor | apply ml_nil | (apply ml_stepN;(·exact Wo0)) | (apply ml_step;(·exact Wg0);(·exact Wo0)) | (apply ml_skip;(·exact Wg0)) | (apply mld_stepN;(·exact Wo0)) | (apply mld_step;(·exact Wg0);(·exact Wo0)) | (apply mld_skip;(·exact Wg0)) | (apply mld_stepE;(·exact Wg0);(·exact Wo0);(·first | exact Ext.refl _ | exact Ext.push _ _)) | (apply mld_stepP;(·exact Wg0);(·exact Wo0);(·rfl)) | (apply ml_iaS;(·exact Wg0);(·exact Wg0);(·exact Wg0);(·omega);(·omega)) | (apply mld_iaS;(·exact Wg0);(·exact Wg0);(·exact Wg0);(·omega);(·omega)) | (apply ml_iaA;(·exact Wg0);(·exact Wg0);(·exact Wg0);(·omega);(·omega)) | (apply mld_iaA;(·exact Wg0);(·exact Wg0);(·exact Wg0);(·omega);(·omega)) | (apply ml_idxS;(·exact Wg0);(·exact Wg0);(·exact Wg0);(·omega);(·omega)) | (apply mld_idxS;(·exact Wg0);(·exact Wg0);(·exact Wg0);(·omega);(·omega)) | (apply ml_rem;(·exact Wg0);(·exact Wg0);(·exact Wg0);(·omega)) | (apply mld_rem;(·exact Wg0);(·exact Wg0);(·exact Wg0);(·omega)) | (apply ml_quo;(·exact Wg0);(·exact Wg0);(·exact Wg0);(·omega)) | (apply mld_quo;(·exact Wg0);(·exact Wg0);(·exact Wg0);(·omega)) | apply mx_dops | apply mld_nil | (apply mx_cond_t;(·exact Wg0)) | (apply mx_cond_f;(·exact Wg0)) | apply mx_block | apply mx_skip | apply inb_nor | apply mx_exit | apply thn_exit | apply inb_exit | (apply inb_out;(·rfl)) | apply mx_ret | apply thn_ret | apply inb_ret));exact stepH.unbox):p:=hp ⟨h⟩
end Go.Mini
namespace Go.Mini
section
variable {E:World→Prop} {P:Program} {fl:List DI}
theorem ml_mono:∀ {l:List MI} {K K':Fr→H→Prop} {ts:Fr} {σ:H},(∀ ts σ,K ts σ→K' ts σ)→ml E P l K ts σ→ml E P l K' ts σ
 | [],_,_,_,_,h,hk=>h _ _ hk
 | i :: l,K,K',ts,σ,h,hk=>by
   simp only [ml] at hk ⊢
   split
   ·rename_i hw;rw [if_pos hw] at hk;exact mstep_mono hk fun v τ hv=>ml_mono h hv
   ·rename_i hw;rw [if_neg hw] at hk;exact ml_mono h hk
theorem mld_mono:∀ {l:List DI} {K K':Fr→H→Prop} {ts:Fr} {σ:H},(∀ ts σ,K ts σ→K' ts σ)→mld E P fl l K ts σ→mld E P fl l K' ts σ
 | [],_,_,_,_,h,hk=>h _ _ hk
 | i :: l,K,K',ts,σ,h,hk=>by
   simp only [mld] at hk ⊢
   split
   ·rename_i hw;rw [if_pos hw] at hk;exact mstep_mono hk fun v τ hv=>⟨hv.1,mld_mono h hv.2⟩
   ·rename_i hw;rw [if_neg hw] at hk;exact mld_mono h hk
theorem thn_mono {K K':Fr→H→Prop} {Q Q':MQ} (hk:∀ ts σ,K ts σ→K' ts σ) (h:∀ e ts σ,Q e ts σ→Q' e ts σ):∀ e ts σ,Ex.thn K Q e ts σ→Ex.thn K' Q' e ts σ:=by
 intro e ts σ
 cases e<;>simp only [Ex.thn]<;>first | exact hk _ _ | exact h _ _ _
theorem inb_mono {id:Nat} {Q Q':MQ} (h:∀ e ts σ,Q e ts σ→Q' e ts σ):∀ e ts σ,Ex.inb id Q e ts σ→Ex.inb id Q' e ts σ:=by
 intro e ts σ
 cases e<;>simp only [Ex.inb]<;>first | exact h _ _ _ | (split<;>exact h _ _ _)
theorem mx_mono:∀ {c:MC} {Q Q':MQ} {ts:Fr} {σ:H},(∀ e ts σ,Q e ts σ→Q' e ts σ)→mx E P c Q ts σ→mx E P c Q' ts σ
 | .skip,_,_,_,_,h,hk=>h _ _ _ hk
 | .ops l,_,_,_,_,h,hk=>ml_mono (h _) hk
 | .dops l,_,_,_,_,h,hk=>mld_mono (h _) hk
 | .seq a b,Q,Q',ts,σ,h,hk=>mx_mono (c:=a) (thn_mono (fun ts σ hb=>mx_mono (c:=b) h hb) h) hk
 | .cond c a b,Q,Q',ts,σ,h,hk=>by
   simp only [mx] at hk ⊢
   split
   ·rename_i hc;rw [hc] at hk;exact mx_mono h hk
   ·rename_i hc;rw [hc] at hk;exact mx_mono h hk
   ·rename_i h1 h2
    split at hk
    ·rename_i hc;exact absurd hc h1
    ·rename_i hc;exact absurd hc h2
    ·exact hk
 | .block id b,_,_,_,_,h,hk=>mx_mono (c:=b) (inb_mono h) hk
 | .loop b,Q,Q',ts,σ,h,⟨I,n,h0,hb⟩=>⟨I,n,h0,fun n ts σ hi=>mx_mono (c:=b) (thn_mono (fun _ _ x=>x) h) (hb n ts σ hi)⟩
 | .exit id,_,_,_,_,h,hk=>h _ _ _ hk
 | .ret,_,_,_,_,h,hk=>h _ _ _ hk
 | .bad,_,_,_,_,h,hk=>hk
theorem ml_mid {l:List MI} {K:Fr→H→Prop} {ts:Fr} {σ:H} (K':Fr→H→Prop) (h:ml E P l K' ts σ) (hk:∀ ts σ,K' ts σ→K ts σ):ml E P l K ts σ:=ml_mono hk h
theorem mx_cut {a:MC} {K:Fr→H→Prop} {Q:MQ} {ts:Fr} {σ:H} (K':Fr→H→Prop) (h:mx E P a (Ex.thn K' Q) ts σ) (hk:∀ ts σ,K' ts σ→K ts σ):mx E P a (Ex.thn K Q) ts σ:=
 mx_mono (thn_mono hk fun _ _ _ h=>h) h
theorem ml_cut {l:List MI} {a:MC} {K:Fr→H→Prop} {Q Q2:MQ} {ts:Fr} {σ:H} (K':Fr→H→Prop) (h:ml E P l (Ex.thn (mx E P a (Ex.thn K' Q)) Q2 .nor) ts σ) (hk:∀ ts σ,K' ts σ→K ts σ):ml E P l (Ex.thn (mx E P a (Ex.thn K Q)) Q2 .nor) ts σ:=
 ml_mono (fun ts σ h=>by
  simp only [Ex.thn] at h ⊢
  exact mx_mono (thn_mono hk fun _ _ _ h=>h) h) h
theorem mld_cut {l:List DI} {a:MC} {K:Fr→H→Prop} {Q Q2:MQ} {ts:Fr} {σ:H} (K':Fr→H→Prop) (h:mld E P fl l (Ex.thn (mx E P a (Ex.thn K' Q)) Q2 .nor) ts σ) (hk:∀ ts σ,K' ts σ→K ts σ):mld E P fl l (Ex.thn (mx E P a (Ex.thn K Q)) Q2 .nor) ts σ:=
 mld_mono (fun ts σ h=>by
  simp only [Ex.thn] at h ⊢
  exact mx_mono (thn_mono hk fun _ _ _ h=>h) h) h
end
section
variable {E:World→Prop} {P:Program} {ts:Fr} {σ τ:H} {v:Value} {K:Fr→H→Prop} {Q:MQ} {rest:List MI} {drest fl:List DI}
theorem finC1 {i j n id off:Nat} {vs:List Value} {R:Value→H→Prop} (hi:ts i=.pointer (some ⟨id,off,none⟩)) (hr:σ.row id off n=some vs) (h:R (.tuple #[.agg vs.toArray,ts j]) σ):mpost [.cell i n true,.t j] R .ret ts σ:=
 ⟨[.agg vs.toArray,ts j],by simp only [rvVals,rvVal,hi,if_true,hr,Option.map_some],h⟩
theorem finC {i n id off:Nat} {vs:List Value} {R:Value→H→Prop} (hi:ts i=.pointer (some ⟨id,off,none⟩)) (hr:σ.row id off n=some vs) (h:R (.agg vs.toArray) σ):mpost [.cell i n true] R .ret ts σ:=
 ⟨[.agg vs.toArray],by simp only [rvVals,rvVal,hi,if_true,hr,Option.map_some],h⟩
theorem ml_storeAll {d:Option Nat} {g:Option (Nat × Bool)} {n:Nat} {a x:Opd} {id sz:Nat} {cs:List Value} {vs:Array Value} (hw:wantM ts g=true) (ha:mev ts a=.pointer (some ⟨id,0,none⟩)) (hx:mev ts x=.agg vs) (hg:σ.get id=.cells sz cs) (h1:vs.size=n) (h2:cs.length=n) (h3:vs.toList.all one=true)
 (hn:ml E P rest K (updO ts d undef) (σ.set id (.cells sz vs.toList))):ml E P (⟨d,.store n a x,g⟩ :: rest) K ts σ:=ml_step hw (o_storeAll ha hx hg h1 h2 h3) hn
end
section
variable {ts:Fr} {σ:H}
theorem o_slc_hi {x hi:Opd} {id off len cap sz:Nat} {cs:List Value} {k:IntKind} {q:Int} (hx:mev ts x=.slice (some ⟨id,off,none⟩) len cap) (hl:mev ts hi=.int k q) (h0:0≤q) (h1:q≤cap) (hg:σ.get id=.cells sz cs):
 mop ts σ (.slc sz x none (some hi) none)=some (.slice (some ⟨id,off,none⟩) q.toNat cap,σ):=by
 simp only [mop,hx,Option.map_some,Option.map_none,hl,bnds,bnd_ok h0 h1,okSz,hg,beq_self_eq_true,Bool.true_or,if_true,Nat.zero_mul,Nat.add_zero,Nat.sub_zero]
end
structure SetTo (σ:H) (id:Nat) (o:MObj) (τ:H):Prop where
 size:τ.size=σ.size
 self:τ.get id=o
 other:∀ i,i≠id→τ.get i=σ.get i
theorem SetTo.mk' {σ:H} {id:Nat} {o:MObj} (h:id < σ.size):SetTo σ id o (σ.set id o):=⟨rfl,H.get_set_self h,fun i hi=>H.get_set_ne hi⟩
theorem SetTo.ext {σ0 σ τ:H} {id:Nat} {o:MObj} (h:SetTo σ id o τ) (e:Ext σ0 σ) (hid:σ0.size≤id):Ext σ0 τ:=
 ⟨by rw [h.size];exact e.size,fun i hi=>by rw [h.other i (by omega)];exact e.get i hi⟩
theorem SetTo.cells {σ τ:H} {id i sz:Nat} {o:MObj} {cs:List Value} (h:SetTo σ id o τ) (hg:σ.get i=.cells sz cs) (hi:i≠id):τ.get i=.cells sz cs:=by rw [h.other i hi];exact hg
section
variable {E:World→Prop} {P:Program} {ts:Fr} {σ τ:H} {v:Value} {K:Fr→H→Prop} {Q:MQ} {rest:List MI} {drest fl:List DI}
theorem ml_storeA {d:Option Nat} {g:Option (Nat × Bool)} {n:Nat} {a x:Opd} {id off sz:Nat} {cs vs:List Value} (hw:wantM ts g=true) (ha:mev ts a=.pointer (some ⟨id,off,none⟩)) (hx:(mev ts x).cells=vs.toArray) (hg:σ.get id=.cells sz cs) (h1:vs.length=n) (h2:off + n≤cs.length) (h3:vs.all one=true)
 (hn:∀ τ,SetTo σ id (.cells sz (spl cs off vs)) τ→ml E P rest K (updO ts d undef) τ):ml E P (⟨d,.store n a x,g⟩ :: rest) K ts σ:=ml_step hw (o_store ha hx hg h1 h2 h3) (hn _ (.mk' (H.lt_of_cells hg)))
theorem mld_storeA {d:Option Nat} {g:Option (Nat × Bool)} {ix:Nat} {l:Bool} {n:Nat} {a x:Opd} {id off sz:Nat} {cs vs:List Value} (hw:wantM ts g=true) (ha:mev ts a=.pointer (some ⟨id,off,none⟩)) (hx:(mev ts x).cells=vs.toArray) (hg:σ.get id=.cells sz cs) (h1:vs.length=n) (h2:off + n≤cs.length) (h3:vs.all one=true)
 (hn:∀ τ,SetTo σ id (.cells sz (spl cs off vs)) τ→mld E P fl drest K (updO ts d undef) τ):mld E P fl (⟨⟨d,.store n a x,g⟩,ix,l,false⟩ :: drest) K ts σ:=mld_step hw (o_store ha hx hg h1 h2 h3) (hn _ (.mk' (H.lt_of_cells hg)))
end
end Go.Mini
namespace Go.Mini
inductive Rd (σ:H):Value→List Value→Prop where
 | nil:Rd σ (.slice none 0 0) []
 | mk {id off cap:Nat} {cs:List Value} (h:σ.row id off cs.length=some cs):Rd σ (.slice (some ⟨id,off,none⟩) cs.length cap) cs
theorem row_live {σ:H} {id off n:Nat} {cs:List Value} (h:σ.row id off n=some cs):σ.get id≠.dead:=by
 intro e;simp only [H.row,e] at h;cases h
theorem rowE {σ τ:H} (e:Ext σ τ) {id off n:Nat} {cs:List Value} (h:σ.row id off n=some cs):τ.row id off n=some cs:=by
 have:=row_live h
 unfold H.row at h ⊢
 rw [e.get id (H.lt_of_live this)];exact h
theorem row_same {σ τ:H} {id off n:Nat} {cs:List Value} (e:τ.get id=σ.get id) (h:σ.row id off n=some cs):τ.row id off n=some cs:=by
 unfold H.row at h ⊢;rw [e];exact h
theorem Rd.of_ext {σ τ:H} {v:Value} {cs:List Value} (h:Rd σ v cs) (e:Ext σ τ):Rd τ v cs:=by
 cases h with
 | nil=>exact .nil
 | mk h=>exact .mk (rowE e h)
theorem Own.rd {σ:H} {v:Value} {oid:Option Nat} {cs:List Value} (h:Own σ 1 v oid cs):Rd σ v cs:=by
 cases h with
 | nil=>exact .nil
 | @full id n _ h hl=>
   rw [Nat.mul_one] at hl
   subst hl
   exact .mk (row_of h (rowAll rfl))
theorem Out.rd {σ0 σ:H} {v:Value} {cs:List Value} (h:Out σ0 σ 1 v cs):Rd σ v cs:=by
 obtain ⟨_,_,h,_⟩:=h;exact h.rd
theorem rowL_get:∀ (n off:Nat) (cs vs:List Value),rowL cs off n=some vs→vs.length=n∧∀ q,q < n→cs[off + q]?=vs[q]?
 | 0,off,cs,vs,h=>by simp only [rowL,Option.some.injEq] at h;subst h;exact ⟨rfl,fun q hq=>absurd hq (Nat.not_lt_zero _)⟩
 | n + 1,off,cs,vs,h=>by
   simp only [rowL] at h
   split at h
   ·rename_i v hv
    simp only [Option.map_eq_some_iff] at h
    obtain ⟨w,hw,rfl⟩:=h
    obtain ⟨h1,h2⟩:=rowL_get n (off + 1) cs w hw
    refine ⟨by simp [h1],fun q hq=>?_⟩
    cases q with
    | zero=>simpa using hv
    | succ q=>rw [show off + (q + 1)=off + 1 + q by omega,h2 q (by omega)];simp
   ·cases h
theorem row_cell {σ:H} {id off n:Nat} {cs:List Value} (h:σ.row id off n=some cs) {q:Nat} (hq:q < n):σ.cell id (off + q)=cs[q]?:=by
 unfold H.row at h;unfold H.cell
 split at h
 ·exact (rowL_get _ _ _ _ h).2 q hq
 ·exact (rowL_get _ _ _ _ h).2 q hq
 ·exact (rowL_get _ _ _ _ h).2 q hq
 ·cases h
theorem Rd.len {σ:H} {v:Value} {cs:List Value} (h:Rd σ v cs) {ts:Fr} {x:Opd} (hx:mev ts x=v):mop ts σ (.len false x)=some (.int .i64 cs.length,σ):=by
 cases h<;>simp [mop,hx]
theorem Rd.cells1 {σ:H} {v:Value} {cs:List Value} (h:Rd σ v cs):v.cells=#[v]:=by cases h<;>rfl
theorem Rd.one1 {σ:H} {v:Value} {cs:List Value} (h:Rd σ v cs):one v=true:=by cases h<;>rfl
theorem Rd.get {σ:H} {v:Value} {cs:List Value} (h:Rd σ v cs) {ts:Fr} {x i:Opd} {k:IntKind} {q:Int} {e:Value} (hx:mev ts x=v) (hi:mev ts i=.int k q) (h0:0≤q) (h1:cs[q.toNat]?=some e):
 ∃ id off,mop ts σ (.iaS 1 x i)=some (.pointer (some ⟨id,off,none⟩),σ)∧σ.cell id off=some e:=by
 have hlt:=(List.getElem?_eq_some_iff.1 h1).1
 cases h with
 | nil=>simp at h1
 | @mk id off cap _ h=>
   exact ⟨id,off + q.toNat * 1,o_iaS hx hi h0 (by omega),by rw [Nat.mul_one,row_cell h hlt];exact h1⟩
section
variable {E:World→Prop} {P:Program} {ts:Fr} {σ τ σ0:H} {v:Value} {K:Fr→H→Prop} {Q:MQ} {rest:List MI} {drest fl:List DI}
theorem ml_getS {d d':Nat} {x i:Opd} {cs:List Value} {k:IntKind} {q:Int} {e:Value} (hr:Rd σ v cs) (hx:mev ts x=v) (hi:mev ts i=.int k q) (h0:0≤q) (h1:cs[q.toNat]?=some e)
 (h:∀ p,ml E P rest K (upd (upd ts d p) d' e) σ):ml E P (⟨some d,.iaS 1 x i,none⟩ :: ⟨some d',.load1 (.t d),none⟩ :: rest) K ts σ:=by
 obtain ⟨id,off,h2,h3⟩:=hr.get hx hi h0 h1
 refine ml_stepN h2 ?_
 refine ml_stepN (v:=e) (τ:=σ) ?_ (h _)
 simp only [mop,mev,updO,upd_same,h3,Option.map_some]
theorem ml_getSg {d d':Nat} {g g':Option (Nat × Bool)} {x i:Opd} {cs:List Value} {k:IntKind} {q:Int} {e:Value} (hw:wantM ts g=true) (hr:Rd σ v cs) (hx:mev ts x=v) (hi:mev ts i=.int k q) (h0:0≤q) (h1:cs[q.toNat]?=some e)
 (hw':∀ p,wantM (upd ts d p) g'=true) (h:∀ p,ml E P rest K (upd (upd ts d p) d' e) σ):ml E P (⟨some d,.iaS 1 x i,g⟩ :: ⟨some d',.load1 (.t d),g'⟩ :: rest) K ts σ:=by
 obtain ⟨id,off,h2,h3⟩:=hr.get hx hi h0 h1
 refine ml_step hw h2 ?_
 refine ml_step (v:=e) (τ:=σ) (hw' _) ?_ (h _)
 simp only [mop,mev,updO,upd_same,h3,Option.map_some]
theorem ml_len {d:Option Nat} {g:Option (Nat × Bool)} {x:Opd} {cs:List Value} (hw:wantM ts g=true) (hr:Rd σ v cs) (hx:mev ts x=v) (h:ml E P rest K (updO ts d (.int .i64 cs.length)) σ):ml E P (⟨d,.len false x,g⟩ :: rest) K ts σ:=
 ml_step hw (hr.len hx) h
def At1 (σ:H) (id:Nat) (cs:List Value):Prop:=σ.get id=.cells 1 cs
def sl1 (id n:Nat):Value:=.slice (some ⟨id,0,none⟩) n n
attribute [go_sem] sl1
theorem At1.rd {id:Nat} {cs:List Value} (h:At1 σ id cs):Rd σ (sl1 id cs.length) cs:=.mk (row_of h (rowAll rfl))
theorem At1.own {id n:Nat} {cs:List Value} (h:At1 σ id cs) (hn:cs.length=n):Own σ 1 (sl1 id n) (some id) cs:=.full h (by omega)
theorem spl_one (cs:List Value) (k:Nat) (v:Value):spl cs k [v]=cs.set k v:=rfl
theorem o_mks1 {z:Value} {bytes:Nat} {l c:Opd} {k k':IntKind} {n:Nat} (hl:mev ts l=.int k n) (hc:mev ts c=.int k' n) (hn:n≤2 ^ 40) (hb:bytes≤128):
 mop ts σ (.mks 1 bytes [z] l c)=some (sl1 σ.size n,σ.push (.cells 1 (List.replicate n z))):=by
 have hz:∀ m:Nat,repZ [z] m=List.replicate m z:=fun m=>by
  induction m with
  | zero=>rfl
  | succ m ih=>simp only [repZ,ih,List.replicate_succ,List.cons_append,List.nil_append]
 have h2:bytes * (n:Nat)≤128 * 2 ^ 40:=Nat.mul_le_mul hb hn
 simp only [mop,hl,hc,Int.toNat_natCast]
 rw [if_pos,hz]
 ·rfl
 ·refine ⟨by omega,by omega,?_,?_⟩
  ·have:((n:Nat):Int)≤((2 ^ 40:Nat):Int):=Int.ofNat_le.2 hn
   simpa using this
  ·have:((bytes * n:Nat):Int)≤((2 ^ 47:Nat):Int):=Int.ofNat_le.2 (by omega)
   simpa using this
end
end Go.Mini
namespace Go.Mini
theorem getD_set {α:Type} (l:List α) (i m:Nat) (c d:α) (hi:i < l.length):(l.set i c).getD m d=if m=i then c else l.getD m d:=by
 rw [List.getD_eq_getElem?_getD,List.getElem?_set,List.getD_eq_getElem?_getD]
 by_cases e:m=i
 ·subst e;simp [hi]
 ·rw [if_neg (Ne.symm e),if_neg e]
theorem ints_at {l:List Int} {i:Nat} (hi:i < l.length):(ints l)[i]?=some (.int .i64 (l.getD i 0)):=by
 unfold ints;rw [List.getElem?_map,List.getElem?_eq_getElem hi,List.getD_eq_getElem?_getD,List.getElem?_eq_getElem hi];rfl
def bools (l:List Bool):List Value:=l.map Value.bool
theorem bools_len (l:List Bool):(bools l).length=l.length:=by simp [bools]
theorem bools_at {l:List Bool} {i:Nat} (hi:i < l.length):(bools l)[i]?=some (.bool (l.getD i false)):=by
 unfold bools;rw [List.getElem?_map,List.getElem?_eq_getElem hi,List.getD_eq_getElem?_getD,List.getElem?_eq_getElem hi];rfl
section
variable {E:World→Prop} {P:Program} {ts:Fr} {σ τ σ0:H} {v:Value} {K:Fr→H→Prop} {Q:MQ} {rest:List MI} {drest fl:List DI}
theorem o_setI {a x:Opd} {id off:Nat} {out:List Int} {c:Int} (ha:mev ts a=.pointer (some ⟨id,off,none⟩)) (hx:mev ts x=.int .i64 c) (hg:σ.get id=.cells 1 (ints out)) (ho:off < out.length):
 mop ts σ (.store 1 a x)=some (undef,σ.set id (.cells 1 (ints (out.set off c)))):=by
 rw [o_store1 (v:=.int .i64 c) ha hx rfl rfl hg (by rw [ints_len];exact ho)]
 unfold ints;rw [List.map_set]
theorem o_setB {a x:Opd} {id off:Nat} {out:List Bool} {c:Bool} (ha:mev ts a=.pointer (some ⟨id,off,none⟩)) (hx:mev ts x=.bool c) (hg:σ.get id=.cells 1 (bools out)) (ho:off < out.length):
 mop ts σ (.store 1 a x)=some (undef,σ.set id (.cells 1 (bools (out.set off c)))):=by
 rw [o_store1 (v:=.bool c) ha hx rfl rfl hg (by rw [bools_len];exact ho)]
 unfold bools;rw [List.map_set]
theorem ml_setI {d:Option Nat} {g:Option (Nat × Bool)} {a x:Opd} {id off:Nat} {out:List Int} {c:Int} (hw:wantM ts g=true) (ha:mev ts a=.pointer (some ⟨id,off,none⟩)) (hx:mev ts x=.int .i64 c) (hg:σ.get id=.cells 1 (ints out)) (ho:off < out.length)
 (hn:∀ τ,SetTo σ id (.cells 1 (ints (out.set off c))) τ→ml E P rest K (updO ts d undef) τ):ml E P (⟨d,.store 1 a x,g⟩ :: rest) K ts σ:=ml_step hw (o_setI ha hx hg ho) (hn _ (.mk' (H.lt_of_cells hg)))
theorem ml_setB {d:Option Nat} {g:Option (Nat × Bool)} {a x:Opd} {id off:Nat} {out:List Bool} {c:Bool} (hw:wantM ts g=true) (ha:mev ts a=.pointer (some ⟨id,off,none⟩)) (hx:mev ts x=.bool c) (hg:σ.get id=.cells 1 (bools out)) (ho:off < out.length)
 (hn:∀ τ,SetTo σ id (.cells 1 (bools (out.set off c))) τ→ml E P rest K (updO ts d undef) τ):ml E P (⟨d,.store 1 a x,g⟩ :: rest) K ts σ:=ml_step hw (o_setB ha hx hg ho) (hn _ (.mk' (H.lt_of_cells hg)))
theorem ml_getI {d:Option Nat} {g:Option (Nat × Bool)} {a:Opd} {id off:Nat} {out:List Int} (hw:wantM ts g=true) (ha:mev ts a=.pointer (some ⟨id,off,none⟩)) (hg:σ.get id=.cells 1 (ints out)) (ho:off < out.length)
 (hn:ml E P rest K (updO ts d (.int .i64 (out.getD off 0))) σ):ml E P (⟨d,.load1 a,g⟩ :: rest) K ts σ:=ml_step hw (o_load1 ha (cell_of hg (ints_at ho))) hn
theorem ml_getB {d:Option Nat} {g:Option (Nat × Bool)} {a:Opd} {id off:Nat} {out:List Bool} (hw:wantM ts g=true) (ha:mev ts a=.pointer (some ⟨id,off,none⟩)) (hg:σ.get id=.cells 1 (bools out)) (ho:off < out.length)
 (hn:ml E P rest K (updO ts d (.bool (out.getD off false))) σ):ml E P (⟨d,.load1 a,g⟩ :: rest) K ts σ:=ml_step hw (o_load1 ha (cell_of hg (bools_at ho))) hn
theorem mld_getI {d:Option Nat} {g:Option (Nat × Bool)} {ix:Nat} {l:Bool} {a:Opd} {id off:Nat} {out:List Int} (hw:wantM ts g=true) (ha:mev ts a=.pointer (some ⟨id,off,none⟩)) (hg:σ.get id=.cells 1 (ints out)) (ho:off < out.length)
 (hn:mld E P fl drest K (updO ts d (.int .i64 (out.getD off 0))) σ):mld E P fl (⟨⟨d,.load1 a,g⟩,ix,l,false⟩ :: drest) K ts σ:=mld_step hw (o_load1 ha (cell_of hg (ints_at ho))) hn
end
section
variable {E:World→Prop} {P:Program} {ts:Fr} {σ τ σ0:H} {v:Value} {K:Fr→H→Prop} {Q:MQ} {rest:List MI} {drest fl:List DI}
theorem ml_init {d:Option Nat} {g:Option (Nat × Bool)} {n:Nat} {a x:Opd} {zs vs:List Value} (hw:wantM ts g=true) (ha:mev ts a=.pointer (some ⟨σ.size,0,none⟩)) (hx:(mev ts x).cells=vs.toArray) (h1:vs.length=n) (h2:zs.length=n) (h3:vs.all one=true)
 (hn:∀ τ,Ext σ τ→τ.get σ.size=.cells 0 vs→ml E P rest K (updO ts d undef) τ):ml E P (⟨d,.store n a x,g⟩ :: rest) K ts (σ.push (.cells 0 zs)):=by
 refine ml_storeA (off:=0) (vs:=vs) hw ha hx (H.get_push_self _ _) h1 (by omega) h3 fun τ t=>?_
 rw [spl_all (by omega)] at t
 exact hn τ (t.ext (Ext.push _ _) (Nat.le_refl _)) t.self
theorem mld_getS {d d':Nat} {g g':Option (Nat × Bool)} {ix ix':Nat} {l l':Bool} {x i:Opd} {cs:List Value} {k:IntKind} {q:Int} {e:Value} (hw:wantM ts g=true) (hr:Rd σ v cs) (hx:mev ts x=v) (hi:mev ts i=.int k q) (h0:0≤q) (h1:cs[q.toNat]?=some e)
 (hw':∀ p,wantM (upd ts d p) g'=true) (h:∀ p,mld E P fl drest K (upd (upd ts d p) d' e) σ):mld E P fl (⟨⟨some d,.iaS 1 x i,g⟩,ix,l,false⟩ :: ⟨⟨some d',.load1 (.t d),g'⟩,ix',l',false⟩ :: drest) K ts σ:=by
 obtain ⟨id,off,h2,h3⟩:=hr.get hx hi h0 h1
 refine mld_step hw h2 ?_
 refine mld_step (v:=e) (τ:=σ) (hw' _) ?_ (h _)
 simp only [mop,mev,updO,upd_same,h3,Option.map_some]
end
theorem SetTo.keep {σ τ:H} {id i sz:Nat} {o:MObj} {cs:List Value} (h:SetTo σ id o τ) (hg:σ.get i=.cells sz cs) (hi:i≠id):τ.get i=.cells sz cs:=h.cells hg hi
end Go.Mini
namespace Go.Proofs.YtoejdgoicoaomaaGreatDoor
open Go.Mini
open Go.Proofs.YtoejdgoicoaomaaGreatDoor.Code
theorem slGrow_c {E:World→Prop} (n:Nat) (hn:n≤1000000) (σ:H):MCalls E Tryz.prog 163 [.slice none 0 0,.int .i64 ((n:Nat):Int)] σ (fun v τ=>Out σ τ 1 v []):=by
 refine ⟨by kernel_rfl,fun B w0 μ w args' hE hs hargs=>?_⟩
 rw [VRs.eq_of_flat (VR.eq_of_flat 0) _ _ hargs rfl]
 rcases Nat.eq_zero_or_pos n with rfl | hp
 ·refine (Tryz.slices_Grow_room none 0 0 0 w (by omega) (by omega) (by omega) (by omega)).mono fun e w' ⟨he,hw⟩=>?_
  subst hw
  exact ⟨.slice none 0 0,_,σ,μ,he,⟨.refl _,none,.nil,fun _ h=>nomatch h⟩,hs,.nilSlice,.refl _ _,Nat.le_refl _⟩
 ·obtain ⟨i0,hi0,hz⟩:=Option.map_eq_some_iff.1 (show (Tryz.prog.info? 3).map (fun i=>(i.size,i.bytes,i.zero))=some (1,8,some (.int .i64 0)) by kernel_rfl)
  simp only [Prod.mk.injEq] at hz
  refine (Any8.slices_Grow_grow Tryz.growI i0 (.int .i64 0) hi0 hz.2.2 (by rw [hz.1];omega) none 0 0 n [] w (by omega) (by omega) (by rw [hz.2.1];omega) (by omega) (by simp) (fun _=>rfl) (fun _ h=>nomatch h)).mono fun e w' ⟨he,hw⟩=>?_
  have hs1:=hs.drewN 1
  generalize grownCap w (0 + n) 0 (Tryz.growI_ren.t 25)=g at he hw
  have hl:∀ k,(Builtin.zeroCells (Value.int .i64 0).cells k).size=k:=fun k=>by
   rw [zeroCells_eq (zs:=[.int .i64 0]) rfl k (by simp)]
   simp [repZ_length]
  have hsim:=hs1.newRow (sz:=1) (cs:=[]) (cs':=[]) (more:=(Builtin.zeroCells (Value.int .i64 0).cells (0 + n - 0) ++ Builtin.zeroCells (Value.int .i64 0).cells (g - (0 + n))).toList) .nil (Tryz.growI_ren.t 25) (fz:=(0,0)) (unfrozen0 _)
  subst hw
  generalize hm:(Builtin.zeroCells (Value.int .i64 0).cells (0 + n - 0) ++ Builtin.zeroCells (Value.int .i64 0).cells (g - (0 + n)))=m at hsim
  have hml:m.toList.length=n + (g - n):=by rw [← hm];simp [hl]
  have hvr:=setMu_slice μ σ.size ⟨w.heap.size,0,1,([]:List Value).length + m.toList.length,(1:Nat) == 0⟩ (len:=0) (cap:=0) (cap':=g) (Nat.le_refl _) (Nat.zero_le g) (fun _=>by simp only [List.length_nil,hml];omega) (fun hh=>by simp at hh)
  refine ⟨.slice (some ⟨σ.size,0,none⟩) 0 0,_,_,_,he,⟨Ext.push _ _,some σ.size,.full (H.get_push_self _ _) rfl,fun i h=>by injection h with h;omega⟩,?_,by rw [H.size_push];exact hvr,.setMu _ _,by simp⟩
  rw [← hm] at hsim ⊢
  generalize Builtin.zeroCells (Value.int .i64 0).cells (0 + n - 0)=X at *
  generalize Builtin.zeroCells (Value.int .i64 0).cells (g - (0 + n))=Y at *
  have hXY:(([]:List Value) ++ (X ++ Y).toList).toArray=#[] ++ X ++ Y:=by apply Array.toList_inj.1;simp
  rw [hXY] at hsim
  exact hsim
end Go.Proofs.YtoejdgoicoaomaaGreatDoor
namespace Go.Mini
theorem app_many {ts:Fr} {σ:H} {sz bytes k:Nat} {xs xx:Opd} {v:Value} {oid:Option Nat} {cs vs:List Value} {tid:Nat} (ho:Own σ sz v oid cs) (hv:mev ts xs=v) (hx:mev ts xx=.slice (some ⟨tid,0,none⟩) k k)
 (ht:σ.get tid=.cells sz vs) (hl:vs.length=k * sz) (hk:k≠0) (hz:sz≠0) (h1:(cs ++ vs).all one=true) (hb:bytes≤128) (hn:cs.length + k≤appMax):
 ∃ v' τ,mop ts σ (.app sz bytes xs xx)=some (v',τ)∧Own τ sz v' (some σ.size) (cs ++ vs)∧τ.size=σ.size + 1∧(∀ i,i < σ.size→oid≠some i→τ.get i=σ.get i):=by
 have hrow:firstL σ sz k (.slice (some ⟨tid,0,none⟩) k k)=some vs:=by
  simp only [firstL,H.row,ht];exact rowAll hl
 cases ho with
 | nil=>
   refine ⟨.slice (some ⟨σ.size,0,none⟩) k k,σ.push (.cells sz vs),?_,?_,by simp,fun i hi _=>H.get_push_lt hi⟩
   ·have:k≤appMax∧bytes≤128:=⟨by simp at hn;omega,hb⟩
    simp only [mop,hv,hx,lenL,hrow,this,and_self,if_true,if_neg hk]
   ·exact .full (by simp) (by simpa using hl)
 | @full id n _ h hlen=>
   have happ:n + k≤appMax∧bytes≤128:=by
    refine ⟨?_,hb⟩
    have:n≤cs.length:=by rw [hlen];exact Nat.le_mul_of_pos_right n (by omega)
    omega
   have hr:σ.row id 0 (n * sz)=some cs:=by simp only [H.row,h];exact rowAll hlen
   refine ⟨.slice (some ⟨σ.size,0,none⟩) (n + k) (n + k),(σ.set id .dead).push (.cells sz (cs ++ vs)),?_,?_,by simp,fun i hi hne=>?_⟩
   ·simp only [mop,hv,hx,lenL,hrow,happ,and_self,if_true,h,hr,h1,true_or]
    rw [if_neg (by omega)]
   ·refine .full ?_ (by simp [hlen,hl,Nat.add_mul])
    have:=H.get_push_self (σ.set id .dead) (.cells sz (cs ++ vs))
    rwa [H.size_set] at this
   ·have hid:=H.lt_of_cells h
    have hni:i≠id:=fun e=>hne (by rw [e])
    rw [H.get_push_lt (by simpa using hi),H.get_set_ne hni]
theorem ml_appM {E:World→Prop} {P:Program} {rest:List MI} {K:Fr→H→Prop} {d:Option Nat} {g:Option (Nat × Bool)} {ts:Fr} {σ:H} {sz bytes k:Nat} {xs xx:Opd} {v:Value} {oid:Option Nat} {cs vs:List Value} {tid:Nat} (hw:wantM ts g=true) (hv:mev ts xs=v) (hx:mev ts xx=.slice (some ⟨tid,0,none⟩) k k)
 (ho:Own σ sz v oid cs) (ht:σ.get tid=.cells sz vs) (hl:vs.length=k * sz) (hk:k≠0) (hz:sz≠0) (h1:(cs ++ vs).all one=true) (hb:bytes≤128) (hn:cs.length + k≤appMax)
 (h:∀ v' τ,Own τ sz v' (some σ.size) (cs ++ vs)→τ.size=σ.size + 1→(∀ i,i < σ.size→oid≠some i→τ.get i=σ.get i)→ml E P rest K (updO ts d v') τ):ml E P (⟨d,.app sz bytes xs xx,g⟩ :: rest) K ts σ:=by
 obtain ⟨v',τ,h2,h3,h4,h5⟩:=app_many (ts:=ts) ho hv hx ht hl hk hz h1 hb hn
 exact ml_step hw h2 (h v' τ h3 h4 h5)
end Go.Mini
namespace Go.Mini
theorem app_rd {ts:Fr} {σ:H} {bytes:Nat} {xs xx:Opd} {v u:Value} {oid:Option Nat} {cs vs:List Value} (ho:Own σ 1 v oid cs) (hv:mev ts xs=v) (hx:mev ts xx=u) (hr:Rd σ u vs)
 (h1:(cs ++ vs).all one=true) (hb:bytes≤128) (hn:cs.length + vs.length≤appMax):
 ∃ v' τ oid',mop ts σ (.app 1 bytes xs xx)=some (v',τ)∧Own τ 1 v' oid' (cs ++ vs)∧(oid'=oid∨oid'=some σ.size)∧σ.size≤τ.size∧(∀ i,i < σ.size→oid≠some i→τ.get i=σ.get i):=by
 have hlen:lenL u=some vs.length:=by cases hr<;>rfl
 have hfst:firstL σ 1 vs.length u=some vs:=by
  cases hr with
  | nil=>rfl
  | mk h=>simp only [firstL,Nat.mul_one];exact h
 by_cases h0:vs.length=0
 ·have hvs:vs=[]:=List.length_eq_zero_iff.1 h0
  subst hvs
  rw [List.append_nil] at h1 ⊢
  cases ho with
  | nil=>exact ⟨.slice none 0 0,σ,none,by simp [mop,hv,hx,hlen],.nil,.inl rfl,Nat.le_refl _,fun i _ _=>rfl⟩
  | @full id n _ h hl=>
    have hid:=H.lt_of_cells h
    refine ⟨.slice (some ⟨id,0,none⟩) n n,σ.set id (.cells 1 cs),some id,?_,.full (H.get_set_self hid) hl,.inl rfl,by simp,fun i hi hne=>H.get_set_ne (fun e=>hne (by rw [e]))⟩
    have hf0:firstL σ 1 0 u=some []:=hfst
    simp only [mop,hv,hx,hlen,List.length_nil,Nat.add_zero,Nat.le_refl,if_true,hf0]
    simp [putRow,h,spl,hl]
 ·cases ho with
  | nil=>
    refine ⟨.slice (some ⟨σ.size,0,none⟩) vs.length vs.length,σ.push (.cells 1 vs),some σ.size,?_,.full (by simp) (by simp),.inr rfl,by simp,fun i hi _=>H.get_push_lt hi⟩
    have:vs.length≤appMax∧bytes≤128:=⟨by simp at hn;omega,hb⟩
    simp only [mop,hv,hx,hlen,hfst,this,and_self,if_true,if_neg h0]
  | @full id n _ h hl=>
    have hl':cs.length=n:=by omega
    have happ:n + vs.length≤appMax∧bytes≤128:=⟨by omega,hb⟩
    have hrw:σ.row id 0 (n * 1)=some cs:=by simp only [H.row,h];exact rowAll hl
    refine ⟨.slice (some ⟨σ.size,0,none⟩) (n + vs.length) (n + vs.length),(σ.set id .dead).push (.cells 1 (cs ++ vs)),some σ.size,?_,?_,.inr rfl,by simp,fun i hi hne=>?_⟩
    ·simp only [mop,hv,hx,hlen,hfst,happ,and_self,if_true,h,hrw,h1,true_or]
     rw [if_neg (by omega)]
    ·refine .full ?_ (by simp [hl'])
     have:=H.get_push_self (σ.set id .dead) (.cells 1 (cs ++ vs))
     rwa [H.size_set] at this
    ·have hni:i≠id:=fun e=>hne (by rw [e])
     rw [H.get_push_lt (by simpa using hi),H.get_set_ne hni]
theorem ml_appR {E:World→Prop} {P:Program} {rest:List MI} {K:Fr→H→Prop} {d:Option Nat} {g:Option (Nat × Bool)} {ts:Fr} {σ:H} {bytes:Nat} {xs xx:Opd} {v u:Value} {oid:Option Nat} {cs vs:List Value} (hw:wantM ts g=true) (hv:mev ts xs=v) (hx:mev ts xx=u)
 (ho:Own σ 1 v oid cs) (hr:Rd σ u vs) (h1:(cs ++ vs).all one=true) (hb:bytes≤128) (hn:cs.length + vs.length≤appMax)
 (h:∀ v' τ oid',Own τ 1 v' oid' (cs ++ vs)→(oid'=oid∨oid'=some σ.size)→σ.size≤τ.size→(∀ i,i < σ.size→oid≠some i→τ.get i=σ.get i)→ml E P rest K (updO ts d v') τ):ml E P (⟨d,.app 1 bytes xs xx,g⟩ :: rest) K ts σ:=by
 obtain ⟨v',τ,oid',h2,h3,h4,h5,h6⟩:=app_rd (ts:=ts) ho hv hx hr h1 hb hn
 exact ml_step hw h2 (h v' τ oid' h3 h4 h5 h6)
end Go.Mini
namespace Go.Mini
inductive RdN (σ:H) (k:Nat):Value→List (List Value)→Prop
 | nil:RdN σ k (.slice none 0 0) []
 | mk {id n cap:Nat} {L:List (List Value)} (hl:L.length=n) (hr:σ.row id 0 (n * k)=some L.flatten) (h:∀ i (hi:i < L.length),σ.row id (i * k) k=some L[i]):RdN σ k (.slice (some ⟨id,0,none⟩) n cap) L
theorem RdN.of_ext {σ τ:H} {k:Nat} {v:Value} {L:List (List Value)} (h:RdN σ k v L) (e:Ext σ τ):RdN τ k v L:=by
 cases h with
 | nil=>exact .nil
 | mk hl hr h=>exact .mk hl (rowE e hr) fun i hi=>rowE e (h i hi)
theorem RdN.len {σ:H} {k:Nat} {v:Value} {L:List (List Value)} (h:RdN σ k v L):∃ p cap,v=.slice p L.length cap∧(L≠[]→∃ id,p=some ⟨id,0,none⟩∧σ.row id 0 (L.length * k)=some L.flatten∧∀ i (hi:i < L.length),σ.row id (i * k) k=some L[i]):=by
 cases h with
 | nil=>exact ⟨none,0,rfl,fun h=>absurd rfl h⟩
 | mk hl hr h=>subst hl;exact ⟨_,_,rfl,fun _=>⟨_,rfl,hr,h⟩⟩
theorem flat_row {k:Nat}:∀ {L:List (List Value)},(∀ l ∈ L,l.length=k)→∀ i (hi:i < L.length),(L.flatten.drop (i * k)).take k=L[i]
 | l :: L,h,0,_=>by
   have:=h l (by simp)
   simp only [List.flatten_cons,Nat.zero_mul,List.drop_zero,List.getElem_cons_zero]
   rw [List.take_append_of_le_length (by omega),List.take_of_length_le (by omega)]
 | l :: L,h,i + 1,hi=>by
   have hl:=h l (by simp)
   have hi':i < L.length:=by simpa using hi
   have:=flat_row (fun l hl=>h l (by simp [hl])) i hi'
   rw [List.getElem_cons_succ,← this,List.flatten_cons,show (i + 1) * k=k + i * k by rw [Nat.add_mul];omega,← List.drop_drop]
   congr 2
   rw [List.drop_append_of_le_length (by omega),List.drop_of_length_le (by omega)];rfl
theorem flat_len {k:Nat}:∀ {L:List (List Value)},(∀ l ∈ L,l.length=k)→L.flatten.length=L.length * k
 | [],_=>by simp
 | l :: L,h=>by
   have:=flat_len (L:=L) fun l hl=>h l (by simp [hl])
   rw [List.flatten_cons,List.length_append,this,h l (by simp),List.length_cons,Nat.add_mul];omega
end Go.Mini
namespace Go.Proofs
open Go.Shelf Go.RowKit Go.Lib
set_option maxHeartbeats 2000000 in
set_option maxRecDepth 1000000 in
theorem Tryz.indexFunc_none' {P:Program} {ρ:Ren} (L:Lays.n315 P ρ) (g:Nat) (s:ByteArray) (w:World) (ha:∀ (i:Nat) (h:i < s.size),(s[i]'h).toNat < 128)
 (hp:∀ (i:Nat) (h:i < s.size) (W:World),Calls P g #[.int .i32 (s[i]'h).toNat] W fun e W'=>e=.returned (.bool false)∧Below W.heap.size W W')
 (hg:∀ args w,(callFunc g args).run P w=.ok (.enter g args) w):
 Calls P (ρ.f 315) #[.string s,.func (.func g) #[] #[],.bool true] w fun e w'=>e=.returned (.int .i64 (-1))∧Below w.heap.size w w':=by
 have t0:=L.t0;have a0:=L.a0;have z0:=L.z0;have v0:=L.v0;have t3:=L.t3;have a3:=L.a3;have z3:=L.z3;have v3:=L.v3;have t4:=L.t4;have a4:=L.a4;have z4:=L.z4;have v4:=L.v4;have t9:=L.t9;have a9:=L.a9;have z9:=L.z9;have v9:=L.v9;have t21:=L.t21;have a21:=L.a21;have z21:=L.z21;have v21:=L.v21;have t40:=L.t40;have a40:=L.a40;have z40:=L.z40;have v40:=L.v40
 go_enter L.f315,Body.n315_ntmps ρ
 go_wp2
 go_loopg [] s.size (fun gf wx=>∃ pos:Nat,wx.heap[w.heap.size]?=some (.stringIter s pos)∧Below w.heap.size w wx∧s.size≤pos + gf)
 case atStart=>exact ⟨0,World.iter_heap w s 0,(Below.refl _ w).alloc (Nat.le_refl _) _,by omega⟩
 case round=>
  obtain ⟨pos,hit,hbw,hfu⟩:=hrel
  by_cases hps:pos < s.size
  ·obtain ⟨g',rfl⟩:∃ g',gk=g' + 1:=⟨gk - 1,by omega⟩
   have hnx:∀ ty,(Instr.next (.pointer (some ⟨w.heap.size,0,none⟩)) true ty).run P wr=_:=fun ty=>Lib.run_next_ascii_at wr w.heap.size s pos ty hit hps (ha pos hps)
   have hit2:=Lib.iterAt_heap wr w.heap.size s pos (pos + 1) hit
   have hbw2:=Lib.below_iterAt hbw (k:=w.heap.size) (Nat.le_refl _) s (pos + 1)
   obtain ⟨W,hWd⟩:∃ W,wr.iterAt w.heap.size s (pos + 1)=W:=⟨_,rfl⟩
   rw [hWd] at hnx hit2 hbw2
   have cS:=hp pos hps W
   clear hp
   go_wp2_with (go_at_fn g;refine cS.mono ?_;rintro e W' ⟨rfl,hW'⟩)
   go_roundg g'
   case measure=>omega
   case rel=>
    have hlt:w.heap.size < W.heap.size:=by
     rcases Nat.lt_or_ge w.heap.size W.heap.size with x | x
     ·exact x
     ·rw [Array.getElem?_eq_none x] at hit2;cases hit2
    refine ⟨pos + 1,?_,hbw2.trans (hW'.mono hbw2.size),by omega⟩
    rw [hW'.block _ hlt];exact hit2
  ·have hnx:∀ ty,(Instr.next (.pointer (some ⟨w.heap.size,0,none⟩)) true ty).run P wr=_:=fun ty=>Lib.run_next_end_at wr w.heap.size s pos ty hit hps
   go_wp2
   go_ret
   exact ⟨rfl,hbw⟩
def Tryz.lays315x_ren:Go.Shelf.Ren:=⟨fun | 315=>136 | n=>n,fun | 0=>0 | 3=>3 | 4=>4 | 9=>9 | 21=>21 | 40=>129 | n=>n,fun | n=>n⟩
theorem Tryz.lays315x:Go.Proofs.Lays.n315 Tryz.prog Tryz.lays315x_ren:={
 mixed:=by kernel_rfl
 f315:=Tryz.func136.trans (congrArg some (by kernel_rfl))
 t0:=Tryz.underlying0
 a0:=Tryz.isAgg0
 z0:=Tryz.sizeOf0
 v0:=Tryz.zeroValue0
 t3:=Tryz.underlying3
 a3:=Tryz.isAgg3
 z3:=Tryz.sizeOf3
 v3:=Tryz.zeroValue3
 t4:=Tryz.underlying4
 a4:=Tryz.isAgg4
 z4:=Tryz.sizeOf4
 v4:=Tryz.zeroValue4
 t9:=Tryz.underlying9
 a9:=Tryz.isAgg9
 z9:=Tryz.sizeOf9
 v9:=Tryz.zeroValue9
 t21:=Tryz.underlying21
 a21:=Tryz.isAgg21
 z21:=Tryz.sizeOf21
 v21:=Tryz.zeroValue21
 t40:=Tryz.underlying129
 a40:=Tryz.isAgg129
 z40:=Tryz.sizeOf129
 v40:=Tryz.zeroValue129 }
theorem Tryz.indexFunc_none (g:Nat) (s:ByteArray) (w:World) (ha:∀ (i:Nat) (h:i < s.size),(s[i]'h).toNat < 128)
 (hp:∀ (i:Nat) (h:i < s.size) (W:World),Calls Tryz.prog g #[.int .i32 (s[i]'h).toNat] W fun e W'=>e=.returned (.bool false)∧Below W.heap.size W W')
 (hg:∀ args w,(callFunc g args).run Tryz.prog w=.ok (.enter g args) w):
 Calls Tryz.prog 136 #[.string s,.func (.func g) #[] #[],.bool true] w fun e w'=>e=.returned (.int .i64 (-1))∧Below w.heap.size w w':=
 Tryz.indexFunc_none' Tryz.lays315x g s w ha hp hg
end Go.Proofs
