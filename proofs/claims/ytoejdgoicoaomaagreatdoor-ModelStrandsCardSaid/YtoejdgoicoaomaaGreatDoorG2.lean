/- The small operations tell what the model's do: numbers, texts, slices, maps. -/
import Derived.Test.YtoejdgoicoaomaaGreatDoorG1
import Derived.Laws.StructEq
import Derived.ChangeKeysEq
import Derived.Laws.BytesString
namespace Go.Mini
open Go.RowKit (Below)
section
variable {P:Program} {B:Fz} {w0 w:World} {μ:Nat→Blk} {σ τ:H} {ts:Fr} {v:Value}
theorem mbin_sound {op:BinOp} {a b r:Value} (h:mbin op a b=some r) (t:TypeId) (x y:Operand) (w:World):
 (do eqGuard op t x y a b;binOp op t a b:Sem Value).run P w=.ok r w∧(plain a=true∧plain b=true∧plain r=true):=by
 unfold mbin at h
 split at h<;>first
  | (cases h;done)
  | (split at h<;>first
      | (cases h;done)
      | (rename_i hk
         simp only [Option.some.injEq] at h
         subst h
         try obtain ⟨hk,hk'⟩:=hk
         try subst hk
         refine ⟨?_,rfl,rfl,rfl⟩
         simp_all [eqGuard,binOp,Op.intArith,Op.intDiv,Op.intBits,Op.shift,Op.intCmp,Op.stringOp]
         try omega))
  | (simp only [Option.some.injEq] at h
     subst h
     refine ⟨?_,rfl,rfl,rfl⟩
     simp [eqGuard,binOp,Op.stringOp])
theorem told_bin (hs:Sim B w0 μ σ w) {x y:Opd} {x' y':Value} {t:TypeId} {op:BinOp} {ox oy:Operand} (hx:VR μ σ.size (mev ts x) x') (hy:VR μ σ.size (mev ts y) y')
 (hm:mop ts σ (.bin op x y)=some (v,τ)):Told P B w0 μ σ τ v (do pure (.value (← (do eqGuard op t ox oy x' y';binOp op t x' y')))) w:=by
 simp only [mop] at hm
 cases hb:mbin op (mev ts x) (mev ts y) with
 | none=>simp [hb] at hm
 | some r=>
   simp only [hb,Option.map_some,Option.some.injEq,Prod.mk.injEq] at hm
   obtain ⟨rfl,rfl⟩:=hm
   obtain ⟨h1,h2,h3,h4⟩:=mbin_sound (P:=P) hb t ox oy w
   rw [hx.eq_of_plain h2,hy.eq_of_plain h3]
   exact .same hs (by rw [Sem.run_bind,h1];rfl) (.of_plain h4)
theorem equal_succ (t:TypeId) (x y:Value):Op.equal t x y=Op.equalIn (9999 + 1) t x y:=rfl
theorem told_eqB (hs:Sim B w0 μ σ w) {x y:Opd} {x' y':Value} {t:TypeId} {neg:Bool} {ox oy:Operand} (hu:P.underlying t=some .bool) (hx:VR μ σ.size (mev ts x) x') (hy:VR μ σ.size (mev ts y) y')
 (hm:mop ts σ (.eqB neg x y)=some (v,τ)):Told P B w0 μ σ τ v (do pure (.value (← (do eqGuard (if neg then .neq else .eql) t ox oy x' y';binOp (if neg then .neq else .eql) t x' y')))) w:=by
 simp only [mop] at hm
 split at hm
 ·rename_i a b e1 e2
  rw [e1] at hx
  rw [e2] at hy
  obtain rfl:=hx.inv_bool
  obtain rfl:=hy.inv_bool
  simp only [Option.some.injEq,Prod.mk.injEq] at hm
  obtain ⟨rfl,rfl⟩:=hm
  refine .same hs ?_ (.bool _)
  cases neg
  ·simp [eqGuard,binOp,equal_succ,run_equalIn_bool w _ t a b hu]
  ·simp [eqGuard,binOp,equal_succ,run_equalIn_bool w _ t a b hu]
 ·cases hm
theorem eqNil_sound {k:NK} {n:Nat} {a b a' b':Value} {r:Bool} (h:eqNil k a b=some r) (ha:VR μ n a a') (hb:VR μ n b b'):eqNil k a' b'=some r:=by
 unfold eqNil at h
 split at h<;>first | (cases h;done) | skip
 all_goals (cases ha<;>cases hb<;>simp_all [eqNil])
def NK.of:NK→TypeDesc→Prop
 | .ptr,.pointer _=>True
 | .slice,.slice _=>True
 | .map,.map _ _=>True
 | .func,.func _ _ _=>True
 | .iface,.interface _=>True
 | _,_=>False
theorem eqNil_run {k:NK} {a b:Value} {r:Bool} (h:eqNil k a b=some r) {t:TypeId} {d:TypeDesc} (hu:P.underlying t=some d) (hd:k.of d) (w:World) (D:Nat):
 (Op.equalIn (D + 1) t a b).run P w=.ok r w:=by
 unfold eqNil at h
 split at h<;>first | (cases h;done) | skip
 all_goals (cases d<;>first | exact hd.elim | skip)
 all_goals (simp only [Option.some.injEq] at h;subst h)
 all_goals (simp only [Op.equalIn,Sem.run_bind,run_und hu,Result.andThen_ok])
 all_goals first | rfl | (rename_i b _;cases b<;>rfl) | (rename_i b _ _ _;cases b<;>rfl) | (rename_i b _ _;cases b<;>rfl)
theorem told_eqN (hs:Sim B w0 μ σ w) {k:NK} {x y:Opd} {x' y':Value} {t:TypeId} {d:TypeDesc} {neg:Bool} {ox oy:Operand} (hu:P.underlying t=some d) (hk:k.of d)
 (hconst:k=.iface→(isC ox || isC oy)=true) (hx:VR μ σ.size (mev ts x) x') (hy:VR μ σ.size (mev ts y) y')
 (hm:mop ts σ (.eqN k neg x y)=some (v,τ)):Told P B w0 μ σ τ v (do pure (.value (← (do eqGuard (if neg then .neq else .eql) t ox oy x' y';binOp (if neg then .neq else .eql) t x' y')))) w:=by
 simp only [mop] at hm
 cases hb:eqNil k (mev ts x) (mev ts y) with
 | none=>simp [hb] at hm
 | some r=>
   simp only [hb,Option.map_some,Option.some.injEq,Prod.mk.injEq] at hm
   obtain ⟨rfl,rfl⟩:=hm
   have he:=eqNil_sound hb hx hy
   have hr:=eqNil_run (P:=P) he hu hk w 9999
   refine .same hs ?_ (.bool _)
   have hg:∀ op,(eqGuard op t ox oy x' y').run P w=.ok () w:=by
    intro op
    unfold eqNil at he
    split at he<;>first | (cases he;done) | skip
    all_goals (cases op<;>first | rfl | (simp [eqGuard];done) | skip)
    all_goals (have:=hconst rfl;simp only [eqGuard];cases ox<;>cases oy<;>first | (simp [isC] at this;done) | simp)
   have hbin:∀ op:BinOp,(op=.eql∨op=.neq)→binOp op t x' y'=if op=.eql then (do pure (.bool (← Op.equal t x' y')):Sem Value) else (do pure (.bool (!(← Op.equal t x' y')))):=by
    intro op ho
    unfold eqNil at he
    split at he<;>first | (cases he;done) | skip
    all_goals (rcases ho with rfl | rfl<;>rfl)
   rw [Sem.run_bind,Sem.run_bind,hg]
   cases neg
   ·rw [Result.andThen_ok,if_neg (by simp),hbin _ (.inl rfl),if_pos rfl,equal_succ,Sem.run_bind,hr];rfl
   ·rw [Result.andThen_ok,if_pos rfl,hbin _ (.inr rfl),if_neg (by simp),equal_succ,Sem.run_bind,hr];rfl
end
end Go.Mini
namespace Go.Mini
open Go.RowKit (Below)
section
variable {P:Program} {B:Fz} {w0 w:World} {μ:Nat→Blk} {σ τ:H} {ts:Fr} {v:Value}
theorem run_bnd {y y':Nat} {x x':Value} {n k:Nat} {c:BoundsCode} (h:bnd y x=some k) (hx:VR μ n x x') (hy:y≤y') (w:World):(Instr.sliceBound x' y' c).run P w=.ok k w:=by
 unfold bnd at h
 split at h
 ·rename_i j i
  obtain rfl:=hx.inv_int
  split at h
  ·rename_i hb
   simp only [Option.some.injEq] at h
   subst h
   have:0≤i∧i≤(y':Int):=⟨hb.1,by omega⟩
   simp [Instr.sliceBound,asIntOf,this]
  ·cases h
 ·cases h
theorem bnd_le {y k:Nat} {x:Value} (h:bnd y x=some k):k≤y:=by
 unfold bnd at h
 split at h
 ·split at h
  ·simp only [Option.some.injEq] at h;omega
  ·cases h
 ·cases h
inductive OVR (μ:Nat→Blk) (n:Nat):Option Value→Option Value→Prop where
 | none:OVR μ n none none
 | some {x x':Value} (h:VR μ n x x'):OVR μ n (some x) (some x')
theorem run_bnds {len cap cap' n:Nat} {lo hi mx lo' hi' mx':Option Value} {l h m:Nat} {isS:Bool} (hb:bnds len cap lo hi mx=some (l,h,m)) (hlo:OVR μ n lo lo') (hhi:OVR μ n hi hi') (hmx:OVR μ n mx mx')
 (hl:len≤cap) (hc:cap≤cap') (w:World):∃ m',(Instr.sliceBounds isS len cap' lo' hi' mx').run P w=.ok (l,h,m') w∧l≤h∧h≤m∧m≤m'∧m≤cap∧m'≤cap'∧(mx.isSome→m'=m)∧(mx=Option.none→m=cap∧m'=cap'):=by
 unfold bnds at hb
 cases hmx with
 | none=>
   simp only [Option.isNone_none,if_true] at hb
   cases hhi with
   | none=>
     simp only at hb
     cases hlo with
     | none=>
       simp only [Option.some.injEq,Prod.mk.injEq] at hb
       obtain ⟨rfl,rfl,rfl⟩:=hb
       exact ⟨cap',by simp [Instr.sliceBounds],by omega,hl,hc,by omega,by omega,by simp,by simp⟩
     | some h0=>
       simp only at hb
       split at hb
       ·cases hb
       ·rename_i q hq
        simp only [Option.some.injEq,Prod.mk.injEq] at hb
        obtain ⟨rfl,rfl,rfl⟩:=hb
        exact ⟨cap',by simp [Instr.sliceBounds,run_bnd (P:=P) hq h0 (Nat.le_refl _)],bnd_le hq,hl,hc,by omega,by omega,by simp,by simp⟩
   | some h1=>
     simp only at hb
     split at hb
     ·cases hb
     ·rename_i q hq
      cases hlo with
      | none=>
        simp only [Option.some.injEq,Prod.mk.injEq] at hb
        obtain ⟨rfl,rfl,rfl⟩:=hb
        exact ⟨cap',by simp [Instr.sliceBounds,run_bnd (P:=P) hq h1 hc],by omega,bnd_le hq,hc,by omega,by omega,by simp,by simp⟩
      | some h0=>
        simp only at hb
        split at hb
        ·cases hb
        ·rename_i q0 hq0
         simp only [Option.some.injEq,Prod.mk.injEq] at hb
         obtain ⟨rfl,rfl,rfl⟩:=hb
         exact ⟨cap',by simp [Instr.sliceBounds,run_bnd (P:=P) hq h1 hc,run_bnd (P:=P) hq0 h0 (Nat.le_refl _)],bnd_le hq0,bnd_le hq,hc,by omega,by omega,by simp,by simp⟩
 | some h2=>
   simp only at hb
   split at hb
   ·cases hb
   ·rename_i q2 hq2
    cases hhi with
    | none=>simp at hb
    | some h1=>
      simp only at hb
      split at hb
      ·cases hb
      ·rename_i q hq
       cases hlo with
       | none=>
         simp only [Option.some.injEq,Prod.mk.injEq] at hb
         obtain ⟨rfl,rfl,rfl⟩:=hb
         exact ⟨q2,by simp [Instr.sliceBounds,run_bnd (P:=P) hq2 h2 hc,run_bnd (P:=P) hq h1 (Nat.le_refl _)],by omega,bnd_le hq,by omega,bnd_le hq2,by have:=bnd_le hq2;omega,by simp,by simp⟩
       | some h0=>
         simp only at hb
         split at hb
         ·cases hb
         ·rename_i q0 hq0
          simp only [Option.some.injEq,Prod.mk.injEq] at hb
          obtain ⟨rfl,rfl,rfl⟩:=hb
          exact ⟨q2,by simp [Instr.sliceBounds,run_bnd (P:=P) hq2 h2 hc,run_bnd (P:=P) hq h1 (Nat.le_refl _),run_bnd (P:=P) hq0 h0 (Nat.le_refl _)],bnd_le hq0,bnd_le hq,by omega,bnd_le hq2,by have:=bnd_le hq2;omega,by simp,by simp⟩
theorem told_slc (hs:Sim B w0 μ σ w) {x:Opd} {x':Value} {t e:TypeId} {n:Nat} {lo hi mx:Option Opd} {lo' hi' mx':Option Value} (hu:P.underlying t=some (.slice e)) (hn:sizeT P e=some n)
 (hx:VR μ σ.size (mev ts x) x') (hlo:OVR μ σ.size (lo.map (mev ts)) lo') (hhi:OVR μ σ.size (hi.map (mev ts)) hi') (hmx:OVR μ σ.size (mx.map (mev ts)) mx')
 (hm:mop ts σ (.slc n x lo hi mx)=some (v,τ)):Told P B w0 μ σ τ v (do pure (.value (← Instr.sliceAt t x' lo' hi' mx'))) w:=by
 simp only [mop] at hm
 split at hm
 ·rename_i id off len cap e1
  rw [e1] at hx
  obtain ⟨cap',o',rfl,_,hid,hl,hc,ho,hz,hex⟩:=hx.inv_slice
  dsimp only at hid ho hz hex
  split at hm
  ·rename_i l h m hb
   split at hm
   ·rename_i hok
    simp only [Option.some.injEq,Prod.mk.injEq] at hm
    obtain ⟨rfl,rfl⟩:=hm
    obtain ⟨m',hr,a1,a2,a3,a4,a5,a6,a7⟩:=run_bnds (P:=P) (isS:=true) hb hlo hhi hmx hl hc w
    have hsz:(μ id).sz≠0→n=(μ id).sz∨∃ cs,σ.get id=.ro cs:=fun hne=>by
     unfold okSz at hok
     split at hok
     ·rename_i s cs hg
      have:=(hs.own id s cs hg).1.2.1
      simp at hok
      rcases hok with h | h
      ·left;omega
      ·omega
     ·rename_i cs hg;exact .inr ⟨cs,hg⟩
     ·cases hok
    refine .same (v':=.slice (some (if m'=l then ⟨(μ id).b,o',none⟩ else ⟨(μ id).b,o' + l * n,none⟩)) (h - l) (m' - l)) hs ?_ ?_
    ·simp only [Instr.sliceAt,Instr.slice,Sem.run_bind,run_und hu,Result.andThen_ok,hr,run_size hn,Sem.run_pure]
     split<;>simp [addr_add]
    ·by_cases hml:m'=l
     ·rw [if_pos hml]
      exact .slice hid (by omega) (by omega) (by omega) (fun hne=>by have:=hz hne;rw [show m' - l=0 by omega];have:o'≤(μ id).n:=by { have:=hz hne;omega };omega) (fun e=>by omega)
     ·rw [if_neg hml]
      refine .slice hid (by omega) (by omega) (fun h0=>by rw [ho (by omega),Nat.add_assoc]) (fun hne=>?_) (fun e=>?_)
      ·have hz':=hz hne
       rcases hsz hne with e | ⟨cs,hg⟩
       ·rw [← e] at hz' ⊢
        have h1:l * n + (m' - l) * n=m' * n:=by rw [← Nat.add_mul];congr 1;omega
        have h2:m' * n≤cap' * n:=Nat.mul_le_mul_right _ a5
        omega
       ·exact absurd (hs.ro id cs hg).1.2 hne
      ·have:=hex e
       rcases Nat.eq_or_lt_of_le a3 with x | x
       ·omega
       ·cases hmx':mx.map (mev ts) with
        | none=>have:=a7 hmx';omega
        | some _=>have:=a6 (by rw [hmx'];rfl);omega
   ·cases hm
  ·cases hm
 ·rename_i e1
  rw [e1] at hx
  obtain ⟨rfl,_,_⟩:=hx.inv_nilSlice
  split at hm
  ·rename_i l h m hb
   simp only [Option.some.injEq,Prod.mk.injEq] at hm
   obtain ⟨rfl,rfl⟩:=hm
   obtain ⟨m',hr,a1,a2,a3,a4,a5,a6,a7⟩:=run_bnds (P:=P) (isS:=true) hb hlo hhi hmx (Nat.le_refl 0) (Nat.le_refl 0) w
   refine .same (v':=.slice none 0 0) hs ?_ .nilSlice
   simp only [Instr.sliceAt,Instr.slice,Sem.run_bind,run_und hu,Result.andThen_ok,hr,run_size hn,Sem.run_pure]
   have:l=0:=by omega
   have:h=0:=by omega
   have:m'=0:=by omega
   subst_vars
   rfl
  ·cases hm
 ·cases hm
end
end Go.Mini
namespace Go.Mini
open Go.RowKit (Below)
section
variable {P:Program} {B:Fz} {w0 w:World} {μ:Nat→Blk} {σ τ:H} {ts:Fr} {v:Value}
theorem told_slcS (hs:Sim B w0 μ σ w) {x:Opd} {x':Value} {t:TypeId} {lo hi:Option Opd} {lo' hi':Option Value} (hu:P.underlying t=some .string)
 (hx:VR μ σ.size (mev ts x) x') (hlo:OVR μ σ.size (lo.map (mev ts)) lo') (hhi:OVR μ σ.size (hi.map (mev ts)) hi')
 (hm:mop ts σ (.slcS x lo hi)=some (v,τ)):Told P B w0 μ σ τ v (do pure (.value (← Instr.sliceAt t x' lo' hi' none))) w:=by
 simp only [mop] at hm
 split at hm
 ·rename_i s e1
  rw [e1] at hx
  obtain rfl:=hx.inv_string
  split at hm
  ·rename_i l h m hb
   simp only [Option.some.injEq,Prod.mk.injEq] at hm
   obtain ⟨rfl,rfl⟩:=hm
   obtain ⟨m',hr,a1,a2,a3,a4,a5,a6,a7⟩:=run_bnds (P:=P) (isS:=false) hb hlo hhi .none (Nat.le_refl _) (Nat.le_refl _) w
   refine .same (v':=.string (s.extract l h)) hs ?_ (.string _)
   simp [Instr.sliceAt,Instr.slice,run_und hu,hr]
  ·cases hm
 ·cases hm
theorem told_slcA (hs:Sim B w0 μ σ w) {x:Opd} {x':Value} {t e:TypeId} {k n:Nat} {lo hi:Option Opd} {lo' hi':Option Value} (hu:P.underlying t=some (.array k e)) (hn:sizeT P e=some n)
 (hx:VR μ σ.size (mev ts x) x') (hlo:OVR μ σ.size (lo.map (mev ts)) lo') (hhi:OVR μ σ.size (hi.map (mev ts)) hi')
 (hm:mop ts σ (.slcA k n x lo hi)=some (v,τ)):Told P B w0 μ σ τ v (do pure (.value (← Instr.sliceAt t x' lo' hi' none))) w:=by
 simp only [mop] at hm
 split at hm
 ·rename_i id off e1
  rw [e1] at hx
  obtain ⟨hid,rfl⟩:=hx.inv_ptr
  split at hm
  ·rename_i l h m hb
   split at hm
   ·rename_i cs hg
    simp only [Option.some.injEq,Prod.mk.injEq] at hm
    obtain ⟨rfl,rfl⟩:=hm
    obtain ⟨m',hr,a1,a2,a3,a4,a5,a6,a7⟩:=run_bnds (P:=P) (isS:=false) hb hlo hhi .none (Nat.le_refl k) (Nat.le_refl k) w
    obtain ⟨rfl,rfl⟩:=a7 rfl
    have hz:=(hs.own id 0 cs hg).1
    refine .same (v':=.slice (some (if m'=l then ⟨(μ id).b,(μ id).o + off,none⟩ else ⟨(μ id).b,(μ id).o + off + l * n,none⟩)) (h - l) (m' - l)) hs ?_ ?_
    ·simp only [Instr.sliceAt,Sem.run_bind,run_und hu,Result.andThen_ok,Instr.sureAddr,Sem.run_pure,hr,run_size hn]
     split<;>simp [addr_add]
    ·by_cases hml:m'=l
     ·rw [if_pos hml,if_pos hml]
      exact .slice hid (by omega) (by omega) (by omega) (fun hne=>absurd hz.2.1 hne) (fun _=>rfl)
     ·rw [if_neg hml,if_neg hml]
      exact .slice hid (by omega) (by omega) (fun h0=>by rw [Nat.add_assoc]) (fun hne=>absurd hz.2.1 hne) (fun _=>rfl)
   ·cases hm
  ·cases hm
 ·cases hm
def capOf (w:World) (need old:Nat) (e:TypeId):Nat:=need + (w.tape w.drawn (.appendCap need old e)) % (2 ^ 63 - need)
theorem run_cap (w:World) (need old:Nat) (e:TypeId):(choose (.appendCap need old e)).run P w=.ok (capOf w need old e) { w with drawn:=w.drawn + 1 }:=by
 simp [run_choose,Question.forced,Question.cut,capOf]
theorem run_s2b (w:World) (e:TypeId) (s:ByteArray):(Conv.stringToBytes e s).run P w=
 .ok (.slice (some ⟨w.heap.size,0,none⟩) s.size (capOf w s.size 0 e)) { w with drawn:=w.drawn + 1,heap:=w.heap.push (.cells (bytesL s.data.toList ++ List.replicate (capOf w s.size 0 e - s.size) (Value.int .u8 0)).toArray e (capOf w s.size 0 e,capOf w s.size 0 e + 1)) }:=by
 generalize hcap:capOf w s.size 0 e=cap
 have hle:s.size≤cap:=by rw [← hcap];exact Nat.le_add_right _ _
 have harr:(s.data.map fun b:UInt8=>Value.int .u8 b.toNat) ++ Array.replicate (cap - s.size) (Value.int .u8 0)=(bytesL s.data.toList ++ List.replicate (cap - s.size) (Value.int .u8 0)).toArray:=by
  apply Array.toList_inj.1;simp [bytesL]
 have hsz:((s.data.map fun b:UInt8=>Value.int .u8 b.toNat) ++ Array.replicate (cap - s.size) (Value.int .u8 0)).size=cap:=by
  simp;have:s.data.size=s.size:=rfl;omega
 rw [← harr]
 unfold Conv.stringToBytes
 rw [Sem.run_bind,run_cap,Result.andThen_ok,hcap]
 simp only [Go.newRow,Sem.run_bind,run_newObj,Result.andThen_ok,Sem.run_pure,markStringish,run_shape,World.shape?,Array.getElem?_push_size,run_freeze,World.freeze,hsz]
 simp only [Nat.one_ne_zero,if_false]
 congr 2
 apply Array.ext_getElem?
 intro k
 simp only [Array.getElem?_modify,Array.getElem?_push]
 split
 ·rename_i h;subst h;simp
 ·rename_i h;rw [if_neg (Ne.symm h),if_neg (Ne.symm h)]
theorem told_s2b (hs:Sim B w0 μ σ w) {x:Opd} {x':Value} {sr d e:TypeId} (h1:P.underlying sr=some .string) (h2:P.underlying d=some (.slice e)) (h3:P.underlying e=some (.int .u8))
 (hx:VR μ σ.size (mev ts x) x') (hm:mop ts σ (.s2b x)=some (v,τ)):Told P B w0 μ σ τ v (do pure (.value (← convert sr d x'))) w:=by
 simp only [mop] at hm
 split at hm
 ·rename_i s e1
  rw [e1] at hx
  obtain rfl:=hx.inv_string
  simp only [Option.some.injEq,Prod.mk.injEq] at hm
  obtain ⟨rfl,rfl⟩:=hm
  have hrun:=run_s2b (P:=P) w e s
  have hle:s.size≤capOf w s.size 0 e:=Nat.le_add_right _ _
  generalize capOf w s.size 0 e=cap at hrun hle
  have hs':Sim B w0 μ σ { w with drawn:=w.drawn + 1 }:=hs.drewN 1
  have hlen:((bytesL s.data.toList) ++ List.replicate (cap - s.size) (Value.int .u8 0)).length=cap:=by
   simp [bytesL];have:s.data.size=s.size:=rfl;omega
  have hz:Unfrozen ((bytesL s.data.toList) ++ List.replicate (cap - s.size) (Value.int .u8 0)).toArray (cap,cap + 1):=fun j hj h=>by
   rw [List.size_toArray,hlen] at hj
   simp at h;omega
  have hp:VRs μ σ.size (bytesL s.data.toList) (bytesL s.data.toList):=.of_plain (by
   unfold bytesL;rw [List.all_map,List.all_eq_true];intro _ _;rfl)
  have hsim:=hs'.newRow (sz:=1) hp e hz
  refine ⟨.slice (some ⟨w.heap.size,0,none⟩) s.size cap,_,_,.inl ?_,hsim,?_,.setMu _ _,by simp⟩
  ·have:(convert sr d (.string s)).run P w=(Conv.stringToBytes e s).run P w:=by
    unfold convert
    simp only [Sem.run_bind,run_und h1,run_und h2,Result.andThen_ok,run_und h3]
   simp only [Sem.run_bind,this,hrun,Result.andThen_ok,Sem.run_pure]
  ·refine setMu_slice μ σ.size _ (Nat.le_refl _) hle (fun _=>?_) (by simp)
   simp only [← List.length_append,hlen];omega
 ·cases hm
theorem told_b2s (hs:Sim B w0 μ σ w) {x:Opd} {x':Value} {sr d e:TypeId} (h1:P.underlying sr=some (.slice e)) (h2:P.underlying d=some .string) (h3:P.underlying e=some (.int .u8))
 (hx:VR μ σ.size (mev ts x) x') (hm:mop ts σ (.b2s x)=some (v,τ)):Told P B w0 μ σ τ v (do pure (.value (← convert sr d x'))) w:=by
 have hconv:∀ a l c,(convert sr d (.slice a l c)).run P w=(Conv.bytesToString (.slice a l c)).run P w:=fun a l c=>run_convert_bytes_string w sr d e a l c h1 h3 h2
 simp only [mop] at hm
 split at hm
 ·rename_i l c e1
  rw [e1] at hx
  obtain ⟨rfl,rfl,rfl⟩:=hx.inv_nilSlice
  simp only [Option.some.injEq,Prod.mk.injEq] at hm
  obtain ⟨rfl,rfl⟩:=hm
  exact .same hs (by simp only [Sem.run_bind,hconv];rfl) (.string _)
 ·rename_i id off n c e1
  rw [e1] at hx
  obtain ⟨cap',o',rfl,_,hid,hl,hc,ho,hz,hex⟩:=hx.inv_slice
  dsimp only at hid ho hz hex
  split at hm
  ·rename_i vs hrow
   split at hm
   ·rename_i hall
    simp only [Option.some.injEq,Prod.mk.injEq] at hm
    obtain ⟨rfl,rfl⟩:=hm
    obtain ⟨vs',hload,hvs⟩:=hs.row (P:=P) hrow
    have hns:∃ ns:List Int,vs=ns.map (Value.int .u8):=by
     clear hrow hvs hload
     induction vs with
     | nil=>exact ⟨[],rfl⟩
     | cons a vs ih=>
       simp only [List.all_cons,Bool.and_eq_true] at hall
       obtain ⟨ns,rfl⟩:=ih hall.2
       cases a with
       | int k n=>cases k<;>first | exact ⟨n :: ns,rfl⟩ | simp [isU8] at hall
       | _=>simp [isU8] at hall
    obtain ⟨ns,rfl⟩:=hns
    have hvs':vs'=ns.map (Value.int .u8):=by
     clear hrow hload hall
     induction ns generalizing vs' with
     | nil=>cases hvs;rfl
     | cons a ns ih=>cases hvs with | cons h hs=>rw [ih _ hs];rw [h.inv_int];rfl
    subst hvs'
    have hcell:n=0∨o'=(μ id).o + off:=by
     rcases Nat.eq_zero_or_pos n with e | e
     ·exact .inl e
     ·exact .inr (ho (by omega))
    have hload':(loadCells ⟨(μ id).b,o',none⟩ n).run P w=.ok (ns.map (Value.int .u8)).toArray w:=by
     rcases hcell with e | e
     ·subst e
      have:ns=[]:=by
       have:=(rowL_eq 0)
       unfold H.row at hrow
       split at hrow<;>first | (cases hrow;done) | skip
       all_goals (simp [rowL] at hrow;exact hrow)
      subst this
      rfl
     ·rw [e];exact hload
    have:=run_bytesToString (P:=P) w ⟨(μ id).b,o',none⟩ n cap' ns hload'
    refine .same (v':=.string (ns.foldl (fun r n=>r.push (UInt8.ofNat n.toNat)) ByteArray.empty)) hs (by simp only [Sem.run_bind,hconv,this];rfl) ?_
    have hfold:∀ (ns:List Int) (r:ByteArray),ns.foldl (fun r n=>r.push (UInt8.ofNat n.toNat)) r=⟨r.data ++ (ns.map fun k=>UInt8.ofNat k.toNat).toArray⟩:=by
     intro ns
     induction ns with
     | nil=>intro r;simp
     | cons a ns ih=>intro r;rw [List.foldl_cons,ih];simp [ByteArray.push]
    rw [hfold]
    simp only [List.map_map]
    have:(toU8 ∘ Value.int IntKind.u8)=fun k:Int=>UInt8.ofNat k.toNat:=rfl
    rw [this]
    have hd:(ByteArray.empty.data ++ (ns.map fun k=>UInt8.ofNat k.toNat).toArray)=(ns.map fun k=>UInt8.ofNat k.toNat).toArray:=by
     apply Array.toList_inj.1;simp
    rw [hd]
    exact .string _
   ·cases hm
  ·cases hm
 ·cases hm
theorem repZ_length (zs:List Value):∀ n,(repZ zs n).length=n * zs.length
 | 0=>by simp [repZ]
 | n + 1=>by simp [repZ,repZ_length zs n,Nat.add_mul,Nat.add_comm]
theorem repZ_get (zs:List Value):∀ (n j:Nat),j < n * zs.length→(repZ zs n)[j]?=zs[j % zs.length]?
 | 0,j,h=>by simp at h
 | n + 1,j,h=>by
   simp only [repZ]
   by_cases hj:j < zs.length
   ·rw [List.getElem?_append_left hj,Nat.mod_eq_of_lt hj]
   ·rw [List.getElem?_append_right (by omega),repZ_get zs n (j - zs.length) (by rw [Nat.add_mul] at h;omega)]
    congr 1
    exact (Nat.mod_eq_sub_mod (by omega)).symm
theorem repZ_plain {zs:List Value} (h:zs.all plain=true):∀ n,(repZ zs n).all plain=true
 | 0=>rfl
 | n + 1=>by simp only [repZ,List.all_append,h,repZ_plain h n,Bool.and_self]
theorem zeros_eq {z:Value} {zs:List Value} (hz:z.cells.toList=zs) (n:Nat) (h0:zs.length≠0):
 ((Array.range (n * zs.length)).map (fun i=>z.cells[i % z.cells.size]!))=(repZ zs n).toArray:=by
 have hsz:z.cells.size=zs.length:=by rw [← hz];simp
 apply Array.ext_getElem?
 intro j
 by_cases hj:j < n * zs.length
 ·have hm:j % zs.length < zs.length:=Nat.mod_lt _ (by omega)
  have:zs[j % zs.length]?=some z.cells[j % z.cells.size]!:=by
   subst hz
   rw [Array.getElem?_toList,hsz]
   rw [Array.getElem?_eq_getElem (by rw [hsz];exact hm),getElem!_pos z.cells _ (by rw [hsz];exact hm)]
  have h2:(repZ zs n).toArray[j]?=zs[j % zs.length]?:=by rw [List.getElem?_toArray];exact repZ_get zs n j hj
  rw [h2,this]
  simp [hj]
 ·simp only [List.getElem?_toArray]
  rw [List.getElem?_eq_none (by rw [repZ_length];omega),Array.getElem?_eq_none (by simp;omega)]
theorem zeroCells_eq {z:Value} {zs:List Value} (hz:z.cells.toList=zs) (n:Nat) (h0:zs.length≠0):Builtin.zeroCells z.cells n=(repZ zs n).toArray:=by
 rw [← zeros_eq hz n h0]
 unfold Builtin.zeroCells
 have hsz:z.cells.size=zs.length:=by rw [← hz];simp
 rw [hsz]
theorem told_mks (hs:Sim B w0 μ σ w) {x y:Opd} {x' y':Value} {t e:TypeId} {zs:List Value} {i:TypeInfo} (hu:P.underlying t=some (.slice e)) (hz:zeroL P e=some zs) (hi:P.info? e=some i) (h0:i.size≠0)
 (hx:VR μ σ.size (mev ts x) x') (hy:VR μ σ.size (mev ts y) y')
 (hm:mop ts σ (.mks i.size i.bytes zs x y)=some (v,τ)):Told P B w0 μ σ τ v (do pure (.value (← Instr.makeSlice t x' y'))) w:=by
 obtain ⟨i',z,hi',hz1,hz2,hz3,hz4,hz5⟩:=zeroL_spec hz
 rw [hi] at hi'
 cases hi'
 simp only [mop] at hm
 split at hm
 ·rename_i k1 l k2 c e1 e2
  rw [e1] at hx
  rw [e2] at hy
  obtain rfl:=hx.inv_int
  obtain rfl:=hy.inv_int
  split at hm
  ·rename_i hc
   simp only [Option.some.injEq,Prod.mk.injEq] at hm
   obtain ⟨rfl,rfl⟩:=hm
   obtain ⟨c1,c2,c3,c4⟩:=hc
   have hw:∀ q:Int,0≤q→q≤2 ^ 40→IntKind.i64.wrap q=q:=by
    intro q a b
    have h1:q % (2 ^ 64:Int)=q:=Int.emod_eq_of_lt a (by omega)
    simp only [IntKind.wrap,IntKind.bits,IntKind.signed,h1]
    rw [if_neg]
    simp;omega
   refine ⟨.slice (some ⟨w.heap.size,0,none⟩) l.toNat c.toNat,{ w with heap:=w.heap.push (.cells (repZ zs c.toNat).toArray e (0,0)) },_,.inl ?_,?_,setMu_slice μ σ.size ⟨w.heap.size,0,i.size,(repZ zs c.toNat).length,i.size == 0⟩ (by omega) (Nat.le_refl _) (fun _=>by simp only [repZ_length,hz4];omega) (fun _=>rfl),.setMu _ _,by simp⟩
   ·have hn0:zs.length≠0:=by omega
    have hzc:=zeros_eq hz2 c.toNat hn0
    have nl:¬ (l < 0):=by omega
    have nlc:¬ (l > c):=by omega
    have big:¬ ((i.bytes:Int) * c > 2 ^ 48):=by
     have:(bytes:Int)→bytes * c≤2 ^ 47→¬ bytes * c > 2 ^ 48:=fun b h=>by omega
     exact this _ (by exact_mod_cast c4)
    have nc:¬ (c < 0):=by omega
    simp only [Instr.makeSlice,Sem.run_bind,run_und hu,Result.andThen_ok,asInt,asIntOf,Sem.run_pure,run_info hi,hw l c1 (by omega),hw c (by omega) c3]
    simp only [nl,nlc,nc,big,decide_false,Bool.or_self,Bool.false_or,Bool.or_false,Bool.false_eq_true,if_false]
    simp only [run_askRoom,Sem.run_bind,Result.andThen_ok,sizeOf,run_info hi,Sem.run_pure]
    by_cases hcz:c.toNat * i.size=0
    ·have:c.toNat=0:=by rcases Nat.mul_eq_zero.1 hcz with h | h;exact h;exact absurd h h0
     simp only [this,Nat.zero_mul,if_true,Sem.run_pure,Result.andThen_ok,Go.newRow,Sem.run_bind,run_newObj,repZ]
     have he:(Array.map (fun i=>(#[]:Array Value)[i % (#[]:Array Value).size]!) (Array.range 0))=#[]:=by apply Array.toList_inj.1;simp
     rw [he]
    ·simp only [hcz,if_false,Sem.run_bind,hz5,Result.andThen_ok,Sem.run_pure,Go.newRow,run_newObj]
     rw [← hz4,hzc]
   ·have:=hs.newRow (sz:=i.size) (more:=[]) (VRs.of_plain (repZ_plain hz3 c.toNat)) e (fz:=(0,0)) (unfrozen0 _)
    simpa using this
  ·cases hm
 ·cases hm
end
end Go.Mini
namespace Go.Mini
open Go.RowKit (Below)
section
variable {P:Program} {B:Fz} {w0 w:World} {μ:Nat→Blk} {σ τ:H} {ts:Fr} {v:Value}
theorem foldl_spl:∀ (l:List Value) (k off:Nat) (c:Array Value),((l.zipIdx k).foldl (fun cs (p:Value × Nat)=>cs.setIfInBounds (off + p.2) p.1) c)=splA c (off + k) l
 | [],_,_,_=>rfl
 | v :: l,k,off,c=>by
   simp only [List.zipIdx_cons,List.foldl_cons,splA]
   rw [foldl_spl l (k + 1) off]
   rfl
theorem fill_sound {n:Nat} {place:Nat→Option (Nat × Nat)}:∀ {ps:List (Nat × Nat × Value)} {qs:List (Nat × Value)} {cs cs2:List Value} {ca:Array Value},
 fillL cs ps=some cs2→VRs μ n cs ca.toList→ps.length=qs.length→
 (∀ (j off sz:Nat) (v:Value),ps[j]?=some (off,sz,v)→∃ (i:Nat) (v':Value),qs[j]?=some (i,v')∧place i=some (off,sz)∧VR μ n v v')→
 ∃ ca2,Instr.fill place ca qs=some ca2∧VRs μ n cs2 ca2.toList
 | [],[],cs,cs2,ca,h,hc,_,_=>by simp only [fillL,Option.some.injEq] at h;subst h;exact ⟨ca,rfl,hc⟩
 | [],_ :: _,_,_,_,_,_,h,_=>by simp at h
 | _ :: _,[],_,_,_,_,_,h,_=>by simp at h
 | (off,sz,v) :: ps,(i,v') :: qs,cs,cs2,ca,h,hc,hl,hg=>by
   simp only [fillL] at h
   split at h
   ·rename_i hcond
    obtain ⟨i0,v0,e0,hp,hv⟩:=hg 0 off sz v rfl
    simp only [List.getElem?_cons_zero,Option.some.injEq,Prod.mk.injEq] at e0
    obtain ⟨rfl,rfl⟩:=e0
    have hsz:v'.cells.size=sz:=by rw [hv.cells_size];exact hcond.1
    have hca:ca.size=cs.length:=by simpa using hc.length
    have hfold:(v'.cells.zipIdx.foldl (fun cs (p:Value × Nat)=>cs.setIfInBounds (off + p.2) p.1) ca)=splA ca off v'.cells.toList:=by
     rw [← Array.foldl_toList,Array.toList_zipIdx,foldl_spl];rfl
    have hspl:VRs μ n (spl cs off v.cells.toList) (splA ca off v'.cells.toList).toList:=by
     have hcr:CellsR μ n cs ca 0:=fun j u hu=>by
      obtain ⟨u',h1,h2⟩:=hc.get hu
      exact ⟨u',by rw [Nat.zero_add];simpa using h1,h2⟩
     have:=CellsR.spl (o:=0) (k:=off) hv.cells hcr (by rw [Array.length_toList,hcond.1];exact hcond.2)
     rw [Nat.zero_add] at this
     refine .of_get (by rw [Array.length_toList,splA_size,spl_length,hca]) fun j u hu=>?_
     obtain ⟨u',h1,h2⟩:=this j u hu
     exact ⟨u',by rw [Nat.zero_add] at h1;simpa using h1,h2⟩
    obtain ⟨ca2,r1,r2⟩:=fill_sound (place:=place) (qs:=qs) h hspl (by simpa using hl) (fun j o s u hu=>by simpa using hg (j + 1) o s u (by simpa using hu))
    refine ⟨ca2,?_,r2⟩
    have hbad:(decide (v'.cells.size≠sz) || decide (off + v'.cells.size > ca.size))=false:=by
     have h1:decide (v'.cells.size≠sz)=false:=by simp [hsz]
     have h2:decide (off + v'.cells.size > ca.size)=false:=by simp [hsz,hca];have:=hcond.2;omega
     rw [h1,h2];rfl
    simp only [Instr.fill,hp]
    rw [if_neg (by rw [hbad];simp)]
    have:(v'.cells.zipIdx.foldl (fun cs (x:Value × Nat)=>match x with | (c,j)=>cs.setIfInBounds (off + j) c) ca)=splA ca off v'.cells.toList:=hfold
    rw [this]
    exact r1
   ·cases h
theorem told_bsl (hs:Sim B w0 μ σ w) {t e:TypeId} {n len:Nat} {zs:List Value} {parts:List (Nat × Opd)} {parts':Array (Nat × Value)} (hu:P.underlying t=some (.slice e)) (hz:zeroL P e=some zs)
 (hn:sizeT P e=some n) (h0:n≠0) (hlen:¬ len * n > 2 ^ 24) (hpl:parts.length=parts'.size)
 (hp:∀ (j i:Nat) (x:Opd),parts[j]?=some (i,x)→i < len∧∃ x':Value,parts'[j]?=some (i,x')∧VR μ σ.size (mev ts x) x')
 (hm:mop ts σ (.bsl n len zs parts)=some (v,τ)):Told P B w0 μ σ τ v (do pure (.value (← Instr.buildSlice t len parts'))) w:=by
 obtain ⟨i,z,hi,hz1,hz2,hz3,hz4,hz5⟩:=zeroL_spec hz
 have hni:n=i.size:=by simpa [sizeT,hi] using hn.symm
 simp only [mop] at hm
 split at hm
 ·rename_i cs hfill
  simp only [Option.some.injEq,Prod.mk.injEq] at hm
  obtain ⟨rfl,rfl⟩:=hm
  have hzl:zs.length=n:=by omega
  have hze:=zeros_eq hz2 len (by omega)
  rw [hzl] at hze
  obtain ⟨ca2,r1,r2⟩:=fill_sound (μ:=μ) (n:=σ.size) (place:=fun i=>some (i * n,n)) (qs:=parts'.toList) (ca:=(repZ zs len).toArray) hfill (by simpa using VRs.of_plain (repZ_plain hz3 len)) (by simpa using hpl)
   (fun j off sz u hu=>by
     rw [List.getElem?_map] at hu
     cases hj:parts[j]? with
     | none=>simp [hj] at hu
     | some p=>
       obtain ⟨i,x⟩:=p
       simp only [hj,Option.map_some,Option.some.injEq,Prod.mk.injEq] at hu
       obtain ⟨rfl,rfl,rfl⟩:=hu
       obtain ⟨_,x',h1,h2⟩:=hp j i x hj
       exact ⟨i,x',by simpa using h1,rfl,h2⟩)
  refine ⟨.slice (some ⟨w.heap.size,0,none⟩) len len,{ w with heap:=w.heap.push (.cells ca2 e (0,0)) },_,.inl ?_,?_,setMu_slice μ σ.size ⟨w.heap.size,0,n,ca2.size,n == 0⟩ (Nat.le_refl _) (Nat.le_refl _) (fun _=>?_) (fun _=>rfl),.setMu _ _,by simp⟩
  ·simp only [Instr.buildSlice,Sem.run_bind,run_und hu,Result.andThen_ok,run_size hn]
   rw [if_neg hlen]
   by_cases hl0:len=0
   ·subst hl0
    simp only [Nat.zero_mul,if_true,Sem.run_pure,Result.andThen_ok]
    have he:(Array.map (fun i=>(#[]:Array Value)[i % (#[]:Array Value).size]!) (Array.range 0))=#[]:=by apply Array.toList_inj.1;simp
    simp only [repZ] at r1
    simp only [Sem.run_bind,Sem.run_pure,Result.andThen_ok,he,r1,Go.newRow,run_newObj]
   ·have:¬ (len * n=0):=by intro h;rcases Nat.mul_eq_zero.1 h with h | h;exact hl0 h;exact h0 h
    simp only [this,if_false,Sem.run_bind,Sem.run_pure,hz5,Result.andThen_ok,hze,r1,Go.newRow,run_newObj]
  ·have:=hs.newRow (sz:=n) (more:=[]) r2 e (fz:=(0,0)) (unfrozen0 _)
   simpa using this
  ·have hl1:ca2.size=cs.length:=by simpa using r2.length
   have hl2:∀ {ps:List (Nat × Nat × Value)} {c c2:List Value},fillL c ps=some c2→c2.length=c.length:=by
    intro ps
    induction ps with
    | nil=>intro c c2 h;simp only [fillL,Option.some.injEq] at h;rw [h]
    | cons p ps ih=>
      intro c c2 h
      obtain ⟨o,s,u⟩:=p
      simp only [fillL] at h
      split at h
      ·rw [ih h,spl_length]
      ·cases h
   have:=hl2 hfill
   rw [repZ_length,hzl] at this
   simp only;omega
 ·cases hm
theorem run_bsl {n0:Nat} {t e:TypeId} {n len:Nat} {zs cs:List Value} {parts:List (Nat × Opd)} {parts':Array (Nat × Value)} (hu:P.underlying t=some (.slice e)) (hz:zeroL P e=some zs)
 (hn:sizeT P e=some n) (h0:n≠0) (hlen:¬ len * n > 2 ^ 24) (hpl:parts.length=parts'.size)
 (hp:∀ (j i:Nat) (x:Opd),parts[j]?=some (i,x)→i < len∧∃ x':Value,parts'[j]?=some (i,x')∧VR μ n0 (mev ts x) x')
 (hfill:fillL (repZ zs len) (parts.map fun (i,x)=>(i * n,n,mev ts x))=some cs):
 ∃ ca2:Array Value,(do pure (.value (← Instr.buildSlice t len parts')):Sem Next).run P w=.ok (.value (.slice (some ⟨w.heap.size,0,none⟩) len len)) { w with heap:=w.heap.push (.cells ca2 e (0,0)) }∧VRs μ n0 cs ca2.toList∧ca2.size=len * n:=by
 obtain ⟨i,z,hi,hz1,hz2,hz3,hz4,hz5⟩:=zeroL_spec hz
 have hni:n=i.size:=by simpa [sizeT,hi] using hn.symm
 have hzl:zs.length=n:=by omega
 have hze:=zeros_eq hz2 len (by omega)
 rw [hzl] at hze
 obtain ⟨ca2,r1,r2⟩:=fill_sound (μ:=μ) (n:=n0) (place:=fun i=>some (i * n,n)) (qs:=parts'.toList) (ca:=(repZ zs len).toArray) hfill (by simpa using VRs.of_plain (repZ_plain hz3 len)) (by simpa using hpl)
  (fun j off sz u hu=>by
    rw [List.getElem?_map] at hu
    cases hj:parts[j]? with
    | none=>simp [hj] at hu
    | some p=>
      obtain ⟨i,x⟩:=p
      simp only [hj,Option.map_some,Option.some.injEq,Prod.mk.injEq] at hu
      obtain ⟨rfl,rfl,rfl⟩:=hu
      obtain ⟨_,x',h1,h2⟩:=hp j i x hj
      exact ⟨i,x',by simpa using h1,rfl,h2⟩)
 refine ⟨ca2,?_,r2,?_⟩
 ·simp only [Instr.buildSlice,Sem.run_bind,run_und hu,Result.andThen_ok,run_size hn]
  rw [if_neg hlen]
  by_cases hl0:len=0
  ·subst hl0
   simp only [Nat.zero_mul,if_true,Sem.run_pure,Result.andThen_ok]
   have he:(Array.map (fun i=>(#[]:Array Value)[i % (#[]:Array Value).size]!) (Array.range 0))=#[]:=by apply Array.toList_inj.1;simp
   simp only [repZ] at r1
   simp only [Sem.run_bind,Sem.run_pure,Result.andThen_ok,he,r1,Go.newRow,run_newObj]
  ·have:¬ (len * n=0):=by intro h;rcases Nat.mul_eq_zero.1 h with h | h;exact hl0 h;exact h0 h
   simp only [this,if_false,Sem.run_bind,Sem.run_pure,hz5,Result.andThen_ok,hze,r1,Go.newRow,run_newObj]
 ·have hl1:ca2.size=cs.length:=by simpa using r2.length
  have hl2:∀ {ps:List (Nat × Nat × Value)} {c c2:List Value},fillL c ps=some c2→c2.length=c.length:=by
   intro ps
   induction ps with
   | nil=>intro c c2 h;simp only [fillL,Option.some.injEq] at h;rw [h]
   | cons p ps ih=>
     intro c c2 h
     obtain ⟨o,s,u⟩:=p
     simp only [fillL] at h
     split at h
     ·rw [ih h,spl_length]
     ·cases h
  have:=hl2 hfill
  rw [repZ_length,hzl] at this
  omega
theorem told_bldA (hs:Sim B w0 μ σ w) {t e:TypeId} {n k:Nat} {zs:List Value} {parts:List (Nat × Nat × Opd)} {parts':Array (Nat × Value)} (hu:P.underlying t=some (.array k e)) (hz:zeroL P t=some zs)
 (hn:sizeT P e=some n) (hpl:parts.length=parts'.size)
 (hp:∀ (j o s:Nat) (x:Opd),parts[j]?=some (o,s,x)→∃ (i:Nat) (x':Value),parts'[j]?=some (i,x')∧(o,s)=(i * n,n)∧VR μ σ.size (mev ts x) x')
 (hm:mop ts σ (.bld zs parts)=some (v,τ)):Told P B w0 μ σ τ v (do pure (.value (← Instr.build t parts'))) w:=by
 obtain ⟨i,z,hi,hz1,hz2,hz3,hz4,hz5⟩:=zeroL_spec hz
 simp only [mop] at hm
 cases hfill:fillL zs (parts.map fun (off,sz,x)=>(off,sz,mev ts x)) with
 | none=>rw [hfill] at hm;cases hm
 | some cs=>
   rw [hfill] at hm
   simp only [Option.map_some,Option.some.injEq,Prod.mk.injEq] at hm
   obtain ⟨rfl,rfl⟩:=hm
   obtain ⟨ca2,r1,r2⟩:=fill_sound (μ:=μ) (n:=σ.size) (place:=fun i=>some (i * n,n)) (qs:=parts'.toList) (ca:=z.cells) hfill (by rw [hz2];exact VRs.of_plain hz3) (by simpa using hpl)
    (fun j off sz u hu=>by
      rw [List.getElem?_map] at hu
      cases hj:parts[j]? with
      | none=>simp [hj] at hu
      | some p=>
        obtain ⟨o,s,x⟩:=p
        simp only [hj,Option.map_some,Option.some.injEq,Prod.mk.injEq] at hu
        obtain ⟨rfl,rfl,rfl⟩:=hu
        obtain ⟨i,x',h1,h2,h3⟩:=hp j o s x hj
        exact ⟨i,x',by simpa using h1,by rw [← h2],h3⟩)
   exact .same (v':=.agg ca2) hs (by simp [Instr.build,hz5,run_und hu,run_size hn,r1]) (.agg (by simpa using r2))
theorem run_places {fs:List Field} (h:∀ f:Field,f ∈ fs→(sizeT P f.type).isSome) (w:World):
 (fs.mapM (fun f=>do pure (f.offset,← sizeOf f.type):Field→Sem (Nat × Nat))).run P w=.ok (fs.map fun f=>(f.offset,(sizeT P f.type).getD 0)) w:=by
 induction fs with
 | nil=>simp
 | cons f fs ih=>
   obtain ⟨n,hn⟩:=Option.isSome_iff_exists.1 (h f (by simp))
   have ih':=ih (fun g hg=>h g (by simp [hg]))
   rw [List.mapM_cons]
   simp only [Sem.run_bind,run_size hn,Result.andThen_ok,Sem.run_pure,ih',List.map_cons,hn,Option.getD_some]
theorem told_bldS (hs:Sim B w0 μ σ w) {t:TypeId} {fs:Array Field} {zs:List Value} {parts:List (Nat × Nat × Opd)} {parts':Array (Nat × Value)} (hu:P.underlying t=some (.struct fs)) (hz:zeroL P t=some zs)
 (hall:∀ f:Field,f ∈ fs.toList→(sizeT P f.type).isSome) (hpl:parts.length=parts'.size)
 (hp:∀ (j o s:Nat) (x:Opd),parts[j]?=some (o,s,x)→∃ (i:Nat) (f:Field) (x':Value),parts'[j]?=some (i,x')∧fs[i]?=some f∧o=f.offset∧sizeT P f.type=some s∧VR μ σ.size (mev ts x) x')
 (hm:mop ts σ (.bld zs parts)=some (v,τ)):Told P B w0 μ σ τ v (do pure (.value (← Instr.build t parts'))) w:=by
 obtain ⟨i,z,hi,hz1,hz2,hz3,hz4,hz5⟩:=zeroL_spec hz
 simp only [mop] at hm
 cases hfill:fillL zs (parts.map fun (off,sz,x)=>(off,sz,mev ts x)) with
 | none=>rw [hfill] at hm;cases hm
 | some cs=>
   rw [hfill] at hm
   simp only [Option.map_some,Option.some.injEq,Prod.mk.injEq] at hm
   obtain ⟨rfl,rfl⟩:=hm
   let places:Array (Nat × Nat):=(fs.toList.map fun (f:Field)=>(f.offset,(sizeT P f.type).getD 0)).toArray
   obtain ⟨ca2,r1,r2⟩:=fill_sound (μ:=μ) (n:=σ.size) (place:=fun i=>places[i]?) (qs:=parts'.toList) (ca:=z.cells) hfill (by rw [hz2];exact VRs.of_plain hz3) (by simpa using hpl)
    (fun j off sz u hu=>by
      rw [List.getElem?_map] at hu
      cases hj:parts[j]? with
      | none=>simp [hj] at hu
      | some p=>
        obtain ⟨o,s,x⟩:=p
        simp only [hj,Option.map_some,Option.some.injEq,Prod.mk.injEq] at hu
        obtain ⟨rfl,rfl,rfl⟩:=hu
        obtain ⟨i,f,x',h1,h2,rfl,h4,h3⟩:=hp j o s x hj
        refine ⟨i,x',by simpa using h1,?_,h3⟩
        simp only [places,List.getElem?_toArray,List.getElem?_map,Array.getElem?_toList,h2,Option.map_some,h4,Option.getD_some])
   have hplaces:(fs.mapM (fun f=>do pure (f.offset,← sizeOf f.type):Field→Sem (Nat × Nat))).run P w=.ok places w:=by
    have:=run_places (P:=P) hall w
    rw [← Array.toArray_toList (xs:=fs),List.mapM_toArray]
    simp only [Sem.run_map,this,Result.andThen_ok]
    rfl
   refine .same (v':=.agg ca2) hs ?_ (.agg (by simpa using r2))
   simp only [Instr.build,Sem.run_bind,hz5,Result.andThen_ok,run_und hu]
   rw [hplaces]
   simp [r1]
end
end Go.Mini
namespace Go.Mini
open Go.RowKit (Below)
section
variable {P:Program} {B:Fz} {w0 w:World} {μ:Nat→Blk} {σ τ:H} {ts:Fr} {v:Value}
theorem run_first (hs:Sim B w0 μ σ w) {sz n m:Nat} {x x':Value} {vs:List Value} (h:firstL σ sz n x=some vs) (hl:lenL x=some m) (hn:n≤m) (hx:VR μ σ.size x x'):
 ∃ vs',(Builtin.firstCells sz n x').run P w=.ok vs'.toArray w∧VRs μ σ.size vs vs':=by
 unfold firstL at h
 split at h
 ·rename_i id off len cap
  obtain ⟨cap',o',rfl,_,hid,hlc,hc,ho,_,_⟩:=hx.inv_slice
  simp only [lenL,Option.some.injEq] at hl
  dsimp only at ho hid
  obtain ⟨vs',h1,h2⟩:=hs.row (P:=P) h
  refine ⟨vs',?_,h2⟩
  simp only [Builtin.firstCells]
  rcases Nat.eq_zero_or_pos (n * sz) with e | e
  ·rw [e] at h1 ⊢
   have:vs'=[]:=by
    have:=(rowL_eq 0)
    have hl:=h2.length
    have:vs=[]:=by
     unfold H.row at h
     rw [e] at h
     split at h<;>first | (cases h;done) | skip
     all_goals (simp [rowL] at h;exact h)
    rw [this] at hl
    exact List.length_eq_zero_iff.1 hl
   subst this
   rfl
  ·have:0 < n:=Nat.pos_of_mul_pos_right e
   rw [ho (by omega)]
   exact h1
 ·obtain ⟨rfl,_,_⟩:=hx.inv_nilSlice
  simp only [Option.some.injEq] at h
  subst h
  exact ⟨[],rfl,.nil⟩
 ·obtain rfl:=hx.inv_string
  have h9:=h
  split at h9
  rotate_left
  ·cases h9
  simp only [Option.some.injEq] at h9
  subst h9
  rename_i s _
  refine ⟨bytesL (s.extract 0 n).data.toList,?_,.of_plain (by unfold bytesL;rw [List.all_map,List.all_eq_true];intro _ _;rfl)⟩
  simp only [Builtin.firstCells,Sem.run_pure]
  congr 1
  apply Array.toList_inj.1
  simp [bytesL]
 ·cases h
theorem lenL_sound {n m:Nat} {x x':Value} (hx:VR μ n x x') (h:lenL x=some m) (w:World):(Builtin.lenOf x').run P w=.ok m w:=by
 unfold lenL at h
 split at h
 ·rename_i a l c
  simp only [Option.some.injEq] at h
  subst h
  cases a with
  | none=>obtain ⟨rfl,rfl,_⟩:=hx.inv_nilSlice;rfl
  | some a=>obtain ⟨_,_,rfl,_⟩:=hx.inv_slice;rfl
 ·obtain rfl:=hx.inv_string
  simp only [Option.some.injEq] at h
  subst h
  rfl
 ·cases h
theorem nextcap_le {need old:Nat} (h:old < need):Builtin.nextslicecap need old≤2 * need + 192:=by
 unfold Builtin.nextslicecap
 split
 ·omega
 ·split
  ·omega
  ·have g:∀ r c,c≤2 * need + 192→(c < need→True)→Builtin.growBy need r c≤2 * need + 192:=by
    intro r
    induction r with
    | zero=>intro c hc _;simpa [Builtin.growBy] using hc
    | succ r ih=>
      intro c hc _
      simp only [Builtin.growBy]
      split
      ·exact hc
      ·exact ih _ (by omega) (fun _=>trivial)
   exact g 4 old (by omega) (fun _=>trivial)
theorem told_len (hs:Sim B w0 μ σ w) {x:Opd} {x':Value} {str:Bool} {t ty:TypeId} {ats:Array TypeId} {d:TypeDesc} (ht:ats[0]?=some t) (hu:P.underlying t=some d)
 (hd:(str=true∧d=.string)∨(str=false∧∃ e,d=.slice e)) (hx:VR μ σ.size (mev ts x) x') (hm:mop ts σ (.len str x)=some (v,τ)):
 Told P B w0 μ σ τ v (do pure (.value (← Builtin.len_ ats ty #[x']))) w:=by
 simp only [mop] at hm
 split at hm
 ·rename_i s e
  rw [e] at hx
  obtain rfl:=hx.inv_string
  simp only [Option.some.injEq,Prod.mk.injEq] at hm
  obtain ⟨rfl,rfl⟩:=hm
  rcases hd with ⟨_,rfl⟩ | ⟨h,_⟩
  ·exact .same hs (by simp [Builtin.len_,ht,run_und hu,goInt]) (.int _ _)
  ·cases h
 ·rename_i a n c e
  rw [e] at hx
  simp only [Option.some.injEq,Prod.mk.injEq] at hm
  obtain ⟨rfl,rfl⟩:=hm
  rcases hd with ⟨h,_⟩ | ⟨_,e',rfl⟩
  ·cases h
  ·cases a with
   | none=>obtain ⟨rfl,rfl,rfl⟩:=hx.inv_nilSlice;exact .same hs (by simp [Builtin.len_,ht,run_und hu,goInt]) (.int _ _)
   | some a=>obtain ⟨_,_,rfl,_⟩:=hx.inv_slice;exact .same hs (by simp [Builtin.len_,ht,run_und hu,goInt]) (.int _ _)
 ·cases hm
theorem told_nilck (hs:Sim B w0 μ σ w) {x:Opd} {x':Value} (hx:VR μ σ.size (mev ts x) x') (hm:mop ts σ (.nilck x)=some (v,τ)) {o:Oper} {y:Operand} {ρ:Operand→Value} (ho:o.op=.nilCheck y) (hy:ρ y=x'):
 Told P B w0 μ σ τ v (execOp ρ o) w:=by
 simp only [mop] at hm
 split at hm
 ·rename_i a e
  rw [e] at hx
  obtain ⟨h1,h2,rfl⟩:=hx.inv_ptrA
  simp only [Option.some.injEq,Prod.mk.injEq] at hm
  obtain ⟨rfl,rfl⟩:=hm
  exact .same hs (by simp only [execOp,ho,hy];rfl) hx
 ·rename_i k f c e
  rw [e] at hx
  obtain ⟨f',c',rfl,_,_⟩:=hx.inv_func
  simp only [Option.some.injEq,Prod.mk.injEq] at hm
  obtain ⟨rfl,rfl⟩:=hm
  exact .same hs (by simp only [execOp,ho,hy];rfl) hx
 ·rename_i t u e
  rw [e] at hx
  obtain ⟨u',rfl,_⟩:=hx.inv_iface
  simp only [Option.some.injEq,Prod.mk.injEq] at hm
  obtain ⟨rfl,rfl⟩:=hm
  exact .same hs (by simp only [execOp,ho,hy];rfl) hx
 ·cases hm
theorem told_tasI (hs:Sim B w0 μ σ w) {x:Opd} {x' z:Value} {xt t:TypeId} {ok:Bool} {d:TypeDesc} (hu:P.underlying t=some d) (hd:∀ ms,d≠.interface ms) (hz:zero1 P t=some z)
 (hx:VR μ σ.size (mev ts x) x') (hm:mop ts σ (.tasI t ok z x)=some (v,τ)):Told P B w0 μ σ τ v (do pure (.value (← Instr.typeAssert x' xt t ok))) w:=by
 obtain ⟨hz1,hz2⟩:=zero1_spec hz
 have vz:VR μ σ.size z z:=.of_closed hz1
 simp only [mop] at hm
 split at hm
 ·rename_i u y e
  rw [e] at hx
  obtain ⟨y',rfl,hy⟩:=hx.inv_iface
  split at hm
  ·rename_i hut
   subst hut
   simp only [Option.some.injEq,Prod.mk.injEq] at hm
   obtain ⟨rfl,rfl⟩:=hm
   refine .same (v':=if ok then .tuple #[y',.bool true] else y') hs ?_ ?_
   ·cases d<;>first | exact absurd rfl (hd _) | (simp [Instr.typeAssert,run_und hu])
   ·cases ok
    ·simpa using hy
    ·exact .tuple (.cons hy (.cons (.bool _) .nil))
  ·rename_i hut
   split at hm
   ·rename_i hok
    subst hok
    simp only [Option.some.injEq,Prod.mk.injEq] at hm
    obtain ⟨rfl,rfl⟩:=hm
    refine .same (v':=.tuple #[z,.bool false]) hs ?_ (.tuple (.cons vz (.cons (.bool _) .nil)))
    cases d<;>first | exact absurd rfl (hd _) | (simp [Instr.typeAssert,run_und hu,hut,hz2])
   ·cases hm
 ·rename_i e
  rw [e] at hx
  obtain rfl:=hx.inv_nilIface
  split at hm
  ·rename_i hok
   subst hok
   simp only [Option.some.injEq,Prod.mk.injEq] at hm
   obtain ⟨rfl,rfl⟩:=hm
   refine .same (v':=.tuple #[z,.bool false]) hs ?_ (.tuple (.cons vz (.cons (.bool _) .nil)))
   cases d<;>first | exact absurd rfl (hd _) | (simp [Instr.typeAssert,run_und hu,hz2])
  ·cases hm
 ·cases hm
theorem firstL_len {sz n m:Nat} {x:Value} {vs vs':List Value} {k:Nat} (h:firstL σ sz n x=some vs) (hl:lenL x=some m) (hn:n≤m) (hv:VRs μ k vs vs'):vs'.length=n * sz:=by
 rw [hv.length]
 unfold firstL at h
 split at h
 ·unfold H.row at h
  split at h<;>first | (cases h;done) | skip
  all_goals exact (rowL_eq _ _ _ _ h).1
 ·simp only [Option.some.injEq] at h;subst h
  simp only [lenL,Option.some.injEq] at hl
  have:n=0:=by omega
  simp [this]
 ·rename_i s
  split at h
  ·rename_i h1
   simp only [Option.some.injEq] at h;subst h
   simp only [lenL,Option.some.injEq] at hl
   have:(s.extract 0 n).data.size=n:=by
    show (s.extract 0 n).size=n
    rw [ByteArray.size_extract];omega
   simp [bytesL,h1]
   omega
  ·cases h
 ·cases h
theorem splA_get:∀ (vs:List Value) (c:Array Value) (k i:Nat),k + vs.length≤c.size→(splA c k vs)[i]?=if k≤i∧i < k + vs.length then vs[i - k]? else c[i]?
 | [],c,k,i,h=>by simp only [splA,List.length_nil];rw [if_neg (by omega)]
 | v :: vs,c,k,i,h=>by
   simp only [List.length_cons] at h
   simp only [splA,List.length_cons]
   rw [splA_get vs _ (k + 1) i (by simp;omega)]
   by_cases h1:k + 1≤i∧i < k + 1 + vs.length
   ·rw [if_pos h1,if_pos (by omega),show i - k=(i - (k + 1)) + 1 by omega,List.getElem?_cons_succ]
   ·rw [if_neg h1,Array.getElem?_setIfInBounds]
    by_cases h2:k=i
    ·subst h2;rw [if_pos rfl,if_pos (by omega),if_pos (by omega)];simp
    ·rw [if_neg h2,if_neg (by omega)]
theorem Sim.kill (h:Sim B w0 μ σ w) (k:Nat):Sim B w0 μ (σ.set k .dead) w:=by
 have live:∀ {i o},(σ.set k .dead).get i=o→o≠.dead→σ.get i=o:=by
  intro i o hi ho
  by_cases e:i=k
  ·subst e
   rcases Nat.lt_or_ge i σ.size with x | x
   ·rw [H.get_set_self x] at hi;exact absurd hi.symm ho
   ·rw [(σ.set i .dead).wf i (by simpa using x)] at hi;exact absurd hi.symm ho
  ·rwa [H.get_set_ne e] at hi
 refine ⟨h.below,h.base,h.fx,h.wh,h.fin,fun i sz cs hc=>?_,fun i cs hc=>?_,fun i es c hc=>?_,fun i R hc=>?_,fun i T cs hc=>?_,fun i j hi hj hr hne=>?_⟩
 ·simpa using h.own i sz cs (live hc (by simp))
 ·simpa using h.ro i cs (live hc (by simp))
 ·simpa using h.map i es c (live hc (by simp))
 ·simpa using h.oth i R (live hc (by simp))
 ·simpa using h.typ i T cs (live hc (by simp))
 ·have ei:=live rfl hi
  have ej:=live rfl hj
  exact h.inj i j (by rw [ei];exact hi) (by rw [ej];exact hj) (fun cs=>by rw [ei];exact hr cs) hne
theorem firstL_zero {sz:Nat} {x:Value} {vs:List Value} (h:firstL σ sz 0 x=some vs):vs=[]:=by
 unfold firstL at h
 split at h
 ·simp only [Nat.zero_mul] at h
  unfold H.row at h
  split at h<;>first | (cases h;done) | skip
  all_goals (simp [rowL] at h;exact h)
 ·simpa using h.symm
 ·split at h
  ·simp only [Option.some.injEq] at h;subst h;simp [bytesL]
  ·cases h
 ·cases h
theorem run_first0 {n m sz:Nat} {x x':Value} (hx:VR μ n x x') (h:lenL x=some m) (w:World):(Builtin.firstCells sz 0 x').run P w=.ok #[] w:=by
 unfold lenL at h
 split at h
 ·rename_i a l c
  cases a with
  | none=>obtain ⟨rfl,rfl,_⟩:=hx.inv_nilSlice;rfl
  | some a=>obtain ⟨_,_,rfl,_⟩:=hx.inv_slice;simp only [Builtin.firstCells,Nat.zero_mul];rfl
 ·obtain rfl:=hx.inv_string
  simp only [Builtin.firstCells,Sem.run_pure]
  congr 1
  apply Array.toList_inj.1
  simp
 ·cases h
theorem told_cpy (hs:Sim B w0 μ σ w) {x y:Opd} {x' y':Value} {t e ty:TypeId} {n:Nat} {ats:Array TypeId} (ht:ats[0]?=some t) (hu:P.underlying t=some (.slice e)) (hn:sizeT P e=some n)
 (hx:VR μ σ.size (mev ts x) x') (hy:VR μ σ.size (mev ts y) y') (hm:mop ts σ (.cpy n x y)=some (v,τ)):
 Told P B w0 μ σ τ v (do pure (.value (← Builtin.copy_ ats ty #[x',y']))) w:=by
 have a0:(#[x',y']:Array Value)[0]?=some x':=rfl
 have a1:(#[x',y']:Array Value)[1]?=some y':=rfl
 simp only [mop] at hm
 split at hm
 ·rename_i q e1 e2
  rw [e1] at hx
  obtain ⟨rfl,_,_⟩:=hx.inv_nilSlice
  simp only [Option.some.injEq,Prod.mk.injEq] at hm
  obtain ⟨rfl,rfl⟩:=hm
  have hl:=lenL_sound (P:=P) hy e2 w
  have hf:=run_first0 (P:=P) (sz:=n) hy e2 w
  refine .same (v':=.int .i64 0) hs ?_ (.int _ _)
  simp only [Builtin.copy_,ht,a0,a1,Sem.run_bind,run_und hu,Result.andThen_ok,hl,run_size hn,Nat.min_zero,hf,goInt]
  simp [hf]
 ·rename_i id off len cap q e1 e2
  rw [e1] at hx
  obtain ⟨cap',o',rfl,_,hid,hlc,hc,ho,hz,hex⟩:=hx.inv_slice
  dsimp only at hid ho hz hex
  have hl:=lenL_sound (P:=P) hy e2 w
  split at hm
  ·rename_i vs hf
   cases hp:putRow σ id off vs with
   | none=>rw [hp] at hm;cases hm
   | some τ'=>
     rw [hp] at hm
     simp only [Option.map_some,Option.some.injEq,Prod.mk.injEq] at hm
     obtain ⟨rfl,rfl⟩:=hm
     obtain ⟨vs',h1,h2⟩:=run_first (P:=P) hs hf e2 (Nat.min_le_left _ _) hy
     obtain ⟨w',h3,h4,h5⟩:=hs.putRow (P:=P) h2 hp
     have hst:(storeCells ⟨(μ id).b,o',none⟩ vs').run P w=.ok () w':=by
      rcases Nat.eq_zero_or_pos cap with e | e
      ·have:Nat.min q len=0:=(show min q len=0 by omega)
       rw [this] at hf
       have hv:=firstL_zero hf
       subst hv
       cases h2
       have:(storeCells ⟨(μ id).b,(μ id).o + off,none⟩ []).run P w=.ok () w:=rfl
       rw [this] at h3
       cases h3
       rfl
      ·rw [ho e];exact h3
     refine ⟨.int .i64 (Nat.min q len:Nat),w',μ,.inl ?_,h4,.int _ _,.refl _ _,Nat.le_of_eq h5.symm⟩
     simp only [Builtin.copy_,ht,a0,a1,Sem.run_bind,run_und hu,Result.andThen_ok,hl,run_size hn,h1,goInt]
     simp [hst]
  ·cases hm
 ·cases hm
theorem told_clr (hs:Sim B w0 μ σ w) {x:Opd} {x':Value} {t e ty:TypeId} {zs:List Value} {ats:Array TypeId} (ht:ats[0]?=some t) (hu:P.underlying t=some (.slice e)) (hz:zeroL P e=some zs) (h0:zs.length≠0)
 (hx:VR μ σ.size (mev ts x) x') (hm:mop ts σ (.clr zs x)=some (v,τ)):
 Told P B w0 μ σ τ v (do pure (.value (← Builtin.clear_ ats ty #[x']))) w:=by
 obtain ⟨i',z,hi',hz1,hz2,hz3,hz4,hz5⟩:=zeroL_spec hz
 have a0:(#[x']:Array Value)[0]?=some x':=rfl
 simp only [mop] at hm
 split at hm
 ·rename_i e1
  rw [e1] at hx
  obtain ⟨rfl,_,_⟩:=hx.inv_nilSlice
  simp only [Option.some.injEq,Prod.mk.injEq] at hm
  obtain ⟨rfl,rfl⟩:=hm
  refine .same (v':=undef) hs ?_ (.tuple .nil)
  simp only [Builtin.clear_,ht,a0,Sem.run_bind,run_und hu,Result.andThen_ok,Sem.run_pure]
  rfl
 ·rename_i id off len cap e1
  rw [e1] at hx
  obtain ⟨cap',o',rfl,_,hid,hlc,hc,ho,hzz,hex⟩:=hx.inv_slice
  dsimp only at hid ho hzz hex
  split at hm
  ·rename_i hl0
   subst hl0
   simp only [Option.some.injEq,Prod.mk.injEq] at hm
   obtain ⟨rfl,rfl⟩:=hm
   refine .same (v':=undef) hs ?_ (.tuple .nil)
   simp only [Builtin.clear_,ht,a0,Sem.run_bind,run_und hu,Result.andThen_ok,Sem.run_pure]
   rfl
  ·rename_i hl0
   cases hp:putRow σ id off (repZ zs len) with
   | none=>rw [hp] at hm;cases hm
   | some τ'=>
     rw [hp] at hm
     simp only [Option.map_some,Option.some.injEq,Prod.mk.injEq] at hm
     obtain ⟨rfl,rfl⟩:=hm
     obtain ⟨w',h3,h4,h5⟩:=hs.putRow (P:=P) (VRs.of_plain (repZ_plain hz3 len)) hp
     rw [← ho (by omega)] at h3
     have hzc:(Builtin.zeroCells z.cells len).toList=repZ zs len:=by rw [zeroCells_eq hz2 len h0]
     refine ⟨undef,w',μ,.inl ?_,h4,.tuple .nil,.refl _ _,Nat.le_of_eq h5.symm⟩
     obtain ⟨m,rfl⟩:∃ m,len=m + 1:=⟨len - 1,by omega⟩
     simp only [Builtin.clear_,ht,a0,Sem.run_bind,run_und hu,Result.andThen_ok,hz5,hzc,h3,Sem.run_pure]
     rfl
 ·cases hm
section appends
variable {t e t2 ty:TypeId} {d2:TypeDesc} {i:TypeInfo} {z:Value} {ats:Array TypeId}
theorem append_in (ht:ats[0]?=some t) (ht2:ats[1]?=some t2) (hu:P.underlying t=some (.slice e)) (hu2:P.underlying t2=some d2) (hd2:∀ k,d2≠.int k) (hi:P.info? e=some i)
 {a:Addr} {len cap n:Nat} {y':Value} {w':World} {vs':List Value} (hl:(Builtin.lenOf y').run P w=.ok n w) (hc:len + n≤cap) (hf:(Builtin.firstCells i.size n y').run P w=.ok vs'.toArray w)
 (hst:(storeCells (a.add (len * i.size)) vs').run P w=.ok () w'):(Builtin.append_ ats ty #[.slice (some a) len cap,y']).run P w=.ok (.slice (some a) (len + n) cap) w':=by
 have a0:(#[.slice (some a) len cap,y']:Array Value)[0]?=some (.slice (some a) len cap):=rfl
 have a1:(#[.slice (some a) len cap,y']:Array Value)[1]?=some y':=rfl
 have hn:∀ w,(sizeOf e).run P w=.ok i.size w:=run_size (by simp [sizeT,hi])
 cases d2<;>first | exact absurd rfl (hd2 _) | skip
 all_goals
  simp only [Builtin.append_,ht,a0,a1,ht2,Sem.run_bind,run_und hu,run_und hu2,Result.andThen_ok,hn,Sem.run_pure,Bool.false_eq_true,if_false,Bool.not_false,if_true,hl,hc,hf,hst]
theorem append_nil (ht:ats[0]?=some t) (ht2:ats[1]?=some t2) (hu:P.underlying t=some (.slice e)) (hu2:P.underlying t2=some d2) (hd2:∀ k,d2≠.int k) (hi:P.info? e=some i)
 {y':Value} {vs':Array Value} (hl:(Builtin.lenOf y').run P w=.ok 0 w) (hf:(Builtin.firstCells i.size 0 y').run P w=.ok vs' w):
 (Builtin.append_ ats ty #[.slice none 0 0,y']).run P w=.ok (.slice none 0 0) w:=by
 have a0:(#[.slice none 0 0,y']:Array Value)[0]?=some (.slice none 0 0):=rfl
 have a1:(#[.slice none 0 0,y']:Array Value)[1]?=some y':=rfl
 have hn:∀ w,(sizeOf e).run P w=.ok i.size w:=run_size (by simp [sizeT,hi])
 cases d2<;>first | exact absurd rfl (hd2 _) | skip
 all_goals
  simp only [Builtin.append_,ht,a0,a1,ht2,Sem.run_bind,run_und hu,run_und hu2,Result.andThen_ok,hn,Sem.run_pure,Bool.false_eq_true,if_false,Bool.not_false,if_true,hl,hf,Nat.add_zero,Nat.le_refl]
theorem append_grow (ht:ats[0]?=some t) (ht2:ats[1]?=some t2) (hu:P.underlying t=some (.slice e)) (hu2:P.underlying t2=some d2) (hd2:∀ k,d2≠.int k) (hi:P.info? e=some i)
 (hb0:i.bytes≠0) (hb:i.bytes≤128) (hz5:∀ w,(zeroValue e).run P w=.ok z w)
 {base:Option Addr} {len cap n:Nat} {y':Value} {old new:List Value} (hl:(Builtin.lenOf y').run P w=.ok n w) (hc:¬ len + n≤cap) (hmax:len + n≤appMax)
 (ho:(Builtin.firstCells i.size len (.slice base len cap)).run P { w with drawn:=w.drawn + 1 }=.ok old.toArray { w with drawn:=w.drawn + 1 })
 (hf:(Builtin.firstCells i.size n y').run P { w with drawn:=w.drawn + 1 }=.ok new.toArray { w with drawn:=w.drawn + 1 }):
 (Builtin.append_ ats ty #[.slice base len cap,y']).run P w=.ok (.slice (some ⟨w.heap.size,0,none⟩) (len + n) (capOf w (len + n) cap e))
   { w with drawn:=w.drawn + 1,heap:=w.heap.push (.cells (old.toArray ++ new.toArray ++ Builtin.zeroCells z.cells (capOf w (len + n) cap e - (len + n))) e (0,0)) }:=by
 have a0:(#[.slice base len cap,y']:Array Value)[0]?=some (.slice base len cap):=rfl
 have a1:(#[.slice base len cap,y']:Array Value)[1]?=some y':=rfl
 have hn:∀ w,(sizeOf e).run P w=.ok i.size w:=run_size (by simp [sizeT,hi])
 have hov:¬ (Builtin.nextslicecap (len + n) cap * i.bytes > 2 ^ 48):=by
  have h1:=nextcap_le (need:=len + n) (old:=cap) (by omega)
  have h2:Builtin.nextslicecap (len + n) cap * i.bytes≤(2 * (len + n) + 192) * 128:=Nat.mul_le_mul h1 hb
  unfold appMax at hmax
  omega
 have hin:¬ (((len + n:Nat):Int) > IntKind.i64.max∧(False∨i.bytes=0)):=by
  intro h;rcases h.2 with h | h
  ·exact h
  ·exact hb0 h
 cases d2<;>first | exact absurd rfl (hd2 _) | skip
 all_goals
  simp only [Builtin.append_,ht,a0,a1,ht2,Sem.run_bind,run_und hu,run_und hu2,Result.andThen_ok,hn,Sem.run_pure,Bool.false_eq_true,if_false,Bool.not_false,if_true,hl,hc,run_info hi,hin,hov,
   run_cap,run_askRoom,ho,hf,hz5,Go.newRow,run_newObj]
end appends
theorem told_app (hs:Sim B w0 μ σ w) {x y:Opd} {x' y':Value} {t e t2 ty:TypeId} {d2:TypeDesc} {i:TypeInfo} {zs:List Value} {ats:Array TypeId} (ht:ats[0]?=some t) (ht2:ats[1]?=some t2)
 (hu:P.underlying t=some (.slice e)) (hu2:P.underlying t2=some d2) (hd2:∀ k,d2≠.int k) (hi:P.info? e=some i) (hb0:i.bytes≠0) (hs0:i.size≠0) (hz:zeroL P e=some zs)
 (hx:VR μ σ.size (mev ts x) x') (hy:VR μ σ.size (mev ts y) y') (hm:mop ts σ (.app i.size i.bytes x y)=some (v,τ)):
 Told P B w0 μ σ τ v (do pure (.value (← Builtin.append_ ats ty #[x',y']))) w:=by
 obtain ⟨i',z,hi',hz1,hz2,hz3,hz4,hz5⟩:=zeroL_spec hz
 rw [hi] at hi'
 cases hi'
 have a0:(#[x',y']:Array Value)[0]?=some x':=rfl
 have a1:(#[x',y']:Array Value)[1]?=some y':=rfl
 have hn:sizeT P e=some i.size:=by simp [sizeT,hi]
 have hnot:(match d2 with | .int _=>true | _=>false)=false:=by cases d2<;>first | rfl | exact absurd rfl (hd2 _)
 have hzc:∀ k,Builtin.zeroCells z.cells k=(repZ zs k).toArray:=fun k=>zeroCells_eq hz2 k (by omega)
 simp only [mop] at hm
 split at hm
 ·rename_i n e1 e2
  rw [e1] at hx
  obtain ⟨rfl,_,_⟩:=hx.inv_nilSlice
  have hl:=lenL_sound (P:=P) hy e2 w
  split at hm
  ·rename_i hn0
   subst hn0
   simp only [Option.some.injEq,Prod.mk.injEq] at hm
   obtain ⟨rfl,rfl⟩:=hm
   exact .same hs (by rw [Sem.run_bind,append_nil ht ht2 hu hu2 hd2 hi hl (run_first0 hy e2 w)];rfl) .nilSlice
  ·rename_i hn0
   split at hm
   ·rename_i hb
    split at hm
    ·rename_i vs hf
     simp only [Option.some.injEq,Prod.mk.injEq] at hm
     obtain ⟨rfl,rfl⟩:=hm
     have hs1:Sim B w0 μ σ { w with drawn:=w.drawn + 1 }:=hs.drewN 1
     obtain ⟨vs',h1,h2⟩:=run_first (P:=P) hs1 hf e2 (Nat.le_refl _) hy
     have hrun:=append_grow (P:=P) (w:=w) (ty:=ty) (base:=none) (len:=0) (cap:=0) (old:=[]) ht ht2 hu hu2 hd2 hi hb0 hb.2 hz5 hl (by omega) (by rw [Nat.zero_add];exact hb.1) (by rfl) h1
     rw [Nat.zero_add] at hrun
     have hle:n≤capOf w n 0 e:=Nat.le_add_right _ _
     generalize capOf w n 0 e=cap at hrun hle
     rw [hzc] at hrun
     have hcells:(([]:List Value).toArray ++ vs'.toArray ++ (repZ zs (cap - n)).toArray)=(vs' ++ repZ zs (cap - n)).toArray:=by apply Array.toList_inj.1;simp
     rw [hcells] at hrun
     have hsim:=hs1.newRow (sz:=i.size) (more:=repZ zs (cap - n)) h2 e (fz:=(0,0)) (unfrozen0 _)
     have hlen:vs'.length=n * i.size:=firstL_len hf e2 (Nat.le_refl _) h2
     refine ⟨_,_,_,.inl (by rw [Sem.run_bind,hrun];rfl),hsim,setMu_slice μ σ.size _ (Nat.le_refl _) hle (fun _=>?_) (fun hh=>?_),.setMu _ _,by simp⟩
     ·simp only [hlen,repZ_length,hz4]
      rw [← Nat.add_mul]
      have:n + (cap - n)=cap:=by omega
      rw [this];omega
     ·simp at hh;omega
    ·cases hm
   ·cases hm
 ·rename_i id off len cap n e1 e2
  rw [e1] at hx
  obtain ⟨cap',o',rfl,_,hid,hlc,hc,ho,hz,hex⟩:=hx.inv_slice
  dsimp only at hid ho hz hex
  have hl:=lenL_sound (P:=P) hy e2 w
  split at hm
  ·rename_i hin
   split at hm
   ·rename_i vs hf
    cases hp:putRow σ id (off + len * i.size) vs with
    | none=>rw [hp] at hm;cases hm
    | some τ'=>
      rw [hp] at hm
      simp only [Option.map_some,Option.some.injEq,Prod.mk.injEq] at hm
      obtain ⟨rfl,rfl⟩:=hm
      obtain ⟨vs',h1,h2⟩:=run_first (P:=P) hs hf e2 (Nat.le_refl _) hy
      obtain ⟨w',h3,h4,h5⟩:=hs.putRow (P:=P) h2 hp
      have hst:(storeCells ((⟨(μ id).b,o',none⟩:Addr).add (len * i.size)) vs').run P w=.ok () w':=by
       rcases Nat.eq_zero_or_pos cap with e | e
       ·have:n=0:=by omega
        rw [this] at hf
        have hv:=firstL_zero hf
        subst hv
        cases h2
        have:(storeCells ⟨(μ id).b,(μ id).o + (off + len * i.size),none⟩ []).run P w=.ok () w:=rfl
        rw [this] at h3
        cases h3
        rfl
       ·rw [ho e,addr_add,Nat.add_assoc];exact h3
      refine ⟨_,w',μ,.inl (by rw [Sem.run_bind,append_in ht ht2 hu hu2 hd2 hi hl (by omega) h1 hst];rfl),h4,?_,.refl _ _,Nat.le_of_eq h5.symm⟩
      rw [h5]
      exact .slice hid hin hc ho hz hex
   ·cases hm
  ·rename_i hin
   split at hm
   ·rename_i hb
    split at hm
    ·rename_i s cs old vs hg hrow' hf
     split at hm
     ·rename_i hone
      simp only [Option.some.injEq,Prod.mk.injEq] at hm
      obtain ⟨rfl,rfl⟩:=hm
      have hsz:=(hs.own id s cs hg).1
      have hlold:lenL (mev ts x)=some len:=by rw [e1];rfl
      have hfold:firstL σ i.size len (mev ts x)=some old:=by rw [e1];exact hrow'
      have hx0:VR μ σ.size (mev ts x) (.slice (some ⟨(μ id).b,o',none⟩) len cap'):=by rw [e1];exact .slice hid hlc hc ho hz hex
      have hlt:=H.lt_of_cells hg
      by_cases hreal:len + n≤cap'
      ·
       have hsne:s=i.size:=by
        rcases hone.2 with h | h
        ·exact h
        ·have:=hex (hsz.2.2 h);omega
       subst hsne
       obtain ⟨vs',h1,h2⟩:=run_first (P:=P) hs hf e2 (Nat.le_refl _) hy
       have hvl:vs'.length=n * i.size:=firstL_len hf e2 (Nat.le_refl _) h2
       obtain ⟨_,cs',t',fz,g1,⟨g2,g3⟩,g4⟩:=hs.own id i.size cs hg
       have hroom:o' + len * i.size + vs'.length≤cs'.size:=by
        have:=hz (by rw [hsz.2.1];exact hs0)
        rw [hsz.2.1,← g3] at this
        have h4:(len + n) * i.size≤cap' * i.size:=Nat.mul_le_mul_right _ hreal
        rw [Nat.add_mul] at h4
        omega
       have hvone:vs'.all one=true:=by
        rw [h2.one_all]
        have:=hone.1
        rw [List.all_append,Bool.and_eq_true] at this
        exact this.2
       have hst:=run_storeRow P (μ id).b o' t' fz vs' (len * i.size) cs' w g1 g2 hroom hvone
       have hst':(storeCells ((⟨(μ id).b,o',none⟩:Addr).add (len * i.size)) vs').run P w=.ok () { w with heap:=w.heap.setIfInBounds (μ id).b (.cells (splA cs' (o' + len * i.size) vs') t' fz) }:=by
        have:=run_storeRow P (μ id).b (o' + len * i.size) t' fz vs' 0 cs' w g1 g2 (by omega) hvone
        rw [addr_add];exact this
       have hsim1:=hs.setOwn (o:=.dead) hg (w':={ w with heap:=w.heap.setIfInBounds (μ id).b (.cells (splA cs' (o' + len * i.size) vs') t' fz) }) rfl
        ⟨fun j hj=>g2 j (by simpa [splA_size] using hj),by rw [splA_size];exact g3⟩ (.inr rfl)
       have hin2:(μ id).b < w.heap.size:=hs.fin id hlt
       have hsim2:=hsim1.push' (sz:=i.size) (cs:=old ++ vs) (cs':=splA cs' (o' + len * i.size) vs') (t:=t') (fz:=fz) (p:=⟨(μ id).b,o',i.size,(μ id).n,false⟩) hsz.1 (by simpa using hin2) rfl
        (fun h=>absurd h hs0) (by simp [Array.getElem?_setIfInBounds,hin2]) ⟨fun j hj=>g2 j (by simpa [splA_size] using hj),by rw [splA_size];exact g3⟩
        (fun j u hu=>by
          have hol:old.length=len * i.size:=by
           have hro:=hrow'
           unfold H.row at hro
           rw [hg] at hro
           exact (rowL_eq _ _ _ _ hro).1
          simp only [H.size_set]
          by_cases hj:j < old.length
          ·rw [List.getElem?_append_left hj] at hu
           have hpos:0 < len:=by
            rcases Nat.eq_zero_or_pos len with e | e
            ·rw [e] at hol;omega
            ·exact e
           have ho2:=ho (by omega)
           have hro:=hrow'
           unfold H.row at hro
           rw [hg] at hro
           have hge:=(rowL_eq _ _ _ _ hro).2 j (by omega)
           rw [hge] at hu
           obtain ⟨u',k1,k2⟩:=g4 _ _ hu
           refine ⟨u',?_,k2⟩
           rw [splA_get _ _ _ _ hroom,if_neg (by omega),ho2,Nat.add_assoc]
           exact k1
          ·rw [List.getElem?_append_right (by omega)] at hu
           obtain ⟨u',k1,k2⟩:=h2.get hu
           refine ⟨u',?_,k2⟩
           have hju:j - old.length < vs'.length:=by
            rcases Nat.lt_or_ge (j - old.length) vs'.length with x | x
            ·exact x
            ·rw [List.getElem?_eq_none x] at k1;cases k1
           show (splA cs' (o' + len * i.size) vs')[o' + j]?=some u'
           rw [splA_get _ _ _ _ hroom,if_pos (by omega),show o' + j - (o' + len * i.size)=j - old.length by omega]
           exact k1)
        (fun k hk=>by
          have hki:k≠id:=fun e=>by subst e;rw [H.get_set_self hlt] at hk;exact hk rfl
          rw [H.get_set_ne hki] at hk
          exact Ne.symm (hs.inj id k (by rw [hg];simp) hk (fun cs=>by rw [hg];simp) (Ne.symm hki)))
       have hrun:=append_in (P:=P) (ty:=ty) ht ht2 hu hu2 hd2 hi hl hreal h1 hst'
       have hvr:=setMu_slice μ σ.size ⟨(μ id).b,o',i.size,(μ id).n,false⟩ (len:=len + n) (cap:=len + n) (cap':=cap') (Nat.le_refl _) hreal
        (fun _=>by have:=hz (by rw [hsz.2.1];exact hs0);rw [hsz.2.1] at this;exact this) (by simp)
       refine ⟨_,_,_,.inl (by rw [Sem.run_bind,hrun];rfl),hsim2,?_,?_,by simp⟩
       ·simpa using hvr
       ·simpa using Agr.setMu μ (n:=σ.size) ⟨(μ id).b,o',i.size,(μ id).n,false⟩
      ·have hs1:Sim B w0 μ σ { w with drawn:=w.drawn + 1 }:=hs.drewN 1
       obtain ⟨vs',h1,h2⟩:=run_first (P:=P) hs1 hf e2 (Nat.le_refl _) hy
       obtain ⟨old',h3,h4⟩:=run_first (P:=P) hs1 hfold hlold (Nat.le_refl _) hx0
       have hrun:=append_grow (P:=P) (w:=w) (ty:=ty) ht ht2 hu hu2 hd2 hi hb0 hb.2 hz5 hl hreal hb.1 h3 h1
       have hle:len + n≤capOf w (len + n) cap' e:=Nat.le_add_right _ _
       generalize capOf w (len + n) cap' e=c2 at hrun hle
       rw [hzc] at hrun
       have hcells:(old'.toArray ++ vs'.toArray ++ (repZ zs (c2 - (len + n))).toArray)=((old' ++ vs') ++ repZ zs (c2 - (len + n))).toArray:=by apply Array.toList_inj.1;simp
       rw [hcells] at hrun
       have hsim:=(hs1.kill id).newRow (sz:=i.size) (cs:=old ++ vs) (more:=repZ zs (c2 - (len + n))) (by simpa using h4.append h2) e (fz:=(0,0)) (unfrozen0 _)
       have hlen1:vs'.length=n * i.size:=firstL_len hf e2 (Nat.le_refl _) h2
       have hlen2:old'.length=len * i.size:=firstL_len hfold hlold (Nat.le_refl _) h4
       have hvr:=setMu_slice μ σ.size ⟨w.heap.size,0,i.size,(old' ++ vs').length + (repZ zs (c2 - (len + n))).length,i.size == 0⟩ (len:=len + n) (cap:=len + n) (cap':=c2) (Nat.le_refl _) hle
        (fun _=>by
          simp only [List.length_append,hlen1,hlen2,repZ_length,hz4]
          rw [← Nat.add_mul,← Nat.add_mul]
          have:len + n + (c2 - (len + n))=c2:=by omega
          rw [this];omega) (fun hh=>by simp at hh;omega)
       refine ⟨_,_,_,.inl (by rw [Sem.run_bind,hrun];rfl),hsim,?_,?_,by simp⟩
       ·simpa using hvr
       ·simpa using Agr.setMu μ (n:=σ.size) _
     ·cases hm
    ·cases hm
   ·cases hm
 ·cases hm
end
end Go.Mini
namespace Go.Mini
open Go.RowKit (Below)
section
variable {P:Program} {B:Fz} {w0 w:World} {μ:Nat→Blk} {σ τ:H} {ts:Fr} {v:Value}
theorem EntriesR.mono {μ μ':Nat→Blk} {n n':Nat} (hn:n≤n') (hm:∀ i,i < n→μ' i=μ i) {es:List (Value × Value)} {es':Array MapEntry} (h:EntriesR μ n es es'):EntriesR μ' n' es es':=
 ⟨h.1,fun j k v e=>let ⟨e',a,b,c⟩:=h.2 j k v e;⟨e',a,b.mono hn hm,c.mono hn hm⟩⟩
theorem Sim.pushMap (h:Sim B w0 μ σ w):Sim B w0 (setMu μ σ.size ⟨w.heap.size,0,0,0,true⟩) (σ.push (.map [] 0)) { w with heap:=w.heap.push (.map #[] 0) }:=by
 have hb:Below w.heap.size w { w with heap:=w.heap.push (.map #[] 0) }:=
  ⟨rfl,rfl,rfl,by simp,fun k hk=>by simp [Array.getElem?_push];intro e;omega⟩
 have hag:Agr σ.size μ (setMu μ σ.size ⟨w.heap.size,0,0,0,true⟩):=.setMu μ _
 have hs:σ.size≤(σ.push (.map [] 0)).size:=by simp
 have h':=h.of_grown hb
 refine ⟨h'.below,h'.base,h'.fx,h'.wh,?_,?_,?_,?_,?_,?_,?_⟩
 ·intro i hi
  simp only [H.size_push] at hi
  by_cases e:i=σ.size
  ·subst e;rw [setMu_self];simp
  ·rw [hag i (by omega)];exact h'.fin i (by omega)
 ·intro i s ds hd
  by_cases e:i=σ.size
  ·subst e;rw [H.get_push_self] at hd;cases hd
  ·rw [H.get_push_ne e] at hd
   have hi:=H.lt_of_cells hd
   rw [hag i hi]
   obtain ⟨h1,ds',t',fz',h2,h3,h4⟩:=h'.own i s ds hd
   exact ⟨h1,ds',t',fz',h2,h3,h4.mono hs hag⟩
 ·intro i ds hd
  by_cases e:i=σ.size
  ·subst e;rw [H.get_push_self] at hd;cases hd
  ·rw [H.get_push_ne e] at hd
   have hi:=H.lt_of_live (σ:=σ) (i:=i) (by rw [hd];simp)
   rw [hag i hi]
   obtain ⟨h0,ds',t',fz',h2,h4⟩:=h'.ro i ds hd
   exact ⟨h0,ds',t',fz',h2,h4.mono hs hag⟩
 ·intro i es c hd
  by_cases e:i=σ.size
  ·subst e
   rw [H.get_push_self] at hd
   cases hd
   rw [setMu_self]
   exact ⟨h.next,#[],by simp,rfl,fun j k v e=>by simp at e⟩
  ·rw [H.get_push_ne e] at hd
   have hi:=H.lt_of_live (σ:=σ) (i:=i) (by rw [hd];simp)
   rw [hag i hi]
   obtain ⟨h1,es',h2,h3⟩:=h'.map i es c hd
   exact ⟨h1,es',h2,h3.mono hs hag⟩
 ·intro i R hd
  by_cases e:i=σ.size
  ·subst e;rw [H.get_push_self] at hd;cases hd
  ·rw [H.get_push_ne e] at hd
   have hi:=H.lt_of_live (σ:=σ) (i:=i) (by rw [hd];simp)
   rw [hag i hi]
   obtain ⟨h1,o,h2,h3⟩:=h'.oth i R hd
   exact ⟨h1,o,h2,R.mono hs hag h3⟩
 ·intro i T ds hd
  by_cases e:i=σ.size
  ·subst e;rw [H.get_push_self] at hd;cases hd
  ·rw [H.get_push_ne e] at hd
   have hi:=H.lt_of_live (σ:=σ) (i:=i) (by rw [hd];simp)
   rw [hag i hi]
   obtain ⟨h1,h0,ds',h2,h3,h4⟩:=h'.typ i T ds hd
   exact ⟨h1,h0,ds',h2,h3,h4.mono hs hag⟩
 ·intro i j hi hj hr hne
  by_cases ei:i=σ.size
  ·subst ei
   have ej:j≠σ.size:=fun e=>hne e.symm
   rw [H.get_push_ne ej] at hj
   have hj':=H.lt_of_live hj
   rw [setMu_self,hag j hj']
   have:=h.fin j hj'
   show w.heap.size≠_
   omega
  ·rw [H.get_push_ne ei] at hi
   have hi':=H.lt_of_live hi
   by_cases ej:j=σ.size
   ·subst ej
    rw [setMu_self,hag i hi']
    have:=h.fin i hi'
    show _≠w.heap.size
    omega
   ·rw [H.get_push_ne ej] at hj
    rw [hag i hi',hag j (H.lt_of_live hj)]
    exact h.inj i j hi hj (fun cs=>by have:=hr cs;rwa [H.get_push_ne ei] at this) hne
theorem Sim.setMap {k c c2:Nat} {es es2:List (Value × Value)} {es2':Array MapEntry} (h:Sim B w0 μ σ w) (hk:σ.get k=.map es c) (he:EntriesR μ σ.size es2 es2'):
 Sim B w0 μ (σ.set k (.map es2 c2)) { w with heap:=w.heap.setIfInBounds (μ k).b (.map es2' c2) }:=by
 have hlt:=H.lt_of_live (σ:=σ) (i:=k) (by rw [hk];simp)
 obtain ⟨hB,_,hold,_⟩:=h.map k es c hk
 have hin:(μ k).b < w.heap.size:=h.fin k hlt
 have other:∀ b,b≠(μ k).b→({ w with heap:=w.heap.setIfInBounds (μ k).b (.map es2' c2) }:World).heap[b]?=w.heap[b]?:=fun b hb=>by
  simp [Array.getElem?_setIfInBounds,Ne.symm hb]
 have same:({ w with heap:=w.heap.setIfInBounds (μ k).b (.map es2' c2) }:World).heap[(μ k).b]?=some (.map es2' c2):=by simp [Array.getElem?_setIfInBounds,hin]
 have apart:∀ i,i≠k→σ.get i≠.dead→(μ i).b≠(μ k).b:=fun i hi hd=>Ne.symm (h.inj k i (by rw [hk];simp) hd (fun cs=>by rw [hk];simp) (Ne.symm hi))
 refine ⟨h.below.trans ⟨rfl,rfl,rfl,by simp,fun b hb=>other b (by have:=hB.1;omega)⟩,by simpa using h.base,fun k' o e=>by rw [other k' (fun e2=>by have:=hB.2;rw [← e2,e] at this;cases this)];exact h.fx k' o e,h.wh,by simpa using h.fin,?_,?_,?_,?_,?_,?_⟩
 ·intro i s ds hd
  by_cases e:i=k
  ·subst e;rw [H.get_set_self hlt] at hd;cases hd
  ·rw [H.get_set_ne e] at hd
   obtain ⟨h1,ds',t',fz',h2,h3,h4⟩:=h.own i s ds hd
   exact ⟨h1,ds',t',fz',by rw [other _ (apart i e (by rw [hd];simp))];exact h2,h3,by simpa using h4⟩
 ·intro i ds hd
  by_cases e:i=k
  ·subst e;rw [H.get_set_self hlt] at hd;cases hd
  ·rw [H.get_set_ne e] at hd
   obtain ⟨h0,ds',t',fz',h2,h4⟩:=h.ro i ds hd
   exact ⟨h0,ds',t',fz',by rw [other _ (apart i e (by rw [hd];simp))];exact h2,by simpa using h4⟩
 ·intro i es3 c3 hd
  by_cases e:i=k
  ·subst e
   rw [H.get_set_self hlt] at hd
   cases hd
   exact ⟨hB,es2',same,by simpa using he⟩
  ·rw [H.get_set_ne e] at hd
   obtain ⟨h1,es',h2,h3⟩:=h.map i es3 c3 hd
   exact ⟨h1,es',by rw [other _ (apart i e (by rw [hd];simp))];exact h2,by simpa using h3⟩
 ·intro i R hd
  by_cases e:i=k
  ·subst e;rw [H.get_set_self hlt] at hd;cases hd
  ·rw [H.get_set_ne e] at hd
   obtain ⟨h1,o,h2,h3⟩:=h.oth i R hd
   exact ⟨h1,o,by rw [other _ (apart i e (by rw [hd];simp))];exact h2,by simpa using h3⟩
 ·intro i T ds hd
  by_cases e:i=k
  ·subst e;rw [H.get_set_self hlt] at hd
   cases hd
  ·rw [H.get_set_ne e] at hd
   obtain ⟨h1,h0,ds',h2,h3,h4⟩:=h.typ i T ds hd
   exact ⟨h1,h0,ds',by rw [other _ (apart i e (by rw [hd];simp))];exact h2,h3,by simpa using h4⟩
 ·intro i j hi hj hr hne
  have live:∀ x,(σ.set k (.map es2 c2)).get x≠.dead→σ.get x≠.dead:=fun x hx=>by
   by_cases e:x=k
   ·subst e;rw [hk];simp
   ·rwa [H.get_set_ne e] at hx
  refine h.inj i j (live i hi) (live j hj) (fun ds=>?_) hne
  by_cases e:i=k
  ·subst e;rw [hk];simp
  ·have:=hr ds;rwa [H.get_set_ne e] at this
theorem bytes_eq {a b:ByteArray} (h:(a == b)=true):a=b:=by
 rw [beq_toListBytes] at h
 have h':=eq_of_beq h
 rw [ByteArray.toList_eq,ByteArray.toList_eq] at h'
 obtain ⟨⟨a⟩⟩:=a
 obtain ⟨⟨b⟩⟩:=b
 simp at h'
 rw [h']
theorem bytes_refl (a:ByteArray):(a == a)=true:=by rw [beq_toListBytes];simp
def KeyT:TypeDesc→Prop
 | .int _ | .string | .bool=>True
 | _=>False
theorem keyEq_plain {a b:Value} {r:Bool} (h:keyEq a b=some r):plain a=true∧plain b=true:=by
 unfold keyEq at h
 split at h<;>first | exact ⟨rfl,rfl⟩ | cases h
def keyIs:TypeDesc→Value→Bool
 | .int _,.int _ _=>true
 | .string,.string _=>true
 | .bool,.bool _=>true
 | _,_=>false
theorem sameNow_of {d:TypeDesc} {a b:Value} {r:Bool} (h:keyEq a b=some r) (hd:keyIs d a=true):Instr.sameNow d a b=some r:=by
 unfold keyEq at h
 split at h
 ·split at h
  ·rename_i hk
   simp only [Option.some.injEq] at h
   cases d<;>simp [keyIs] at hd
   simp [Instr.sameNow,hk,h]
  ·cases h
 ·cases d<;>simp [keyIs] at hd
  simpa [Instr.sameNow] using h
 ·cases d<;>simp [keyIs] at hd
  simpa [Instr.sameNow] using h
 ·cases h
theorem lookL_sound {n:Nat} {d:TypeDesc} {k:Value} (hd:keyIs d k=true):∀ {es:List (Value × Value)} {es':List MapEntry} {i:Nat} {r:Option (Nat × Value)},lookL k es i=some r→
 es'.length=es.length→(∀ (j:Nat) (a b:Value),es[j]?=some (a,b)→∃ e':MapEntry,es'[j]?=some e'∧VR μ n a e'.key∧VR μ n b e'.val)→
 ∃ r',Instr.findNow d k es' i=some r'∧(match r,r' with
   | none,none=>True
   | some (q,u),some (q',u')=>q=q'∧VR μ n u u'∧i≤q∧q - i < es.length∧∃ e',es'[q - i]?=some e'∧plain k=true∧e'.key=k
   | _,_=>False)
 | [],[],i,r,h,_,_=>by simp only [lookL,Option.some.injEq] at h;subst h;exact ⟨none,rfl,trivial⟩
 | [],_ :: _,_,_,_,h,_=>by simp at h
 | _ :: _,[],_,_,_,h,_=>by simp at h
 | (a,b) :: es,e' :: es',i,r,h,hl,hg=>by
   obtain ⟨e0,h0,hka,hvb⟩:=hg 0 a b rfl
   simp only [List.getElem?_cons_zero,Option.some.injEq] at h0
   subst h0
   simp only [lookL] at h
   split at h
   ·rename_i hk
    simp only [Option.some.injEq] at h
    subst h
    obtain ⟨hp1,hp2⟩:=keyEq_plain hk
    have hke:e'.key=a:=hka.eq_of_plain hp2
    refine ⟨some (i,e'.val),?_,rfl,hvb,Nat.le_refl _,by simp,e',by simp,hp1,?_⟩
    ·simp only [Instr.findNow,hke,sameNow_of hk hd]
    ·rw [hke]
     unfold keyEq at hk
     split at hk
     ·split at hk
      ·rename_i hkk;simp only [Option.some.injEq,beq_iff_eq] at hk;rw [hkk,hk]
      ·cases hk
     ·simp only [Option.some.injEq] at hk;rw [bytes_eq hk]
     ·simp only [Option.some.injEq,beq_iff_eq] at hk;rw [hk]
     ·cases hk
   ·rename_i hk
    obtain ⟨hp1,hp2⟩:=keyEq_plain hk
    have hke:e'.key=a:=hka.eq_of_plain hp2
    obtain ⟨r',h1,h2⟩:=lookL_sound hd (es:=es) (es':=es') h (by simpa using hl) (fun j x y hxy=>by simpa using hg (j + 1) x y (by simpa using hxy))
    refine ⟨r',by simp only [Instr.findNow,hke,sameNow_of hk hd];exact h1,?_⟩
    cases r with
    | none=>cases r'<;>first | trivial | exact h2
    | some q=>
      cases r' with
      | none=>exact h2
      | some q'=>
        obtain ⟨q1,q2⟩:=q
        obtain ⟨q1',q2'⟩:=q'
        obtain ⟨a1,a2,a3,a4,e2,a5,a6,a7⟩:=h2
        refine ⟨a1,a2,by omega,by simp;omega,e2,?_,a6,a7⟩
        rw [show q1 - i=(q1 - (i + 1)) + 1 by omega,List.getElem?_cons_succ]
        exact a5
   ·cases h
theorem run_checkKey' {t:TypeId} {d:TypeDesc} (hu:P.underlying t=some d) {k:Value} (hd:keyIs d k=true) (b:Bool) (n:Nat) (w:World):(Instr.checkKey b (n + 1) t k).run P w=.ok () w:=by
 simp only [Instr.checkKey,Sem.run_bind,run_und hu,Result.andThen_ok]
 cases d<;>simp [keyIs] at hd<;>cases k<;>first | rfl | (simp at hd)
theorem run_checkKey {t:TypeId} {d:TypeDesc} (hu:P.underlying t=some d) {k:Value} (hd:keyIs d k=true) (b:Bool) (w:World):(Instr.checkKey b 10000 t k).run P w=.ok () w:=
 run_checkKey' hu hd b 9999 w
theorem sameBits_refl {d:TypeDesc} {k:Value} (hd:keyIs d k=true) (n:Nat):Instr.sameBits n k k=true:=by
 cases d<;>simp [keyIs] at hd<;>cases k<;>first | (simp at hd;done) | (cases n<;>simp [Instr.sameBits,bytes_refl])
theorem keyIs_of {d:TypeDesc} {kd:KD} {k:Value} (h:keyKD d=some kd) (hk:kd.has k=true):keyIs d k=true:=by
 cases d<;>simp [keyKD] at h<;>subst h<;>cases k<;>first | rfl | simp [KD.has] at hk
theorem told_mkmap (hs:Sim B w0 μ σ w) {t:TypeId} (hm:mop ts σ .mkmap=some (v,τ)):Told P B w0 μ σ τ v (do pure (.value (← Instr.makeMap t none))) w:=by
 simp only [mop,Option.some.injEq,Prod.mk.injEq] at hm
 obtain ⟨rfl,rfl⟩:=hm
 refine ⟨.map (some w.heap.size),_,_,.inl (by simp [Instr.makeMap]),hs.pushMap,?_,.setMu _ _,by simp⟩
 have:=VR.map (μ:=setMu μ σ.size ⟨w.heap.size,0,0,0,true⟩) (n:=σ.size + 1) (id:=σ.size) (by omega)
 rw [setMu_self] at this
 exact this
theorem told_mlen (hs:Sim B w0 μ σ w) {x:Opd} {x':Value} {t ty a b:TypeId} {ats:Array TypeId} (ht:ats[0]?=some t) (hu:P.underlying t=some (.map a b)) (hx:VR μ σ.size (mev ts x) x')
 (hm:mop ts σ (.mlen x)=some (v,τ)):Told P B w0 μ σ τ v (do pure (.value (← Builtin.len_ ats ty #[x']))) w:=by
 simp only [mop] at hm
 split at hm
 ·rename_i e
  rw [e] at hx
  obtain rfl:=hx.inv_nilMap
  simp only [Option.some.injEq,Prod.mk.injEq] at hm
  obtain ⟨rfl,rfl⟩:=hm
  exact .same hs (by simp [Builtin.len_,ht,run_und hu,goInt]) (.int _ _)
 ·rename_i r e
  rw [e] at hx
  obtain ⟨hr,rfl⟩:=hx.inv_map
  split at hm
  ·rename_i es c hg
   simp only [Option.some.injEq,Prod.mk.injEq] at hm
   obtain ⟨rfl,rfl⟩:=hm
   obtain ⟨_,es',h1,h2⟩:=hs.map r es c hg
   refine .same (v':=.int .i64 es'.size) hs ?_ (by rw [h2.1];exact .int _ _)
   simp [Builtin.len_,ht,run_und hu,goInt,getObj,Sem.run,h1]
  ·cases hm
 ·cases hm
theorem told_mlook (hs:Sim B w0 μ σ w) {x y:Opd} {x' y' z:Value} {t kt e:TypeId} {d:TypeDesc} {kd:KD} {ok:Bool} (hu:P.underlying t=some (.map kt e)) (hk:P.underlying kt=some d) (hz:zero1 P e=some z)
 (hx:VR μ σ.size (mev ts x) x') (hy:VR μ σ.size (mev ts y) y') (hkd:keyKD d=some kd) (hm:mop ts σ (.mlook kd ok z x y)=some (v,τ)):
 Told P B w0 μ σ τ v (do pure (.value (← Instr.lookup t x' y' ok))) w:=by
 obtain ⟨hz1,hz2⟩:=zero1_spec hz
 have vz:VR μ σ.size z z:=.of_closed hz1
 by_cases hh:kd.has (mev ts y)=true
 rotate_left
 ·simp only [mop,hh] at hm
  split at hm<;>first | (cases hm;done) | skip
  split at hm<;>first | (cases hm;done) | (simp at hm;done)
 have hd:=keyIs_of hkd hh
 have hyp:y'=mev ts y:=hy.eq_of_plain (by generalize mev ts y=q at hd;cases d<;>simp [keyIs] at hd<;>cases q<;>first | rfl | (simp [keyIs] at hd))
 subst hyp
 simp only [mop,hh,if_true] at hm
 split at hm
 ·rename_i r e1
  rw [e1] at hx
  obtain ⟨hr,rfl⟩:=hx.inv_map
  split at hm
  ·rename_i es c hg
   obtain ⟨_,es',h1,h2,h3⟩:=hs.map r es c hg
   have hobj:(getObj (μ r).b).run P w=.ok (.map es' c) w:=by simp [getObj,Sem.run,h1]
   have look:∀ q,lookL (mev ts y) es 0=some q→∃ q',(Instr.findKey kt (mev ts y) es'.toList).run P w=.ok q' w∧(match q,q' with | none,none=>True | some (_,u),some (_,u')=>VR μ σ.size u u' | _,_=>False):=by
    intro q hq
    obtain ⟨r',a1,a2⟩:=lookL_sound (μ:=μ) (n:=σ.size) hd hq (by rw [Array.length_toList];exact h2) (fun j a b hab=>by obtain ⟨e',x1,x2,x3⟩:=h3 j a b hab;exact ⟨e',by simpa using x1,x2,x3⟩)
    refine ⟨r',by simp [Instr.findKey,run_und hk,a1],?_⟩
    cases q<;>cases r'<;>first | trivial | exact a2 | exact a2.2.1
   split at hm
   ·rename_i i u hl
    simp only [Option.some.injEq,Prod.mk.injEq] at hm
    obtain ⟨rfl,rfl⟩:=hm
    obtain ⟨q',b1,b2⟩:=look _ hl
    cases q' with
    | none=>exact b2.elim
    | some q'=>
      obtain ⟨qi,u'⟩:=q'
      refine .same (v':=if ok then .tuple #[u',.bool true] else u') hs ?_ ?_
      ·simp [Instr.lookup,run_und hu,hobj,run_checkKey hk hd,b1]
      ·cases ok
       ·exact b2
       ·exact .tuple (.cons b2 (.cons (.bool _) .nil))
   ·rename_i hl
    simp only [Option.some.injEq,Prod.mk.injEq] at hm
    obtain ⟨rfl,rfl⟩:=hm
    obtain ⟨q',b1,b2⟩:=look _ hl
    cases q' with
    | some q'=>exact b2.elim
    | none=>
      refine .same (v':=if ok then .tuple #[z,.bool false] else z) hs ?_ ?_
      ·simp [Instr.lookup,run_und hu,hobj,run_checkKey hk hd,b1,hz2]
      ·cases ok
       ·exact vz
       ·exact .tuple (.cons vz (.cons (.bool _) .nil))
   ·cases hm
  ·cases hm
 ·cases hm
theorem run_setObj {r c c2:Nat} {es es2:Array MapEntry} {w:World} (h:w.heap[r]?=some (.map es c)):(setObj r (.map es2 c2)).run P w=.ok () { w with heap:=w.heap.setIfInBounds r (.map es2 c2) }:=by
 simp [setObj,Sem.run,h]
theorem told_mupd (hs:Sim B w0 μ σ w) {x y u:Opd} {x' y' u':Value} {t kt e:TypeId} {d:TypeDesc} {kd:KD} (hu:P.underlying t=some (.map kt e)) (hk:P.underlying kt=some d)
 (hx:VR μ σ.size (mev ts x) x') (hy:VR μ σ.size (mev ts y) y') (hv:VR μ σ.size (mev ts u) u') (hkd:keyKD d=some kd) (hm:mop ts σ (.mupd kd x y u)=some (v,τ)):
 Told P B w0 μ σ τ v (do Instr.mapUpdate t x' y' u';pure .skip) w:=by
 by_cases hh:kd.has (mev ts y)=true
 rotate_left
 ·simp only [mop,hh] at hm
  split at hm<;>first | (cases hm;done) | skip
  split at hm<;>first | (cases hm;done) | (simp at hm;done)
 have hd:=keyIs_of hkd hh
 have hpl:plain (mev ts y)=true:=by generalize mev ts y=q at hd;cases d<;>simp [keyIs] at hd<;>cases q<;>first | rfl | (simp [keyIs] at hd)
 have hyp:y'=mev ts y:=hy.eq_of_plain hpl
 subst hyp
 simp only [mop,hh,if_true] at hm
 split at hm
 ·rename_i r e1
  rw [e1] at hx
  obtain ⟨hr,rfl⟩:=hx.inv_map
  split at hm
  ·rename_i es c hg
   obtain ⟨hB,es',h1,h2,h3⟩:=hs.map r es c hg
   have hobj:(getObj (μ r).b).run P w=.ok (.map es' c) w:=by simp [getObj,Sem.run,h1]
   split at hm
   ·rename_i i q hl
    simp only [Option.some.injEq,Prod.mk.injEq] at hm
    obtain ⟨rfl,rfl⟩:=hm
    obtain ⟨r',a1,a2⟩:=lookL_sound (μ:=μ) (n:=σ.size) hd hl (by rw [Array.length_toList];exact h2) (fun j a b hab=>by obtain ⟨e',x1,x2,x3⟩:=h3 j a b hab;exact ⟨e',by simpa using x1,x2,x3⟩)
    cases r' with
    | none=>exact a2.elim
    | some r'=>
      obtain ⟨i',q'⟩:=r'
      obtain ⟨rfl,b2,b3,b4,e',b5,b6,b7⟩:=a2
      rw [Nat.sub_zero] at b5
      have hfind:(Instr.findKey kt (mev ts y) es'.toList).run P w=.ok (some (i,q')) w:=by simp [Instr.findKey,run_und hk,a1]
      have hb5:es'[i]?=some e':=by simpa using b5
      have hsame:(Instr.keyThatStays e'.key (mev ts y)).run P w=.ok (mev ts y) w:=by
       rw [b7]
       have:Instr.sameBits 10000 (mev ts y) (mev ts y)=true:=sameBits_refl hd _
       simp [Instr.keyThatStays,this]
      refine ⟨undef,_,μ,.inr ⟨?_,rfl⟩,hs.setMap (c2:=c) hg (es2':=es'.modify i fun e=>{ e with key:=mev ts y,val:=u' }) ?_,.tuple .nil,.refl _ _,by simp⟩
      ·simp only [Instr.mapUpdate,Sem.run_bind,run_und hu,Result.andThen_ok,hobj,run_checkKey hk hd,hfind,hb5,Option.map_some,Option.getD_some,hsame,run_setObj h1,Sem.run_pure]
      ·refine ⟨by simp [h2],fun j a b hab=>?_⟩
       rw [List.getElem?_modify] at hab
       cases hj:es[j]? with
       | none=>simp [hj] at hab
       | some p=>
         obtain ⟨a0,b0⟩:=p
         obtain ⟨e2,x1,x2,x3⟩:=h3 j a0 b0 hj
         rw [hj] at hab
         by_cases hij:i=j
         ·subst hij
          simp at hab
          obtain ⟨rfl,rfl⟩:=hab
          exact ⟨{ e2 with key:=mev ts y,val:=u' },by simp [Array.getElem?_modify,x1],.of_plain hpl,hv⟩
         ·simp [hij] at hab
          obtain ⟨rfl,rfl⟩:=hab
          exact ⟨e2,by rw [Array.getElem?_modify,if_neg hij];exact x1,x2,x3⟩
   ·rename_i hl
    simp only [Option.some.injEq,Prod.mk.injEq] at hm
    obtain ⟨rfl,rfl⟩:=hm
    obtain ⟨r',a1,a2⟩:=lookL_sound (μ:=μ) (n:=σ.size) hd hl (by rw [Array.length_toList];exact h2) (fun j a b hab=>by obtain ⟨e',x1,x2,x3⟩:=h3 j a b hab;exact ⟨e',by simpa using x1,x2,x3⟩)
    cases r' with
    | some r'=>exact a2.elim
    | none=>
      have hfind:(Instr.findKey kt (mev ts y) es'.toList).run P w=.ok none w:=by simp [Instr.findKey,run_und hk,a1]
      refine ⟨undef,_,μ,.inr ⟨?_,rfl⟩,hs.setMap (c2:=c + 1) hg (es2':=es'.push { key:=mev ts y,val:=u',born:=c }) ?_,.tuple .nil,.refl _ _,by simp⟩
      ·simp only [Instr.mapUpdate,Sem.run_bind,run_und hu,Result.andThen_ok,hobj,run_checkKey hk hd,hfind,run_setObj h1,Sem.run_pure]
      ·refine ⟨by simp [h2],fun j a b hab=>?_⟩
       by_cases hj:j < es.length
       ·rw [List.getElem?_append_left hj] at hab
        obtain ⟨e2,x1,x2,x3⟩:=h3 j a b hab
        exact ⟨e2,by rw [Array.getElem?_push,if_neg (by omega)];exact x1,x2,x3⟩
       ·rw [List.getElem?_append_right (by omega)] at hab
        have hj0:j - es.length=0:=by
         rcases Nat.eq_zero_or_pos (j - es.length) with e | e
         ·exact e
         ·rw [List.getElem?_eq_none (by simp;omega)] at hab;cases hab
        rw [hj0] at hab
        simp at hab
        obtain ⟨rfl,rfl⟩:=hab
        refine ⟨{ key:=mev ts y,val:=u',born:=c },?_,.of_plain hpl,hv⟩
        have:j=es'.size:=by omega
        subst this
        simp
   ·cases hm
  ·cases hm
 ·cases hm
end
end Go.Mini
