/- The small operations tell what the model's do: numbers, texts, slices, maps. -/
import Derived.Test.YtgfmphjccnemmaaDoorMiniD
import Derived.Laws.StructEq
import Derived.ChangeKeysEq
namespace Go.Mini
open Go.RowKit (Below)
set_option linter.unusedVariables false
set_option linter.unusedSimpArgs false
section
variable {P : Program} {B : Nat} {w0 w : World} {μ : Nat → Blk} {σ τ : H} {ts : Fr} {v : Value}

theorem mbin_sound {op : BinOp} {a b r : Value} (h : mbin op a b = some r) (t : TypeId) (x y : Operand) (w : World) :
    (do eqGuard op t x y a b; binOp op t a b : Sem Value).run P w = .ok r w ∧ (plain a = true ∧ plain b = true ∧ plain r = true) := by
  unfold mbin at h
  split at h <;> first
    | (cases h; done)
    | (split at h <;> first
        | (cases h; done)
        | (rename_i hk
           simp only [Option.some.injEq] at h
           subst h
           try obtain ⟨hk, hk'⟩ := hk
           try subst hk
           refine ⟨?_, rfl, rfl, rfl⟩
           simp_all [eqGuard, binOp, Op.intArith, Op.intDiv, Op.intBits, Op.shift, Op.intCmp, Op.stringOp]
           try omega))
    | (simp only [Option.some.injEq] at h
       subst h
       refine ⟨?_, rfl, rfl, rfl⟩
       simp [eqGuard, binOp, Op.stringOp])

theorem told_bin (hs : Sim B w0 μ σ w) {x y : Opd} {x' y' : Value} {t : TypeId} {op : BinOp} {ox oy : Operand} (hx : VR μ σ.size (mev ts x) x') (hy : VR μ σ.size (mev ts y) y')
    (hm : mop ts σ (.bin op x y) = some (v, τ)) : Told P B w0 μ σ τ v (do pure (.value (← (do eqGuard op t ox oy x' y'; binOp op t x' y')))) w := by
  simp only [mop] at hm
  cases hb : mbin op (mev ts x) (mev ts y) with
  | none => simp [hb] at hm
  | some r =>
    simp only [hb, Option.map_some, Option.some.injEq, Prod.mk.injEq] at hm
    obtain ⟨rfl, rfl⟩ := hm
    obtain ⟨h1, h2, h3, h4⟩ := mbin_sound (P := P) hb t ox oy w
    rw [hx.eq_of_plain h2, hy.eq_of_plain h3]
    exact .same hs (by rw [Sem.run_bind, h1]; rfl) (.of_plain h4)

theorem equal_succ (t : TypeId) (x y : Value) : Op.equal t x y = Op.equalIn (9999 + 1) t x y := rfl

theorem told_eqB (hs : Sim B w0 μ σ w) {x y : Opd} {x' y' : Value} {t : TypeId} {neg : Bool} {ox oy : Operand} (hu : P.underlying t = some .bool) (hx : VR μ σ.size (mev ts x) x') (hy : VR μ σ.size (mev ts y) y')
    (hm : mop ts σ (.eqB neg x y) = some (v, τ)) : Told P B w0 μ σ τ v (do pure (.value (← (do eqGuard (if neg then .neq else .eql) t ox oy x' y'; binOp (if neg then .neq else .eql) t x' y')))) w := by
  simp only [mop] at hm
  split at hm
  · rename_i a b e1 e2
    rw [e1] at hx
    rw [e2] at hy
    obtain rfl := hx.inv_bool
    obtain rfl := hy.inv_bool
    simp only [Option.some.injEq, Prod.mk.injEq] at hm
    obtain ⟨rfl, rfl⟩ := hm
    refine .same hs ?_ (.bool _)
    cases neg
    · simp [eqGuard, binOp, equal_succ, run_equalIn_bool w _ t a b hu]
    · simp [eqGuard, binOp, equal_succ, run_equalIn_bool w _ t a b hu]
  · cases hm

theorem eqNil_sound {k : NK} {n : Nat} {a b a' b' : Value} {r : Bool} (h : eqNil k a b = some r) (ha : VR μ n a a') (hb : VR μ n b b') : eqNil k a' b' = some r := by
  unfold eqNil at h
  split at h <;> first | (cases h; done) | skip
  all_goals (cases ha <;> cases hb <;> simp_all [eqNil])
def NK.of : NK → TypeDesc → Prop
  | .ptr, .pointer _ => True
  | .slice, .slice _ => True
  | .map, .map _ _ => True
  | .func, .func _ _ _ => True
  | .iface, .interface _ => True
  | _, _ => False
theorem eqNil_run {k : NK} {a b : Value} {r : Bool} (h : eqNil k a b = some r) {t : TypeId} {d : TypeDesc} (hu : P.underlying t = some d) (hd : k.of d) (w : World) (D : Nat) :
    (Op.equalIn (D + 1) t a b).run P w = .ok r w := by
  unfold eqNil at h
  split at h <;> first | (cases h; done) | skip
  all_goals (cases d <;> first | exact hd.elim | skip)
  all_goals (simp only [Option.some.injEq] at h; subst h)
  all_goals (simp only [Op.equalIn, Sem.run_bind, run_und hu, Result.andThen_ok])
  all_goals first | rfl | (rename_i b _; cases b <;> rfl) | (rename_i b _ _ _; cases b <;> rfl) | (rename_i b _ _; cases b <;> rfl)
theorem told_eqN (hs : Sim B w0 μ σ w) {k : NK} {x y : Opd} {x' y' : Value} {t : TypeId} {d : TypeDesc} {neg : Bool} {ox oy : Operand} (hu : P.underlying t = some d) (hk : k.of d)
    (hconst : k = .iface → (isC ox || isC oy) = true) (hx : VR μ σ.size (mev ts x) x') (hy : VR μ σ.size (mev ts y) y')
    (hm : mop ts σ (.eqN k neg x y) = some (v, τ)) : Told P B w0 μ σ τ v (do pure (.value (← (do eqGuard (if neg then .neq else .eql) t ox oy x' y'; binOp (if neg then .neq else .eql) t x' y')))) w := by
  simp only [mop] at hm
  cases hb : eqNil k (mev ts x) (mev ts y) with
  | none => simp [hb] at hm
  | some r =>
    simp only [hb, Option.map_some, Option.some.injEq, Prod.mk.injEq] at hm
    obtain ⟨rfl, rfl⟩ := hm
    have he := eqNil_sound hb hx hy
    have hr := eqNil_run (P := P) he hu hk w 9999
    refine .same hs ?_ (.bool _)
    have hg : ∀ op, (eqGuard op t ox oy x' y').run P w = .ok () w := by
      intro op
      unfold eqNil at he
      split at he <;> first | (cases he; done) | skip
      all_goals (cases op <;> first | rfl | (simp [eqGuard]; done) | skip)
      all_goals (have := hconst rfl; simp only [eqGuard]; cases ox <;> cases oy <;> first | (simp [isC] at this; done) | simp)
    have hbin : ∀ op : BinOp, (op = .eql ∨ op = .neq) → binOp op t x' y' = if op = .eql then (do pure (.bool (← Op.equal t x' y')) : Sem Value) else (do pure (.bool (!(← Op.equal t x' y')))) := by
      intro op ho
      unfold eqNil at he
      split at he <;> first | (cases he; done) | skip
      all_goals (rcases ho with rfl | rfl <;> rfl)
    rw [Sem.run_bind, Sem.run_bind, hg]
    cases neg
    · rw [Result.andThen_ok, if_neg (by simp), hbin _ (.inl rfl), if_pos rfl, equal_succ, Sem.run_bind, hr]; rfl
    · rw [Result.andThen_ok, if_pos rfl, hbin _ (.inr rfl), if_neg (by simp), equal_succ, Sem.run_bind, hr]; rfl
end
end Go.Mini
