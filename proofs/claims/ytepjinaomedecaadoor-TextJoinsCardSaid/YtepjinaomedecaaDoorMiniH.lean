import Derived.Test.YtepjinaomedecaaDoorMiniD
import Derived.Laws.StructEq
import Derived.ChangeKeysEq
import Derived.Laws.BytesString
/- The small operations tell what the model's do: numbers, texts, slices, maps. -/
namespace Go.Mini
open Go.RowKit (Below)
set_option linter.unusedVariables false
set_option linter.unusedSimpArgs false
section
variable {P : Program} {B : Fz} {w0 w : World} {μ : Nat → Blk} {σ τ : H} {ts : Fr} {v : Value}

theorem mbin_sound {op : BinOp} {a b r : Value} (h : mbin op a b = some r) (t : TypeId) (x y : Operand) (w : World) :
    (do eqGuard op t x y a b; binOp op t a b : Sem Value).run P w = .ok r w ∧ (plain a = true ∧ plain b = true ∧ plain r = true) := by
  unfold mbin at h
  split at h <;> first
    | (cases h; done)
    | (split at h <;> first
        | (cases h; done)
        | (rename_i hk
           simp only [Option.some.injEq] at h
           subst h
           try obtain ⟨hk, hk'⟩ := hk
           try subst hk
           refine ⟨?_, rfl, rfl, rfl⟩
           simp_all [eqGuard, binOp, Op.intArith, Op.intDiv, Op.intBits, Op.shift, Op.intCmp, Op.stringOp]
           try omega))
    | (simp only [Option.some.injEq] at h
       subst h
       refine ⟨?_, rfl, rfl, rfl⟩
       simp [eqGuard, binOp, Op.stringOp])

theorem told_bin (hs : Sim B w0 μ σ w) {x y : Opd} {x' y' : Value} {t : TypeId} {op : BinOp} {ox oy : Operand} (hx : VR μ σ.size (mev ts x) x') (hy : VR μ σ.size (mev ts y) y')
    (hm : mop ts σ (.bin op x y) = some (v, τ)) : Told P B w0 μ σ τ v (do pure (.value (← (do eqGuard op t ox oy x' y'; binOp op t x' y')))) w := by
  simp only [mop] at hm
  cases hb : mbin op (mev ts x) (mev ts y) with
  | none => simp [hb] at hm
  | some r =>
    simp only [hb, Option.map_some, Option.some.injEq, Prod.mk.injEq] at hm
    obtain ⟨rfl, rfl⟩ := hm
    obtain ⟨h1, h2, h3, h4⟩ := mbin_sound (P := P) hb t ox oy w
    rw [hx.eq_of_plain h2, hy.eq_of_plain h3]
    exact .same hs (by rw [Sem.run_bind, h1]; rfl) (.of_plain h4)

theorem equal_succ (t : TypeId) (x y : Value) : Op.equal t x y = Op.equalIn (9999 + 1) t x y := rfl

theorem told_eqB (hs : Sim B w0 μ σ w) {x y : Opd} {x' y' : Value} {t : TypeId} {neg : Bool} {ox oy : Operand} (hu : P.underlying t = some .bool) (hx : VR μ σ.size (mev ts x) x') (hy : VR μ σ.size (mev ts y) y')
    (hm : mop ts σ (.eqB neg x y) = some (v, τ)) : Told P B w0 μ σ τ v (do pure (.value (← (do eqGuard (if neg then .neq else .eql) t ox oy x' y'; binOp (if neg then .neq else .eql) t x' y')))) w := by
  simp only [mop] at hm
  split at hm
  · rename_i a b e1 e2
    rw [e1] at hx
    rw [e2] at hy
    obtain rfl := hx.inv_bool
    obtain rfl := hy.inv_bool
    simp only [Option.some.injEq, Prod.mk.injEq] at hm
    obtain ⟨rfl, rfl⟩ := hm
    refine .same hs ?_ (.bool _)
    cases neg
    · simp [eqGuard, binOp, equal_succ, run_equalIn_bool w _ t a b hu]
    · simp [eqGuard, binOp, equal_succ, run_equalIn_bool w _ t a b hu]
  · cases hm

theorem eqNil_sound {k : NK} {n : Nat} {a b a' b' : Value} {r : Bool} (h : eqNil k a b = some r) (ha : VR μ n a a') (hb : VR μ n b b') : eqNil k a' b' = some r := by
  unfold eqNil at h
  split at h <;> first | (cases h; done) | skip
  all_goals (cases ha <;> cases hb <;> simp_all [eqNil])
def NK.of : NK → TypeDesc → Prop
  | .ptr, .pointer _ => True
  | .slice, .slice _ => True
  | .map, .map _ _ => True
  | .func, .func _ _ _ => True
  | .iface, .interface _ => True
  | _, _ => False
theorem eqNil_run {k : NK} {a b : Value} {r : Bool} (h : eqNil k a b = some r) {t : TypeId} {d : TypeDesc} (hu : P.underlying t = some d) (hd : k.of d) (w : World) (D : Nat) :
    (Op.equalIn (D + 1) t a b).run P w = .ok r w := by
  unfold eqNil at h
  split at h <;> first | (cases h; done) | skip
  all_goals (cases d <;> first | exact hd.elim | skip)
  all_goals (simp only [Option.some.injEq] at h; subst h)
  all_goals (simp only [Op.equalIn, Sem.run_bind, run_und hu, Result.andThen_ok])
  all_goals first | rfl | (rename_i b _; cases b <;> rfl) | (rename_i b _ _ _; cases b <;> rfl) | (rename_i b _ _; cases b <;> rfl)
theorem told_eqN (hs : Sim B w0 μ σ w) {k : NK} {x y : Opd} {x' y' : Value} {t : TypeId} {d : TypeDesc} {neg : Bool} {ox oy : Operand} (hu : P.underlying t = some d) (hk : k.of d)
    (hconst : k = .iface → (isC ox || isC oy) = true) (hx : VR μ σ.size (mev ts x) x') (hy : VR μ σ.size (mev ts y) y')
    (hm : mop ts σ (.eqN k neg x y) = some (v, τ)) : Told P B w0 μ σ τ v (do pure (.value (← (do eqGuard (if neg then .neq else .eql) t ox oy x' y'; binOp (if neg then .neq else .eql) t x' y')))) w := by
  simp only [mop] at hm
  cases hb : eqNil k (mev ts x) (mev ts y) with
  | none => simp [hb] at hm
  | some r =>
    simp only [hb, Option.map_some, Option.some.injEq, Prod.mk.injEq] at hm
    obtain ⟨rfl, rfl⟩ := hm
    have he := eqNil_sound hb hx hy
    have hr := eqNil_run (P := P) he hu hk w 9999
    refine .same hs ?_ (.bool _)
    have hg : ∀ op, (eqGuard op t ox oy x' y').run P w = .ok () w := by
      intro op
      unfold eqNil at he
      split at he <;> first | (cases he; done) | skip
      all_goals (cases op <;> first | rfl | (simp [eqGuard]; done) | skip)
      all_goals (have := hconst rfl; simp only [eqGuard]; cases ox <;> cases oy <;> first | (simp [isC] at this; done) | simp)
    have hbin : ∀ op : BinOp, (op = .eql ∨ op = .neq) → binOp op t x' y' = if op = .eql then (do pure (.bool (← Op.equal t x' y')) : Sem Value) else (do pure (.bool (!(← Op.equal t x' y')))) := by
      intro op ho
      unfold eqNil at he
      split at he <;> first | (cases he; done) | skip
      all_goals (rcases ho with rfl | rfl <;> rfl)
    rw [Sem.run_bind, Sem.run_bind, hg]
    cases neg
    · rw [Result.andThen_ok, if_neg (by simp), hbin _ (.inl rfl), if_pos rfl, equal_succ, Sem.run_bind, hr]; rfl
    · rw [Result.andThen_ok, if_pos rfl, hbin _ (.inr rfl), if_neg (by simp), equal_succ, Sem.run_bind, hr]; rfl
end
end Go.Mini
/- The small operations tell what the model's do: slices. -/
namespace Go.Mini
open Go.RowKit (Below)
set_option linter.unusedVariables false
set_option linter.unusedSimpArgs false
section
variable {P : Program} {B : Fz} {w0 w : World} {μ : Nat → Blk} {σ τ : H} {ts : Fr} {v : Value}

theorem run_bnd {y y' : Nat} {x x' : Value} {n k : Nat} {c : BoundsCode} (h : bnd y x = some k) (hx : VR μ n x x') (hy : y ≤ y') (w : World) : (Instr.sliceBound x' y' c).run P w = .ok k w := by
  unfold bnd at h
  split at h
  · rename_i j i
    obtain rfl := hx.inv_int
    split at h
    · rename_i hb
      simp only [Option.some.injEq] at h
      subst h
      have : 0 ≤ i ∧ i ≤ (y' : Int) := ⟨hb.1, by omega⟩
      simp [Instr.sliceBound, asIntOf, this]
    · cases h
  · cases h
theorem bnd_le {y k : Nat} {x : Value} (h : bnd y x = some k) : k ≤ y := by
  unfold bnd at h
  split at h
  · split at h
    · simp only [Option.some.injEq] at h; omega
    · cases h
  · cases h
/-- An operand that may lack. -/
inductive OVR (μ : Nat → Blk) (n : Nat) : Option Value → Option Value → Prop where
  | none : OVR μ n none none
  | some {x x' : Value} (h : VR μ n x x') : OVR μ n (some x) (some x')
theorem run_bnds {len cap cap' n : Nat} {lo hi mx lo' hi' mx' : Option Value} {l h m : Nat} {isS : Bool} (hb : bnds len cap lo hi mx = some (l, h, m)) (hlo : OVR μ n lo lo') (hhi : OVR μ n hi hi') (hmx : OVR μ n mx mx')
    (hl : len ≤ cap) (hc : cap ≤ cap') (w : World) : ∃ m', (Instr.sliceBounds isS len cap' lo' hi' mx').run P w = .ok (l, h, m') w ∧ l ≤ h ∧ h ≤ m ∧ m ≤ m' ∧ m ≤ cap ∧ m' ≤ cap' ∧ (mx.isSome → m' = m) ∧ (mx = Option.none → m = cap ∧ m' = cap') := by
  unfold bnds at hb
  cases hmx with
  | none =>
    simp only [Option.isNone_none, if_true] at hb
    cases hhi with
    | none =>
      simp only at hb
      cases hlo with
      | none =>
        simp only [Option.some.injEq, Prod.mk.injEq] at hb
        obtain ⟨rfl, rfl, rfl⟩ := hb
        exact ⟨cap', by simp [Instr.sliceBounds], by omega, hl, hc, by omega, by omega, by simp, by simp⟩
      | some h0 =>
        simp only at hb
        split at hb
        · cases hb
        · rename_i q hq
          simp only [Option.some.injEq, Prod.mk.injEq] at hb
          obtain ⟨rfl, rfl, rfl⟩ := hb
          exact ⟨cap', by simp [Instr.sliceBounds, run_bnd (P := P) hq h0 (Nat.le_refl _)], bnd_le hq, hl, hc, by omega, by omega, by simp, by simp⟩
    | some h1 =>
      simp only at hb
      split at hb
      · cases hb
      · rename_i q hq
        cases hlo with
        | none =>
          simp only [Option.some.injEq, Prod.mk.injEq] at hb
          obtain ⟨rfl, rfl, rfl⟩ := hb
          exact ⟨cap', by simp [Instr.sliceBounds, run_bnd (P := P) hq h1 hc], by omega, bnd_le hq, hc, by omega, by omega, by simp, by simp⟩
        | some h0 =>
          simp only at hb
          split at hb
          · cases hb
          · rename_i q0 hq0
            simp only [Option.some.injEq, Prod.mk.injEq] at hb
            obtain ⟨rfl, rfl, rfl⟩ := hb
            exact ⟨cap', by simp [Instr.sliceBounds, run_bnd (P := P) hq h1 hc, run_bnd (P := P) hq0 h0 (Nat.le_refl _)], bnd_le hq0, bnd_le hq, hc, by omega, by omega, by simp, by simp⟩
  | some h2 =>
    simp only at hb
    split at hb
    · cases hb
    · rename_i q2 hq2
      cases hhi with
      | none => simp at hb
      | some h1 =>
        simp only at hb
        split at hb
        · cases hb
        · rename_i q hq
          cases hlo with
          | none =>
            simp only [Option.some.injEq, Prod.mk.injEq] at hb
            obtain ⟨rfl, rfl, rfl⟩ := hb
            exact ⟨q2, by simp [Instr.sliceBounds, run_bnd (P := P) hq2 h2 hc, run_bnd (P := P) hq h1 (Nat.le_refl _)], by omega, bnd_le hq, by omega, bnd_le hq2, by have := bnd_le hq2; omega, by simp, by simp⟩
          | some h0 =>
            simp only at hb
            split at hb
            · cases hb
            · rename_i q0 hq0
              simp only [Option.some.injEq, Prod.mk.injEq] at hb
              obtain ⟨rfl, rfl, rfl⟩ := hb
              exact ⟨q2, by simp [Instr.sliceBounds, run_bnd (P := P) hq2 h2 hc, run_bnd (P := P) hq h1 (Nat.le_refl _), run_bnd (P := P) hq0 h0 (Nat.le_refl _)], bnd_le hq0, bnd_le hq, by omega, bnd_le hq2, by have := bnd_le hq2; omega, by simp, by simp⟩

theorem told_slc (hs : Sim B w0 μ σ w) {x : Opd} {x' : Value} {t e : TypeId} {n : Nat} {lo hi mx : Option Opd} {lo' hi' mx' : Option Value} (hu : P.underlying t = some (.slice e)) (hn : sizeT P e = some n)
    (hx : VR μ σ.size (mev ts x) x') (hlo : OVR μ σ.size (lo.map (mev ts)) lo') (hhi : OVR μ σ.size (hi.map (mev ts)) hi') (hmx : OVR μ σ.size (mx.map (mev ts)) mx')
    (hm : mop ts σ (.slc n x lo hi mx) = some (v, τ)) : Told P B w0 μ σ τ v (do pure (.value (← Instr.sliceAt t x' lo' hi' mx'))) w := by
  simp only [mop] at hm
  split at hm
  · rename_i id off len cap e1
    rw [e1] at hx
    obtain ⟨cap', o', rfl, _, hid, hl, hc, ho, hz, hex⟩ := hx.inv_slice
    dsimp only at hid ho hz hex
    split at hm
    · rename_i l h m hb
      split at hm
      · rename_i hok
        simp only [Option.some.injEq, Prod.mk.injEq] at hm
        obtain ⟨rfl, rfl⟩ := hm
        obtain ⟨m', hr, a1, a2, a3, a4, a5, a6, a7⟩ := run_bnds (P := P) (isS := true) hb hlo hhi hmx hl hc w
        have hsz : (μ id).sz ≠ 0 → n = (μ id).sz ∨ ∃ cs, σ.get id = .ro cs := fun hne => by
          unfold okSz at hok
          split at hok
          · rename_i s cs hg
            have := (hs.own id s cs hg).1.2.1
            simp at hok
            rcases hok with h | h
            · left; omega
            · omega
          · rename_i cs hg; exact .inr ⟨cs, hg⟩
          · cases hok
        refine .same (v' := .slice (some (if m' = l then ⟨(μ id).b, o', none⟩ else ⟨(μ id).b, o' + l * n, none⟩)) (h - l) (m' - l)) hs ?_ ?_
        · simp only [Instr.sliceAt, Instr.slice, Sem.run_bind, run_und hu, Result.andThen_ok, hr, run_size hn, Sem.run_pure]
          split <;> simp [addr_add]
        · by_cases hml : m' = l
          · rw [if_pos hml]
            exact .slice hid (by omega) (by omega) (by omega) (fun hne => by have := hz hne; rw [show m' - l = 0 by omega]; have : o' ≤ (μ id).n := by { have := hz hne; omega }; omega) (fun e => by omega)
          · rw [if_neg hml]
            refine .slice hid (by omega) (by omega) (fun h0 => by rw [ho (by omega), Nat.add_assoc]) (fun hne => ?_) (fun e => ?_)
            · have hz' := hz hne
              rcases hsz hne with e | ⟨cs, hg⟩
              · rw [← e] at hz' ⊢
                have h1 : l * n + (m' - l) * n = m' * n := by rw [← Nat.add_mul]; congr 1; omega
                have h2 : m' * n ≤ cap' * n := Nat.mul_le_mul_right _ a5
                omega
              · exact absurd (hs.ro id cs hg).1.2 hne
            · have := hex e
              rcases Nat.eq_or_lt_of_le a3 with x | x
              · omega
              · cases hmx' : mx.map (mev ts) with
                | none => have := a7 hmx'; omega
                | some _ => have := a6 (by rw [hmx']; rfl); omega
      · cases hm
    · cases hm
  · rename_i e1
    rw [e1] at hx
    obtain ⟨rfl, _, _⟩ := hx.inv_nilSlice
    split at hm
    · rename_i l h m hb
      simp only [Option.some.injEq, Prod.mk.injEq] at hm
      obtain ⟨rfl, rfl⟩ := hm
      obtain ⟨m', hr, a1, a2, a3, a4, a5, a6, a7⟩ := run_bnds (P := P) (isS := true) hb hlo hhi hmx (Nat.le_refl 0) (Nat.le_refl 0) w
      refine .same (v' := .slice none 0 0) hs ?_ .nilSlice
      simp only [Instr.sliceAt, Instr.slice, Sem.run_bind, run_und hu, Result.andThen_ok, hr, run_size hn, Sem.run_pure]
      have : l = 0 := by omega
      have : h = 0 := by omega
      have : m' = 0 := by omega
      subst_vars
      rfl
    · cases hm
  · cases hm
end
end Go.Mini
/- The small operations tell what the model's do: texts' slices, makes, appends, copies. -/
namespace Go.Mini
open Go.RowKit (Below)
set_option linter.unusedVariables false
set_option linter.unusedSimpArgs false
section
variable {P : Program} {B : Fz} {w0 w : World} {μ : Nat → Blk} {σ τ : H} {ts : Fr} {v : Value}

theorem told_slcS (hs : Sim B w0 μ σ w) {x : Opd} {x' : Value} {t : TypeId} {lo hi : Option Opd} {lo' hi' : Option Value} (hu : P.underlying t = some .string)
    (hx : VR μ σ.size (mev ts x) x') (hlo : OVR μ σ.size (lo.map (mev ts)) lo') (hhi : OVR μ σ.size (hi.map (mev ts)) hi')
    (hm : mop ts σ (.slcS x lo hi) = some (v, τ)) : Told P B w0 μ σ τ v (do pure (.value (← Instr.sliceAt t x' lo' hi' none))) w := by
  simp only [mop] at hm
  split at hm
  · rename_i s e1
    rw [e1] at hx
    obtain rfl := hx.inv_string
    split at hm
    · rename_i l h m hb
      simp only [Option.some.injEq, Prod.mk.injEq] at hm
      obtain ⟨rfl, rfl⟩ := hm
      obtain ⟨m', hr, a1, a2, a3, a4, a5, a6, a7⟩ := run_bnds (P := P) (isS := false) hb hlo hhi .none (Nat.le_refl _) (Nat.le_refl _) w
      refine .same (v' := .string (s.extract l h)) hs ?_ (.string _)
      simp [Instr.sliceAt, Instr.slice, run_und hu, hr]
    · cases hm
  · cases hm

theorem told_slcA (hs : Sim B w0 μ σ w) {x : Opd} {x' : Value} {t e : TypeId} {k n : Nat} {lo hi : Option Opd} {lo' hi' : Option Value} (hu : P.underlying t = some (.array k e)) (hn : sizeT P e = some n)
    (hx : VR μ σ.size (mev ts x) x') (hlo : OVR μ σ.size (lo.map (mev ts)) lo') (hhi : OVR μ σ.size (hi.map (mev ts)) hi')
    (hm : mop ts σ (.slcA k n x lo hi) = some (v, τ)) : Told P B w0 μ σ τ v (do pure (.value (← Instr.sliceAt t x' lo' hi' none))) w := by
  simp only [mop] at hm
  split at hm
  · rename_i id off e1
    rw [e1] at hx
    obtain ⟨hid, rfl⟩ := hx.inv_ptr
    split at hm
    · rename_i l h m hb
      split at hm
      · rename_i cs hg
        simp only [Option.some.injEq, Prod.mk.injEq] at hm
        obtain ⟨rfl, rfl⟩ := hm
        obtain ⟨m', hr, a1, a2, a3, a4, a5, a6, a7⟩ := run_bnds (P := P) (isS := false) hb hlo hhi .none (Nat.le_refl k) (Nat.le_refl k) w
        obtain ⟨rfl, rfl⟩ := a7 rfl
        have hz := (hs.own id 0 cs hg).1
        refine .same (v' := .slice (some (if m' = l then ⟨(μ id).b, (μ id).o + off, none⟩ else ⟨(μ id).b, (μ id).o + off + l * n, none⟩)) (h - l) (m' - l)) hs ?_ ?_
        · simp only [Instr.sliceAt, Sem.run_bind, run_und hu, Result.andThen_ok, Instr.sureAddr, Sem.run_pure, hr, run_size hn]
          split <;> simp [addr_add]
        · by_cases hml : m' = l
          · rw [if_pos hml, if_pos hml]
            exact .slice hid (by omega) (by omega) (by omega) (fun hne => absurd hz.2.1 hne) (fun _ => rfl)
          · rw [if_neg hml, if_neg hml]
            exact .slice hid (by omega) (by omega) (fun h0 => by rw [Nat.add_assoc]) (fun hne => absurd hz.2.1 hne) (fun _ => rfl)
      · cases hm
    · cases hm
  · cases hm

def capOf (w : World) (need old : Nat) (e : TypeId) : Nat := need + (w.tape w.drawn (.appendCap need old e)) % (2 ^ 63 - need)
theorem run_cap (w : World) (need old : Nat) (e : TypeId) : (choose (.appendCap need old e)).run P w = .ok (capOf w need old e) { w with drawn := w.drawn + 1 } := by
  simp [run_choose, Question.forced, Question.cut, capOf]
theorem run_s2b (w : World) (e : TypeId) (s : ByteArray) : (Conv.stringToBytes e s).run P w =
    .ok (.slice (some ⟨w.heap.size, 0, none⟩) s.size (capOf w s.size 0 e)) { w with drawn := w.drawn + 1, heap := w.heap.push (.cells (bytesL s.data.toList ++ List.replicate (capOf w s.size 0 e - s.size) (Value.int .u8 0)).toArray e (capOf w s.size 0 e, capOf w s.size 0 e + 1)) } := by
  generalize hcap : capOf w s.size 0 e = cap
  have hle : s.size ≤ cap := by rw [← hcap]; exact Nat.le_add_right _ _
  have harr : (s.data.map fun b : UInt8 => Value.int .u8 b.toNat) ++ Array.replicate (cap - s.size) (Value.int .u8 0) = (bytesL s.data.toList ++ List.replicate (cap - s.size) (Value.int .u8 0)).toArray := by
    apply Array.toList_inj.1; simp [bytesL]
  have hsz : ((s.data.map fun b : UInt8 => Value.int .u8 b.toNat) ++ Array.replicate (cap - s.size) (Value.int .u8 0)).size = cap := by
    simp; have : s.data.size = s.size := rfl; omega
  rw [← harr]
  unfold Conv.stringToBytes
  rw [Sem.run_bind, run_cap, Result.andThen_ok, hcap]
  simp only [Go.newRow, Sem.run_bind, run_newObj, Result.andThen_ok, Sem.run_pure, markStringish, run_shape, World.shape?, Array.getElem?_push_size, run_freeze, World.freeze, hsz]
  simp only [Nat.one_ne_zero, if_false]
  congr 2
  apply Array.ext_getElem?
  intro k
  simp only [Array.getElem?_modify, Array.getElem?_push]
  split
  · rename_i h; subst h; simp
  · rename_i h; rw [if_neg (Ne.symm h), if_neg (Ne.symm h)]
theorem told_s2b (hs : Sim B w0 μ σ w) {x : Opd} {x' : Value} {sr d e : TypeId} (h1 : P.underlying sr = some .string) (h2 : P.underlying d = some (.slice e)) (h3 : P.underlying e = some (.int .u8))
    (hx : VR μ σ.size (mev ts x) x') (hm : mop ts σ (.s2b x) = some (v, τ)) : Told P B w0 μ σ τ v (do pure (.value (← convert sr d x'))) w := by
  simp only [mop] at hm
  split at hm
  · rename_i s e1
    rw [e1] at hx
    obtain rfl := hx.inv_string
    simp only [Option.some.injEq, Prod.mk.injEq] at hm
    obtain ⟨rfl, rfl⟩ := hm
    have hrun := run_s2b (P := P) w e s
    have hle : s.size ≤ capOf w s.size 0 e := Nat.le_add_right _ _
    generalize capOf w s.size 0 e = cap at hrun hle
    have hs' : Sim B w0 μ σ { w with drawn := w.drawn + 1 } := hs.drewN 1
    have hlen : ((bytesL s.data.toList) ++ List.replicate (cap - s.size) (Value.int .u8 0)).length = cap := by
      simp [bytesL]; have : s.data.size = s.size := rfl; omega
    have hz : Unfrozen ((bytesL s.data.toList) ++ List.replicate (cap - s.size) (Value.int .u8 0)).toArray (cap, cap + 1) := fun j hj h => by
      rw [List.size_toArray, hlen] at hj
      simp at h; omega
    have hp : VRs μ σ.size (bytesL s.data.toList) (bytesL s.data.toList) := .of_plain (by
      unfold bytesL; rw [List.all_map, List.all_eq_true]; intro _ _; rfl)
    have hsim := hs'.newRow (sz := 1) hp e hz
    refine ⟨.slice (some ⟨w.heap.size, 0, none⟩) s.size cap, _, _, .inl ?_, hsim, ?_, .setMu _ _, by simp⟩
    · have : (convert sr d (.string s)).run P w = (Conv.stringToBytes e s).run P w := by
        unfold convert
        simp only [Sem.run_bind, run_und h1, run_und h2, Result.andThen_ok, run_und h3]
      simp only [Sem.run_bind, this, hrun, Result.andThen_ok, Sem.run_pure]
    · refine setMu_slice μ σ.size _ (Nat.le_refl _) hle (fun _ => ?_) (by simp)
      simp only [← List.length_append, hlen]; omega
  · cases hm

theorem told_b2s (hs : Sim B w0 μ σ w) {x : Opd} {x' : Value} {sr d e : TypeId} (h1 : P.underlying sr = some (.slice e)) (h2 : P.underlying d = some .string) (h3 : P.underlying e = some (.int .u8))
    (hx : VR μ σ.size (mev ts x) x') (hm : mop ts σ (.b2s x) = some (v, τ)) : Told P B w0 μ σ τ v (do pure (.value (← convert sr d x'))) w := by
  have hconv : ∀ a l c, (convert sr d (.slice a l c)).run P w = (Conv.bytesToString (.slice a l c)).run P w := fun a l c => run_convert_bytes_string w sr d e a l c h1 h3 h2
  simp only [mop] at hm
  split at hm
  · rename_i l c e1
    rw [e1] at hx
    obtain ⟨rfl, rfl, rfl⟩ := hx.inv_nilSlice
    simp only [Option.some.injEq, Prod.mk.injEq] at hm
    obtain ⟨rfl, rfl⟩ := hm
    exact .same hs (by simp only [Sem.run_bind, hconv]; rfl) (.string _)
  · rename_i id off n c e1
    rw [e1] at hx
    obtain ⟨cap', o', rfl, _, hid, hl, hc, ho, hz, hex⟩ := hx.inv_slice
    dsimp only at hid ho hz hex
    split at hm
    · rename_i vs hrow
      split at hm
      · rename_i hall
        simp only [Option.some.injEq, Prod.mk.injEq] at hm
        obtain ⟨rfl, rfl⟩ := hm
        obtain ⟨vs', hload, hvs⟩ := hs.row (P := P) hrow
        have hns : ∃ ns : List Int, vs = ns.map (Value.int .u8) := by
          clear hrow hvs hload
          induction vs with
          | nil => exact ⟨[], rfl⟩
          | cons a vs ih =>
            simp only [List.all_cons, Bool.and_eq_true] at hall
            obtain ⟨ns, rfl⟩ := ih hall.2
            cases a with
            | int k n => cases k <;> first | exact ⟨n :: ns, rfl⟩ | simp [isU8] at hall
            | _ => simp [isU8] at hall
        obtain ⟨ns, rfl⟩ := hns
        have hvs' : vs' = ns.map (Value.int .u8) := by
          clear hrow hload hall
          induction ns generalizing vs' with
          | nil => cases hvs; rfl
          | cons a ns ih => cases hvs with | cons h hs => rw [ih _ hs]; rw [h.inv_int]; rfl
        subst hvs'
        have hcell : n = 0 ∨ o' = (μ id).o + off := by
          rcases Nat.eq_zero_or_pos n with e | e
          · exact .inl e
          · exact .inr (ho (by omega))
        have hload' : (loadCells ⟨(μ id).b, o', none⟩ n).run P w = .ok (ns.map (Value.int .u8)).toArray w := by
          rcases hcell with e | e
          · subst e
            have : ns = [] := by
              have := (rowL_eq 0)
              unfold H.row at hrow
              split at hrow <;> first | (cases hrow; done) | skip
              all_goals (simp [rowL] at hrow; exact hrow)
            subst this
            rfl
          · rw [e]; exact hload
        have := run_bytesToString (P := P) w ⟨(μ id).b, o', none⟩ n cap' ns hload'
        refine .same (v' := .string (ns.foldl (fun r n => r.push (UInt8.ofNat n.toNat)) ByteArray.empty)) hs (by simp only [Sem.run_bind, hconv, this]; rfl) ?_
        have hfold : ∀ (ns : List Int) (r : ByteArray), ns.foldl (fun r n => r.push (UInt8.ofNat n.toNat)) r = ⟨r.data ++ (ns.map fun k => UInt8.ofNat k.toNat).toArray⟩ := by
          intro ns
          induction ns with
          | nil => intro r; simp
          | cons a ns ih => intro r; rw [List.foldl_cons, ih]; simp [ByteArray.push]
        rw [hfold]
        simp only [List.map_map]
        have : (toU8 ∘ Value.int IntKind.u8) = fun k : Int => UInt8.ofNat k.toNat := rfl
        rw [this]
        have hd : (ByteArray.empty.data ++ (ns.map fun k => UInt8.ofNat k.toNat).toArray) = (ns.map fun k => UInt8.ofNat k.toNat).toArray := by
          apply Array.toList_inj.1; simp
        rw [hd]
        exact .string _
      · cases hm
    · cases hm
  · cases hm

/-! ## make, []T{..} -/
theorem repZ_length (zs : List Value) : ∀ n, (repZ zs n).length = n * zs.length
  | 0 => by simp [repZ]
  | n + 1 => by simp [repZ, repZ_length zs n, Nat.add_mul, Nat.add_comm]
theorem repZ_get (zs : List Value) : ∀ (n j : Nat), j < n * zs.length → (repZ zs n)[j]? = zs[j % zs.length]?
  | 0, j, h => by simp at h
  | n + 1, j, h => by
    simp only [repZ]
    by_cases hj : j < zs.length
    · rw [List.getElem?_append_left hj, Nat.mod_eq_of_lt hj]
    · rw [List.getElem?_append_right (by omega), repZ_get zs n (j - zs.length) (by rw [Nat.add_mul] at h; omega)]
      congr 1
      exact (Nat.mod_eq_sub_mod (by omega)).symm
theorem repZ_plain {zs : List Value} (h : zs.all plain = true) : ∀ n, (repZ zs n).all plain = true
  | 0 => rfl
  | n + 1 => by simp only [repZ, List.all_append, h, repZ_plain h n, Bool.and_self]
theorem zeros_eq {z : Value} {zs : List Value} (hz : z.cells.toList = zs) (n : Nat) (h0 : zs.length ≠ 0) :
    ((Array.range (n * zs.length)).map (fun i => z.cells[i % z.cells.size]!)) = (repZ zs n).toArray := by
  have hsz : z.cells.size = zs.length := by rw [← hz]; simp
  apply Array.ext_getElem?
  intro j
  by_cases hj : j < n * zs.length
  · have hm : j % zs.length < zs.length := Nat.mod_lt _ (by omega)
    have : zs[j % zs.length]? = some z.cells[j % z.cells.size]! := by
      subst hz
      rw [Array.getElem?_toList, hsz]
      rw [Array.getElem?_eq_getElem (by rw [hsz]; exact hm), getElem!_pos z.cells _ (by rw [hsz]; exact hm)]
    have h2 : (repZ zs n).toArray[j]? = zs[j % zs.length]? := by rw [List.getElem?_toArray]; exact repZ_get zs n j hj
    rw [h2, this]
    simp [hj]
  · simp only [List.getElem?_toArray]
    rw [List.getElem?_eq_none (by rw [repZ_length]; omega), Array.getElem?_eq_none (by simp; omega)]
theorem zeroCells_eq {z : Value} {zs : List Value} (hz : z.cells.toList = zs) (n : Nat) (h0 : zs.length ≠ 0) : Builtin.zeroCells z.cells n = (repZ zs n).toArray := by
  rw [← zeros_eq hz n h0]
  unfold Builtin.zeroCells
  have hsz : z.cells.size = zs.length := by rw [← hz]; simp
  rw [hsz]

theorem told_mks (hs : Sim B w0 μ σ w) {x y : Opd} {x' y' : Value} {t e : TypeId} {zs : List Value} {i : TypeInfo} (hu : P.underlying t = some (.slice e)) (hz : zeroL P e = some zs) (hi : P.info? e = some i) (h0 : i.size ≠ 0)
    (hx : VR μ σ.size (mev ts x) x') (hy : VR μ σ.size (mev ts y) y')
    (hm : mop ts σ (.mks i.size i.bytes zs x y) = some (v, τ)) : Told P B w0 μ σ τ v (do pure (.value (← Instr.makeSlice t x' y'))) w := by
  obtain ⟨i', z, hi', hz1, hz2, hz3, hz4, hz5⟩ := zeroL_spec hz
  rw [hi] at hi'
  cases hi'
  simp only [mop] at hm
  split at hm
  · rename_i k1 l k2 c e1 e2
    rw [e1] at hx
    rw [e2] at hy
    obtain rfl := hx.inv_int
    obtain rfl := hy.inv_int
    split at hm
    · rename_i hc
      simp only [Option.some.injEq, Prod.mk.injEq] at hm
      obtain ⟨rfl, rfl⟩ := hm
      obtain ⟨c1, c2, c3, c4⟩ := hc
      have hw : ∀ q : Int, 0 ≤ q → q ≤ 2 ^ 40 → IntKind.i64.wrap q = q := by
        intro q a b
        have h1 : q % (2 ^ 64 : Int) = q := Int.emod_eq_of_lt a (by omega)
        simp only [IntKind.wrap, IntKind.bits, IntKind.signed, h1]
        rw [if_neg]
        simp; omega
      refine ⟨.slice (some ⟨w.heap.size, 0, none⟩) l.toNat c.toNat, { w with heap := w.heap.push (.cells (repZ zs c.toNat).toArray e (0, 0)) }, _, .inl ?_, ?_, setMu_slice μ σ.size ⟨w.heap.size, 0, i.size, (repZ zs c.toNat).length, i.size == 0⟩ (by omega) (Nat.le_refl _) (fun _ => by simp only [repZ_length, hz4]; omega) (fun _ => rfl), .setMu _ _, by simp⟩
      · have hn0 : zs.length ≠ 0 := by omega
        have hzc := zeros_eq hz2 c.toNat hn0
        have nl : ¬ (l < 0) := by omega
        have nlc : ¬ (l > c) := by omega
        have big : ¬ ((i.bytes : Int) * c > 2 ^ 48) := by
          have : (bytes : Int) → bytes * c ≤ 2 ^ 47 → ¬ bytes * c > 2 ^ 48 := fun b h => by omega
          exact this _ (by exact_mod_cast c4)
        have nc : ¬ (c < 0) := by omega
        simp only [Instr.makeSlice, Sem.run_bind, run_und hu, Result.andThen_ok, asInt, asIntOf, Sem.run_pure, run_info hi, hw l c1 (by omega), hw c (by omega) c3]
        simp only [nl, nlc, nc, big, decide_false, Bool.or_self, Bool.false_or, Bool.or_false, Bool.false_eq_true, if_false]
        simp only [run_askRoom, Sem.run_bind, Result.andThen_ok, sizeOf, run_info hi, Sem.run_pure]
        by_cases hcz : c.toNat * i.size = 0
        · have : c.toNat = 0 := by rcases Nat.mul_eq_zero.1 hcz with h | h; exact h; exact absurd h h0
          simp only [this, Nat.zero_mul, if_true, Sem.run_pure, Result.andThen_ok, Go.newRow, Sem.run_bind, run_newObj, repZ]
          have he : (Array.map (fun i => (#[] : Array Value)[i % (#[] : Array Value).size]!) (Array.range 0)) = #[] := by apply Array.toList_inj.1; simp
          rw [he]
        · simp only [hcz, if_false, Sem.run_bind, hz5, Result.andThen_ok, Sem.run_pure, Go.newRow, run_newObj]
          rw [← hz4, hzc]
      · have := hs.newRow (sz := i.size) (more := []) (VRs.of_plain (repZ_plain hz3 c.toNat)) e (fz := (0, 0)) (unfrozen0 _)
        simpa using this
    · cases hm
  · cases hm
end
end Go.Mini
/- The small operations tell what the model's do: []T{..}, T{..}, append, copy, nil checks, assertions, lengths, maps. -/
namespace Go.Mini
open Go.RowKit (Below)
set_option linter.unusedVariables false
set_option linter.unusedSimpArgs false
section
variable {P : Program} {B : Fz} {w0 w : World} {μ : Nat → Blk} {σ τ : H} {ts : Fr} {v : Value}

theorem foldl_spl : ∀ (l : List Value) (k off : Nat) (c : Array Value), ((l.zipIdx k).foldl (fun cs (p : Value × Nat) => cs.setIfInBounds (off + p.2) p.1) c) = splA c (off + k) l
  | [], _, _, _ => rfl
  | v :: l, k, off, c => by
    simp only [List.zipIdx_cons, List.foldl_cons, splA]
    rw [foldl_spl l (k + 1) off]
    rfl
theorem fill_sound {n : Nat} {place : Nat → Option (Nat × Nat)} : ∀ {ps : List (Nat × Nat × Value)} {qs : List (Nat × Value)} {cs cs2 : List Value} {ca : Array Value},
    fillL cs ps = some cs2 → VRs μ n cs ca.toList → ps.length = qs.length →
    (∀ (j off sz : Nat) (v : Value), ps[j]? = some (off, sz, v) → ∃ (i : Nat) (v' : Value), qs[j]? = some (i, v') ∧ place i = some (off, sz) ∧ VR μ n v v') →
    ∃ ca2, Instr.fill place ca qs = some ca2 ∧ VRs μ n cs2 ca2.toList
  | [], [], cs, cs2, ca, h, hc, _, _ => by simp only [fillL, Option.some.injEq] at h; subst h; exact ⟨ca, rfl, hc⟩
  | [], _ :: _, _, _, _, _, _, h, _ => by simp at h
  | _ :: _, [], _, _, _, _, _, h, _ => by simp at h
  | (off, sz, v) :: ps, (i, v') :: qs, cs, cs2, ca, h, hc, hl, hg => by
    simp only [fillL] at h
    split at h
    · rename_i hcond
      obtain ⟨i0, v0, e0, hp, hv⟩ := hg 0 off sz v rfl
      simp only [List.getElem?_cons_zero, Option.some.injEq, Prod.mk.injEq] at e0
      obtain ⟨rfl, rfl⟩ := e0
      have hsz : v'.cells.size = sz := by rw [hv.cells_size]; exact hcond.1
      have hca : ca.size = cs.length := by simpa using hc.length
      have hfold : (v'.cells.zipIdx.foldl (fun cs (p : Value × Nat) => cs.setIfInBounds (off + p.2) p.1) ca) = splA ca off v'.cells.toList := by
        rw [← Array.foldl_toList, Array.toList_zipIdx, foldl_spl]; rfl
      have hspl : VRs μ n (spl cs off v.cells.toList) (splA ca off v'.cells.toList).toList := by
        have hcr : CellsR μ n cs ca 0 := fun j u hu => by
          obtain ⟨u', h1, h2⟩ := hc.get hu
          exact ⟨u', by rw [Nat.zero_add]; simpa using h1, h2⟩
        have := CellsR.spl (o := 0) (k := off) hv.cells hcr (by rw [Array.length_toList, hcond.1]; exact hcond.2)
        rw [Nat.zero_add] at this
        refine .of_get (by rw [Array.length_toList, splA_size, spl_length, hca]) fun j u hu => ?_
        obtain ⟨u', h1, h2⟩ := this j u hu
        exact ⟨u', by rw [Nat.zero_add] at h1; simpa using h1, h2⟩
      obtain ⟨ca2, r1, r2⟩ := fill_sound (place := place) (qs := qs) h hspl (by simpa using hl) (fun j o s u hu => by simpa using hg (j + 1) o s u (by simpa using hu))
      refine ⟨ca2, ?_, r2⟩
      have hbad : (decide (v'.cells.size ≠ sz) || decide (off + v'.cells.size > ca.size)) = false := by
        have h1 : decide (v'.cells.size ≠ sz) = false := by simp [hsz]
        have h2 : decide (off + v'.cells.size > ca.size) = false := by simp [hsz, hca]; have := hcond.2; omega
        rw [h1, h2]; rfl
      simp only [Instr.fill, hp]
      rw [if_neg (by rw [hbad]; simp)]
      have : (v'.cells.zipIdx.foldl (fun cs (x : Value × Nat) => match x with | (c, j) => cs.setIfInBounds (off + j) c) ca) = splA ca off v'.cells.toList := hfold
      rw [this]
      exact r1
    · cases h

theorem told_bsl (hs : Sim B w0 μ σ w) {t e : TypeId} {n len : Nat} {zs : List Value} {parts : List (Nat × Opd)} {parts' : Array (Nat × Value)} (hu : P.underlying t = some (.slice e)) (hz : zeroL P e = some zs)
    (hn : sizeT P e = some n) (h0 : n ≠ 0) (hlen : ¬ len * n > 2 ^ 24) (hpl : parts.length = parts'.size)
    (hp : ∀ (j i : Nat) (x : Opd), parts[j]? = some (i, x) → i < len ∧ ∃ x' : Value, parts'[j]? = some (i, x') ∧ VR μ σ.size (mev ts x) x')
    (hm : mop ts σ (.bsl n len zs parts) = some (v, τ)) : Told P B w0 μ σ τ v (do pure (.value (← Instr.buildSlice t len parts'))) w := by
  obtain ⟨i, z, hi, hz1, hz2, hz3, hz4, hz5⟩ := zeroL_spec hz
  have hni : n = i.size := by simpa [sizeT, hi] using hn.symm
  simp only [mop] at hm
  split at hm
  · rename_i cs hfill
    simp only [Option.some.injEq, Prod.mk.injEq] at hm
    obtain ⟨rfl, rfl⟩ := hm
    have hzl : zs.length = n := by omega
    have hze := zeros_eq hz2 len (by omega)
    rw [hzl] at hze
    obtain ⟨ca2, r1, r2⟩ := fill_sound (μ := μ) (n := σ.size) (place := fun i => some (i * n, n)) (qs := parts'.toList) (ca := (repZ zs len).toArray) hfill (by simpa using VRs.of_plain (repZ_plain hz3 len)) (by simpa using hpl)
      (fun j off sz u hu => by
        rw [List.getElem?_map] at hu
        cases hj : parts[j]? with
        | none => simp [hj] at hu
        | some p =>
          obtain ⟨i, x⟩ := p
          simp only [hj, Option.map_some, Option.some.injEq, Prod.mk.injEq] at hu
          obtain ⟨rfl, rfl, rfl⟩ := hu
          obtain ⟨_, x', h1, h2⟩ := hp j i x hj
          exact ⟨i, x', by simpa using h1, rfl, h2⟩)
    refine ⟨.slice (some ⟨w.heap.size, 0, none⟩) len len, { w with heap := w.heap.push (.cells ca2 e (0, 0)) }, _, .inl ?_, ?_, setMu_slice μ σ.size ⟨w.heap.size, 0, n, ca2.size, n == 0⟩ (Nat.le_refl _) (Nat.le_refl _) (fun _ => ?_) (fun _ => rfl), .setMu _ _, by simp⟩
    · simp only [Instr.buildSlice, Sem.run_bind, run_und hu, Result.andThen_ok, run_size hn]
      rw [if_neg hlen]
      by_cases hl0 : len = 0
      · subst hl0
        simp only [Nat.zero_mul, if_true, Sem.run_pure, Result.andThen_ok]
        have he : (Array.map (fun i => (#[] : Array Value)[i % (#[] : Array Value).size]!) (Array.range 0)) = #[] := by apply Array.toList_inj.1; simp
        simp only [repZ] at r1
        simp only [Sem.run_bind, Sem.run_pure, Result.andThen_ok, he, r1, Go.newRow, run_newObj]
      · have : ¬ (len * n = 0) := by intro h; rcases Nat.mul_eq_zero.1 h with h | h; exact hl0 h; exact h0 h
        simp only [this, if_false, Sem.run_bind, Sem.run_pure, hz5, Result.andThen_ok, hze, r1, Go.newRow, run_newObj]
    · have := hs.newRow (sz := n) (more := []) r2 e (fz := (0, 0)) (unfrozen0 _)
      simpa using this
    · have hl1 : ca2.size = cs.length := by simpa using r2.length
      have hl2 : ∀ {ps : List (Nat × Nat × Value)} {c c2 : List Value}, fillL c ps = some c2 → c2.length = c.length := by
        intro ps
        induction ps with
        | nil => intro c c2 h; simp only [fillL, Option.some.injEq] at h; rw [h]
        | cons p ps ih =>
          intro c c2 h
          obtain ⟨o, s, u⟩ := p
          simp only [fillL] at h
          split at h
          · rw [ih h, spl_length]
          · cases h
      have := hl2 hfill
      rw [repZ_length, hzl] at this
      simp only; omega
  · cases hm

/-- A slice's literal, as the model runs it. -/
theorem run_bsl {n0 : Nat} {t e : TypeId} {n len : Nat} {zs cs : List Value} {parts : List (Nat × Opd)} {parts' : Array (Nat × Value)} (hu : P.underlying t = some (.slice e)) (hz : zeroL P e = some zs)
    (hn : sizeT P e = some n) (h0 : n ≠ 0) (hlen : ¬ len * n > 2 ^ 24) (hpl : parts.length = parts'.size)
    (hp : ∀ (j i : Nat) (x : Opd), parts[j]? = some (i, x) → i < len ∧ ∃ x' : Value, parts'[j]? = some (i, x') ∧ VR μ n0 (mev ts x) x')
    (hfill : fillL (repZ zs len) (parts.map fun (i, x) => (i * n, n, mev ts x)) = some cs) :
    ∃ ca2 : Array Value, (do pure (.value (← Instr.buildSlice t len parts')) : Sem Next).run P w = .ok (.value (.slice (some ⟨w.heap.size, 0, none⟩) len len)) { w with heap := w.heap.push (.cells ca2 e (0, 0)) } ∧ VRs μ n0 cs ca2.toList ∧ ca2.size = len * n := by
  obtain ⟨i, z, hi, hz1, hz2, hz3, hz4, hz5⟩ := zeroL_spec hz
  have hni : n = i.size := by simpa [sizeT, hi] using hn.symm
  have hzl : zs.length = n := by omega
  have hze := zeros_eq hz2 len (by omega)
  rw [hzl] at hze
  obtain ⟨ca2, r1, r2⟩ := fill_sound (μ := μ) (n := n0) (place := fun i => some (i * n, n)) (qs := parts'.toList) (ca := (repZ zs len).toArray) hfill (by simpa using VRs.of_plain (repZ_plain hz3 len)) (by simpa using hpl)
    (fun j off sz u hu => by
      rw [List.getElem?_map] at hu
      cases hj : parts[j]? with
      | none => simp [hj] at hu
      | some p =>
        obtain ⟨i, x⟩ := p
        simp only [hj, Option.map_some, Option.some.injEq, Prod.mk.injEq] at hu
        obtain ⟨rfl, rfl, rfl⟩ := hu
        obtain ⟨_, x', h1, h2⟩ := hp j i x hj
        exact ⟨i, x', by simpa using h1, rfl, h2⟩)
  refine ⟨ca2, ?_, r2, ?_⟩
  · simp only [Instr.buildSlice, Sem.run_bind, run_und hu, Result.andThen_ok, run_size hn]
    rw [if_neg hlen]
    by_cases hl0 : len = 0
    · subst hl0
      simp only [Nat.zero_mul, if_true, Sem.run_pure, Result.andThen_ok]
      have he : (Array.map (fun i => (#[] : Array Value)[i % (#[] : Array Value).size]!) (Array.range 0)) = #[] := by apply Array.toList_inj.1; simp
      simp only [repZ] at r1
      simp only [Sem.run_bind, Sem.run_pure, Result.andThen_ok, he, r1, Go.newRow, run_newObj]
    · have : ¬ (len * n = 0) := by intro h; rcases Nat.mul_eq_zero.1 h with h | h; exact hl0 h; exact h0 h
      simp only [this, if_false, Sem.run_bind, Sem.run_pure, hz5, Result.andThen_ok, hze, r1, Go.newRow, run_newObj]
  · have hl1 : ca2.size = cs.length := by simpa using r2.length
    have hl2 : ∀ {ps : List (Nat × Nat × Value)} {c c2 : List Value}, fillL c ps = some c2 → c2.length = c.length := by
      intro ps
      induction ps with
      | nil => intro c c2 h; simp only [fillL, Option.some.injEq] at h; rw [h]
      | cons p ps ih =>
        intro c c2 h
        obtain ⟨o, s, u⟩ := p
        simp only [fillL] at h
        split at h
        · rw [ih h, spl_length]
        · cases h
    have := hl2 hfill
    rw [repZ_length, hzl] at this
    omega

theorem told_bldA (hs : Sim B w0 μ σ w) {t e : TypeId} {n k : Nat} {zs : List Value} {parts : List (Nat × Nat × Opd)} {parts' : Array (Nat × Value)} (hu : P.underlying t = some (.array k e)) (hz : zeroL P t = some zs)
    (hn : sizeT P e = some n) (hpl : parts.length = parts'.size)
    (hp : ∀ (j o s : Nat) (x : Opd), parts[j]? = some (o, s, x) → ∃ (i : Nat) (x' : Value), parts'[j]? = some (i, x') ∧ (o, s) = (i * n, n) ∧ VR μ σ.size (mev ts x) x')
    (hm : mop ts σ (.bld zs parts) = some (v, τ)) : Told P B w0 μ σ τ v (do pure (.value (← Instr.build t parts'))) w := by
  obtain ⟨i, z, hi, hz1, hz2, hz3, hz4, hz5⟩ := zeroL_spec hz
  simp only [mop] at hm
  cases hfill : fillL zs (parts.map fun (off, sz, x) => (off, sz, mev ts x)) with
  | none => rw [hfill] at hm; cases hm
  | some cs =>
    rw [hfill] at hm
    simp only [Option.map_some, Option.some.injEq, Prod.mk.injEq] at hm
    obtain ⟨rfl, rfl⟩ := hm
    obtain ⟨ca2, r1, r2⟩ := fill_sound (μ := μ) (n := σ.size) (place := fun i => some (i * n, n)) (qs := parts'.toList) (ca := z.cells) hfill (by rw [hz2]; exact VRs.of_plain hz3) (by simpa using hpl)
      (fun j off sz u hu => by
        rw [List.getElem?_map] at hu
        cases hj : parts[j]? with
        | none => simp [hj] at hu
        | some p =>
          obtain ⟨o, s, x⟩ := p
          simp only [hj, Option.map_some, Option.some.injEq, Prod.mk.injEq] at hu
          obtain ⟨rfl, rfl, rfl⟩ := hu
          obtain ⟨i, x', h1, h2, h3⟩ := hp j o s x hj
          exact ⟨i, x', by simpa using h1, by rw [← h2], h3⟩)
    exact .same (v' := .agg ca2) hs (by simp [Instr.build, hz5, run_und hu, run_size hn, r1]) (.agg (by simpa using r2))

theorem run_places {fs : List Field} (h : ∀ f : Field, f ∈ fs → (sizeT P f.type).isSome) (w : World) :
    (fs.mapM (fun f => do pure (f.offset, ← sizeOf f.type) : Field → Sem (Nat × Nat))).run P w = .ok (fs.map fun f => (f.offset, (sizeT P f.type).getD 0)) w := by
  induction fs with
  | nil => simp
  | cons f fs ih =>
    obtain ⟨n, hn⟩ := Option.isSome_iff_exists.1 (h f (by simp))
    have ih' := ih (fun g hg => h g (by simp [hg]))
    rw [List.mapM_cons]
    simp only [Sem.run_bind, run_size hn, Result.andThen_ok, Sem.run_pure, ih', List.map_cons, hn, Option.getD_some]

theorem told_bldS (hs : Sim B w0 μ σ w) {t : TypeId} {fs : Array Field} {zs : List Value} {parts : List (Nat × Nat × Opd)} {parts' : Array (Nat × Value)} (hu : P.underlying t = some (.struct fs)) (hz : zeroL P t = some zs)
    (hall : ∀ f : Field, f ∈ fs.toList → (sizeT P f.type).isSome) (hpl : parts.length = parts'.size)
    (hp : ∀ (j o s : Nat) (x : Opd), parts[j]? = some (o, s, x) → ∃ (i : Nat) (f : Field) (x' : Value), parts'[j]? = some (i, x') ∧ fs[i]? = some f ∧ o = f.offset ∧ sizeT P f.type = some s ∧ VR μ σ.size (mev ts x) x')
    (hm : mop ts σ (.bld zs parts) = some (v, τ)) : Told P B w0 μ σ τ v (do pure (.value (← Instr.build t parts'))) w := by
  obtain ⟨i, z, hi, hz1, hz2, hz3, hz4, hz5⟩ := zeroL_spec hz
  simp only [mop] at hm
  cases hfill : fillL zs (parts.map fun (off, sz, x) => (off, sz, mev ts x)) with
  | none => rw [hfill] at hm; cases hm
  | some cs =>
    rw [hfill] at hm
    simp only [Option.map_some, Option.some.injEq, Prod.mk.injEq] at hm
    obtain ⟨rfl, rfl⟩ := hm
    let places : Array (Nat × Nat) := (fs.toList.map fun (f : Field) => (f.offset, (sizeT P f.type).getD 0)).toArray
    obtain ⟨ca2, r1, r2⟩ := fill_sound (μ := μ) (n := σ.size) (place := fun i => places[i]?) (qs := parts'.toList) (ca := z.cells) hfill (by rw [hz2]; exact VRs.of_plain hz3) (by simpa using hpl)
      (fun j off sz u hu => by
        rw [List.getElem?_map] at hu
        cases hj : parts[j]? with
        | none => simp [hj] at hu
        | some p =>
          obtain ⟨o, s, x⟩ := p
          simp only [hj, Option.map_some, Option.some.injEq, Prod.mk.injEq] at hu
          obtain ⟨rfl, rfl, rfl⟩ := hu
          obtain ⟨i, f, x', h1, h2, rfl, h4, h3⟩ := hp j o s x hj
          refine ⟨i, x', by simpa using h1, ?_, h3⟩
          simp only [places, List.getElem?_toArray, List.getElem?_map, Array.getElem?_toList, h2, Option.map_some, h4, Option.getD_some])
    have hplaces : (fs.mapM (fun f => do pure (f.offset, ← sizeOf f.type) : Field → Sem (Nat × Nat))).run P w = .ok places w := by
      have := run_places (P := P) hall w
      rw [← Array.toArray_toList (xs := fs), List.mapM_toArray]
      simp only [Sem.run_map, this, Result.andThen_ok]
      rfl
    refine .same (v' := .agg ca2) hs ?_ (.agg (by simpa using r2))
    simp only [Instr.build, Sem.run_bind, hz5, Result.andThen_ok, run_und hu]
    rw [hplaces]
    simp [r1]
end
end Go.Mini
