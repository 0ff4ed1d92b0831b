/- All the small operations tell what the model's do. -/
import Derived.Test.YtgfmphjccnemmaaDoorMiniK
namespace Go.Mini
open Go.RowKit (Below)
set_option linter.unusedVariables false
set_option linter.unusedSimpArgs false
section
variable {P : Program} {B : Nat} {w0 w : World} {μ : Nat → Blk} {σ τ : H} {ts : Fr} {v : Value} {a : Act}

theorem mapM_cons_some {α β : Type} {f : α → Option β} {l : List α} {y : β} {ys : List β} (h : l.mapM f = some (y :: ys)) : ∃ x xs, l = x :: xs ∧ f x = some y ∧ xs.mapM f = some ys := by
  cases l with
  | nil => simp at h
  | cons x xs =>
    rw [List.mapM_cons] at h
    cases hx : f x with
    | none => simp [hx] at h
    | some b =>
      cases hxs : xs.mapM f with
      | none => simp [hx, hxs] at h
      | some bs =>
        simp [hx, hxs] at h
        exact ⟨x, xs, rfl, by rw [h.1] at hx; exact hx, by rw [h.2] at hxs; exact hxs⟩
theorem mapM_nil_some {α β : Type} {f : α → Option β} {l : List α} (h : l.mapM f = some []) : l = [] := by
  cases l with
  | nil => rfl
  | cons x xs =>
    rw [List.mapM_cons] at h
    cases hx : f x with
    | none => simp [hx] at h
    | some b => cases hxs : xs.mapM f <;> simp [hx, hxs] at h
theorem mapM_get {α β : Type} {f : α → Option β} : ∀ {l : List α} {l' : List β}, l.mapM f = some l' → l'.length = l.length ∧ ∀ (j : Nat) (y : β), l'[j]? = some y → ∃ x, l[j]? = some x ∧ f x = some y
  | [], l', h => by simp at h; subst h; exact ⟨rfl, fun j y h => by simp at h⟩
  | x :: xs, l', h => by
    cases l' with
    | nil => have := mapM_nil_some h; cases this
    | cons y ys =>
      obtain ⟨x', xs', e, h1, h2⟩ := mapM_cons_some h
      cases e
      obtain ⟨a1, a2⟩ := mapM_get h2
      refine ⟨by simp [a1], fun j z hz => ?_⟩
      cases j with
      | zero => simp at hz; subst hz; exact ⟨x, by simp, h1⟩
      | succ j => simpa using a2 j z (by simpa using hz)
theorem oopd_sound (hf : ∀ i, VR μ σ.size (ts i) (a.tmps.getD i undef)) {x : Option Operand} {x' : Option Opd} (h : oopd x = some x') : OVR μ σ.size (x'.map (mev ts)) (x.map a.eval) := by
  cases x with
  | none => simp only [oopd, Option.some.injEq] at h; subst h; exact .none
  | some x =>
    simp only [oopd] at h
    cases hx : copd x with
    | none => simp [hx] at h
    | some y => simp [hx] at h; subst h; exact .some (copd_sound hf hx)
theorem oopd_none {x : Option Operand} {x' : Option Opd} (h : oopd x = some x') (hn : x'.isNone = true) : x = none := by
  cases x with
  | none => rfl
  | some x =>
    simp only [oopd] at h
    cases hx : copd x with
    | none => simp [hx] at h
    | some y => simp [hx] at h; subst h; simp at hn

theorem cbin_sound {op : BinOp} {t : TypeId} {x y : Operand} {m : MOp} (hc : cbin P op t x y = some m) (hs : Sim B w0 μ σ w) (hf : ∀ i, VR μ σ.size (ts i) (a.tmps.getD i undef)) (hm : mop ts σ m = some (v, τ)) :
    Told P B w0 μ σ τ v (do pure (.value (← (do eqGuard op t x y (a.eval x) (a.eval y); binOp op t (a.eval x) (a.eval y))))) w := by
  unfold cbin at hc
  simp only [bind, Option.bind_eq_some_iff] at hc
  obtain ⟨x', hx, y', hy, hc⟩ := hc
  have vx := copd_sound hf hx
  have vy := copd_sound hf hy
  have nn : ∀ k, (∃ d, P.underlying t = some d ∧ NK.of k d) → (k = .iface → (isC x || isC y) = true) → eqNop k op x' y' = some m →
      Told P B w0 μ σ τ v (do pure (.value (← (do eqGuard op t x y (a.eval x) (a.eval y); binOp op t (a.eval x) (a.eval y))))) w := by
    rintro k ⟨d, hu, hk⟩ hi he
    unfold eqNop at he
    split at he
    · simp only [Option.some.injEq] at he; subst he
      exact told_eqN (neg := false) hs hu hk hi vx vy hm
    · simp only [Option.some.injEq] at he; subst he
      exact told_eqN (neg := true) hs hu hk hi vx vy hm
    · cases he
  split at hc
  · rename_i hu; simp only [Option.some.injEq] at hc; subst hc; exact told_bin hs vx vy hm
  · rename_i hu; simp only [Option.some.injEq] at hc; subst hc; exact told_bin hs vx vy hm
  · rename_i hu
    split at hc
    · simp only [Option.some.injEq] at hc; subst hc; exact told_eqB (neg := false) hs hu vx vy hm
    · simp only [Option.some.injEq] at hc; subst hc; exact told_eqB (neg := true) hs hu vx vy hm
    · cases hc
  · rename_i ms hu
    split at hc
    · split at hc
      · rename_i hi; exact nn .iface ⟨_, hu, trivial⟩ (fun _ => hi) hc
      · cases hc
    · split at hc
      · rename_i hi; exact nn .iface ⟨_, hu, trivial⟩ (fun _ => hi) hc
      · cases hc
    · cases hc
  · rename_i e hu; exact nn .ptr ⟨_, hu, trivial⟩ (fun h => by cases h) hc
  · rename_i e hu; exact nn .slice ⟨_, hu, trivial⟩ (fun h => by cases h) hc
  · rename_i e1 e2 hu; exact nn .map ⟨_, hu, trivial⟩ (fun h => by cases h) hc
  · rename_i e1 e2 e3 hu; exact nn .func ⟨_, hu, trivial⟩ (fun h => by cases h) hc
  all_goals first
    | (rename_i hu
       unfold eqAop at hc
       split at hc
       · cases hc
       · rename_i hgd
         split at hc
         · rename_i ks hk
           simp only [Option.some.injEq] at hc; subst hc
           exact told_eqA (neg := false) hs (by simpa using hgd) hk (by simp [isAggT, hu]) vx vy hm
         · rename_i ks hk
           simp only [Option.some.injEq] at hc; subst hc
           exact told_eqA (neg := true) hs (by simpa using hgd) hk (by simp [isAggT, hu]) vx vy hm
         · cases hc)
    | cases hc

theorem run_builtin {o : Oper} {c : Call} {b : Builtin} (ho : o.op = .call c) (hb : c.callee = .builtin b) :
    (execOp a.eval o).run P w = (builtin b c.argTypes o.type (c.args.map fun | .const _ => true | _ => false) (c.args.map a.eval)).run P w := by
  simp only [execOp, ho, resolve, hb, Sem.run_bind, Sem.run_pure, Result.andThen_ok, invoke]
  rfl
theorem Told.congr {s s' : Sem Next} (h : Told P B w0 μ σ τ v s w) (e : s'.run P w = s.run P w) : Told P B w0 μ σ τ v s' w := by
  unfold Told at h ⊢
  rw [e]
  exact h

theorem ccall_sound {o : Oper} {c : Call} {m : MOp} (ho : o.op = .call c) (hc : ccall P c = some m) (hs : Sim B w0 μ σ w) (hf : ∀ i, VR μ σ.size (ts i) (a.tmps.getD i undef)) (hm : mop ts σ m = some (v, τ)) :
    Told P B w0 μ σ τ v (execOp a.eval o) w := by
  unfold ccall at hc
  simp only [bind, Option.bind_eq_some_iff] at hc
  obtain ⟨args, hargs, hc⟩ := hc
  split at hc
  · simp only [Option.some.injEq] at hc; subst hc; simp [mop] at hm
  · simp only [Option.map_eq_some_iff] at hc; obtain ⟨_, _, rfl⟩ := hc; simp [mop] at hm
  · cases hc
  · rename_i b hb
    have hbi := run_builtin (P := P) (w := w) (a := a) ho hb
    have one1 : ∀ {x}, args = [x] → ∃ ox, c.args.map a.eval = #[a.eval ox] ∧ VR μ σ.size (mev ts x) (a.eval ox) := by
      intro x e
      subst e
      obtain ⟨ox, xs, e1, h1, h2⟩ := mapM_cons_some hargs
      have := mapM_nil_some h2
      subst this
      refine ⟨ox, ?_, copd_sound hf h1⟩
      apply Array.toList_inj.1; simp [e1]
    have two2 : ∀ {x y}, args = [x, y] → ∃ ox oy, c.args.map a.eval = #[a.eval ox, a.eval oy] ∧ VR μ σ.size (mev ts x) (a.eval ox) ∧ VR μ σ.size (mev ts y) (a.eval oy) := by
      intro x y e
      subst e
      obtain ⟨ox, xs, e1, h1, h2⟩ := mapM_cons_some hargs
      obtain ⟨oy, ys, e2, h3, h4⟩ := mapM_cons_some h2
      have := mapM_nil_some h4
      subst this
      subst e2
      refine ⟨ox, oy, ?_, copd_sound hf h1, copd_sound hf h3⟩
      apply Array.toList_inj.1; simp [e1]
    split at hc
    · -- len
      obtain ⟨ox, h1, vx⟩ := one1 rfl
      rw [h1] at hbi
      split at hc
      · rename_i hu
        simp only [Option.bind_eq_some_iff] at hu
        obtain ⟨t, ht, hu⟩ := hu
        simp only [Option.some.injEq] at hc; subst hc
        exact (told_len (str := true) (ty := o.type) hs ht hu (.inl ⟨rfl, rfl⟩) vx hm).congr (by rw [hbi]; rfl)
      · rename_i e hu
        simp only [Option.bind_eq_some_iff] at hu
        obtain ⟨t, ht, hu⟩ := hu
        simp only [Option.some.injEq] at hc; subst hc
        exact (told_len (str := false) (ty := o.type) hs ht hu (.inr ⟨rfl, _, rfl⟩) vx hm).congr (by rw [hbi]; rfl)
      · rename_i n e hu
        simp only [Option.bind_eq_some_iff] at hu
        obtain ⟨t, ht, hu⟩ := hu
        simp only [Option.some.injEq] at hc; subst hc
        simp only [mop, Option.some.injEq, Prod.mk.injEq] at hm
        obtain ⟨rfl, rfl⟩ := hm
        refine .same (v' := .int .i64 n) hs ?_ (.int _ _)
        rw [hbi]
        simp [builtin, Builtin.len_, ht, run_und hu, goInt]
      · rename_i e1 e2 hu
        simp only [Option.bind_eq_some_iff] at hu
        obtain ⟨t, ht, hu⟩ := hu
        simp only [Option.some.injEq] at hc; subst hc
        exact (told_mlen (ty := o.type) hs ht hu vx hm).congr (by rw [hbi]; rfl)
      · rename_i e hu
        simp only [Option.bind_eq_some_iff] at hu
        obtain ⟨t, ht, hu⟩ := hu
        split at hc
        · rename_i n e2 hu2
          simp only [Option.some.injEq] at hc; subst hc
          simp only [mop, Option.some.injEq, Prod.mk.injEq] at hm
          obtain ⟨rfl, rfl⟩ := hm
          refine .same (v' := .int .i64 n) hs ?_ (.int _ _)
          rw [hbi]
          simp [builtin, Builtin.len_, ht, run_und hu, run_und hu2, goInt]
        · cases hc
      · cases hc
    · -- append
      rename_i s0 x0
      obtain ⟨ox, oy, h1, vx, vy⟩ := two2 rfl
      rw [h1] at hbi
      have app : ∀ {e d2 t t2}, c.argTypes[0]? = some t → P.underlying t = some (.slice e) → c.argTypes[1]? = some t2 → P.underlying t2 = some d2 → (∀ k, d2 ≠ .int k) →
          (match P.info? e with | some i => if i.bytes = 0 ∨ i.size = 0 then none else (zeroL P e).map fun _ => MOp.app i.size i.bytes s0 x0 | none => none) = some m → Told P B w0 μ σ τ v (execOp a.eval o) w := by
        intro e d2 t t2 ht hu ht2 hu2 hd2 hc
        cases hi : P.info? e with
        | none => simp [hi] at hc
        | some i =>
          simp only [hi] at hc
          split at hc
          · cases hc
          · rename_i hn
            cases hz : zeroL P e with
            | none => simp [hz] at hc
            | some zs =>
              simp only [hz, Option.map_some, Option.some.injEq] at hc
              subst hc
              exact (told_app (ty := o.type) hs ht ht2 hu hu2 hd2 hi (fun h => hn (.inl h)) (fun h => hn (.inr h)) hz vx vy hm).congr (by rw [hbi]; rfl)
      split at hc
      · rename_i e e2 hu hu2
        simp only [Option.bind_eq_some_iff] at hu hu2
        obtain ⟨t, ht, hu⟩ := hu
        obtain ⟨t2, ht2, hu2⟩ := hu2
        exact app ht hu ht2 hu2 (fun k h => by cases h) hc
      · rename_i e hu hu2
        simp only [Option.bind_eq_some_iff] at hu hu2
        obtain ⟨t, ht, hu⟩ := hu
        obtain ⟨t2, ht2, hu2⟩ := hu2
        exact app ht hu ht2 hu2 (fun k h => by cases h) hc
      · cases hc
    · -- copy
      obtain ⟨ox, oy, h1, vx, vy⟩ := two2 rfl
      rw [h1] at hbi
      split at hc
      · rename_i e hu
        simp only [Option.bind_eq_some_iff] at hu
        obtain ⟨t, ht, hu⟩ := hu
        simp only [Option.map_eq_some_iff] at hc
        obtain ⟨n, hn, rfl⟩ := hc
        exact (told_cpy (ty := o.type) hs ht hu hn vx vy hm).congr (by rw [hbi]; rfl)
      · cases hc
    · -- clear
      obtain ⟨ox, h1, vx⟩ := one1 rfl
      rw [h1] at hbi
      split at hc
      · rename_i e hu
        simp only [Option.bind_eq_some_iff] at hu
        obtain ⟨t, ht, hu⟩ := hu
        split at hc
        · rename_i zs hz
          split at hc
          · cases hc
          · rename_i h0
            simp only [Option.some.injEq] at hc; subst hc
            exact (told_clr (ty := o.type) hs ht hu hz h0 vx hm).congr (by rw [hbi]; rfl)
        · cases hc
      · cases hc
    · obtain ⟨ox, oy, h1, vx, vy⟩ := two2 rfl
      rw [h1] at hbi
      simp only [Option.some.injEq] at hc; subst hc
      exact (told_min (ats := c.argTypes) (t := o.type) hs vx vy hm).congr (by rw [hbi]; rfl)
    · obtain ⟨ox, oy, h1, vx, vy⟩ := two2 rfl
      rw [h1] at hbi
      simp only [Option.some.injEq] at hc; subst hc
      exact (told_max (ats := c.argTypes) (t := o.type) hs vx vy hm).congr (by rw [hbi]; rfl)
    · cases hc
end
end Go.Mini
