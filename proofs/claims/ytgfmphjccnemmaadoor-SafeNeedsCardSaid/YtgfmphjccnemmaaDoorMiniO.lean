/- The small world's code tells what the model's does. -/
import Derived.Test.YtgfmphjccnemmaaDoorMiniN
namespace Go.Mini
open Go.RowKit (Below)
set_option linter.unusedVariables false
set_option linter.unusedSimpArgs false
section
variable {P : Program} {B : Nat} {w0 w : World} {N : Nat} {μ0 μ : Nat → Blk} {n0 : Nat} {ts : Fr} {σ : H} {a : Act} {Q : Exit → Act → World → Prop}

theorem cMI_spec {ops : Array Oper} {o : Oper} {i : MI} (h : cMI P N ops o = some i) :
    cop P o.op = some i.op ∧ cGuard ops o.guard = some i.g ∧ i.dst = o.dst ∧ dstOk N o.dst = true ∧ (isCallM i.op = true → isCallO o.op = true) := by
  unfold cMI at h
  split at h
  · rename_i m g hm hg
    split at h
    · rename_i hc
      simp only [Option.some.injEq] at h
      subst h
      simp only [Bool.and_eq_true, Bool.or_eq_true, Bool.not_eq_true'] at hc
      refine ⟨hm, hg, rfl, hc.1, fun hcm => ?_⟩
      rcases hc.2 with h | h
      · rw [h] at hcm; cases hcm
      · exact h
    · cases h
  · cases h

theorem mstep_sound {o : Oper} {d : Option Nat} {op : MOp} {K : Value → H → Prop} {next : Act → World → Prop} (hc : cop P o.op = some op) (hcall : isCallM op = true → isCallO o.op = true) (hd : dstOk N o.dst = true)
    (st : St B w0 N μ0 n0 μ ts σ a w) (h : mstep P ts σ op K)
    (hK : ∀ v τ μ' a' w', K v τ → St B w0 N μ0 n0 μ' (updO ts o.dst v) τ a' w' → next a' w') : o.wp P a w next Q := by
  unfold Oper.wp
  have plainCase : (∃ v τ, mop ts σ op = some (v, τ) ∧ K v τ) → o.upon P a next Q ((execOp a.eval o).run P w) := by
    rintro ⟨v, τ, hm, hk⟩
    obtain ⟨v', w', μ', hrun, hs, hv, hag, hle⟩ := cop_sound hc st.sim st.fr.2 hm
    rcases hrun with hrun | ⟨hrun, rfl⟩
    · rw [hrun]; exact hK v τ μ' _ w' hk (st.put hd hs hv hag hle)
    · rw [hrun]; exact hK v τ μ' _ w' hk (st.put hd hs hv hag hle)
  have callCase : ∀ {f : FuncId} {args : List Value} {args' : Array Value}, MCalls P f args σ K → VRs μ σ.size args args'.toList → (execOp a.eval o).run P w = .ok (.enter f args') w →
      o.upon P a next Q ((execOp a.eval o).run P w) := by
    intro f args args' hm hv hrun
    rw [hrun]
    have := hm.2 B w0 μ w args'.toList st.sim hv
    rw [Array.toArray_toList] at this
    refine Calls.mono this ?_
    rintro e w' ⟨v, v', τ, μ', rfl, hk, hs, hv', hag, hle⟩
    exact hK v τ μ' _ w' hk (st.put hd hs hv' hag hle)
  cases op with
  | call f args =>
    have hco := hcall rfl
    cases ho : o.op with
    | call c =>
      rw [ho] at hc
      obtain ⟨h1, h2⟩ := ccall_call (cop_call hc rfl)
      exact callCase h (by simpa using copds_sound st.fr.2 h2) (run_callF ho h1 h.1 w)
    | _ => rw [ho] at hco; cases hco
  | callv x args =>
    have hco := hcall rfl
    cases ho : o.op with
    | call c =>
      rw [ho] at hc
      obtain ⟨⟨y, h1, h3⟩, h2⟩ := ccall_callv (cop_call hc rfl)
      simp only [mstep] at h
      split at h
      · rename_i f first cap e
        have hx := copd_sound st.fr.2 h3
        rw [e] at hx
        obtain ⟨first', cap', hy, hf1, hf2⟩ := hx.inv_func
        refine callCase h ?_ (run_callV ho h1 hy h.1 w)
        simpa using (hf1.append (copds_sound st.fr.2 h2)).append hf2
      · exact h.elim
    | _ => rw [ho] at hco; cases hco
  | _ => exact plainCase h

theorem ml_sound {ops : Array Oper} : ∀ {l : List Oper} {l' : List MI} {K : Fr → H → Prop} {ts : Fr} {σ : H} {μ : Nat → Blk} {a : Act} {w : World}, l.mapM (cMI P N ops) = some l' → ml P l' K ts σ → St B w0 N μ0 n0 μ ts σ a w →
    (∀ ts σ μ a w, K ts σ → St B w0 N μ0 n0 μ ts σ a w → Q .normal a w) → wpList P ops Q l a w
  | [], l', K, ts, σ, μ, a, w, hc, h, st, hK => by
    simp only [List.mapM_nil, pure, Option.some.injEq] at hc
    subst hc
    exact hK ts σ μ a w h st
  | o :: l, l', K, ts, σ, μ, a, w, hc, h, st, hK => by
    cases l' with
    | nil => have := mapM_nil_some hc; cases this
    | cons i l' =>
      obtain ⟨o', l0, e, h1, h2⟩ := mapM_cons_some hc
      cases e
      obtain ⟨c1, c2, c3, c4, c5⟩ := cMI_spec h1
      simp only [wpList]
      rw [want_eq st.fr c2]
      simp only [ml] at h
      split at h
      · rename_i hw
        rw [hw]
        simp only [if_true]
        left
        rw [c3] at h
        refine mstep_sound (d := i.dst) c1 c5 c4 st h ?_
        intro v τ μ' a' w' hk st'
        exact ml_sound h2 hk st' hK
      · rename_i hw
        simp only [hw, if_false]
        have : wantM ts i.g = false := by simpa using hw
        simp only [Bool.false_eq_true, if_false]
        rw [c3] at h
        exact ml_sound h2 h (st.put c4 st.sim (.tuple .nil) (.refl _ _) (Nat.le_refl _)) hK

theorem RQ.mono {μ1 : Nat → Blk} {n1 : Nat} {Q Q' : MQ} {e : Exit} {a : Act} {w : World} (h : RQ B w0 N μ1 n1 Q e a w) (hag : Agr n0 μ0 μ1) (hle : n0 ≤ n1) (hq : ∀ e ts σ, Q e ts σ → Q' e ts σ) : RQ B w0 N μ0 n0 Q' e a w := by
  obtain ⟨ex, ts, σ, μ, h1, h2, st⟩ := h
  exact ⟨ex, ts, σ, μ, h1, hq _ _ _ h2, ⟨st.sim, st.fr, st.defers, hag.trans st.agr hle, Nat.le_trans hle st.le⟩⟩

end
end Go.Mini
