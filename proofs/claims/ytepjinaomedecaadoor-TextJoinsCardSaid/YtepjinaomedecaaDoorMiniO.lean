import Derived.Test.YtepjinaomedecaaDoorMiniM
import Derived.CallsIn
import Derived.ControlIn
import Derived.OrdersIn
import Derived.TacticsIn
import Derived.Sort.LoopGhostIn
import Derived.RangeFuncRecord
import Derived.RangeFuncSeq
import Derived.RangeFuncBound
/- The small world's code: what it does, and that it tells what the model's code does. -/
namespace Go.Mini
open Go.RowKit (Below)
set_option linter.unusedVariables false
set_option linter.unusedSimpArgs false

/-! ## Of which of the model's code -/
def dstOk (N : Nat) : Option Nat → Bool
  | none => true
  | some d => decide (d < N)
def cGuard (ops : Array Oper) : Option (Nat × Bool) → Option (Option (Nat × Bool))
  | none => some none
  | some (j, b) => match (ops[j]?).bind (·.dst) with
    | some d => some (some (d, b))
    | none => none
def isCallM : MOp → Bool
  | .call .. | .callv .. => true
  | _ => false
def isCallO : Op → Bool
  | .call _ => true
  | _ => false
def cMI (P : Program) (N : Nat) (ops : Array Oper) (o : Oper) : Option MI :=
  match cop P o.op, cGuard ops o.guard with
  | some m, some g => if dstOk N o.dst && (!isCallM m || isCallO o.op) then some ⟨o.dst, m, g⟩ else none
  | _, _ => none
def cReg (P : Program) (N : Nat) (ops : Array Oper) : Option (List MI) := ops.toList.mapM (cMI P N ops)
/-- A region that draws its order: what is asked of it (DrawOk). -/
def quietM : MOp → Bool
  | .mv _ | .pick .. | .load1 _ | .loadN .. | .fadd .. | .iaS .. | .iaA .. | .idxS .. | .idxA .. | .fld .. | .bin .. | .eqB .. | .eqN .. | .eqA .. | .not _ | .neg _ | .conv .. | .b2s _ | .mki .. | .mkf .. | .bld ..
  | .slc .. | .slcS .. | .slcA .. | .ext .. | .nilck _ | .tasI .. | .len .. | .lenC _ | .min2 .. | .max2 .. | .mlook .. | .mlen _ => true
  | _ => false
/-! ## What it does -/
def okFn (P : Program) (f : FuncId) : Bool := match P.funcs[f]? with
  | some fn => fn.name != "runtime.NumGoroutine" && fn.body.isSome
  | none => false
def MCalls (E : World → Prop) (P : Program) (f : FuncId) (args : List Value) (σ : H) (R : Value → H → Prop) : Prop :=
  okFn P f = true ∧ ∀ B w0 μ w args', E w0 → Sim B w0 μ σ w → VRs μ σ.size args args' → Calls P f args'.toArray w fun e w' =>
    ∃ v v' τ μ', e = .returned v' ∧ R v τ ∧ Sim B w0 μ' τ w' ∧ VR μ' τ.size v v' ∧ Agr σ.size μ μ' ∧ σ.size ≤ τ.size
theorem MCalls.mono {E : World → Prop} {P : Program} {f : FuncId} {args : List Value} {σ : H} {R R' : Value → H → Prop} (h : MCalls E P f args σ R) (hr : ∀ v τ, R v τ → R' v τ) : MCalls E P f args σ R' :=
  ⟨h.1, fun B w0 μ w args' hE hs ha => (h.2 B w0 μ w args' hE hs ha).mono fun e w' ⟨v, v', τ, μ', h1, h2, h3⟩ => ⟨v, v', τ, μ', h1, hr _ _ h2, h3⟩⟩

/-- The round of a range over a function: what a call of yield comes to. -/
def MYield (E : World → Prop) (P : Program) (L : Nat) (args : List Value) (σ : H) (R : Value → H → Prop) : Prop :=
  ∀ B w0 μ w (args' : List Value), E w0 → Sim B w0 μ σ w → VRs μ σ.size args args' → YieldAt Fence.wide 0 P L args'.toArray w fun e w' =>
    ∃ v v' τ μ', e = .returned v' ∧ R v τ ∧ Sim B w0 μ' τ w' ∧ VR μ' τ.size v v' ∧ Agr σ.size μ μ' ∧ σ.size ≤ τ.size
theorem MYield.mono {E : World → Prop} {P : Program} {L : Nat} {args : List Value} {σ : H} {R R' : Value → H → Prop} (h : MYield E P L args σ R) (hr : ∀ v τ, R v τ → R' v τ) : MYield E P L args σ R' :=
  fun B w0 μ w args' hE hs ha => (h B w0 μ w args' hE hs ha).mono fun e w' ⟨v, v', τ, μ', h1, h2, h3⟩ => ⟨v, v', τ, μ', h1, hr _ _ h2, h3⟩
/-- The wide fence, in a round or in none. -/
def FW (ro : Option Nat) : Fence := { Fence.wide with round := ro }

def wantM (ts : Fr) : Option (Nat × Bool) → Bool
  | none => true
  | some (d, b) => match ts d with
    | .bool c => c == b
    | _ => false
def updO (ts : Fr) (d : Option Nat) (v : Value) : Fr := match d with
  | some d => upd ts d v
  | none => ts

/-- One operation. -/
def mstep (E : World → Prop) (P : Program) (ts : Fr) (σ : H) (op : MOp) (K : Value → H → Prop) : Prop := match op with
  | .call f args => MCalls E P f (args.map (mev ts)) σ K
  | .callv x args => match mev ts x with
    | .func (.func f) first cap => MCalls E P f (first.toList ++ args.map (mev ts) ++ cap.toList) σ K
    | .func (.yield L) first _ => MYield E P L (first.toList ++ args.map (mev ts)) σ K
    | _ => False
  | op => ∃ v τ, mop ts σ op = some (v, τ) ∧ K v τ
def ml (E : World → Prop) (P : Program) : List MI → (Fr → H → Prop) → Fr → H → Prop
  | [], K, ts, σ => K ts σ
  | i :: rest, K, ts, σ => if wantM ts i.g = true then mstep E P ts σ i.op (fun v τ => ml E P rest K (updO ts i.dst v) τ) else ml E P rest K (updO ts i.dst undef) σ

inductive Ex where
  | nor
  | exit (id : Nat)
  | ret
abbrev MQ := Ex → Fr → H → Prop
def Ex.thn (K : Fr → H → Prop) (Q : MQ) : MQ
  | .nor, ts, σ => K ts σ
  | e, ts, σ => Q e ts σ
def Ex.inb (id : Nat) (Q : MQ) : MQ
  | .exit j, ts, σ => if j = id then Q .nor ts σ else Q (.exit j) ts σ
  | e, ts, σ => Q e ts σ
section
variable {E : World → Prop} {P : Program}

def exR : Exit → Ex → Prop
  | .normal, .nor => True
  | .exit i, .exit j => i = j
  | .ret, .ret => True
  | _, _ => False
/-- A state of the model's and one of the small world's. -/
structure St (E : World → Prop) (B : Fz) (w0 : World) (N : Nat) (D : List Deferred) (μ0 : Nat → Blk) (n0 : Nat) (μ : Nat → Blk) (ts : Fr) (σ : H) (a : Act) (w : World) : Prop where
  env : E w0
  sim : Sim B w0 μ σ w
  fr : FrR μ σ.size N ts a.tmps
  defers : a.defers = D
  agr : Agr n0 μ0 μ
  le : n0 ≤ σ.size
def RQ (E : World → Prop) (B : Fz) (w0 : World) (N : Nat) (D : List Deferred) (μ0 : Nat → Blk) (n0 : Nat) (Q : MQ) : Exit → Act → World → Prop := fun e a w => ∃ ex ts σ μ, exR e ex ∧ Q ex ts σ ∧ St E B w0 N D μ0 n0 μ ts σ a w

variable {B : Fz} {w0 w : World} {N : Nat} {D : List Deferred} {μ0 μ : Nat → Blk} {n0 : Nat} {ts : Fr} {σ : H} {a : Act}

theorem St.put {τ : H} {μ' : Nat → Blk} {w' : World} {d : Option Nat} {v v' : Value} (h : St E B w0 N D μ0 n0 μ ts σ a w) (hd : dstOk N d = true) (hs : Sim B w0 μ' τ w') (hv : VR μ' τ.size v v') (hag : Agr σ.size μ μ')
    (hle : σ.size ≤ τ.size) : St E B w0 N D μ0 n0 μ' (updO ts d v) τ (a.put d v') w' := by
  refine ⟨h.env, hs, ?_, ?_, h.agr.trans hag h.le, Nat.le_trans h.le hle⟩
  · have hf := h.fr.mono hle hag
    cases d with
    | none => exact hf
    | some d => exact hf.upd (by simpa [dstOk] using hd) hv
  · cases d <;> exact h.defers
theorem St.move {τ : H} {μ' : Nat → Blk} {w' : World} (h : St E B w0 N D μ0 n0 μ ts σ a w) (hs : Sim B w0 μ' τ w') (hag : Agr σ.size μ μ') (hle : σ.size ≤ τ.size) : St E B w0 N D μ0 n0 μ' ts τ a w' :=
  ⟨h.env, hs, h.fr.mono hle hag, h.defers, h.agr.trans hag h.le, Nat.le_trans h.le hle⟩

theorem want_eq (hf : FrR μ σ.size N ts a.tmps) {ops : Array Oper} {o : Oper} {g : Option (Nat × Bool)} (hg : cGuard ops o.guard = some g) : Region.wanted o (yielded ops a.tmps) = wantM ts g := by
  unfold Region.wanted
  cases ho : o.guard with
  | none => rw [ho] at hg; simp only [cGuard, Option.some.injEq] at hg; subst hg; rfl
  | some p =>
    obtain ⟨j, b⟩ := p
    rw [ho] at hg
    simp only [cGuard] at hg
    cases hd : (ops[j]?).bind (·.dst) with
    | none => rw [hd] at hg; cases hg
    | some d =>
      rw [hd] at hg
      simp only [Option.some.injEq] at hg
      subst hg
      have hv := hf.2 d
      simp only [wantM, yielded, hd, Option.bind_some]
      rw [Array.getD_eq_getD_getElem?] at hv
      cases ht : a.tmps[d]? with
      | none =>
        rw [ht] at hv
        simp only [Option.getD_none, undef] at hv
        generalize ts d = q at hv ⊢
        cases hv
        simp
      | some q' =>
        rw [ht] at hv
        simp only [Option.getD_some] at hv
        generalize ts d = q at hv ⊢
        cases hv <;> simp

theorem run_callF {o : Oper} {c : Call} {f : FuncId} (ho : o.op = .call c) (hcal : c.callee = .value (.func f)) (hok : okFn P f = true) (w : World) :
    (execOp a.eval o).run P w = .ok (.enter f (c.args.map a.eval)) w := by
  unfold okFn at hok
  split at hok
  · rename_i fn hfn
    simp only [Bool.and_eq_true, bne_iff_ne, ne_eq] at hok
    have hb : fn.body.isNone = false := by cases h : fn.body <;> simp [h] at hok ⊢
    have hn : (fn.name == "runtime.NumGoroutine") = false := by simpa using hok.1
    simp only [execOp, ho, resolve, hcal, Sem.run_bind, Act.eval, Deferred.ofValue, Sem.run_pure, Result.andThen_ok, invoke, callFunc, run_program, hfn, hn, hb, Bool.false_eq_true, if_false]
    simp
  · cases hok
theorem run_callV {o : Oper} {c : Call} {x : Operand} {f : FuncId} {first cap : Array Value} (ho : o.op = .call c) (hcal : c.callee = .value x) (hx : a.eval x = .func (.func f) first cap) (hok : okFn P f = true) (w : World) :
    (execOp a.eval o).run P w = .ok (.enter f (first ++ c.args.map a.eval ++ cap)) w := by
  unfold okFn at hok
  split at hok
  · rename_i fn hfn
    simp only [Bool.and_eq_true, bne_iff_ne, ne_eq] at hok
    have hb : fn.body.isNone = false := by cases h : fn.body <;> simp [h] at hok ⊢
    have hn : (fn.name == "runtime.NumGoroutine") = false := by simpa using hok.1
    simp only [execOp, ho, resolve, hcal, hx, Sem.run_bind, Deferred.ofValue, Sem.run_pure, Result.andThen_ok, invoke, callFunc, run_program, hfn, hn, hb, Bool.false_eq_true, if_false]
  · cases hok

theorem run_callY {o : Oper} {c : Call} {x : Operand} {l : Nat} {first cap : Array Value} (ho : o.op = .call c) (hcal : c.callee = .value x) (hx : a.eval x = .func (.yield l) first cap) (w : World) :
    (execOp a.eval o).run P w = (Instr.yield l (first ++ c.args.map a.eval)).run P w := by
  simp only [execOp, ho, resolve, hcal, hx, Sem.run_bind, Deferred.ofValue, Sem.run_pure, Result.andThen_ok, invoke]
/-- What of the model's call is a small call. -/
theorem cop_call {c : Call} {m : MOp} (h : cop P (.call c) = some m) (hm : isCallM m = true) : ccall P c = some m := by
  unfold cop at h
  split at h
  · rename_i m' h1
    simp only [Option.some.injEq] at h; subst h
    exact h1
  · simp only [Option.some.injEq] at h; subst h; cases hm
theorem ccall_call {c : Call} {f : FuncId} {args : List Opd} (h : ccall P c = some (.call f args)) : c.callee = .value (.func f) ∧ c.args.toList.mapM copd = some args := by
  unfold ccall at h
  simp only [bind, Option.bind_eq_some_iff] at h
  obtain ⟨as, ha, h⟩ := h
  split at h
  · rename_i g hc
    simp only [Option.some.injEq, MOp.call.injEq] at h
    obtain ⟨rfl, rfl⟩ := h
    exact ⟨hc, ha⟩
  · simp only [Option.map_eq_some_iff] at h; obtain ⟨_, _, h⟩ := h; cases h
  · cases h
  · exfalso
    split at h
    · repeat' split at h
      all_goals first | cases h | (simp at h)
    · repeat' split at h
      all_goals first | cases h | (simp at h; obtain ⟨_, _, h⟩ := h; cases h) | (simp at h)
    · repeat' split at h
      all_goals first | cases h | (simp at h)
    · repeat' split at h
      all_goals first | cases h | (simp at h)
    · simp at h
    · simp at h
    · cases h
theorem ccall_callv {c : Call} {x : Opd} {args : List Opd} (h : ccall P c = some (.callv x args)) : (∃ y, c.callee = .value y ∧ copd y = some x) ∧ c.args.toList.mapM copd = some args := by
  unfold ccall at h
  simp only [bind, Option.bind_eq_some_iff] at h
  obtain ⟨as, ha, h⟩ := h
  split at h
  · simp at h
  · rename_i y hy hc
    simp only [Option.map_eq_some_iff] at h
    obtain ⟨z, hz, h⟩ := h
    simp only [MOp.callv.injEq] at h
    obtain ⟨rfl, rfl⟩ := h
    exact ⟨⟨y, hc, hz⟩, ha⟩
  · cases h
  · exfalso
    split at h
    · repeat' split at h
      all_goals first | cases h | (simp at h)
    · repeat' split at h
      all_goals first | cases h | (simp at h; obtain ⟨_, _, h⟩ := h; cases h) | (simp at h)
    · repeat' split at h
      all_goals first | cases h | (simp at h)
    · repeat' split at h
      all_goals first | cases h | (simp at h)
    · simp at h
    · simp at h
    · cases h
end
end Go.Mini
/- The small world's code tells what the model's does. -/
namespace Go.Mini
open Go.RowKit (Below)
set_option linter.unusedVariables false
set_option linter.unusedSimpArgs false
section
variable {E : World → Prop} {P : Program} {B : Fz} {w0 w : World} {N : Nat} {D : List Deferred} {μ0 μ : Nat → Blk} {n0 : Nat} {ts : Fr} {σ : H} {a : Act} {Q : Exit → Act → World → Prop} {ro : Option Nat}

theorem cMI_spec {ops : Array Oper} {o : Oper} {i : MI} (h : cMI P N ops o = some i) :
    cop P o.op = some i.op ∧ cGuard ops o.guard = some i.g ∧ i.dst = o.dst ∧ dstOk N o.dst = true ∧ (isCallM i.op = true → isCallO o.op = true) := by
  unfold cMI at h
  split at h
  · rename_i m g hm hg
    split at h
    · rename_i hc
      simp only [Option.some.injEq] at h
      subst h
      simp only [Bool.and_eq_true, Bool.or_eq_true, Bool.not_eq_true'] at hc
      refine ⟨hm, hg, rfl, hc.1, fun hcm => ?_⟩
      rcases hc.2 with h | h
      · rw [h] at hcm; cases hcm
      · exact h
    · cases h
  · cases h

theorem mstep_sound {o : Oper} {d : Option Nat} {op : MOp} {K : Value → H → Prop} {next : Act → World → Prop} (hc : cop P o.op = some op) (hcall : isCallM op = true → isCallO o.op = true) (hd : dstOk N o.dst = true)
    (st : St E B w0 N D μ0 n0 μ ts σ a w) (h : mstep E P ts σ op K)
    (hK : ∀ v τ μ' a' w', K v τ → St E B w0 N D μ0 n0 μ' (updO ts o.dst v) τ a' w' → (∃ v', a' = a.put o.dst v') → next a' w') : o.wpIn (FW ro) 0 P a w next Q := by
  unfold Oper.wpIn
  refine ⟨fun _ _ => trivial, ?_⟩
  rw [Oper.semAt_eq _ _ _ (fun c e => by rw [e] at hc; cases hc; obtain ⟨_, _, h, _⟩ := h; cases h)]
  have plainCase : (∃ v τ, mop ts σ op = some (v, τ) ∧ K v τ) → o.uponIn (FW ro) 0 P a next Q ((execOp a.eval o).run P w) := by
    rintro ⟨v, τ, hm, hk⟩
    obtain ⟨v', w', μ', hrun, hs, hv, hag, hle⟩ := cop_sound hc st.sim st.fr.2 hm
    rcases hrun with hrun | ⟨hrun, rfl⟩
    · rw [hrun]; exact hK v τ μ' _ w' hk (st.put hd hs hv hag hle) ⟨_, rfl⟩
    · rw [hrun]; exact hK v τ μ' _ w' hk (st.put hd hs hv hag hle) ⟨_, rfl⟩
  have callCase : ∀ {f : FuncId} {args : List Value} {args' : Array Value}, MCalls E P f args σ K → VRs μ σ.size args args'.toList → (execOp a.eval o).run P w = .ok (.enter f args') w →
      o.uponIn (FW ro) 0 P a next Q ((execOp a.eval o).run P w) := by
    intro f args args' hm hv hrun
    rw [hrun]
    have := hm.2 B w0 μ w args'.toList st.env st.sim hv
    rw [Array.toArray_toList] at this
    refine ⟨fun h => (by cases h), (CallsIn.mono (callsIn_wide.2 this) ?_ : CallsIn Fence.wide _ _ _ _ _ _)⟩
    rintro e w' ⟨v, v', τ, μ', rfl, hk, hs, hv', hag, hle⟩
    exact hK v τ μ' _ w' hk (st.put hd hs hv' hag hle) ⟨_, rfl⟩
  cases op with
  | call f args =>
    have hco := hcall rfl
    cases ho : o.op with
    | call c =>
      rw [ho] at hc
      obtain ⟨h1, h2⟩ := ccall_call (cop_call hc rfl)
      exact callCase h (by simpa using copds_sound st.fr.2 h2) (run_callF ho h1 h.1 w)
    | _ => rw [ho] at hco; cases hco
  | callv x args =>
    have hco := hcall rfl
    cases ho : o.op with
    | call c =>
      rw [ho] at hc
      obtain ⟨⟨y, h1, h3⟩, h2⟩ := ccall_callv (cop_call hc rfl)
      simp only [mstep] at h
      split at h
      · rename_i f first cap e
        have hx := copd_sound st.fr.2 h3
        rw [e] at hx
        obtain ⟨first', cap', hy, hf1, hf2⟩ := hx.inv_func
        refine callCase h ?_ (run_callV ho h1 hy h.1 w)
        simpa using (hf1.append (copds_sound st.fr.2 h2)).append hf2
      · rename_i l first cap e
        have hx := copd_sound st.fr.2 h3
        rw [e] at hx
        obtain ⟨first', cap', hy, hf1, hf2⟩ := hx.inv_func
        obtain ⟨fn, tmps, assign, body, hy1, hR⟩ := h B w0 μ w _ st.env st.sim (hf1.append (copds_sound st.fr.2 h2))
        rw [run_callY ho h1 hy w]
        have he : (first'.toList ++ (c.args.map a.eval).toList).toArray = first' ++ c.args.map a.eval := by simp
        simp only [Array.toList_map] at he
        rw [he] at hy1
        rw [hy1]
        refine ⟨fun h => (by cases h), (RoundIn.mono hR ?_ : RoundIn Fence.wide _ _ _ _ _ _ _ _ _)⟩
        rintro e w' ⟨v, v', τ, μ', rfl, hk, hs, hv', hag, hle⟩
        exact hK v τ μ' _ w' hk (st.put hd hs hv' hag hle) ⟨_, rfl⟩
      · exact h.elim
    | _ => rw [ho] at hco; cases hco
  | _ => exact plainCase h

theorem ml_sound {ops : Array Oper} : ∀ {l : List Oper} {l' : List MI} {K : Fr → H → Prop} {ts : Fr} {σ : H} {μ : Nat → Blk} {a : Act} {w : World}, l.mapM (cMI P N ops) = some l' → ml E P l' K ts σ → St E B w0 N D μ0 n0 μ ts σ a w →
    (∀ ts σ μ a w, K ts σ → St E B w0 N D μ0 n0 μ ts σ a w → Q .normal a w) → wpListIn (FW ro) 0 P ops Q l a w
  | [], l', K, ts, σ, μ, a, w, hc, h, st, hK => by
    simp only [List.mapM_nil, pure, Option.some.injEq] at hc
    subst hc
    exact hK ts σ μ a w h st
  | o :: l, l', K, ts, σ, μ, a, w, hc, h, st, hK => by
    cases l' with
    | nil => have := mapM_nil_some hc; cases this
    | cons i l' =>
      obtain ⟨o', l0, e, h1, h2⟩ := mapM_cons_some hc
      cases e
      obtain ⟨c1, c2, c3, c4, c5⟩ := cMI_spec h1
      simp only [wpListIn]
      rw [want_eq st.fr c2]
      simp only [ml] at h
      split at h
      · rename_i hw
        rw [hw]
        simp only [if_true]
        rw [c3] at h
        refine mstep_sound (d := i.dst) c1 c5 c4 st h ?_
        intro v τ μ' a' w' hk st' _
        exact ml_sound h2 hk st' hK
      · rename_i hw
        simp only [hw, if_false]
        have : wantM ts i.g = false := by simpa using hw
        simp only [Bool.false_eq_true, if_false]
        rw [c3] at h
        exact ⟨fun _ _ => trivial, ml_sound h2 h (st.put c4 st.sim (.tuple .nil) (.refl _ _) (Nat.le_refl _)) hK⟩

theorem RQ.mono {μ1 : Nat → Blk} {n1 : Nat} {Q Q' : MQ} {e : Exit} {a : Act} {w : World} (h : RQ E B w0 N D μ1 n1 Q e a w) (hag : Agr n0 μ0 μ1) (hle : n0 ≤ n1) (hq : ∀ e ts σ, Q e ts σ → Q' e ts σ) : RQ E B w0 N D μ0 n0 Q' e a w := by
  obtain ⟨ex, ts, σ, μ, h1, h2, st⟩ := h
  exact ⟨ex, ts, σ, μ, h1, hq _ _ _ h2, ⟨st.env, st.sim, st.fr, st.defers, hag.trans st.agr hle, Nat.le_trans hle st.le⟩⟩

end
end Go.Mini
