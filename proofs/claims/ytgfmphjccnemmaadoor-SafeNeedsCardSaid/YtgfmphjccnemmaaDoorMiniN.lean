/- The small world's code: what it does, and that it tells what the model's code does. -/
import Derived.Test.YtgfmphjccnemmaaDoorMiniM
namespace Go.Mini
open Go.RowKit (Below)
set_option linter.unusedVariables false
set_option linter.unusedSimpArgs false

/-! ## Of which of the model's code -/
def dstOk (N : Nat) : Option Nat → Bool
  | none => true
  | some d => decide (d < N)
def cGuard (ops : Array Oper) : Option (Nat × Bool) → Option (Option (Nat × Bool))
  | none => some none
  | some (j, b) => match (ops[j]?).bind (·.dst) with
    | some d => some (some (d, b))
    | none => none
def isCallM : MOp → Bool
  | .call .. | .callv .. => true
  | _ => false
def isCallO : Op → Bool
  | .call _ => true
  | _ => false
def cMI (P : Program) (N : Nat) (ops : Array Oper) (o : Oper) : Option MI :=
  match cop P o.op, cGuard ops o.guard with
  | some m, some g => if dstOk N o.dst && (!isCallM m || isCallO o.op) then some ⟨o.dst, m, g⟩ else none
  | _, _ => none
def cReg (P : Program) (N : Nat) (ops : Array Oper) : Option (List MI) := ops.toList.mapM (cMI P N ops)
/-- A region that draws its order: what is asked of it (DrawOk). -/
def quietM : MOp → Bool
  | .mv _ | .pick .. | .load1 _ | .loadN .. | .fadd .. | .iaS .. | .iaA .. | .idxS .. | .idxA .. | .fld .. | .bin .. | .eqB .. | .eqN .. | .eqA .. | .not _ | .neg _ | .conv .. | .b2s _ | .mki .. | .mkf .. | .bld ..
  | .slc .. | .slcS .. | .slcA .. | .ext .. | .nilck _ | .tasI .. | .len .. | .lenC _ | .min2 .. | .max2 .. | .mlook .. | .mlen _ => true
  | _ => false
/-! ## What it does -/
def okFn (P : Program) (f : FuncId) : Bool := match P.funcs[f]? with
  | some fn => fn.name != "runtime.NumGoroutine" && fn.body.isSome
  | none => false
def MCalls (P : Program) (f : FuncId) (args : List Value) (σ : H) (R : Value → H → Prop) : Prop :=
  okFn P f = true ∧ ∀ B w0 μ w args', Sim B w0 μ σ w → VRs μ σ.size args args' → Calls P f args'.toArray w fun e w' =>
    ∃ v v' τ μ', e = .returned v' ∧ R v τ ∧ Sim B w0 μ' τ w' ∧ VR μ' τ.size v v' ∧ Agr σ.size μ μ' ∧ σ.size ≤ τ.size
theorem MCalls.mono {P : Program} {f : FuncId} {args : List Value} {σ : H} {R R' : Value → H → Prop} (h : MCalls P f args σ R) (hr : ∀ v τ, R v τ → R' v τ) : MCalls P f args σ R' :=
  ⟨h.1, fun B w0 μ w args' hs ha => (h.2 B w0 μ w args' hs ha).mono fun e w' ⟨v, v', τ, μ', h1, h2, h3⟩ => ⟨v, v', τ, μ', h1, hr _ _ h2, h3⟩⟩

def wantM (ts : Fr) : Option (Nat × Bool) → Bool
  | none => true
  | some (d, b) => match ts d with
    | .bool c => c == b
    | _ => false
def updO (ts : Fr) (d : Option Nat) (v : Value) : Fr := match d with
  | some d => upd ts d v
  | none => ts

/-- One operation. -/
def mstep (P : Program) (ts : Fr) (σ : H) (op : MOp) (K : Value → H → Prop) : Prop := match op with
  | .call f args => MCalls P f (args.map (mev ts)) σ K
  | .callv x args => match mev ts x with
    | .func (.func f) first cap => MCalls P f (first.toList ++ args.map (mev ts) ++ cap.toList) σ K
    | _ => False
  | op => ∃ v τ, mop ts σ op = some (v, τ) ∧ K v τ
def ml (P : Program) : List MI → (Fr → H → Prop) → Fr → H → Prop
  | [], K, ts, σ => K ts σ
  | i :: rest, K, ts, σ => if wantM ts i.g = true then mstep P ts σ i.op (fun v τ => ml P rest K (updO ts i.dst v) τ) else ml P rest K (updO ts i.dst undef) σ

inductive Ex where
  | nor
  | exit (id : Nat)
  | ret
abbrev MQ := Ex → Fr → H → Prop
def Ex.thn (K : Fr → H → Prop) (Q : MQ) : MQ
  | .nor, ts, σ => K ts σ
  | e, ts, σ => Q e ts σ
def Ex.inb (id : Nat) (Q : MQ) : MQ
  | .exit j, ts, σ => if j = id then Q .nor ts σ else Q (.exit j) ts σ
  | e, ts, σ => Q e ts σ
section
variable {P : Program}

def exR : Exit → Ex → Prop
  | .normal, .nor => True
  | .exit i, .exit j => i = j
  | .ret, .ret => True
  | _, _ => False
/-- A state of the model's and one of the small world's. -/
structure St (B : Nat) (w0 : World) (N : Nat) (μ0 : Nat → Blk) (n0 : Nat) (μ : Nat → Blk) (ts : Fr) (σ : H) (a : Act) (w : World) : Prop where
  sim : Sim B w0 μ σ w
  fr : FrR μ σ.size N ts a.tmps
  defers : a.defers = []
  agr : Agr n0 μ0 μ
  le : n0 ≤ σ.size
def RQ (B : Nat) (w0 : World) (N : Nat) (μ0 : Nat → Blk) (n0 : Nat) (Q : MQ) : Exit → Act → World → Prop := fun e a w => ∃ ex ts σ μ, exR e ex ∧ Q ex ts σ ∧ St B w0 N μ0 n0 μ ts σ a w

variable {B : Nat} {w0 w : World} {N : Nat} {μ0 μ : Nat → Blk} {n0 : Nat} {ts : Fr} {σ : H} {a : Act}

theorem St.put {τ : H} {μ' : Nat → Blk} {w' : World} {d : Option Nat} {v v' : Value} (h : St B w0 N μ0 n0 μ ts σ a w) (hd : dstOk N d = true) (hs : Sim B w0 μ' τ w') (hv : VR μ' τ.size v v') (hag : Agr σ.size μ μ')
    (hle : σ.size ≤ τ.size) : St B w0 N μ0 n0 μ' (updO ts d v) τ (a.put d v') w' := by
  refine ⟨hs, ?_, ?_, h.agr.trans hag h.le, Nat.le_trans h.le hle⟩
  · have hf := h.fr.mono hle hag
    cases d with
    | none => exact hf
    | some d => exact hf.upd (by simpa [dstOk] using hd) hv
  · cases d <;> exact h.defers
theorem St.move {τ : H} {μ' : Nat → Blk} {w' : World} (h : St B w0 N μ0 n0 μ ts σ a w) (hs : Sim B w0 μ' τ w') (hag : Agr σ.size μ μ') (hle : σ.size ≤ τ.size) : St B w0 N μ0 n0 μ' ts τ a w' :=
  ⟨hs, h.fr.mono hle hag, h.defers, h.agr.trans hag h.le, Nat.le_trans h.le hle⟩

theorem want_eq (hf : FrR μ σ.size N ts a.tmps) {ops : Array Oper} {o : Oper} {g : Option (Nat × Bool)} (hg : cGuard ops o.guard = some g) : Region.wanted o (yielded ops a.tmps) = wantM ts g := by
  unfold Region.wanted
  cases ho : o.guard with
  | none => rw [ho] at hg; simp only [cGuard, Option.some.injEq] at hg; subst hg; rfl
  | some p =>
    obtain ⟨j, b⟩ := p
    rw [ho] at hg
    simp only [cGuard] at hg
    cases hd : (ops[j]?).bind (·.dst) with
    | none => rw [hd] at hg; cases hg
    | some d =>
      rw [hd] at hg
      simp only [Option.some.injEq] at hg
      subst hg
      have hv := hf.2 d
      simp only [wantM, yielded, hd, Option.bind_some]
      rw [Array.getD_eq_getD_getElem?] at hv
      cases ht : a.tmps[d]? with
      | none =>
        rw [ht] at hv
        simp only [Option.getD_none, undef] at hv
        generalize ts d = q at hv ⊢
        cases hv
        simp
      | some q' =>
        rw [ht] at hv
        simp only [Option.getD_some] at hv
        generalize ts d = q at hv ⊢
        cases hv <;> simp

theorem run_callF {o : Oper} {c : Call} {f : FuncId} (ho : o.op = .call c) (hcal : c.callee = .value (.func f)) (hok : okFn P f = true) (w : World) :
    (execOp a.eval o).run P w = .ok (.enter f (c.args.map a.eval)) w := by
  unfold okFn at hok
  split at hok
  · rename_i fn hfn
    simp only [Bool.and_eq_true, bne_iff_ne, ne_eq] at hok
    have hb : fn.body.isNone = false := by cases h : fn.body <;> simp [h] at hok ⊢
    have hn : (fn.name == "runtime.NumGoroutine") = false := by simpa using hok.1
    simp only [execOp, ho, resolve, hcal, Sem.run_bind, Act.eval, Deferred.ofValue, Sem.run_pure, Result.andThen_ok, invoke, callFunc, run_program, hfn, hn, hb, Bool.false_eq_true, if_false]
    simp
  · cases hok
theorem run_callV {o : Oper} {c : Call} {x : Operand} {f : FuncId} {first cap : Array Value} (ho : o.op = .call c) (hcal : c.callee = .value x) (hx : a.eval x = .func (.func f) first cap) (hok : okFn P f = true) (w : World) :
    (execOp a.eval o).run P w = .ok (.enter f (first ++ c.args.map a.eval ++ cap)) w := by
  unfold okFn at hok
  split at hok
  · rename_i fn hfn
    simp only [Bool.and_eq_true, bne_iff_ne, ne_eq] at hok
    have hb : fn.body.isNone = false := by cases h : fn.body <;> simp [h] at hok ⊢
    have hn : (fn.name == "runtime.NumGoroutine") = false := by simpa using hok.1
    simp only [execOp, ho, resolve, hcal, hx, Sem.run_bind, Deferred.ofValue, Sem.run_pure, Result.andThen_ok, invoke, callFunc, run_program, hfn, hn, hb, Bool.false_eq_true, if_false]
  · cases hok

/-- What of the model's call is a small call. -/
theorem cop_call {c : Call} {m : MOp} (h : cop P (.call c) = some m) (hm : isCallM m = true) : ccall P c = some m := by
  unfold cop at h
  split at h
  · rename_i m' h1
    simp only [Option.some.injEq] at h; subst h
    exact h1
  · simp only [Option.some.injEq] at h; subst h; cases hm
theorem ccall_call {c : Call} {f : FuncId} {args : List Opd} (h : ccall P c = some (.call f args)) : c.callee = .value (.func f) ∧ c.args.toList.mapM copd = some args := by
  unfold ccall at h
  simp only [bind, Option.bind_eq_some_iff] at h
  obtain ⟨as, ha, h⟩ := h
  split at h
  · rename_i g hc
    simp only [Option.some.injEq, MOp.call.injEq] at h
    obtain ⟨rfl, rfl⟩ := h
    exact ⟨hc, ha⟩
  · simp only [Option.map_eq_some_iff] at h; obtain ⟨_, _, h⟩ := h; cases h
  · cases h
  · exfalso
    split at h
    · repeat' split at h
      all_goals first | cases h | (simp at h)
    · repeat' split at h
      all_goals first | cases h | (simp at h; obtain ⟨_, _, h⟩ := h; cases h) | (simp at h)
    · repeat' split at h
      all_goals first | cases h | (simp at h)
    · repeat' split at h
      all_goals first | cases h | (simp at h)
    · simp at h
    · simp at h
    · cases h
theorem ccall_callv {c : Call} {x : Opd} {args : List Opd} (h : ccall P c = some (.callv x args)) : (∃ y, c.callee = .value y ∧ copd y = some x) ∧ c.args.toList.mapM copd = some args := by
  unfold ccall at h
  simp only [bind, Option.bind_eq_some_iff] at h
  obtain ⟨as, ha, h⟩ := h
  split at h
  · simp at h
  · rename_i y hy hc
    simp only [Option.map_eq_some_iff] at h
    obtain ⟨z, hz, h⟩ := h
    simp only [MOp.callv.injEq] at h
    obtain ⟨rfl, rfl⟩ := h
    exact ⟨⟨y, hc, hz⟩, ha⟩
  · cases h
  · exfalso
    split at h
    · repeat' split at h
      all_goals first | cases h | (simp at h)
    · repeat' split at h
      all_goals first | cases h | (simp at h; obtain ⟨_, _, h⟩ := h; cases h) | (simp at h)
    · repeat' split at h
      all_goals first | cases h | (simp at h)
    · repeat' split at h
      all_goals first | cases h | (simp at h)
    · simp at h
    · simp at h
    · cases h
end
end Go.Mini
