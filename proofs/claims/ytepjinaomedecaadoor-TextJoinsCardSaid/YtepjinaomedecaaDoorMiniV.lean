import Derived.Test.YtepjinaomedecaaDoorMiniS
/- Range over a function in the small world: the loop's record, one round. -/
namespace Go.Mini
open Go.RowKit (Below)
set_option linter.unusedVariables false
set_option linter.unusedSimpArgs false

/-- The block for the rounds' deferred calls: none is in it. -/
def defdR : OR := ⟨fun _ _ _ o => o = .deferred (some []), fun _ _ h => h⟩
/-- The loop's record, which lies at the model's block L. -/
def loopR (L N : Nat) (ts : Fr) (ps : Array Tmp) (assign body : Code) (s : LoopState) (pend : Option Code) : OR :=
  ⟨fun μ n b o => b = L ∧ ∃ tmps d fn, o = .loop { state := s, pending := pend, fn, tmps, params := ps, assign, body, defers := d } ∧ FrR μ n N ts tmps,
   fun hn hm ⟨h1, tmps, d, fn, h2, h3⟩ => ⟨h1, tmps, d, fn, h2, h3.mono hn hm⟩⟩
def putL : Fr → List Nat → List Value → Fr
  | ts, p :: ps, v :: vs => putL (upd ts p v) ps vs
  | ts, _, _ => ts
def roundQ (ℓ : Nat) (rec : LoopState → Option Code → OR) (R : Value → H → Prop) : MQ := fun ex ts τ => τ.get ℓ = .oth (rec .busy none) ∧ match ex with
  | .nor => R (.bool true) (τ.set ℓ (.oth (rec .ready none)))
  | .ret => R (.bool false) (τ.set ℓ (.oth (rec .done (some .ret))))
  | .exit id => R (.bool false) (τ.set ℓ (.oth (rec .done (some (.exit id)))))

section
variable {E : World → Prop} {P : Program} {B : Fz} {w0 w : World} {N : Nat} {D : List Deferred} {μ0 μ : Nat → Blk} {n0 : Nat} {ts : Fr} {σ : H} {a : Act}
theorem putL_sound {n : Nat} : ∀ {ps : List Nat} {vs vs' : List Value} {ts : Fr} {tmps : Array Value}, FrR μ n N ts tmps → VRs μ n vs vs' → (∀ p ∈ ps, p < N) →
    FrR μ n N (putL ts ps vs) ((ps.zip vs').foldl (fun tmps (q : Nat × Value) => tmps.setIfInBounds q.1 q.2) tmps)
  | [], _, _, _, _, h, _, _ => by simpa [putL] using h
  | p :: ps, _, _, _, _, h, .nil, _ => by simpa [putL] using h
  | p :: ps, _, _, _, _, h, .cons hv hvs, hp => by
    simp only [putL, List.zip_cons_cons, List.foldl_cons]
    exact putL_sound (h.upd (hp p (by simp)) hv) hvs fun q hq => hp q (by simp [hq])

/-- The record in the model's world. -/
theorem loop_at {L ℓ : Nat} {ts0 : Fr} {ps : Array Tmp} {assign body : Code} {s : LoopState} {pend : Option Code} (hs : Sim B w0 μ σ w) (hl : σ.get ℓ = .oth (loopR L N ts0 ps assign body s pend)) :
    (μ ℓ).b = L ∧ ∃ tmps d fn, w.heap[L]? = some (.loop { state := s, pending := pend, fn, tmps, params := ps, assign, body, defers := d }) ∧ FrR μ σ.size N ts0 tmps := by
  obtain ⟨_, o, h1, h2, tmps, d, fn, rfl, h3⟩ := hs.oth ℓ _ hl
  exact ⟨h2, tmps, d, fn, by rw [← h2]; exact h1, h3⟩

/-- The record turned. -/
theorem loop_turn {L ℓ : Nat} {ts0 : Fr} {ps : Array Tmp} {assign body : Code} {s s' : LoopState} {pend pend' : Option Code} {tmps : Array Value} {d fn : Nat} (hs : Sim B w0 μ σ w)
    (hl : σ.get ℓ = .oth (loopR L N ts0 ps assign body s pend)) (hf : FrR μ σ.size N ts0 tmps) :
    Sim B w0 μ (σ.set ℓ (.oth (loopR L N ts0 ps assign body s' pend'))) (w.putObj L (.loop { state := s', pending := pend', fn, tmps, params := ps, assign, body, defers := d })) := by
  obtain ⟨h1, _⟩ := loop_at hs hl
  have := hs.setOth (m := .oth (loopR L N ts0 ps assign body s' pend')) (o := .loop { state := s', pending := pend', fn, tmps, params := ps, assign, body, defers := d }) hl
    (.inl ⟨_, rfl, h1, tmps, d, fn, rfl, hf⟩)
  rw [h1] at this; exact this

/-- One round: what the assignment and the body come to. -/
theorem myield_of {L ℓ : Nat} {ts0 : Fr} {ps : Array Tmp} {assign body : Code} {ma mb : MC} {args : List Value} {R : Value → H → Prop}
    (hl : σ.get ℓ = .oth (loopR L N ts0 ps assign body .ready none)) (ha : cC P N assign = some ma) (hb : cC P N body = some mb) (hlen : args.length = ps.size) (hps : ∀ p ∈ ps.toList, p < N)
    (h : mx E P ma (fun ex ts τ => ex = .nor ∧ τ.get ℓ = .oth (loopR L N ts0 ps assign body .ready none) ∧
      mx E P mb (roundQ ℓ (loopR L N ts0 ps assign body) R) ts (τ.set ℓ (.oth (loopR L N ts0 ps assign body .busy none)))) (putL ts0 ps.toList args) σ) : MYield E P L args σ R := by
  intro B w0 μ w args' hE hs hv
  obtain ⟨hb0, tmps, d, fn, hh, hf⟩ := loop_at hs hl
  refine ⟨_, _, _, _, run_yield hh (by simp [hv.length, hlen]), ?_⟩
  refine roundIn_of_wpIn trivial ?_
  have hfr : FrR μ σ.size N (putL ts0 ps.toList args) ((ps.zip args'.toArray).foldl (fun tmps (t, a) => tmps.setIfInBounds t a) tmps) := by
    have := putL_sound hf hv hps
    rw [← Array.foldl_toList, Array.toList_zip]
    exact this
  have st : St E B w0 N [] μ σ.size μ (putL ts0 ps.toList args) σ { tmps := (ps.zip args'.toArray).foldl (fun tmps (t, a) => tmps.setIfInBounds t a) tmps, defers := [] } w :=
    ⟨hE, hs, hfr, rfl, .refl _ _, Nat.le_refl _⟩
  refine wpIn_mono (mx_sound (ro := some L) ha h st) ?_
  rintro e a1 w1 ⟨ex, ts1, τ, μ1, hx, ⟨rfl, hl1, hm⟩, st1⟩
  cases e <;> first | exact hx.elim | skip
  obtain ⟨hb1, tmps1, d1, fn1, hh1, hf1⟩ := loop_at st1.sim hl1
  refine ⟨_, run_beginRound hh1 rfl, ?_⟩
  have st2 := st1.move (loop_turn (s' := .busy) (pend' := none) (d := d1) (fn := fn1) st1.sim hl1 hf1) (.refl _ _) (by simp)
  refine wpIn_mono (mx_sound (ro := some L) hb hm st2) ?_
  rintro e a3 w3 ⟨ex, ts3, τ3, μ3, hx, ⟨hl3, hR⟩, st3⟩
  obtain ⟨hb3, tmps3, d3, fn3, hh3, hf3⟩ := loop_at st3.sim hl3
  cases ex with
  | nor =>
    cases e <;> first | exact hx.elim | skip
    exact ⟨_, _, run_endRound none hh3, _, _, _, μ3, rfl, hR, loop_turn (s' := .ready) (pend' := none) st3.sim hl3 hf3, .bool true, st3.agr, by simpa using st3.le⟩
  | ret =>
    cases e <;> first | exact hx.elim | skip
    exact ⟨_, _, run_endRound (some .ret) hh3, _, _, _, μ3, rfl, hR, loop_turn (s' := .done) (pend' := some .ret) st3.sim hl3 hf3, .bool false, st3.agr, by simpa using st3.le⟩
  | exit id =>
    cases e <;> first | exact hx.elim | skip
    obtain rfl := hx
    exact ⟨_, _, run_endRound (some (.exit _)) hh3, _, _, _, μ3, rfl, hR, loop_turn (s' := .done) (pend' := some (.exit _)) st3.sim hl3 hf3, .bool false, st3.agr, by simpa using st3.le⟩
end
end Go.Mini
/- Range over a function in the small world: the statement, and functions that hold one. -/
namespace Go.Mini
open Go.RowKit (Below)
set_option linter.unusedVariables false
set_option linter.unusedSimpArgs false

/-- Small code with ranges over functions. -/
inductive MR where
  | plain (m : MC)
  | seq (a b : MR)
  | cond (c : Opd) (a b : MR)
  | block (id : Nat) (b : MR)
  | rng (g : Opd) (ps : Array Tmp) (ca cb : Code) (ma mb : MC)
def hasR : Code → Bool
  | .rangeFunc _ _ _ _ => true
  | .seq a b => hasR a || hasR b
  | .cond _ a b => hasR a || hasR b
  | .block _ b => hasR b
  | _ => false
def cR (P : Program) (N : Nat) : Code → Option MR
  | .rangeFunc g ps a b => match copd g, cC P N a, cC P N b, ps.toList.all (· < N) with
    | some g, some ma, some mb, true => some (.rng g ps a b ma mb)
    | _, _, _, _ => none
  | .seq a b => if hasR a || hasR b then (match cR P N a, cR P N b with
      | some a, some b => some (.seq a b)
      | _, _ => none) else (cC P N (.seq a b)).map .plain
  | .cond c a b => if hasR a || hasR b then (match copd c, cR P N a, cR P N b with
      | some c, some a, some b => some (.cond c a b)
      | _, _, _ => none) else (cC P N (.cond c a b)).map .plain
  | .block id b => if hasR b then (cR P N b).map (.block id) else (cC P N (.block id b)).map .plain
  | c => (cC P N c).map .plain

/-- What is asked behind: how it is left, the blocks for deferred calls so far, the frame, the heap. -/
abbrev RQ3 := Ex → List Nat → Fr → H → Prop
def Ex.thnR (K : List Nat → Fr → H → Prop) (Q : RQ3) : RQ3
  | .nor, ds, ts, σ => K ds ts σ
  | e, ds, ts, σ => Q e ds ts σ
def Ex.inbR (id : Nat) (Q : RQ3) : RQ3
  | .exit i, ds, ts, σ => if i = id then Q .nor ds ts σ else Q (.exit i) ds ts σ
  | e, ds, ts, σ => Q e ds ts σ
/-- The pending jump, carried out. -/
def jumpQ (Q : RQ3) (ds : List Nat) (ts : Fr) (σ : H) : Option Code → Prop
  | none => Q .nor ds ts σ
  | some .ret => Q .ret ds ts σ
  | some (.exit id) => Q (.exit id) ds ts σ
  | _ => False
def mxR (E : World → Prop) (P : Program) (N : Nat) : MR → RQ3 → List Nat → Fr → H → Prop
  | .plain m, Q, ds, ts, σ => mx E P m (fun ex => Q ex ds) ts σ
  | .seq a b, Q, ds, ts, σ => mxR E P N a (Ex.thnR (mxR E P N b Q) Q) ds ts σ
  | .cond c a b, Q, ds, ts, σ => match mev ts c with
    | .bool true => mxR E P N a Q ds ts σ
    | .bool false => mxR E P N b Q ds ts σ
    | _ => False
  | .block id b, Q, ds, ts, σ => mxR E P N b (Ex.inbR id Q) ds ts σ
  | .rng g ps ca cb ma mb, Q, ds, ts, σ => cC P N ca = some ma → cC P N cb = some mb → ∃ f first cap, mev ts g = .func (.func f) first cap ∧
      ∀ L, MCalls E P f (first.toList ++ [.func (.yield L) #[] #[]] ++ cap.toList) ((σ.push (.oth defdR)).push (.oth (loopR L N ts ps ca cb .ready none)))
        (fun _ τ => ∃ s pend, s ≠ .busy ∧ τ.get (σ.size + 1) = .oth (loopR L N ts ps ca cb s pend) ∧ jumpQ Q (σ.size :: ds) ts (τ.set (σ.size + 1) .dead) pend)

section
variable {E : World → Prop} {P : Program} {B : Fz} {w0 w : World} {N : Nat} {μ0 μ : Nat → Blk} {n0 : Nat} {ts : Fr} {σ : H} {a : Act}
def markOf (μ : Nat → Blk) (i : Nat) : Deferred := { target := .collected (μ i).b, args := #[] }
theorem marks_agr {μ μ' : Nat → Blk} {n : Nat} (h : Agr n μ μ') : ∀ {ds : List Nat}, (∀ i ∈ ds, i < n) → ds.map (markOf μ') = ds.map (markOf μ)
  | [], _ => rfl
  | d :: ds, hd => by
    simp only [List.map_cons, markOf, h d (hd d (by simp))]
    rw [show ds.map (markOf μ') = ds.map (markOf μ) from marks_agr h fun i hi => hd i (by simp [hi])]
/-- What is told behind code with such statements. -/
def RR (E : World → Prop) (B : Fz) (w0 : World) (N : Nat) (μ0 : Nat → Blk) (n0 : Nat) (Q : RQ3) : Exit → Act → World → Prop := fun e a w =>
  ∃ ex ds ts σ μ, exR e ex ∧ Q ex ds ts σ ∧ St E B w0 N (ds.map (markOf μ)) μ0 n0 μ ts σ a w ∧ ∀ i ∈ ds, i < σ.size

theorem jump_sound {Q : RQ3} {ds : List Nat} {c : Code} (h : jumpQ Q ds ts σ (some c)) (st : St E B w0 N (ds.map (markOf μ)) μ0 n0 μ ts σ a w) (hd : ∀ i ∈ ds, i < σ.size) :
    c.wpIn (FW none) 0 P (RR E B w0 N μ0 n0 Q) a w := by
  cases c <;> first | exact h.elim | skip
  · exact wpIn_exit ⟨.exit _, ds, ts, σ, μ, rfl, h, st, hd⟩
  · exact wpIn_ret ⟨.ret, ds, ts, σ, μ, trivial, h, st, hd⟩

theorem plain_sound {c : Code} {m : MC} {Q : RQ3} {ds : List Nat} (hc : cC P N c = some m) (h : mx E P m (fun ex => Q ex ds) ts σ) (st : St E B w0 N (ds.map (markOf μ)) μ0 n0 μ ts σ a w) (hd : ∀ i ∈ ds, i < σ.size) :
    c.wpIn (FW none) 0 P (RR E B w0 N μ0 n0 Q) a w := by
  have st' : St E B w0 N (ds.map (markOf μ)) μ σ.size μ ts σ a w := ⟨st.env, st.sim, st.fr, st.defers, .refl _ _, Nat.le_refl _⟩
  refine wpIn_mono (mx_sound (ro := none) hc h st') ?_
  rintro e a1 w1 ⟨ex, ts1, τ, μ1, hx, hq, s1⟩
  exact ⟨ex, ds, ts1, τ, μ1, hx, hq, ⟨s1.env, s1.sim, s1.fr, by rw [s1.defers, marks_agr s1.agr hd], st.agr.trans s1.agr st.le, Nat.le_trans st.le s1.le⟩, fun i hi => Nat.lt_of_lt_of_le (hd i hi) s1.le⟩

theorem run_rangeCall {x : Operand} {f : FuncId} {first cap : Array Value} (hx : a.eval x = .func (.func f) first cap) (hok : okFn P f = true) (l : Nat) (w : World) :
    (resolve a.eval (rangeCall x l) 0).run P w = .ok { target := .fn (.func f) cap, args := first ++ #[.func (.yield l) #[] #[]] } w ∧
    (invoke (.fn (.func f) cap) (first ++ #[.func (.yield l) #[] #[]])).run P w = .ok (.enter f (first ++ #[.func (.yield l) #[] #[]] ++ cap)) w := by
  unfold okFn at hok
  split at hok
  · rename_i fn hfn
    simp only [Bool.and_eq_true, bne_iff_ne, ne_eq] at hok
    have hb : fn.body.isNone = false := by cases h : fn.body <;> simp [h] at hok ⊢
    have hn : (fn.name == "runtime.NumGoroutine") = false := by simpa using hok.1
    constructor
    · simp only [resolve, rangeCall, hx, Sem.run_bind, Deferred.ofValue, Sem.run_pure, Result.andThen_ok]
      simp [Act.eval]
    · simp only [Sem.run_bind, Sem.run_pure, Result.andThen_ok, invoke, callFunc, run_program, hfn, hn, hb, Bool.false_eq_true, if_false]
  · cases hok

theorem rng_sound {g : Operand} {g' : Opd} {ps : Array Tmp} {ca cb : Code} {ma mb : MC} {Q : RQ3} {ds : List Nat} (hg : copd g = some g') (ha : cC P N ca = some ma) (hb : cC P N cb = some mb)
    (h : mxR E P N (.rng g' ps ca cb ma mb) Q ds ts σ) (st : St E B w0 N (ds.map (markOf μ)) μ0 n0 μ ts σ a w) (hd : ∀ i ∈ ds, i < σ.size) :
    (Code.rangeFunc g ps ca cb).wpIn (FW none) 0 P (RR E B w0 N μ0 n0 Q) a w := by
  obtain ⟨f, first, cap, hf, h⟩ := h ha hb
  have hx := copd_sound st.fr.2 hg
  rw [hf] at hx
  obtain ⟨first', cap', hy, hf1, hf2⟩ := hx.inv_func
  have h := h (w.heap.size + 1)
  obtain ⟨r1, r2⟩ := run_rangeCall (P := P) hy h.1 (w.heap.size + 1) w
  refine wpIn_rangeFunc fun fn _ => ?_
  let o1 : Obj := .deferred (some [])
  let o2 : Obj := .loop { state := .ready, pending := none, fn, tmps := a.tmps, params := ps, assign := ca, body := cb, defers := w.heap.size }
  have s1 := st.sim.pushOth (R := defdR) (o := o1) (fun _ _ => rfl)
  have s2 := s1.pushOth (R := loopR (w.heap.size + 1) N ts ps ca cb .ready none) (o := o2) (fun μ' hag => ⟨by simp, a.tmps, w.heap.size, fn, rfl,
    st.fr.mono (by simp; omega) fun i hi => (hag i (by simp; omega)).trans (Agr.setMu _ _ i hi)⟩)
  refine ⟨_, _, _, _, _, f, _, _, run_enterLoop_outer fn a.tmps ps ca cb, (run_rangeCall (P := P) hy h.1 (w.heap.size + 1) _).1, fun _ _ => trivial, (run_rangeCall (P := P) hy h.1 (w.heap.size + 1) _).2, fun h => (by cases h), ?_⟩
  have hag2 : Agr σ.size μ (setMu (setMu μ σ.size ⟨w.heap.size, 0, 0, 0, true⟩) (σ.push (.oth defdR)).size ⟨({ w with heap := w.heap.push o1 } : World).heap.size, 0, 0, 0, true⟩) :=
    (Agr.setMu μ _).trans (Agr.setMu _ _) (by simp)
  have hcall := h.2 B w0 _ _ (first'.toList ++ [Value.func (.yield (w.heap.size + 1)) #[] #[]] ++ cap'.toList) st.env s2
    ((VRs.append (VRs.append (hf1.mono (by simp; omega) hag2) (.cons (.func .nil .nil) .nil)) (hf2.mono (by simp; omega) hag2)))
  have hargs : (first'.toList ++ [Value.func (.yield (w.heap.size + 1)) #[] #[]] ++ cap'.toList).toArray = first' ++ #[Value.func (.yield (w.heap.size + 1)) #[] #[]] ++ cap' := by simp
  rw [hargs] at hcall
  refine (CallsIn.mono (callsIn_wide.2 hcall) ?_ : CallsIn Fence.wide _ _ _ _ _ _)
  rintro e w3 ⟨v, v', τ, μ3, rfl, ⟨s, pend, hs, hl, hj⟩, s3, _, hag3, hle3⟩
  obtain ⟨hb3, tmps, d, fn3, hh, hfr⟩ := loop_at s3 hl
  have hag : Agr σ.size μ μ3 := hag2.trans hag3 (by simp; omega)
  have hsz : σ.size + 2 ≤ τ.size := by simpa using hle3
  have s4 := s3.setOth (m := .dead) (o := .loop { state := .exhausted, pending := pend, fn := fn3, tmps, params := ps, assign := ca, body := cb, defers := d }) hl (.inr rfl)
  rw [hb3] at s4
  have st4 : St E B w0 N ((σ.size :: ds).map (markOf μ3)) μ0 n0 μ3 ts (τ.set (σ.size + 1) .dead) { a with defers := [{ target := .collected w.heap.size, args := #[] }] ++ a.defers } _ :=
    ⟨st.env, s4, st.fr.mono (by simp; omega) hag, by
      have e1 : μ3 σ.size = ⟨w.heap.size, 0, 0, 0, true⟩ := by
        rw [hag3 σ.size (by simp; omega), Agr.setMu _ _ σ.size (by simp), setMu_self]
      simp only [List.map_cons, List.singleton_append]
      rw [marks_agr hag hd, ← st.defers]
      simp [markOf, e1], st.agr.trans hag st.le, Nat.le_trans st.le (by simp; omega)⟩
  have hd4 : ∀ i ∈ σ.size :: ds, i < (τ.set (σ.size + 1) .dead).size := by
    intro i hi
    rcases List.mem_cons.1 hi with rfl | hi
    · simp; omega
    · have := hd i hi; simp; omega
  refine ⟨_, _, run_endLoop hh hs, ?_⟩
  cases pend with
  | none => exact ⟨.nor, _, ts, _, μ3, trivial, hj, st4, hd4⟩
  | some c => exact jump_sound hj st4 hd4
end
end Go.Mini
/- Functions that hold a range over a function: from the small code to the contract. -/
namespace Go.Mini
open Go.RowKit (Below)
set_option linter.unusedVariables false
set_option linter.unusedSimpArgs false
section
variable {E : World → Prop} {P : Program} {B : Fz} {w0 w : World} {N : Nat} {μ0 μ : Nat → Blk} {n0 : Nat} {ts : Fr} {σ : H} {a : Act}

theorem mxR_sound : ∀ {c : Code} {m : MR}, cR P N c = some m → ∀ {Q : RQ3} {ds : List Nat} {ts : Fr} {σ : H} {μ : Nat → Blk} {a : Act} {w : World}, mxR E P N m Q ds ts σ → St E B w0 N (ds.map (markOf μ)) μ0 n0 μ ts σ a w →
    (∀ i ∈ ds, i < σ.size) → c.wpIn (FW none) 0 P (RR E B w0 N μ0 n0 Q) a w := by
  have other : ∀ {c : Code} {m : MR}, (cC P N c).map MR.plain = some m → ∀ {Q : RQ3} {ds : List Nat} {ts : Fr} {σ : H} {μ : Nat → Blk} {a : Act} {w : World}, mxR E P N m Q ds ts σ → St E B w0 N (ds.map (markOf μ)) μ0 n0 μ ts σ a w →
      (∀ i ∈ ds, i < σ.size) → c.wpIn (FW none) 0 P (RR E B w0 N μ0 n0 Q) a w := by
    intro c m hc Q ds ts σ μ a w h st hd
    obtain ⟨m', hm, rfl⟩ := Option.map_eq_some_iff.1 hc
    exact plain_sound hm h st hd
  intro c
  induction c with
  | rangeFunc g ps x y _ _ =>
    intro m hc Q ds ts σ μ a w h st hd
    simp only [cR] at hc
    split at hc
    · rename_i g' ma mb h1 h2 h3 h4
      simp only [Option.some.injEq] at hc; subst hc
      exact rng_sound h1 h2 h3 h st hd
    · cases hc
  | seq x y ihx ihy =>
    intro m hc Q ds ts σ μ a w h st hd
    simp only [cR] at hc
    split at hc
    · split at hc
      · rename_i x' y' hx hy
        simp only [Option.some.injEq] at hc; subst hc
        refine wpIn_seq (wpIn_mono (ihx hx h st hd) ?_)
        rintro e a' w' ⟨ex, ds', ts', σ', μ', h1, h2, st', hd'⟩
        cases ex with
        | nor =>
          cases e <;> first | exact h1.elim | skip
          exact ihy hy h2 st' hd'
        | exit i =>
          cases e <;> first | exact h1.elim | skip
          exact ⟨_, ds', ts', σ', μ', h1, h2, st', hd'⟩
        | ret =>
          cases e <;> first | exact h1.elim | skip
          exact ⟨_, ds', ts', σ', μ', h1, h2, st', hd'⟩
      · cases hc
    · exact other hc h st hd
  | cond c x y ihx ihy =>
    intro m hc Q ds ts σ μ a w h st hd
    simp only [cR] at hc
    split at hc
    · split at hc
      · rename_i c' x' y' hcc hx hy
        simp only [Option.some.injEq] at hc; subst hc
        have hv := copd_sound st.fr.2 hcc
        simp only [mxR] at h
        split at h
        · rename_i e; rw [e] at hv; exact wpIn_cond_true hv.inv_bool (ihx hx h st hd)
        · rename_i e; rw [e] at hv; exact wpIn_cond_false hv.inv_bool (ihy hy h st hd)
        · exact h.elim
      · cases hc
    · exact other hc h st hd
  | block id b ih =>
    intro m hc Q ds ts σ μ a w h st hd
    simp only [cR] at hc
    split at hc
    · obtain ⟨b', hb, rfl⟩ := Option.map_eq_some_iff.1 hc
      refine wpIn_block (wpIn_mono (ih hb h st hd) ?_)
      rintro e a' w' ⟨ex, ds', ts', σ', μ', h1, h2, st', hd'⟩
      cases ex with
      | nor =>
        cases e <;> first | exact h1.elim | skip
        exact ⟨.nor, ds', ts', σ', μ', trivial, h2, st', hd'⟩
      | exit i =>
        cases e <;> first | exact h1.elim | skip
        rename_i i'
        have h1' : i' = i := h1
        subst h1'
        simp only [Ex.inbR] at h2
        simp only [Exit.inBlock]
        split at h2
        · rename_i e; rw [if_pos e]; exact ⟨.nor, ds', ts', σ', μ', trivial, h2, st', hd'⟩
        · rename_i e; rw [if_neg e]; exact ⟨.exit i', ds', ts', σ', μ', rfl, h2, st', hd'⟩
      | ret =>
        cases e <;> first | exact h1.elim | skip
        exact ⟨.ret, ds', ts', σ', μ', trivial, h2, st', hd'⟩
    · exact other hc h st hd
  | _ => intro m hc Q ds ts σ μ a w h st hd; exact other hc h st hd

/-- The blocks for deferred calls are shut. -/
def shutAll (σ : H) : List Nat → H
  | [] => σ
  | d :: ds => shutAll (σ.set d .dead) ds
theorem shutAll_size : ∀ (ds : List Nat) (σ : H), (shutAll σ ds).size = σ.size
  | [], _ => rfl
  | d :: ds, σ => by rw [shutAll, shutAll_size]; rfl
def allDefd (σ : H) : List Nat → Prop
  | [] => True
  | d :: ds => σ.get d = .oth defdR ∧ allDefd (σ.set d .dead) ds

/-- The marks are come to, one by one. -/
theorem leaves_marks {F : Fence} {n : Nat} {fn : Func} {tmps : Array Value} {R : Ending → World → Prop} : ∀ {ds : List Nat} {σ : H} {w : World}, Sim B w0 μ σ w → allDefd σ ds →
    (∀ w', Sim B w0 μ (shutAll σ ds) w' → ∃ v, (results fn tmps).run P w' = .ok v w' ∧ R (.returned v) w') → LeavesInM F n P fn tmps R (ds.map (markOf μ)) .returning w
  | [], σ, w, hs, _, h => h w hs
  | d :: ds, σ, w, hs, ⟨h1, h2⟩, h => by
    obtain ⟨_, o, ho, rfl⟩ := hs.oth d _ h1
    refine ⟨by simp, .inl ⟨(μ d).b, _, rfl, run_takeDeferred ho, ?_⟩⟩
    exact leaves_marks (hs.setOth (m := .dead) (o := .deferred none) h1 (.inr rfl)) h2 h

def mpostR (rs : List RV) (R : Value → H → Prop) : RQ3
  | .exit _, _, _, _ => False
  | _, ds, ts, σ => allDefd σ ds ∧ ∃ vs, rvVals ts (shutAll σ ds) rs = some vs ∧ R (tup vs) (shutAll σ ds)
def cFnR (P : Program) (f : FuncId) : Option (MR × List RV × Nat) := match P.funcs[f]? with
  | some fn => match fn.body with
    | some c => match cR P fn.ntmps c, fn.results.toList.mapM (cRV P) with
      | some m, some rs => if fn.name != "runtime.NumGoroutine" then some (m, rs, fn.ntmps) else none
      | _, _ => none
    | none => none
  | none => none
theorem mcallsR_of {f : FuncId} {m : MR} {rs : List RV} {n : Nat} (hc : cFnR P f = some (m, rs, n)) {args : List Value} {σ : H} {R : Value → H → Prop} (hl : args.length ≤ n) (h : mxR E P n m (mpostR rs R) [] (initFr args) σ) : MCalls E P f args σ R := by
  unfold cFnR at hc
  split at hc
  · rename_i fn hfn
    split at hc
    · rename_i c hb
      split at hc
      · rename_i m' rs' hm hr
        split at hc
        · rename_i hn
          simp only [Option.some.injEq, Prod.mk.injEq] at hc
          obtain ⟨rfl, rfl, rfl⟩ := hc
          refine ⟨by simp [okFn, hfn, hb]; simpa using hn, fun B w0 μ w args' hE hs ha => callsIn_wide.1 (callsIn_of_wp_marks (n := 0) hfn hb trivial ?_)⟩
          have hal := ha.length
          have st : St E B w0 fn.ntmps (([] : List Nat).map (markOf μ)) μ σ.size μ (initFr args) σ { tmps := args'.toArray ++ Array.replicate (fn.ntmps - args'.toArray.size) undef, defers := [] } w := by
            refine ⟨hE, hs, ⟨by simp; omega, fun i => ?_⟩, rfl, .refl _ _, Nat.le_refl _⟩
            simp only [initFr]
            rcases Nat.lt_or_ge i args.length with x | x
            · obtain ⟨v', h1, h2⟩ := ha.get (List.getElem?_eq_getElem x)
              have : (args'.toArray ++ Array.replicate (fn.ntmps - args'.toArray.size) undef).getD i undef = v' := by
                rw [Array.getD_eq_getD_getElem?, Array.getElem?_append_left (by simp; omega)]
                simp [h1]
              rw [this, List.getD_eq_getElem?_getD, List.getElem?_eq_getElem x]
              exact h2
            · have h1 : args.getD i undef = undef := by rw [List.getD_eq_getElem?_getD, List.getElem?_eq_none x]; rfl
              have h2 : (args'.toArray ++ Array.replicate (fn.ntmps - args'.toArray.size) undef).getD i undef = undef := by
                rw [Array.getD_eq_getD_getElem?, Array.getElem?_append_right (by simp; omega)]
                simp only [Array.getElem?_replicate]
                split <;> rfl
              rw [h1, h2]
              exact .tuple .nil
          refine (wpIn_mono (mxR_sound hm h st (fun i hi => nomatch hi)) ?_ : Code.wpIn Fence.wide 0 P _ _ _ _)
          rintro e a' w' ⟨ex, ds, ts, τ, μ', h1, h2, st', hd'⟩
          have fin : (allDefd τ ds ∧ ∃ vs, rvVals ts (shutAll τ ds) rs' = some vs ∧ R (tup vs) (shutAll τ ds)) → LeavesInM Fence.wide 0 P fn a'.tmps (fun e w' => ∃ v v' τ μ', e = .returned v' ∧ R v τ ∧ Sim B w0 μ' τ w' ∧ VR μ' τ.size v v' ∧ Agr σ.size μ μ' ∧ σ.size ≤ τ.size) a'.defers .returning w' := by
            rintro ⟨hall, vs, hv, hR⟩
            rw [st'.defers]
            refine leaves_marks st'.sim hall fun w2 hs2 => ?_
            have hf2 : FrR μ' (shutAll τ ds).size fn.ntmps ts a'.tmps := by rw [shutAll_size]; exact st'.fr
            obtain ⟨vs', g1, g2⟩ := rvs_sound (a := a') hr hs2 hf2 hv
            have hres : (results fn a'.tmps).run P w2 = .ok (tup vs') w2 := by
              have hmap : (fn.results.mapM (fun r => match r with
                | .tmp t => pure (a'.tmps.getD t undef)
                | .cell x t => do loadVar t (← asAddr (a'.tmps.getD x undef)) : ResultVar → Sem Value)).run P w2 = .ok vs'.toArray w2 := by
                rw [← Array.toArray_toList (xs := fn.results), List.mapM_toArray]
                simp only [Sem.run_map]
                refine (congrArg (fun r => Result.andThen r _) g1).trans ?_
                simp only [Result.andThen_ok]
              unfold results
              rw [Sem.run_bind]
              refine (congrArg (fun r => Result.andThen r _) hmap).trans ?_
              simp only [Result.andThen_ok, Sem.run_pure]
              congr 1
              split
              · rename_i h1
                simp at h1
                match vs', h1 with
                | [x], _ => rfl
              · rename_i h1
                simp at h1
                match vs', h1 with
                | [], _ => rfl
                | x :: y :: l, _ => rfl
            refine ⟨_, hres, tup vs, tup vs', _, μ', rfl, hR, hs2, ?_, st'.agr, by rw [shutAll_size]; exact st'.le⟩
            cases g2 with
            | nil => exact .tuple .nil
            | cons h hs =>
              cases hs with
              | nil => exact h
              | cons h2 hs2 => exact .tuple (.cons h (.cons h2 hs2))
          cases ex with
          | nor =>
            cases e <;> first | exact h1.elim | skip
            exact fin h2
          | exit i => exact h2.elim
          | ret =>
            cases e <;> first | exact h1.elim | skip
            exact fin h2
        · cases hc
      · cases hc
    · cases hc
  · cases hc
end
/-- The assignments and bodies of a code's ranges over functions, in their order. -/
def rngParts : Code → List (Code × Code)
  | .rangeFunc _ _ a b => [(a, b)]
  | .seq a b => rngParts a ++ rngParts b
  | .cond _ a b => rngParts a ++ rngParts b
  | .block _ b => rngParts b
  | _ => []
def rngA (P : Program) (k i : Nat) : Code := ((rngParts (((P.funcs[k]?).bind (·.body)).getD .skip)).getD i (.skip, .skip)).1
def rngB (P : Program) (k i : Nat) : Code := ((rngParts (((P.funcs[k]?).bind (·.body)).getD .skip)).getD i (.skip, .skip)).2
end Go.Mini
