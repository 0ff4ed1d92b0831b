/- The small world's code: what it does, and that it tells what the model's code does. -/
import Derived.Test.YtepjinaomedecaaDoorMiniR
import Derived.Scope
namespace Go.Mini
open Go.RowKit (Below)
set_option linter.unusedVariables false
set_option linter.unusedSimpArgs false

inductive MC where
  | skip
  | ops (l : List MI)
  | dops (l : List DI)
  | seq (a b : MC)
  | cond (c : Opd) (a b : MC)
  | block (id : Nat) (b : MC)
  | loop (b : MC)
  | exit (id : Nat)
  | ret
  | bad


/-! ## A region that draws: its one order -/
def deps (o : Oper) : List Nat := (o.after.toList.filter (Region.binds .any ·)).map (·.on)
/-- What is loud: what isn't quiet, and what writes what an elder one reads or writes. -/
def loudI (its : List MI) (j : Nat) (m : MI) : Bool :=
  !quietM m.op || (match m.dst with
    | some d => (rdI m).contains d || (its.take j).any fun a => (rdI a).contains d || a.dst == some d
    | none => false)
def pickNext (ops : Array Oper) (loud : List Bool) (listed : List Nat) (wantLoud : Bool) : Option Nat :=
  (List.range ops.size).find? fun j => !listed.contains j && (loud.getD j true == wantLoud) && (match ops[j]? with | some o => (deps o).all fun e => listed.contains e | none => false)
def orderOf (ops : Array Oper) (loud : List Bool) : Nat → List Nat → List Nat
  | 0, acc => acc
  | n + 1, acc => match pickNext ops loud acc false with
    | some j => orderOf ops loud n (acc ++ [j])
    | none => match pickNext ops loud acc true with
      | some j => orderOf ops loud n (acc ++ [j])
      | none => acc
/-- Another order: literals that may be made early come as late as can be. -/
def pickL (ops : Array Oper) (cls : List Nat) (listed : List Nat) (want : Nat) : Option Nat :=
  (List.range ops.size).find? fun j => !listed.contains j && (cls.getD j 1 == want) && (match ops[j]? with | some o => (deps o).all fun e => listed.contains e | none => false)
def orderL (ops : Array Oper) (cls : List Nat) : Nat → List Nat → List Nat
  | 0, acc => acc
  | n + 1, acc => match pickL ops cls acc 0 with
    | some j => orderL ops cls n (acc ++ [j])
    | none => match pickL ops cls acc 1 with
      | some j => orderL ops cls n (acc ++ [j])
      | none => match pickL ops cls acc 2 with
        | some j => orderL ops cls n (acc ++ [j])
        | none => acc
/-- The outer slots that literals ask of. -/
def outS (its : List MI) : List Nat :=
  let dsts := its.filterMap fun m => m.dst
  (its.flatMap fun m => match m.op with
    | .bsl _ _ _ ps => ps.filterMap fun p => match p.2 with
      | .t k => if dsts.contains k then ((its.find? fun a => a.dst == some k).bind fun a => match a.op with | .mv (.t s) => if dsts.contains s then none else some s | _ => none) else some k
      | _ => none
    | _ => []).eraseDups
def cDrawIts (P : Program) (N : Nat) (ops : Array Oper) (T : List Nat) (its : List MI) (late : Bool) (lit : Bool) : List DI :=
  let loud := its.zipIdx.map fun (m, j) => loudI its j m
  let isLit := fun (m : MI) (j : Nat) => if lit then (match m.op with | .bsl .. => true | _ => false) else mkD ops T [] [] ⟨m, j, true, false⟩
  let ord := if late then orderL ops (its.zipIdx.map fun (m, j) => if loudI its j m then (if isLit m j then 2 else 1) else 0) ops.size [] else orderOf ops loud ops.size []
  ord.zipIdx.map fun (j, p) => ⟨its.getD j ⟨none, .mkmap, none⟩, j, loud.getD j true, loud.getD j true && !(ord.take p).all fun i => pureM (its.getD i ⟨none, .mkmap, none⟩).op || rch T i j⟩
def sameIts (P : Program) (N : Nat) (ops : Array Oper) (its : List MI) (d : DI) : Bool := match its[d.ix]? with
  | some _ => true
  | none => false
def drawOk (P : Program) (ops : Array Oper) (OS : List Nat) (l : List DI) : Bool :=
  P.follows .mixedOrders && tabOk ops (mkTab ops) && okAll ops (mkTab ops) l OS [] l && (OS.all fun s => l.all fun d => d.mi.dst != some s) && ((List.range ops.size).all fun i => l.any fun d => d.ix == i) && decide (l.length = ops.size)
/-- The order, and the slots that must hold plain values. -/
def cDraw (P : Program) (N : Nat) (ops : Array Oper) : Option (List Nat × List DI) :=
  match cReg P N ops with
  | some its =>
    if drawOk P ops [] (cDrawIts P N ops (mkTab ops) its false false) = true then some ([], cDrawIts P N ops (mkTab ops) its false false)
    else if drawOk P ops [] (cDrawIts P N ops (mkTab ops) its true false) = true then some ([], cDrawIts P N ops (mkTab ops) its true false)
    else if drawOk P ops (outS its) (cDrawIts P N ops (mkTab ops) its true true) = true then some (outS its, cDrawIts P N ops (mkTab ops) its true true) else none
  | none => none
theorem cDraw_spec {P : Program} {N : Nat} {ops : Array Oper} {OS : List Nat} {l : List DI} (h : cDraw P N ops = some (OS, l)) : ∃ its b c, cReg P N ops = some its ∧ l = cDrawIts P N ops (mkTab ops) its b c ∧ drawOk P ops OS l = true := by
  unfold cDraw at h
  split at h
  · rename_i its hits
    split at h
    · rename_i hc
      simp only [Option.some.injEq, Prod.mk.injEq] at h
      obtain ⟨rfl, rfl⟩ := h
      exact ⟨its, false, false, hits, rfl, hc⟩
    · split at h
      · rename_i hc
        simp only [Option.some.injEq, Prod.mk.injEq] at h
        obtain ⟨rfl, rfl⟩ := h
        exact ⟨its, true, false, hits, rfl, hc⟩
      · split at h
        · rename_i hc
          simp only [Option.some.injEq, Prod.mk.injEq] at h
          obtain ⟨rfl, rfl⟩ := h
          exact ⟨its, true, true, hits, rfl, hc⟩
        · cases h
  · cases h
theorem cDraw_len {P : Program} {N : Nat} {ops : Array Oper} {OS : List Nat} {l : List DI} (h : cDraw P N ops = some (OS, l)) : l.length = ops.size := by
  obtain ⟨_, _, _, _, _, hc⟩ := cDraw_spec h
  unfold drawOk at hc
  simp only [Bool.and_eq_true, decide_eq_true_eq] at hc
  exact hc.2
theorem cDraw_full {P : Program} {N : Nat} {ops : Array Oper} {OS : List Nat} {l : List DI} (h : cDraw P N ops = some (OS, l)) : P.follows .mixedOrders = true ∧ Full P N ops (mkTab ops) OS l := by
  obtain ⟨its, b, c, hits, hl, hc⟩ := cDraw_spec h
  unfold drawOk at hc
  simp only [Bool.and_eq_true, decide_eq_true_eq] at hc
  obtain ⟨⟨⟨⟨⟨h1, h2⟩, h3⟩, h6⟩, h4⟩, h5⟩ := hc
  refine ⟨h1, h2, h3, fun s hs d hd => ?_, fun i hi => ?_, fun d hd => ?_⟩
  · have := List.all_eq_true.1 (List.all_eq_true.1 h6 s hs) d hd
    simpa using this
  · have := List.all_eq_true.1 h4 i (List.mem_range.2 hi)
    obtain ⟨d, hd, e⟩ := List.any_eq_true.1 this
    exact ⟨d, hd, by simpa using e⟩
  · -- what stands at its place
    have hlt : d.ix < ops.size := by
      obtain ⟨a, c, e⟩ := List.append_of_mem hd
      have h3' : okAll ops (mkTab ops) l OS [] (a ++ d :: c) = true := by rw [← e]; exact h3
      have fit := okOne_fit (okAll_split h3')
      obtain ⟨o, ho, _⟩ := fit.deps
      rcases Nat.lt_or_ge d.ix ops.size with x | x
      · exact x
      · rw [Array.getElem?_eq_none x] at ho; cases ho
    obtain ⟨g1, g2⟩ := mapM_get hits
    rw [hl] at hd
    unfold cDrawIts at hd
    simp only [List.mem_map] at hd
    obtain ⟨⟨j, p⟩, _, rfl⟩ := hd
    simp only at hlt ⊢
    have hj : its[j]? = some (its.getD j ⟨none, .mkmap, none⟩) := by
      rw [List.getD_eq_getElem?_getD, List.getElem?_eq_getElem (by rw [g1]; simpa using hlt)]; rfl
    obtain ⟨o, ho, hm⟩ := g2 j _ hj
    exact ⟨o, by simpa using ho, hm⟩
/-- Does a slot hold a plain value? -/
def chkS (s : Nat) : MI := ⟨none, .bin .eql (.t s) (.t s), none⟩
def dropsS : List Nat × List DI → MC
  | ([], l) => .dops l
  | (OS, l) => .seq (.ops (OS.map chkS)) (.dops l)

def cC (P : Program) (N : Nat) : Code → Option MC
  | .skip => some .skip
  | .region _ ops false => (cReg P N ops).map .ops
  | .region _ ops true => (cDraw P N ops).map dropsS
  | .seq a b => match cC P N a, cC P N b with
    | some a, some b => some (.seq a b)
    | _, _ => none
  | .cond c a b => match copd c, cC P N a, cC P N b with
    | some c, some a, some b => some (.cond c a b)
    | _, _, _ => none
  | .block id b => (cC P N b).map (.block id)
  | .loop b => (cC P N b).map .loop
  | .exit id => some (.exit id)
  | .scope b => cC P N b
  | .label _ => some .skip
  | .ret => some .ret
  | .goto _ => some .bad
  | .refuse _ => some .bad
  | .rangeFunc _ _ _ _ => some .bad

def mx (E : World → Prop) (P : Program) : MC → MQ → Fr → H → Prop
  | .skip, Q, ts, σ => Q .nor ts σ
  | .ops l, Q, ts, σ => ml E P l (Q .nor) ts σ
  | .dops l, Q, ts, σ => mld E P l l (Q .nor) ts σ
  | .seq a b, Q, ts, σ => mx E P a (Ex.thn (mx E P b Q) Q) ts σ
  | .cond c a b, Q, ts, σ => match mev ts c with
    | .bool true => mx E P a Q ts σ
    | .bool false => mx E P b Q ts σ
    | _ => False
  | .block id b, Q, ts, σ => mx E P b (Ex.inb id Q) ts σ
  | .loop b, Q, ts, σ => ∃ (I : Nat → Fr → H → Prop) (n : Nat), I n ts σ ∧ ∀ n ts σ, I n ts σ → mx E P b (Ex.thn (fun ts' σ' => ∃ m, m < n ∧ I m ts' σ') Q) ts σ
  | .exit id, Q, ts, σ => Q (.exit id) ts σ
  | .ret, Q, ts, σ => Q .ret ts σ
  | .bad, _, _, _ => False
theorem chkS_ml {E : World → Prop} {P : Program} {K : Fr → H → Prop} {ts : Fr} {σ : H} : ∀ {OS : List Nat}, ml E P (OS.map chkS) K ts σ → (∀ s ∈ OS, plain (ts s) = true) ∧ K ts σ
  | [], h => ⟨(fun s hs => (by cases hs)), h⟩
  | s :: OS, h => by
    simp only [List.map_cons, ml, chkS, wantM, if_true] at h
    obtain ⟨v, τ, hm, hk⟩ := h
    simp only [mop, mev, Option.map_eq_some_iff, Prod.mk.injEq] at hm
    obtain ⟨u, hu, rfl, rfl⟩ := hm
    have hp : plain (ts s) = true := by
      cases e : ts s <;> rw [e] at hu <;> first | rfl | (simp [mbin] at hu)
    obtain ⟨h1, h2⟩ := chkS_ml hk
    exact ⟨fun s' hs => by
      rcases List.mem_cons.1 hs with e | e
      · rw [e]; exact hp
      · exact h1 s' e, h2⟩
theorem dropsS_mx {E : World → Prop} {P : Program} {Q : MQ} {ts : Fr} {σ : H} {OS : List Nat} {l : List DI} (h : mx E P (dropsS (OS, l)) Q ts σ) : (∀ s ∈ OS, plain (ts s) = true) ∧ mld E P l l (Q .nor) ts σ := by
  cases OS with
  | nil => exact ⟨(fun s hs => (by cases hs)), h⟩
  | cons s OS =>
    simp only [dropsS, mx] at h
    exact chkS_ml h
section
variable {E : World → Prop} {P : Program} {B : Fz} {w0 w : World} {N : Nat} {D : List Deferred} {μ0 μ : Nat → Blk} {n0 : Nat} {ts : Fr} {σ : H} {a : Act} {Q : Exit → Act → World → Prop} {ro : Option Nat}

theorem wpIn_scope_straight {F : Fence} {m : Nat} {c : Code} {Q : Exit → Act → World → Prop} (h : c.wpIn F m P (Exit.noGoto Q) a w) : (Code.scope c).wpIn F m P Q a w := by
  intro b k cs hro hb hr
  have s0 : step P (lone (b.atR a (.code (.scope c) :: k)) cs w) = .next (lone (b.atR a (.code c :: .inScope c :: k)) cs w) := step_lone_go (by simp [stepG, stepG.exec, Frame.atR])
  have s1 : ∀ a w, step P (lone (b.atR a (.inScope c :: k)) cs w) = .next (lone (b.atR a k) cs w) := fun a w => step_lone_go (by simp [stepG, stepG.exec, Frame.atR])
  have h0 := StepsIn.one (I := Machine.fenced P F) (fenced_calm (fr := b.atR a (.code (.scope c) :: k)) (w := w) (cs := cs) (n := m) hb hr rfl) s0
  obtain ⟨e, a₁, w₁, hq, harr⟩ := h b (.inScope c :: k) cs hro hb hr
  cases e with
  | normal => exact ⟨.normal, a₁, w₁, hq, StepsIn.trans h0 (StepsIn.trans harr (.one (fenced_calm (fr := b.atR a₁ (.inScope c :: k)) hb hr rfl) (s1 a₁ w₁)))⟩
  | exit id => exact ⟨.exit id, a₁, w₁, hq, ArrivesIn.of_steps h0 ⟨fun k' hk => harr.1 k' (by simp [exitTo, hk]), fun hr hk => harr.2 hr (by simp [exitTo, hk])⟩⟩
  | goto l => exact hq.elim
  | ret => exact ⟨_, a₁, w₁, hq, .of_steps h0 harr⟩
  | panic ch => exact ⟨_, a₁, w₁, hq, .of_steps h0 harr⟩
  | outgrown => exact ⟨_, a₁, w₁, hq, .of_steps h0 harr⟩
theorem mx_sound : ∀ {c : Code} {m : MC}, cC P N c = some m → ∀ {Q : MQ} {ts : Fr} {σ : H} {μ : Nat → Blk} {a : Act} {w : World}, mx E P m Q ts σ → St E B w0 N D μ0 n0 μ ts σ a w → c.wpIn (FW ro) 0 P (RQ E B w0 N D μ0 n0 Q) a w := by
  intro c
  induction c with
  | skip =>
    intro m hc Q ts σ μ a w h st
    simp only [cC, Option.some.injEq] at hc; subst hc
    exact wpIn_skip ⟨.nor, ts, σ, μ, trivial, h, st⟩
  | region id ops draw =>
    intro m hc Q ts σ μ a w h st
    cases draw with
    | false =>
      simp only [cC, Option.map_eq_some_iff] at hc
      obtain ⟨l, hl, rfl⟩ := hc
      exact wpIn_region_list (ml_sound hl h st fun ts σ μ a w hk st' => ⟨.nor, ts, σ, μ, trivial, hk, st'⟩)
    | true =>
      simp only [cC] at hc
      cases hd : cDraw P N ops with
      | none => rw [hd] at hc; cases hc
      | some r =>
        obtain ⟨OS, l⟩ := r
        rw [hd] at hc
        simp only [Option.map_some, Option.some.injEq] at hc
        subst hc
        obtain ⟨hm, hF⟩ := cDraw_full hd
        obtain ⟨hpl, h⟩ := dropsS_mx h
        refine wpIn_region_any hm ?_
        have hst : St E B w0 N D μ0 n0 μ ts σ a { w with drawn := w.drawn + 1 } := ⟨st.env, st.sim.drewN 1, st.fr, st.defers, st.agr, st.le⟩
        have j : J E P ops (mkTab ops) OS B w0 N D μ0 n0 l (Q .nor) [] l (Array.replicate ops.size false) ts σ a { w with drawn := w.drawn + 1 } := by
          have hno : ∀ i, ¬ Lst (Array.replicate ops.size false) i := by
            intro i h
            unfold Lst at h
            rw [Array.getD_eq_getD_getElem?, Array.getElem?_replicate] at h
            split at h <;> simp at h
          exact ⟨rfl, by simp, (fun j o h => absurd h (hno j)), (fun d hd => absurd hd (by simp)), (fun d hd hl => absurd hl (hno _)), ⟨hpl, fun k _ ⟨_, ha, _⟩ => by cases ha⟩, (fun d hd => absurd hd (by simp)), h, B, ts, μ, (fun _ => 0), ⟨rfl, fun _ _ e => e⟩, hst, (fun s _ _ => rfl), (fun d hd hl => absurd hl (hno _)), (fun d1 _ d2 _ l1 => absurd l1 (hno _))⟩
        refine drawn hF (fun ts σ μ a w hk st' => ⟨.nor, ts, σ, μ, trivial, hk, st'⟩) ops.size j ?_
        have := cDraw_len hd
        refine Nat.le_trans (List.length_filter_le _ _) ?_
        omega
  | seq x y ihx ihy =>
    intro m hc Q ts σ μ a w h st
    simp only [cC] at hc
    split at hc
    · rename_i x' y' hx hy
      simp only [Option.some.injEq] at hc; subst hc
      refine wpIn_seq (wpIn_mono (ihx hx h st) ?_)
      rintro e a' w' ⟨ex, ts', σ', μ', h1, h2, st'⟩
      cases ex with
      | nor =>
        cases e <;> first | exact h1.elim | skip
        exact ihy hy h2 st'
      | exit i =>
        cases e <;> first | exact h1.elim | skip
        exact ⟨_, ts', σ', μ', h1, h2, st'⟩
      | ret =>
        cases e <;> first | exact h1.elim | skip
        exact ⟨_, ts', σ', μ', h1, h2, st'⟩
    · cases hc
  | cond c x y ihx ihy =>
    intro m hc Q ts σ μ a w h st
    simp only [cC] at hc
    split at hc
    · rename_i c' x' y' hcc hx hy
      simp only [Option.some.injEq] at hc; subst hc
      have hv := copd_sound st.fr.2 hcc
      simp only [mx] at h
      split at h
      · rename_i e; rw [e] at hv; exact wpIn_cond_true hv.inv_bool (ihx hx h st)
      · rename_i e; rw [e] at hv; exact wpIn_cond_false hv.inv_bool (ihy hy h st)
      · exact h.elim
    · cases hc
  | block id b ih =>
    intro m hc Q ts σ μ a w h st
    simp only [cC, Option.map_eq_some_iff] at hc
    obtain ⟨b', hb, rfl⟩ := hc
    refine wpIn_block (wpIn_mono (ih hb h st) ?_)
    rintro e a' w' ⟨ex, ts', σ', μ', h1, h2, st'⟩
    cases ex with
    | nor =>
      cases e <;> first | exact h1.elim | skip
      exact ⟨.nor, ts', σ', μ', trivial, h2, st'⟩
    | exit i =>
      cases e <;> first | exact h1.elim | skip
      rename_i i'
      have h1' : i' = i := h1
      subst h1'
      simp only [Ex.inb] at h2
      simp only [Exit.inBlock]
      split at h2
      · rename_i e; rw [if_pos e]; exact ⟨.nor, ts', σ', μ', trivial, h2, st'⟩
      · rename_i e; rw [if_neg e]; exact ⟨.exit i', ts', σ', μ', rfl, h2, st'⟩
    | ret =>
      cases e <;> first | exact h1.elim | skip
      exact ⟨.ret, ts', σ', μ', trivial, h2, st'⟩
  | loop b ih =>
    intro m hc Q ts σ μ a w h st
    simp only [cC, Option.map_eq_some_iff] at hc
    obtain ⟨b', hb, rfl⟩ := hc
    obtain ⟨I, n, hI, hround⟩ := h
    refine wpIn_loop_ghost (fun n a w => ∃ ts σ μ, I n ts σ ∧ St E B w0 N D μ0 n0 μ ts σ a w) n ⟨ts, σ, μ, hI, st⟩ ?_
    rintro n a w ⟨ts, σ, μ, hI, st⟩
    refine wpIn_mono (ih hb (hround n ts σ hI) st) ?_
    rintro e a' w' ⟨ex, ts', σ', μ', h1, h2, st'⟩
    cases ex with
    | nor =>
      cases e <;> first | exact h1.elim | skip
      obtain ⟨k, hk, hI'⟩ := h2
      exact ⟨k, hk, ts', σ', μ', hI', st'⟩
    | exit i =>
      cases e <;> first | exact h1.elim | skip
      exact ⟨_, ts', σ', μ', h1, h2, st'⟩
    | ret =>
      cases e <;> first | exact h1.elim | skip
      exact ⟨_, ts', σ', μ', h1, h2, st'⟩
  | scope b ih =>
    intro m hc Q ts σ μ a w h st
    simp only [cC] at hc
    refine wpIn_scope_straight (wpIn_mono (ih hc h st) ?_)
    rintro e a' w' ⟨ex, ts', σ', μ', h1, h2, st'⟩
    cases e <;> first | (cases ex <;> exact h1.elim) | exact ⟨ex, ts', σ', μ', h1, h2, st'⟩
  | label l =>
    intro m hc Q ts σ μ a w h st
    simp only [cC, Option.some.injEq] at hc; subst hc
    exact wpIn_label ⟨.nor, ts, σ, μ, trivial, h, st⟩
  | exit id =>
    intro m hc Q ts σ μ a w h st
    simp only [cC, Option.some.injEq] at hc; subst hc
    exact wpIn_exit ⟨.exit id, ts, σ, μ, rfl, h, st⟩
  | ret =>
    intro m hc Q ts σ μ a w h st
    simp only [cC, Option.some.injEq] at hc; subst hc
    exact wpIn_ret ⟨.ret, ts, σ, μ, trivial, h, st⟩
  | _ =>
    intro m hc Q ts σ μ a w h st
    simp only [cC, Option.some.injEq] at hc; subst hc
    exact h.elim

/-! ## Functions -/
inductive RV where
  | t (i : Nat)
  | cell (i n : Nat) (agg : Bool)
def cRV (P : Program) : ResultVar → Option RV
  | .tmp i => some (.t i)
  | .cell i t => match sizeT P t, isAggT P t with
    | some n, some g => some (.cell i n g)
    | _, _ => none
def rvVal (ts : Fr) (σ : H) : RV → Option Value
  | .t i => some (ts i)
  | .cell i n g => match ts i with
    | .pointer (some ⟨id, off, none⟩) => if g then (σ.row id off n).map fun vs => .agg vs.toArray else σ.cell id off
    | _ => none
def tup : List Value → Value
  | [v] => v
  | vs => .tuple vs.toArray
def rvVals (ts : Fr) (σ : H) : List RV → Option (List Value)
  | [] => some []
  | r :: rs => match rvVal ts σ r, rvVals ts σ rs with
    | some v, some vs => some (v :: vs)
    | _, _ => none
def mpost (rs : List RV) (R : Value → H → Prop) : MQ
  | .exit _, _, _ => False
  | _, ts, σ => ∃ vs, rvVals ts σ rs = some vs ∧ R (tup vs) σ
def initFr (args : List Value) : Fr := fun i => args.getD i undef
def cFn (P : Program) (f : FuncId) : Option (MC × List RV × Nat) := match P.funcs[f]? with
  | some fn => match fn.body with
    | some c => match cC P fn.ntmps c, fn.results.toList.mapM (cRV P) with
      | some m, some rs => if fn.name != "runtime.NumGoroutine" then some (m, rs, fn.ntmps) else none
      | _, _ => none
    | none => none
  | none => none
theorem rvs_sound {rs : List ResultVar} {rs' : List RV} (hc : rs.mapM (cRV P) = some rs') (hs : Sim B w0 μ σ w) (hf : FrR μ σ.size N ts a.tmps) {vs : List Value} (h : rvVals ts σ rs' = some vs) :
    ∃ vs', (rs.mapM (fun r => match r with
      | .tmp t => pure (a.tmps.getD t undef)
      | .cell x t => do loadVar t (← asAddr (a.tmps.getD x undef)) : ResultVar → Sem Value)).run P w = .ok vs' w ∧ VRs μ σ.size vs vs' := by
  induction rs generalizing rs' vs with
  | nil =>
    simp only [List.mapM_nil, pure, Option.some.injEq] at hc
    subst hc
    simp only [rvVals, Option.some.injEq] at h
    subst h
    exact ⟨[], by simp, .nil⟩
  | cons r rs ih =>
    cases rs' with
    | nil => have := mapM_nil_some hc; cases this
    | cons r' rs' =>
      obtain ⟨_, _, e, h1, h2⟩ := mapM_cons_some hc
      cases e
      simp only [rvVals] at h
      split at h
      · rename_i v vs0 hv hvs
        simp only [Option.some.injEq] at h
        subst h
        obtain ⟨vs', g1, g2⟩ := ih h2 hvs
        rw [List.mapM_cons]
        revert g1
        generalize (rs.mapM _ : Sem (List Value)) = M
        intro g1
        cases r with
        | tmp t =>
          simp only [cRV, Option.some.injEq] at h1
          subst h1
          simp only [rvVal, Option.some.injEq] at hv
          subst hv
          exact ⟨a.tmps.getD t undef :: vs', by simp only [Sem.run_bind, Sem.run_pure, Result.andThen_ok, g1], .cons (hf.2 t) g2⟩
        | cell x t =>
          simp only [cRV] at h1
          split at h1
          · rename_i n g hn hg
            simp only [Option.some.injEq] at h1
            subst h1
            simp only [rvVal] at hv
            split at hv
            · rename_i id off e
              have hx := hf.2 x
              rw [e] at hx
              obtain ⟨hid, hx⟩ := hx.inv_ptr
              cases g
              · simp only [Bool.false_eq_true, if_false] at hv
                obtain ⟨v', k1, k2⟩ := hs.cell hv
                refine ⟨v' :: vs', ?_, .cons k2 g2⟩
                simp only [hx, asAddr, Sem.run_bind, Sem.run_pure, Result.andThen_ok, loadVar, run_agg hg, Bool.false_eq_true, if_false, run_load, k1, g1]
              · simp only [if_true, Option.map_eq_some_iff] at hv
                obtain ⟨us, k0, rfl⟩ := hv
                obtain ⟨us', k1, k2⟩ := hs.row (P := P) k0
                refine ⟨.agg us'.toArray :: vs', ?_, .cons (.agg (by simpa using k2)) g2⟩
                simp only [hx, asAddr, Sem.run_bind, Sem.run_pure, Result.andThen_ok, loadVar, run_agg hg, if_true, run_size hn, k1, g1]
            · cases hv
          · cases h1
      · cases h

theorem mcalls_of {f : FuncId} {m : MC} {rs : List RV} {n : Nat} (hc : cFn P f = some (m, rs, n)) {args : List Value} {σ : H} {R : Value → H → Prop} (hl : args.length ≤ n) (h : mx E P m (mpost rs R) (initFr args) σ) : MCalls E P f args σ R := by
  unfold cFn at hc
  split at hc
  · rename_i fn hfn
    split at hc
    · rename_i c hb
      split at hc
      · rename_i m' rs' hm hr
        split at hc
        · rename_i hn
          simp only [Option.some.injEq, Prod.mk.injEq] at hc
          obtain ⟨rfl, rfl, rfl⟩ := hc
          refine ⟨by simp [okFn, hfn, hb]; simpa using hn, fun B w0 μ w args' hE hs ha => calls_of_wp hfn hb ?_⟩
          have hal := ha.length
          have st : St E B w0 fn.ntmps [] μ σ.size μ (initFr args) σ { tmps := args'.toArray ++ Array.replicate (fn.ntmps - args'.toArray.size) undef, defers := [] } w := by
            refine ⟨hE, hs, ⟨by simp; omega, fun i => ?_⟩, rfl, .refl _ _, Nat.le_refl _⟩
            simp only [initFr]
            rcases Nat.lt_or_ge i args.length with x | x
            · obtain ⟨v', h1, h2⟩ := ha.get (List.getElem?_eq_getElem x)
              have : (args'.toArray ++ Array.replicate (fn.ntmps - args'.toArray.size) undef).getD i undef = v' := by
                rw [Array.getD_eq_getD_getElem?, Array.getElem?_append_left (by simp; omega)]
                simp [h1]
              rw [this, List.getD_eq_getElem?_getD, List.getElem?_eq_getElem x]
              exact h2
            · have h1 : args.getD i undef = undef := by rw [List.getD_eq_getElem?_getD, List.getElem?_eq_none x]; rfl
              have h2 : (args'.toArray ++ Array.replicate (fn.ntmps - args'.toArray.size) undef).getD i undef = undef := by
                rw [Array.getD_eq_getD_getElem?, Array.getElem?_append_right (by simp; omega)]
                simp only [Array.getElem?_replicate]
                split <;> rfl
              rw [h1, h2]
              exact .tuple .nil
          refine wp_mono (wpIn_wide.1 (mx_sound (ro := none) hm h st : c.wpIn Fence.wide 0 P _ _ _)) ?_
          rintro e a' w' ⟨ex, ts, τ, μ', h1, h2, st'⟩
          have fin : (∃ vs, rvVals ts τ rs' = some vs ∧ R (tup vs) τ) → a'.defers = [] ∧ ∃ v, (results fn a'.tmps).run P w' = .ok v w' ∧ ∃ v0 v' τ μ', Ending.returned v = .returned v' ∧ R v0 τ ∧ Sim B w0 μ' τ w' ∧ VR μ' τ.size v0 v' ∧ Agr σ.size μ μ' ∧ σ.size ≤ τ.size := by
            rintro ⟨vs, hv, hR⟩
            obtain ⟨vs', g1, g2⟩ := rvs_sound (a := a') hr st'.sim st'.fr hv
            have hres : (results fn a'.tmps).run P w' = .ok (tup vs') w' := by
              have hmap : (fn.results.mapM (fun r => match r with
                | .tmp t => pure (a'.tmps.getD t undef)
                | .cell x t => do loadVar t (← asAddr (a'.tmps.getD x undef)) : ResultVar → Sem Value)).run P w' = .ok vs'.toArray w' := by
                rw [← Array.toArray_toList (xs := fn.results), List.mapM_toArray]
                simp only [Sem.run_map, g1, Result.andThen_ok]
              unfold results
              rw [Sem.run_bind]
              refine (congrArg (fun r => Result.andThen r _) hmap).trans ?_
              simp only [Result.andThen_ok, Sem.run_pure]
              congr 1
              split
              · rename_i h1
                simp at h1
                match vs', h1 with
                | [x], _ => rfl
              · rename_i h1
                simp at h1
                match vs', h1 with
                | [], _ => rfl
                | x :: y :: l, _ => rfl
            refine ⟨st'.defers, _, hres, tup vs, tup vs', τ, μ', rfl, hR, st'.sim, ?_, st'.agr, st'.le⟩
            cases g2 with
            | nil => exact .tuple .nil
            | cons h hs =>
              cases hs with
              | nil => exact h
              | cons h2 hs2 => exact .tuple (.cons h (.cons h2 hs2))
          cases ex with
          | nor =>
            cases e <;> first | exact h1.elim | skip
            exact fin h2
          | exit i => exact h2.elim
          | ret =>
            cases e <;> first | exact h1.elim | skip
            exact fin h2
        · cases hc
      · cases hc
    · cases hc
  · cases hc
end
end Go.Mini
