/- Regions that draw their order: the proof. -/
import Derived.Test.YtgfmphjccnemmaaDoorMiniP
namespace Go.Mini
open Go.RowKit (Below)
set_option linter.unusedVariables false
set_option linter.unusedSimpArgs false

/-- What the region does, in its one order. -/
def mld (P : Program) : List DI → (Fr → H → Prop) → Fr → H → Prop
  | [], K, ts, σ => K ts σ
  | d :: rest, K, ts, σ => if wantM ts d.mi.g = true then mstep P ts σ d.mi.op (fun v τ => (d.ext = true → Ext σ τ) ∧ mld P rest K (updO ts d.mi.dst v) τ) else mld P rest K (updO ts d.mi.dst undef) σ

def lastLoud : List DI → Option Nat → Option Nat
  | [], last => last
  | b :: rest, last => lastLoud rest (if b.loud then some b.ix else last)

section
variable {P : Program} {ops : Array Oper} {T : List Nat}
theorem okAll_split : ∀ {l : List DI} {last : Option Nat} {a : List DI} {b : DI} {c : List DI}, okAll ops T l last (a ++ b :: c) = true → okOne ops T (l ++ a) (lastLoud a last) b = true
  | l, last, [], b, c, h => by
    simp only [List.nil_append, okAll, Bool.and_eq_true] at h
    simpa [lastLoud] using h.1
  | l, last, x :: a, b, c, h => by
    simp only [List.cons_append, okAll, Bool.and_eq_true] at h
    have := okAll_split h.2
    simpa [lastLoud] using this
theorem lastLoud_append : ∀ (a b : List DI) (last : Option Nat), lastLoud (a ++ b) last = lastLoud b (lastLoud a last)
  | [], _, _ => rfl
  | x :: a, b, last => by simp only [List.cons_append, lastLoud]; exact lastLoud_append a b _
theorem lastLoud_mem : ∀ (b : List DI) (last : Option Nat) {i : Nat}, lastLoud b last = some i → (∃ d ∈ b, d.ix = i) ∨ last = some i
  | [], last, i, h => .inr h
  | x :: b, last, i, h => by
    simp only [lastLoud] at h
    rcases lastLoud_mem b _ h with ⟨d, hd, e⟩ | e
    · exact .inl ⟨d, by simp [hd], e⟩
    · split at e
      · simp only [Option.some.injEq] at e; exact .inl ⟨x, by simp, e⟩
      · exact .inr e
theorem lastLoud_some : ∀ (b : List DI) (i : Nat), ∃ j, lastLoud b (some i) = some j
  | [], i => ⟨i, rfl⟩
  | x :: b, i => by
    simp only [lastLoud]
    split
    · exact lastLoud_some b x.ix
    · exact lastLoud_some b i

def Lst (listed : Array Bool) (i : Nat) : Prop := listed.getD i false = true
def Closed (ops : Array Oper) (listed : Array Bool) : Prop := ∀ j o, Lst listed j → ops[j]? = some o → ∀ e ∈ o.after, Region.binds .any e = true → Lst listed e.on
theorem orT_bit {T : List Nat} {i : Nat} : ∀ (l : List Edge) (s : Nat), (l.foldl (fun s e => if Region.binds .any e then s ||| 2 ^ e.on ||| T.getD e.on 0 else s) s).testBit i = true →
    s.testBit i = true ∨ ∃ e ∈ l, Region.binds .any e = true ∧ (e.on = i ∨ (T.getD e.on 0).testBit i = true)
  | [], s, h => .inl h
  | e :: l, s, h => by
    simp only [List.foldl_cons] at h
    rcases orT_bit l _ h with h | ⟨x, hx, h⟩
    · by_cases hb : Region.binds .any e = true
      · rw [if_pos hb] at h
        simp only [Nat.testBit_or, Bool.or_eq_true] at h
        rcases h with (h | h) | h
        · exact .inl h
        · rw [Nat.testBit_two_pow] at h
          exact .inr ⟨e, by simp, hb, .inl (by simpa using h)⟩
        · exact .inr ⟨e, by simp, hb, .inr h⟩
      · rw [if_neg hb] at h; exact .inl h
    · exact .inr ⟨x, by simp [hx], h⟩
theorem dst_listed {listed : Array Bool} (hT : tabOk ops T = true) (hc : Closed ops listed) : ∀ (j : Nat) {i : Nat} {o : Oper}, rch T i j = true → ops[j]? = some o → (∀ e ∈ o.after, Region.binds .any e = true → Lst listed e.on) → Lst listed i := by
  intro j
  induction j using Nat.strongRecOn with
  | ind j ih =>
    intro i o h ho hd
    have hlt : j < ops.size := by
      rcases Nat.lt_or_ge j ops.size with x | x
      · exact x
      · rw [Array.getElem?_eq_none x] at ho; cases ho
    unfold tabOk at hT
    simp only [Bool.and_eq_true, List.all_eq_true, List.mem_range] at hT
    have hrow := hT.2 j hlt
    unfold tabRow at hrow
    rw [ho] at hrow
    simp only [Bool.and_eq_true, beq_iff_eq, List.all_eq_true, Bool.or_eq_true, Bool.not_eq_true', decide_eq_true_eq] at hrow
    unfold rch at h
    rw [hrow.1] at h
    rcases orT_bit _ _ h with h | ⟨e, he, hb, h⟩
    · simp at h
    · have hl := hd e (by simpa using he) hb
      rcases h with h | h
      · rw [← h]; exact hl
      · have hej : e.on < j := by
          rcases hrow.2 e he with x | x
          · rw [hb] at x; cases x
          · exact x
        have ho2 : ops[e.on]? = some ops[e.on] := Array.getElem?_eq_getElem (by omega)
        exact ih e.on hej h ho2 (hc e.on _ hl ho2)

/-- What a pending quiet operation has told. -/
def PV (q : MI) (ts : Fr) (σ : H) : Prop :=
  (wantM ts q.g = true ∧ ∃ v, mop ts σ q.op = some (v, σ) ∧ ∀ d, q.dst = some d → ts d = v) ∨ (wantM ts q.g = false ∧ ∀ d, q.dst = some d → ts d = undef)
theorem wantM_congr {ts ts' : Fr} {g : Option (Nat × Bool)} (h : ∀ s ∈ rdG g, ts s = ts' s) : wantM ts g = wantM ts' g := by
  cases g with
  | none => rfl
  | some p => obtain ⟨d, b⟩ := p; simp only [wantM]; rw [h d (by simp [rdG])]
theorem PV.upd {q : MI} {ts : Fr} {σ : H} {d : Option Nat} {v : Value} (h : PV q ts σ) (h1 : ∀ x, d = some x → x ∉ rdI q) (h2 : ∀ x, d = some x → q.dst ≠ some x) : PV q (updO ts d v) σ := by
  cases d with
  | none => exact h
  | some x =>
    have hx := h1 x rfl
    have hd := h2 x rfl
    have same : ∀ s ∈ rdI q, ts s = updO ts (some x) v s := fun s hs => by
      have : s ≠ x := fun e => hx (e ▸ hs)
      simp [updO, Mini.upd, this]
    have sd : ∀ y, q.dst = some y → updO ts (some x) v y = ts y := fun y hy => by
      have : y ≠ x := fun e => hd (e ▸ hy)
      simp [updO, Mini.upd, this]
    have hw := wantM_congr (g := q.g) fun s hs => same s (by simp [rdI, hs])
    have hm : mop ts σ q.op = mop (updO ts (some x) v) σ q.op := mop_congr fun s hs => same s (by simp [rdI, hs])
    rcases h with ⟨a, u, b, c⟩ | ⟨a, c⟩
    · exact .inl ⟨by rw [← hw]; exact a, u, by rw [← hm]; exact b, fun y hy => by rw [sd y hy]; exact c y hy⟩
    · exact .inr ⟨by rw [← hw]; exact a, fun y hy => by rw [sd y hy]; exact c y hy⟩
theorem PV.ext {q : MI} {ts : Fr} {σ τ : H} (h : PV q ts σ) (hq : quietM q.op = true) (he : Ext σ τ) : PV q ts τ := by
  rcases h with ⟨a, u, b, c⟩ | h
  · exact .inl ⟨a, u, (quiet_ext hq b).2 τ he, c⟩
  · exact .inr h

theorem PV.pure {q : MI} {ts : Fr} {σ τ : H} (h : PV q ts σ) (hq : pureM q.op = true) : PV q ts τ := by
  rcases h with ⟨a, u, b, c⟩ | h
  · exact .inl ⟨a, u, pure_any hq b τ, c⟩
  · exact .inr h
theorem mstep_congr {ts ts' : Fr} {σ : H} {op : MOp} {K : Value → H → Prop} (h : ∀ s ∈ rdM op, ts s = ts' s) : mstep P ts σ op K → mstep P ts' σ op K := by
  cases op with
  | call f as => simp only [mstep]; rw [mevs_congr h]; exact id
  | callv x as =>
    simp only [mstep]
    rw [mev_congr (x := x) fun s hs => h s (List.mem_append.2 (.inl hs)), mevs_congr fun s hs => h s (List.mem_append.2 (.inr hs))]
    exact id
  | _ => simp only [mstep]; rw [mop_congr h]; exact id
theorem mstep_mono {ts : Fr} {σ : H} {op : MOp} {K K' : Value → H → Prop} (h : mstep P ts σ op K) (hk : ∀ v τ, K v τ → K' v τ) : mstep P ts σ op K' := by
  cases op with
  | call f as => exact MCalls.mono h hk
  | callv x as =>
    simp only [mstep] at h ⊢
    split at h
    · exact MCalls.mono h hk
    · exact h.elim
  | _ => obtain ⟨v, τ, h1, h2⟩ := h; exact ⟨v, τ, h1, hk _ _ h2⟩

/-- The check, told part by part. -/
structure Fit (ops : Array Oper) (T : List Nat) (l : List DI) (b : DI) : Prop where
  pair : ∀ a ∈ l, rch T a.ix b.ix = true ∨ ((∀ d, b.mi.dst = some d → d ∉ rdI a.mi ∧ a.mi.dst ≠ some d) ∧ ∀ d, a.mi.dst = some d → d ∉ rdI b.mi)
  fresh : ∀ a ∈ l, b.loud = true ∨ ∀ d, b.mi.dst = some d → d ∉ rdI a.mi ∧ a.mi.dst ≠ some d
  ne : ∀ a ∈ l, a.ix ≠ b.ix
  quiet : b.loud = true ∨ (quietM b.mi.op = true ∧ ∀ d, b.mi.dst = some d → d ∉ rdI b.mi)
  deps : ∃ o, ops[b.ix]? = some o ∧ ∀ e ∈ o.after, Region.binds .any e = true → ∃ a ∈ l, a.ix = e.on
  ext : b.loud = true → b.ext = true ∨ ∀ a ∈ l, pureM a.mi.op = true ∨ rch T a.ix b.ix = true
theorem okOne_fit {l : List DI} {last : Option Nat} {b : DI} (h : okOne ops T l last b = true) : Fit ops T l b ∧ ∀ i, last = some i → rch T i b.ix = true := by
  unfold okOne at h
  simp only [Bool.and_eq_true, List.all_eq_true, Bool.or_eq_true, decide_eq_true_eq] at h
  obtain ⟨⟨⟨⟨⟨h1, h2⟩, h3⟩, h4⟩, h5⟩, h6⟩ := h
  have nd : ∀ (x : Option Nat) (l : List Nat) (y : Option Nat), (match x with | some d => !l.contains d && y != some d | none => true) = true → ∀ d, x = some d → d ∉ l ∧ y ≠ some d := by
    intro x l y hx d e
    subst e
    simp at hx
    exact ⟨hx.1, hx.2⟩
  have nd1 : ∀ (x : Option Nat) (l : List Nat), (match x with | some d => !l.contains d | none => true) = true → ∀ d, x = some d → d ∉ l := by
    intro x l hx d e
    subst e
    simpa using hx
  refine ⟨⟨?_, ?_, ?_, ?_, ?_, ?_⟩, ?_⟩
  · intro a ha
    have := h1 a ha
    unfold okPair at this
    simp only [Bool.and_eq_true, Bool.or_eq_true] at this
    rcases this.1.1 with x | ⟨x, y⟩
    · exact .inl x
    · exact .inr ⟨nd _ _ _ x, nd1 _ _ y⟩
  · intro a ha
    have := h1 a ha
    unfold okPair at this
    simp only [Bool.and_eq_true, Bool.or_eq_true] at this
    rcases this.1.2 with x | x
    · exact .inl x
    · exact .inr (nd _ _ _ x)
  · intro a ha
    have := h1 a ha
    unfold okPair at this
    simp only [Bool.and_eq_true, Bool.or_eq_true, bne_iff_ne, ne_eq] at this
    exact this.2
  · rcases h3 with x | ⟨x, y⟩
    · exact .inl x
    · exact .inr ⟨x, nd1 _ _ y⟩
  · cases ho : ops[b.ix]? with
    | none => rw [ho] at h4; simp at h4
    | some o =>
      rw [ho] at h4
      refine ⟨o, rfl, fun e he hb => ?_⟩
      simp only [List.all_eq_true, Bool.or_eq_true, Bool.not_eq_true', List.any_eq_true, beq_iff_eq] at h4
      rcases h4 e (by simpa using he) with x | x
      · rw [hb] at x; cases x
      · exact x
  · intro hl
    rcases h5 with (x | x) | x
    · rw [hl] at x; cases x
    · exact .inl x
    · exact .inr x
  · intro i hi
    subst hi
    exact h2
end
end Go.Mini
