/- Appends of slices whose elements are of several cells. -/
import Derived.Test.YtepjinaomedecaaDoorRdG
import Derived.Test.YtepjinaomedecaaDoorAppM
namespace Go.Mini
set_option linter.unusedVariables false
set_option linter.unusedSimpArgs false
theorem RdN.flat_len {σ : H} {sz : Nat} {u : Value} {L : List (List Value)} (h : RdN σ sz u L) : L.flatten.length = L.length * sz := by
  cases h with
  | nil => simp
  | mk hl hr h => rw [row_len hr, hl]
theorem RdN.lenL {σ : H} {sz : Nat} {u : Value} {L : List (List Value)} (h : RdN σ sz u L) : Go.Mini.lenL u = some L.length := by
  cases h with
  | nil => rfl
  | mk hl hr h => rw [← hl]; rfl
theorem RdN.firstL {σ : H} {sz : Nat} {u : Value} {L : List (List Value)} (h : RdN σ sz u L) : Go.Mini.firstL σ sz L.length u = some L.flatten := by
  cases h with
  | nil => simp [Go.Mini.firstL]
  | mk hl hr h => rw [← hl] at hr; exact hr
/-- A slice that is read behind an own one. -/
theorem app_rdN {ts : Fr} {σ : H} {sz bytes : Nat} {xs xx : Opd} {v u : Value} {oid : Option Nat} {cs : List Value} {L : List (List Value)} (ho : Own σ sz v oid cs) (hv : mev ts xs = v) (hx : mev ts xx = u) (hr : RdN σ sz u L) (hz : sz ≠ 0)
    (h1 : (cs ++ L.flatten).all one = true) (hb : bytes ≤ 128) (hn : cs.length + L.flatten.length ≤ appMax) :
    ∃ v' τ oid', mop ts σ (.app sz bytes xs xx) = some (v', τ) ∧ Own τ sz v' oid' (cs ++ L.flatten) ∧ (oid' = oid ∨ oid' = some σ.size) ∧ σ.size ≤ τ.size ∧ (∀ i, i < σ.size → oid ≠ some i → τ.get i = σ.get i) := by
  have hlen := hr.lenL
  have hfst := hr.firstL
  have hfl := hr.flat_len
  have hmul : L.length ≤ L.length * sz := Nat.le_mul_of_pos_right _ (by omega)
  by_cases h0 : L.length = 0
  · have hvs : L = [] := List.length_eq_zero_iff.1 h0
    subst hvs
    rw [List.flatten_nil, List.append_nil] at h1 ⊢
    cases ho with
    | nil => exact ⟨.slice none 0 0, σ, none, by simp [mop, hv, hx, hlen], .nil, .inl rfl, Nat.le_refl _, fun i _ _ => rfl⟩
    | @full id n _ h hl =>
      have hid := H.lt_of_cells h
      refine ⟨.slice (some ⟨id, 0, none⟩) n n, σ.set id (.cells sz cs), some id, ?_, .full (H.get_set_self hid) hl, .inl rfl, by simp, fun i hi hne => H.get_set_ne (fun e => hne (by rw [e]))⟩
      have hf0 : Go.Mini.firstL σ sz 0 u = some [] := hfst
      simp only [mop, hv, hx, hlen, List.length_nil, Nat.add_zero, Nat.le_refl, if_true, hf0]
      simp [putRow, h, spl, hl]
  · cases ho with
    | nil =>
      refine ⟨.slice (some ⟨σ.size, 0, none⟩) L.length L.length, σ.push (.cells sz L.flatten), some σ.size, ?_, .full (by simp) (by simpa using hfl), .inr rfl, by simp, fun i hi _ => H.get_push_lt hi⟩
      have : L.length ≤ appMax ∧ bytes ≤ 128 := ⟨by rw [List.length_nil] at hn; omega, hb⟩
      simp only [mop, hv, hx, hlen, hfst, this, and_self, if_true, if_neg h0]
    | @full id n _ h hl =>
      have hln : n ≤ cs.length := by rw [hl]; exact Nat.le_mul_of_pos_right n (by omega)
      have happ : n + L.length ≤ appMax ∧ bytes ≤ 128 := ⟨by omega, hb⟩
      have hrw : σ.row id 0 (n * sz) = some cs := by simp only [H.row, h]; exact rowAll hl
      refine ⟨.slice (some ⟨σ.size, 0, none⟩) (n + L.length) (n + L.length), (σ.set id .dead).push (.cells sz (cs ++ L.flatten)), some σ.size, ?_, ?_, .inr rfl, by simp, fun i hi hne => ?_⟩
      · simp only [mop, hv, hx, hlen, hfst, happ, and_self, if_true, h, hrw, h1, true_or]
        rw [if_neg (by omega)]
      · refine .full ?_ (by rw [List.length_append, hl, hfl, Nat.add_mul])
        have := H.get_push_self (σ.set id .dead) (.cells sz (cs ++ L.flatten))
        rwa [H.size_set] at this
      · have hni : i ≠ id := fun e => hne (by rw [e])
        rw [H.get_push_lt (by simpa using hi), H.get_set_ne hni]
theorem ml_appN {E : World → Prop} {P : Program} {rest : List MI} {K : Fr → H → Prop} {d : Option Nat} {g : Option (Nat × Bool)} {ts : Fr} {σ : H} {sz bytes : Nat} {xs xx : Opd} {v u : Value} {oid : Option Nat} {cs : List Value} {L : List (List Value)} (hw : wantM ts g = true) (hv : mev ts xs = v) (hx : mev ts xx = u)
    (ho : Own σ sz v oid cs) (hr : RdN σ sz u L) (hz : sz ≠ 0) (h1 : (cs ++ L.flatten).all one = true) (hb : bytes ≤ 128) (hn : cs.length + L.flatten.length ≤ appMax)
    (h : ∀ v' τ oid', Own τ sz v' oid' (cs ++ L.flatten) → (oid' = oid ∨ oid' = some σ.size) → σ.size ≤ τ.size → (∀ i, i < σ.size → oid ≠ some i → τ.get i = σ.get i) → ml E P rest K (updO ts d v') τ) : ml E P (⟨d, .app sz bytes xs xx, g⟩ :: rest) K ts σ := by
  obtain ⟨v', τ, oid', h2, h3, h4, h5, h6⟩ := app_rdN (ts := ts) ho hv hx hr hz h1 hb hn
  exact ml_step hw h2 (h v' τ oid' h3 h4 h5 h6)
end Go.Mini
