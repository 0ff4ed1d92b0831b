/- Appends of some elements. -/
import Derived.Test.YtepjinaomedecaaDoorBase4
namespace Go.Mini
set_option linter.unusedVariables false
set_option linter.unusedSimpArgs false
/-- Some elements more. -/
theorem app_many {ts : Fr} {σ : H} {sz bytes k : Nat} {xs xx : Opd} {v : Value} {oid : Option Nat} {cs vs : List Value} {tid : Nat} (ho : Own σ sz v oid cs) (hv : mev ts xs = v) (hx : mev ts xx = .slice (some ⟨tid, 0, none⟩) k k)
    (ht : σ.get tid = .cells sz vs) (hl : vs.length = k * sz) (hk : k ≠ 0) (hz : sz ≠ 0) (h1 : (cs ++ vs).all one = true) (hb : bytes ≤ 128) (hn : cs.length + k ≤ appMax) :
    ∃ v' τ, mop ts σ (.app sz bytes xs xx) = some (v', τ) ∧ Own τ sz v' (some σ.size) (cs ++ vs) ∧ τ.size = σ.size + 1 ∧ (∀ i, i < σ.size → oid ≠ some i → τ.get i = σ.get i) := by
  have hrow : firstL σ sz k (.slice (some ⟨tid, 0, none⟩) k k) = some vs := by
    simp only [firstL, H.row, ht]; exact rowAll hl
  cases ho with
  | nil =>
    refine ⟨.slice (some ⟨σ.size, 0, none⟩) k k, σ.push (.cells sz vs), ?_, ?_, by simp, fun i hi _ => H.get_push_lt hi⟩
    · have : k ≤ appMax ∧ bytes ≤ 128 := ⟨by simp at hn; omega, hb⟩
      simp only [mop, hv, hx, lenL, hrow, this, and_self, if_true, if_neg hk]
    · exact .full (by simp) (by simpa using hl)
  | @full id n _ h hlen =>
    have happ : n + k ≤ appMax ∧ bytes ≤ 128 := by
      refine ⟨?_, hb⟩
      have : n ≤ cs.length := by rw [hlen]; exact Nat.le_mul_of_pos_right n (by omega)
      omega
    have hr : σ.row id 0 (n * sz) = some cs := by simp only [H.row, h]; exact rowAll hlen
    refine ⟨.slice (some ⟨σ.size, 0, none⟩) (n + k) (n + k), (σ.set id .dead).push (.cells sz (cs ++ vs)), ?_, ?_, by simp, fun i hi hne => ?_⟩
    · simp only [mop, hv, hx, lenL, hrow, happ, and_self, if_true, h, hr, h1, true_or]
      rw [if_neg (by omega)]
    · refine .full ?_ (by simp [hlen, hl, Nat.add_mul])
      have := H.get_push_self (σ.set id .dead) (.cells sz (cs ++ vs))
      rwa [H.size_set] at this
    · have hid := H.lt_of_cells h
      have hni : i ≠ id := fun e => hne (by rw [e])
      rw [H.get_push_lt (by simpa using hi), H.get_set_ne hni]
/-- Some elements more, where what was told of the heap stands. -/
theorem mld_appK {E : World → Prop} {P : Program} {fl drest : List DI} {K : Fr → H → Prop} {d : Option Nat} {g : Option (Nat × Bool)} {ix : Nat} {l ex : Bool} {ts : Fr} {σ : H} {sz bytes k : Nat} {xs xx : Opd} {v : Value} {oid : Option Nat} {cs vs : List Value} {tid : Nat} (hw : wantM ts g = true) (hv : mev ts xs = v) (hx : mev ts xx = .slice (some ⟨tid, 0, none⟩) k k)
    (ho : Own σ sz v oid cs) (ht : σ.get tid = .cells sz vs) (hl : vs.length = k * sz) (hk : k ≠ 0) (hz : sz ≠ 0) (h1 : (cs ++ vs).all one = true) (hb : bytes ≤ 128) (hn : cs.length + k ≤ appMax)
    (hkeep : ∀ τ, τ.size = σ.size + 1 → (∀ i, i < σ.size → oid ≠ some i → τ.get i = σ.get i) → KeepM fl ⟨⟨d, .app sz bytes xs xx, g⟩, ix, l, ex⟩ ts σ τ)
    (h : ∀ v' τ, Own τ sz v' (some σ.size) (cs ++ vs) → τ.size = σ.size + 1 → (∀ i, i < σ.size → oid ≠ some i → τ.get i = σ.get i) → mld E P fl drest K (updO ts d v') τ) :
    mld E P fl (⟨⟨d, .app sz bytes xs xx, g⟩, ix, l, ex⟩ :: drest) K ts σ := by
  obtain ⟨v', τ, h2, h3, h4, h5⟩ := app_many (ts := ts) ho hv hx ht hl hk hz h1 hb hn
  exact mld_keep hw (mstep_of h2 ⟨fun _ => hkeep τ h4 h5, h v' τ h3 h4 h5⟩)
theorem ml_appM {E : World → Prop} {P : Program} {rest : List MI} {K : Fr → H → Prop} {d : Option Nat} {g : Option (Nat × Bool)} {ts : Fr} {σ : H} {sz bytes k : Nat} {xs xx : Opd} {v : Value} {oid : Option Nat} {cs vs : List Value} {tid : Nat} (hw : wantM ts g = true) (hv : mev ts xs = v) (hx : mev ts xx = .slice (some ⟨tid, 0, none⟩) k k)
    (ho : Own σ sz v oid cs) (ht : σ.get tid = .cells sz vs) (hl : vs.length = k * sz) (hk : k ≠ 0) (hz : sz ≠ 0) (h1 : (cs ++ vs).all one = true) (hb : bytes ≤ 128) (hn : cs.length + k ≤ appMax)
    (h : ∀ v' τ, Own τ sz v' (some σ.size) (cs ++ vs) → τ.size = σ.size + 1 → (∀ i, i < σ.size → oid ≠ some i → τ.get i = σ.get i) → ml E P rest K (updO ts d v') τ) : ml E P (⟨d, .app sz bytes xs xx, g⟩ :: rest) K ts σ := by
  obtain ⟨v', τ, h2, h3, h4, h5⟩ := app_many (ts := ts) ho hv hx ht hl hk hz h1 hb hn
  exact ml_step hw h2 (h v' τ h3 h4 h5)
end Go.Mini
