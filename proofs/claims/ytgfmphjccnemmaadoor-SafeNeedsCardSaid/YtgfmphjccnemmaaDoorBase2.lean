/- Joins: what stands behind a branch is shown once. -/
import Derived.Test.YtgfmphjccnemmaaDoorBase
namespace Go.Mini
set_option linter.unusedVariables false
set_option linter.unusedSimpArgs false
section
variable {P : Program}
theorem ml_mono : ∀ {l : List MI} {K K' : Fr → H → Prop} {ts : Fr} {σ : H}, (∀ ts σ, K ts σ → K' ts σ) → ml P l K ts σ → ml P l K' ts σ
  | [], _, _, _, _, h, hk => h _ _ hk
  | i :: l, K, K', ts, σ, h, hk => by
    simp only [ml] at hk ⊢
    split
    · rename_i hw; rw [if_pos hw] at hk; exact mstep_mono hk fun v τ hv => ml_mono h hv
    · rename_i hw; rw [if_neg hw] at hk; exact ml_mono h hk
theorem mld_mono : ∀ {l : List DI} {K K' : Fr → H → Prop} {ts : Fr} {σ : H}, (∀ ts σ, K ts σ → K' ts σ) → mld P l K ts σ → mld P l K' ts σ
  | [], _, _, _, _, h, hk => h _ _ hk
  | i :: l, K, K', ts, σ, h, hk => by
    simp only [mld] at hk ⊢
    split
    · rename_i hw; rw [if_pos hw] at hk; exact mstep_mono hk fun v τ hv => ⟨hv.1, mld_mono h hv.2⟩
    · rename_i hw; rw [if_neg hw] at hk; exact mld_mono h hk
theorem thn_mono {K K' : Fr → H → Prop} {Q Q' : MQ} (hk : ∀ ts σ, K ts σ → K' ts σ) (h : ∀ e ts σ, Q e ts σ → Q' e ts σ) : ∀ e ts σ, Ex.thn K Q e ts σ → Ex.thn K' Q' e ts σ := by
  intro e ts σ
  cases e <;> simp only [Ex.thn] <;> first | exact hk _ _ | exact h _ _ _
theorem inb_mono {id : Nat} {Q Q' : MQ} (h : ∀ e ts σ, Q e ts σ → Q' e ts σ) : ∀ e ts σ, Ex.inb id Q e ts σ → Ex.inb id Q' e ts σ := by
  intro e ts σ
  cases e <;> simp only [Ex.inb] <;> first | exact h _ _ _ | (split <;> exact h _ _ _)
theorem mx_mono : ∀ {c : MC} {Q Q' : MQ} {ts : Fr} {σ : H}, (∀ e ts σ, Q e ts σ → Q' e ts σ) → mx P c Q ts σ → mx P c Q' ts σ
  | .skip, _, _, _, _, h, hk => h _ _ _ hk
  | .ops l, _, _, _, _, h, hk => ml_mono (h _) hk
  | .dops l, _, _, _, _, h, hk => mld_mono (h _) hk
  | .seq a b, Q, Q', ts, σ, h, hk => mx_mono (c := a) (thn_mono (fun ts σ hb => mx_mono (c := b) h hb) h) hk
  | .cond c a b, Q, Q', ts, σ, h, hk => by
    simp only [mx] at hk ⊢
    split
    · rename_i hc; rw [hc] at hk; exact mx_mono h hk
    · rename_i hc; rw [hc] at hk; exact mx_mono h hk
    · rename_i h1 h2
      split at hk
      · rename_i hc; exact absurd hc h1
      · rename_i hc; exact absurd hc h2
      · exact hk
  | .block id b, _, _, _, _, h, hk => mx_mono (c := b) (inb_mono h) hk
  | .loop b, Q, Q', ts, σ, h, ⟨I, n, h0, hb⟩ => ⟨I, n, h0, fun n ts σ hi => mx_mono (c := b) (thn_mono (fun _ _ x => x) h) (hb n ts σ hi)⟩
  | .exit id, _, _, _, _, h, hk => h _ _ _ hk
  | .ret, _, _, _, _, h, hk => h _ _ _ hk
  | .bad, _, _, _, _, h, hk => hk
/-- Behind these operations this holds. -/
theorem ml_mid {l : List MI} {K : Fr → H → Prop} {ts : Fr} {σ : H} (K' : Fr → H → Prop) (h : ml P l K' ts σ) (hk : ∀ ts σ, K' ts σ → K ts σ) : ml P l K ts σ := ml_mono hk h
theorem mld_mid {l : List DI} {K : Fr → H → Prop} {ts : Fr} {σ : H} (K' : Fr → H → Prop) (h : mld P l K' ts σ) (hk : ∀ ts σ, K' ts σ → K ts σ) : mld P l K ts σ := mld_mono hk h
/-- Behind the next piece this holds; the rest is shown once. -/
theorem mx_cut {a : MC} {K : Fr → H → Prop} {Q : MQ} {ts : Fr} {σ : H} (K' : Fr → H → Prop) (h : mx P a (Ex.thn K' Q) ts σ) (hk : ∀ ts σ, K' ts σ → K ts σ) : mx P a (Ex.thn K Q) ts σ :=
  mx_mono (thn_mono hk fun _ _ _ h => h) h
theorem ml_cut {l : List MI} {a : MC} {K : Fr → H → Prop} {Q Q2 : MQ} {ts : Fr} {σ : H} (K' : Fr → H → Prop) (h : ml P l (Ex.thn (mx P a (Ex.thn K' Q)) Q2 .nor) ts σ) (hk : ∀ ts σ, K' ts σ → K ts σ) : ml P l (Ex.thn (mx P a (Ex.thn K Q)) Q2 .nor) ts σ :=
  ml_mono (fun ts σ h => by
    simp only [Ex.thn] at h ⊢
    exact mx_mono (thn_mono hk fun _ _ _ h => h) h) h
theorem mld_cut {l : List DI} {a : MC} {K : Fr → H → Prop} {Q Q2 : MQ} {ts : Fr} {σ : H} (K' : Fr → H → Prop) (h : mld P l (Ex.thn (mx P a (Ex.thn K' Q)) Q2 .nor) ts σ) (hk : ∀ ts σ, K' ts σ → K ts σ) : mld P l (Ex.thn (mx P a (Ex.thn K Q)) Q2 .nor) ts σ :=
  mld_mono (fun ts σ h => by
    simp only [Ex.thn] at h ⊢
    exact mx_mono (thn_mono hk fun _ _ _ h => h) h) h
end
section
variable {P : Program} {ts : Fr} {σ τ : H} {v : Value} {K : Fr → H → Prop} {Q : MQ} {rest : List MI} {drest : List DI}
theorem finC1 {i j n id off : Nat} {vs : List Value} {R : Value → H → Prop} (hi : ts i = .pointer (some ⟨id, off, none⟩)) (hr : σ.row id off n = some vs) (h : R (.tuple #[.agg vs.toArray, ts j]) σ) : mpost [.cell i n true, .t j] R .ret ts σ :=
  ⟨[.agg vs.toArray, ts j], by simp only [rvVals, rvVal, hi, if_true, hr, Option.map_some], h⟩
theorem finC {i n id off : Nat} {vs : List Value} {R : Value → H → Prop} (hi : ts i = .pointer (some ⟨id, off, none⟩)) (hr : σ.row id off n = some vs) (h : R (.agg vs.toArray) σ) : mpost [.cell i n true] R .ret ts σ :=
  ⟨[.agg vs.toArray], by simp only [rvVals, rvVal, hi, if_true, hr, Option.map_some], h⟩
theorem ml_storeAll {d : Option Nat} {g : Option (Nat × Bool)} {n : Nat} {a x : Opd} {id sz : Nat} {cs : List Value} {vs : Array Value} (hw : wantM ts g = true) (ha : mev ts a = .pointer (some ⟨id, 0, none⟩)) (hx : mev ts x = .agg vs) (hg : σ.get id = .cells sz cs) (h1 : vs.size = n) (h2 : cs.length = n) (h3 : vs.toList.all one = true)
    (hn : ml P rest K (updO ts d undef) (σ.set id (.cells sz vs.toList))) : ml P (⟨d, .store n a x, g⟩ :: rest) K ts σ := ml_step hw (o_storeAll ha hx hg h1 h2 h3) hn
end
section
variable {ts : Fr} {σ : H}
theorem o_slc_hi {x hi : Opd} {id off len cap sz : Nat} {cs : List Value} {k : IntKind} {q : Int} (hx : mev ts x = .slice (some ⟨id, off, none⟩) len cap) (hl : mev ts hi = .int k q) (h0 : 0 ≤ q) (h1 : q ≤ cap) (hg : σ.get id = .cells sz cs) :
    mop ts σ (.slc sz x none (some hi) none) = some (.slice (some ⟨id, off, none⟩) q.toNat cap, σ) := by
  simp only [mop, hx, Option.map_some, Option.map_none, hl, bnds, bnd_ok h0 h1, okSz, hg, beq_self_eq_true, Bool.true_or, if_true, Nat.zero_mul, Nat.add_zero, Nat.sub_zero]
end
/-- One object is another one now. -/
structure SetTo (σ : H) (id : Nat) (o : MObj) (τ : H) : Prop where
  size : τ.size = σ.size
  self : τ.get id = o
  other : ∀ i, i ≠ id → τ.get i = σ.get i
theorem SetTo.mk' {σ : H} {id : Nat} {o : MObj} (h : id < σ.size) : SetTo σ id o (σ.set id o) := ⟨rfl, H.get_set_self h, fun i hi => H.get_set_ne hi⟩
theorem SetTo.ext {σ0 σ τ : H} {id : Nat} {o : MObj} (h : SetTo σ id o τ) (e : Ext σ0 σ) (hid : σ0.size ≤ id) : Ext σ0 τ :=
  ⟨by rw [h.size]; exact e.size, fun i hi => by rw [h.other i (by omega)]; exact e.get i hi⟩
theorem SetTo.cells {σ τ : H} {id i sz : Nat} {o : MObj} {cs : List Value} (h : SetTo σ id o τ) (hg : σ.get i = .cells sz cs) (hi : i ≠ id) : τ.get i = .cells sz cs := by rw [h.other i hi]; exact hg
section
variable {P : Program} {ts : Fr} {σ τ : H} {v : Value} {K : Fr → H → Prop} {Q : MQ} {rest : List MI} {drest : List DI}
theorem ml_storeA {d : Option Nat} {g : Option (Nat × Bool)} {n : Nat} {a x : Opd} {id off sz : Nat} {cs vs : List Value} (hw : wantM ts g = true) (ha : mev ts a = .pointer (some ⟨id, off, none⟩)) (hx : (mev ts x).cells = vs.toArray) (hg : σ.get id = .cells sz cs) (h1 : vs.length = n) (h2 : off + n ≤ cs.length) (h3 : vs.all one = true)
    (hn : ∀ τ, SetTo σ id (.cells sz (spl cs off vs)) τ → ml P rest K (updO ts d undef) τ) : ml P (⟨d, .store n a x, g⟩ :: rest) K ts σ := ml_step hw (o_store ha hx hg h1 h2 h3) (hn _ (.mk' (H.lt_of_cells hg)))
theorem mld_storeA {d : Option Nat} {g : Option (Nat × Bool)} {ix : Nat} {l : Bool} {n : Nat} {a x : Opd} {id off sz : Nat} {cs vs : List Value} (hw : wantM ts g = true) (ha : mev ts a = .pointer (some ⟨id, off, none⟩)) (hx : (mev ts x).cells = vs.toArray) (hg : σ.get id = .cells sz cs) (h1 : vs.length = n) (h2 : off + n ≤ cs.length) (h3 : vs.all one = true)
    (hn : ∀ τ, SetTo σ id (.cells sz (spl cs off vs)) τ → mld P drest K (updO ts d undef) τ) : mld P (⟨⟨d, .store n a x, g⟩, ix, l, false⟩ :: drest) K ts σ := mld_step hw (o_store ha hx hg h1 h2 h3) (hn _ (.mk' (H.lt_of_cells hg)))
end
end Go.Mini
