/- Slices that are read; made; copied; stored into. -/
import Derived.Test.YtgfmphjccnemmaaDoorBase2
namespace Go.Mini
set_option linter.unusedVariables false
set_option linter.unusedSimpArgs false

/-- A slice of one-cell elements that can be read. -/
inductive Rd (σ : H) : Value → List Value → Prop where
  | nil : Rd σ (.slice none 0 0) []
  | mk {id off cap : Nat} {cs : List Value} (h : σ.row id off cs.length = some cs) : Rd σ (.slice (some ⟨id, off, none⟩) cs.length cap) cs
theorem row_live {σ : H} {id off n : Nat} {cs : List Value} (h : σ.row id off n = some cs) : σ.get id ≠ .dead := by
  intro e; simp only [H.row, e] at h; cases h
theorem rowE {σ τ : H} (e : Ext σ τ) {id off n : Nat} {cs : List Value} (h : σ.row id off n = some cs) : τ.row id off n = some cs := by
  have := row_live h
  unfold H.row at h ⊢
  rw [e.get id (H.lt_of_live this)]; exact h
theorem row_same {σ τ : H} {id off n : Nat} {cs : List Value} (e : τ.get id = σ.get id) (h : σ.row id off n = some cs) : τ.row id off n = some cs := by
  unfold H.row at h ⊢; rw [e]; exact h
theorem Rd.of_ext {σ τ : H} {v : Value} {cs : List Value} (h : Rd σ v cs) (e : Ext σ τ) : Rd τ v cs := by
  cases h with
  | nil => exact .nil
  | mk h => exact .mk (rowE e h)
theorem Own.rd {σ : H} {v : Value} {oid : Option Nat} {cs : List Value} (h : Own σ 1 v oid cs) : Rd σ v cs := by
  cases h with
  | nil => exact .nil
  | @full id n _ h hl =>
    rw [Nat.mul_one] at hl
    subst hl
    exact .mk (row_of h (rowAll rfl))
theorem Out.rd {σ0 σ : H} {v : Value} {cs : List Value} (h : Out σ0 σ 1 v cs) : Rd σ v cs := by
  obtain ⟨_, _, h, _⟩ := h; exact h.rd
theorem rowL_get : ∀ (n off : Nat) (cs vs : List Value), rowL cs off n = some vs → vs.length = n ∧ ∀ q, q < n → cs[off + q]? = vs[q]?
  | 0, off, cs, vs, h => by simp only [rowL, Option.some.injEq] at h; subst h; exact ⟨rfl, fun q hq => absurd hq (Nat.not_lt_zero _)⟩
  | n + 1, off, cs, vs, h => by
    simp only [rowL] at h
    split at h
    · rename_i v hv
      simp only [Option.map_eq_some_iff] at h
      obtain ⟨w, hw, rfl⟩ := h
      obtain ⟨h1, h2⟩ := rowL_get n (off + 1) cs w hw
      refine ⟨by simp [h1], fun q hq => ?_⟩
      cases q with
      | zero => simpa using hv
      | succ q => rw [show off + (q + 1) = off + 1 + q by omega, h2 q (by omega)]; simp
    · cases h
theorem row_len {σ : H} {id off n : Nat} {cs : List Value} (h : σ.row id off n = some cs) : cs.length = n := by
  unfold H.row at h
  split at h
  · exact (rowL_get _ _ _ _ h).1
  · exact (rowL_get _ _ _ _ h).1
  · cases h
theorem row_cell {σ : H} {id off n : Nat} {cs : List Value} (h : σ.row id off n = some cs) {q : Nat} (hq : q < n) : σ.cell id (off + q) = cs[q]? := by
  unfold H.row at h; unfold H.cell
  split at h
  · exact (rowL_get _ _ _ _ h).2 q hq
  · exact (rowL_get _ _ _ _ h).2 q hq
  · cases h
theorem Rd.len {σ : H} {v : Value} {cs : List Value} (h : Rd σ v cs) {ts : Fr} {x : Opd} (hx : mev ts x = v) : mop ts σ (.len false x) = some (.int .i64 cs.length, σ) := by
  cases h <;> simp [mop, hx]
theorem Rd.cells1 {σ : H} {v : Value} {cs : List Value} (h : Rd σ v cs) : v.cells = #[v] := by cases h <;> rfl
theorem Rd.one1 {σ : H} {v : Value} {cs : List Value} (h : Rd σ v cs) : one v = true := by cases h <;> rfl
theorem Rd.get {σ : H} {v : Value} {cs : List Value} (h : Rd σ v cs) {ts : Fr} {x i : Opd} {k : IntKind} {q : Int} {e : Value} (hx : mev ts x = v) (hi : mev ts i = .int k q) (h0 : 0 ≤ q) (h1 : cs[q.toNat]? = some e) :
    ∃ id off, mop ts σ (.iaS 1 x i) = some (.pointer (some ⟨id, off, none⟩), σ) ∧ σ.cell id off = some e := by
  have hlt := (List.getElem?_eq_some_iff.1 h1).1
  cases h with
  | nil => simp at h1
  | @mk id off cap _ h =>
    exact ⟨id, off + q.toNat * 1, o_iaS hx hi h0 (by omega), by rw [Nat.mul_one, row_cell h hlt]; exact h1⟩
section
variable {P : Program} {ts : Fr} {σ τ σ0 : H} {v : Value} {K : Fr → H → Prop} {Q : MQ} {rest : List MI} {drest : List DI}
/-- An element that is read. -/
theorem ml_getS {d d' : Nat} {x i : Opd} {cs : List Value} {k : IntKind} {q : Int} {e : Value} (hr : Rd σ v cs) (hx : mev ts x = v) (hi : mev ts i = .int k q) (h0 : 0 ≤ q) (h1 : cs[q.toNat]? = some e)
    (h : ∀ p, ml P rest K (upd (upd ts d p) d' e) σ) : ml P (⟨some d, .iaS 1 x i, none⟩ :: ⟨some d', .load1 (.t d), none⟩ :: rest) K ts σ := by
  obtain ⟨id, off, h2, h3⟩ := hr.get hx hi h0 h1
  refine ml_stepN h2 ?_
  refine ml_stepN (v := e) (τ := σ) ?_ (h _)
  simp only [mop, mev, updO, upd_same, h3, Option.map_some]
theorem ml_getSg {d d' : Nat} {g g' : Option (Nat × Bool)} {x i : Opd} {cs : List Value} {k : IntKind} {q : Int} {e : Value} (hw : wantM ts g = true) (hr : Rd σ v cs) (hx : mev ts x = v) (hi : mev ts i = .int k q) (h0 : 0 ≤ q) (h1 : cs[q.toNat]? = some e)
    (hw' : ∀ p, wantM (upd ts d p) g' = true) (h : ∀ p, ml P rest K (upd (upd ts d p) d' e) σ) : ml P (⟨some d, .iaS 1 x i, g⟩ :: ⟨some d', .load1 (.t d), g'⟩ :: rest) K ts σ := by
  obtain ⟨id, off, h2, h3⟩ := hr.get hx hi h0 h1
  refine ml_step hw h2 ?_
  refine ml_step (v := e) (τ := σ) (hw' _) ?_ (h _)
  simp only [mop, mev, updO, upd_same, h3, Option.map_some]
theorem ml_len {d : Option Nat} {g : Option (Nat × Bool)} {x : Opd} {cs : List Value} (hw : wantM ts g = true) (hr : Rd σ v cs) (hx : mev ts x = v) (h : ml P rest K (updO ts d (.int .i64 cs.length)) σ) : ml P (⟨d, .len false x, g⟩ :: rest) K ts σ :=
  ml_step hw (hr.len hx) h
theorem mld_len {d : Option Nat} {g : Option (Nat × Bool)} {ix : Nat} {l : Bool} {x : Opd} {cs : List Value} (hw : wantM ts g = true) (hr : Rd σ v cs) (hx : mev ts x = v) (h : mld P drest K (updO ts d (.int .i64 cs.length)) σ) : mld P (⟨⟨d, .len false x, g⟩, ix, l, false⟩ :: drest) K ts σ :=
  mld_step hw (hr.len hx) h

/-- A slice of one-cell elements that is the call's own and of known length: it can be stored into. -/
def At1 (σ : H) (id : Nat) (cs : List Value) : Prop := σ.get id = .cells 1 cs
def sl1 (id n : Nat) : Value := .slice (some ⟨id, 0, none⟩) n n
attribute [go_sem] sl1
theorem At1.rd {id : Nat} {cs : List Value} (h : At1 σ id cs) : Rd σ (sl1 id cs.length) cs := .mk (row_of h (rowAll rfl))
theorem At1.own {id n : Nat} {cs : List Value} (h : At1 σ id cs) (hn : cs.length = n) : Own σ 1 (sl1 id n) (some id) cs := .full h (by omega)
/-- A store into an element. -/
theorem ml_setS {d : Nat} {d' : Option Nat} {x i y : Opd} {id n : Nat} {cs : List Value} {k : IntKind} {q : Int} {e : Value} (hg : σ.get id = .cells 1 cs) (hx : mev ts x = .slice (some ⟨id, 0, none⟩) n n) (hn : cs.length = n) (hi : mev ts i = .int k q) (h0 : 0 ≤ q) (h1 : q < n)
    (hy : ∀ p, mev (upd ts d p) y = e) (he : e.cells = #[e]) (ho : one e = true)
    (h : ∀ p τ, SetTo σ id (.cells 1 (cs.set q.toNat e)) τ → ml P rest K (updO (upd ts d p) d' undef) τ) : ml P (⟨some d, .iaS 1 x i, none⟩ :: ⟨d', .store 1 (.t d) y, none⟩ :: rest) K ts σ := by
  refine ml_stepN (o_iaS hx hi h0 h1) ?_
  refine ml_store1 (off := 0 + q.toNat * 1) rfl (by simp only [mev, updO, upd_same]) (hy _) he ho hg (by omega) ?_
  rw [Nat.zero_add, Nat.mul_one]
  exact h _ _ (.mk' (H.lt_of_cells hg))
theorem spl_one (cs : List Value) (k : Nat) (v : Value) : spl cs k [v] = cs.set k v := rfl
/-- make of one-cell elements. -/
theorem o_mks1 {z : Value} {bytes : Nat} {l c : Opd} {k k' : IntKind} {n : Nat} (hl : mev ts l = .int k n) (hc : mev ts c = .int k' n) (hn : n ≤ 2 ^ 40) (hb : bytes ≤ 128) :
    mop ts σ (.mks 1 bytes [z] l c) = some (sl1 σ.size n, σ.push (.cells 1 (List.replicate n z))) := by
  have hz : ∀ m : Nat, repZ [z] m = List.replicate m z := fun m => by
    induction m with
    | zero => rfl
    | succ m ih => simp only [repZ, ih, List.replicate_succ, List.cons_append, List.nil_append]
  have h2 : bytes * (n : Nat) ≤ 128 * 2 ^ 40 := Nat.mul_le_mul hb hn
  simp only [mop, hl, hc, Int.toNat_natCast]
  rw [if_pos, hz]
  · rfl
  · refine ⟨by omega, by omega, ?_, ?_⟩
    · have : ((n : Nat) : Int) ≤ ((2 ^ 40 : Nat) : Int) := Int.ofNat_le.2 hn
      simpa using this
    · have : ((bytes * n : Nat) : Int) ≤ ((2 ^ 47 : Nat) : Int) := Int.ofNat_le.2 (by omega)
      simpa using this
end
end Go.Mini
