/- Elements of rows of numbers and of truths, read and stored. -/
import Derived.Test.YtgfmphjccnemmaaDoorBase3
namespace Go.Mini
set_option linter.unusedVariables false
set_option linter.unusedSimpArgs false
theorem getD_set {α : Type} (l : List α) (i m : Nat) (c d : α) (hi : i < l.length) : (l.set i c).getD m d = if m = i then c else l.getD m d := by
  rw [List.getD_eq_getElem?_getD, List.getElem?_set, List.getD_eq_getElem?_getD]
  by_cases e : m = i
  · subst e; simp [hi]
  · rw [if_neg (Ne.symm e), if_neg e]
theorem ints_at {l : List Int} {i : Nat} (hi : i < l.length) : (ints l)[i]? = some (.int .i64 (l.getD i 0)) := by
  unfold ints; rw [List.getElem?_map, List.getElem?_eq_getElem hi, List.getD_eq_getElem?_getD, List.getElem?_eq_getElem hi]; rfl
def bools (l : List Bool) : List Value := l.map Value.bool
theorem bools_len (l : List Bool) : (bools l).length = l.length := by simp [bools]
theorem bools_at {l : List Bool} {i : Nat} (hi : i < l.length) : (bools l)[i]? = some (.bool (l.getD i false)) := by
  unfold bools; rw [List.getElem?_map, List.getElem?_eq_getElem hi, List.getD_eq_getElem?_getD, List.getElem?_eq_getElem hi]; rfl
section
variable {P : Program} {ts : Fr} {σ τ σ0 : H} {v : Value} {K : Fr → H → Prop} {Q : MQ} {rest : List MI} {drest : List DI}
theorem o_setI {a x : Opd} {id off : Nat} {out : List Int} {c : Int} (ha : mev ts a = .pointer (some ⟨id, off, none⟩)) (hx : mev ts x = .int .i64 c) (hg : σ.get id = .cells 1 (ints out)) (ho : off < out.length) :
    mop ts σ (.store 1 a x) = some (undef, σ.set id (.cells 1 (ints (out.set off c)))) := by
  rw [o_store1 (v := .int .i64 c) ha hx rfl rfl hg (by rw [ints_len]; exact ho)]
  unfold ints; rw [List.map_set]
theorem o_setB {a x : Opd} {id off : Nat} {out : List Bool} {c : Bool} (ha : mev ts a = .pointer (some ⟨id, off, none⟩)) (hx : mev ts x = .bool c) (hg : σ.get id = .cells 1 (bools out)) (ho : off < out.length) :
    mop ts σ (.store 1 a x) = some (undef, σ.set id (.cells 1 (bools (out.set off c)))) := by
  rw [o_store1 (v := .bool c) ha hx rfl rfl hg (by rw [bools_len]; exact ho)]
  unfold bools; rw [List.map_set]
theorem ml_setI {d : Option Nat} {g : Option (Nat × Bool)} {a x : Opd} {id off : Nat} {out : List Int} {c : Int} (hw : wantM ts g = true) (ha : mev ts a = .pointer (some ⟨id, off, none⟩)) (hx : mev ts x = .int .i64 c) (hg : σ.get id = .cells 1 (ints out)) (ho : off < out.length)
    (hn : ∀ τ, SetTo σ id (.cells 1 (ints (out.set off c))) τ → ml P rest K (updO ts d undef) τ) : ml P (⟨d, .store 1 a x, g⟩ :: rest) K ts σ := ml_step hw (o_setI ha hx hg ho) (hn _ (.mk' (H.lt_of_cells hg)))
theorem ml_setB {d : Option Nat} {g : Option (Nat × Bool)} {a x : Opd} {id off : Nat} {out : List Bool} {c : Bool} (hw : wantM ts g = true) (ha : mev ts a = .pointer (some ⟨id, off, none⟩)) (hx : mev ts x = .bool c) (hg : σ.get id = .cells 1 (bools out)) (ho : off < out.length)
    (hn : ∀ τ, SetTo σ id (.cells 1 (bools (out.set off c))) τ → ml P rest K (updO ts d undef) τ) : ml P (⟨d, .store 1 a x, g⟩ :: rest) K ts σ := ml_step hw (o_setB ha hx hg ho) (hn _ (.mk' (H.lt_of_cells hg)))
theorem ml_getI {d : Option Nat} {g : Option (Nat × Bool)} {a : Opd} {id off : Nat} {out : List Int} (hw : wantM ts g = true) (ha : mev ts a = .pointer (some ⟨id, off, none⟩)) (hg : σ.get id = .cells 1 (ints out)) (ho : off < out.length)
    (hn : ml P rest K (updO ts d (.int .i64 (out.getD off 0))) σ) : ml P (⟨d, .load1 a, g⟩ :: rest) K ts σ := ml_step hw (o_load1 ha (cell_of hg (ints_at ho))) hn
theorem ml_getB {d : Option Nat} {g : Option (Nat × Bool)} {a : Opd} {id off : Nat} {out : List Bool} (hw : wantM ts g = true) (ha : mev ts a = .pointer (some ⟨id, off, none⟩)) (hg : σ.get id = .cells 1 (bools out)) (ho : off < out.length)
    (hn : ml P rest K (updO ts d (.bool (out.getD off false))) σ) : ml P (⟨d, .load1 a, g⟩ :: rest) K ts σ := ml_step hw (o_load1 ha (cell_of hg (bools_at ho))) hn
theorem mld_getI {d : Option Nat} {g : Option (Nat × Bool)} {ix : Nat} {l : Bool} {a : Opd} {id off : Nat} {out : List Int} (hw : wantM ts g = true) (ha : mev ts a = .pointer (some ⟨id, off, none⟩)) (hg : σ.get id = .cells 1 (ints out)) (ho : off < out.length)
    (hn : mld P drest K (updO ts d (.int .i64 (out.getD off 0))) σ) : mld P (⟨⟨d, .load1 a, g⟩, ix, l, false⟩ :: drest) K ts σ := mld_step hw (o_load1 ha (cell_of hg (ints_at ho))) hn
theorem mld_getB {d : Option Nat} {g : Option (Nat × Bool)} {ix : Nat} {l : Bool} {a : Opd} {id off : Nat} {out : List Bool} (hw : wantM ts g = true) (ha : mev ts a = .pointer (some ⟨id, off, none⟩)) (hg : σ.get id = .cells 1 (bools out)) (ho : off < out.length)
    (hn : mld P drest K (updO ts d (.bool (out.getD off false))) σ) : mld P (⟨⟨d, .load1 a, g⟩, ix, l, false⟩ :: drest) K ts σ := mld_step hw (o_load1 ha (cell_of hg (bools_at ho))) hn
end
section
variable {P : Program} {ts : Fr} {σ τ σ0 : H} {v : Value} {K : Fr → H → Prop} {Q : MQ} {rest : List MI} {drest : List DI}
/-- A variable's first value. -/
theorem ml_init {d : Option Nat} {g : Option (Nat × Bool)} {n : Nat} {a x : Opd} {zs vs : List Value} (hw : wantM ts g = true) (ha : mev ts a = .pointer (some ⟨σ.size, 0, none⟩)) (hx : (mev ts x).cells = vs.toArray) (h1 : vs.length = n) (h2 : zs.length = n) (h3 : vs.all one = true)
    (hn : ∀ τ, Ext σ τ → τ.get σ.size = .cells 0 vs → ml P rest K (updO ts d undef) τ) : ml P (⟨d, .store n a x, g⟩ :: rest) K ts (σ.push (.cells 0 zs)) := by
  refine ml_storeA (off := 0) (vs := vs) hw ha hx (H.get_push_self _ _) h1 (by omega) h3 fun τ t => ?_
  rw [spl_all (by omega)] at t
  exact hn τ (t.ext (Ext.push _ _) (Nat.le_refl _)) t.self
theorem mld_getS {d d' : Nat} {g g' : Option (Nat × Bool)} {ix ix' : Nat} {l l' : Bool} {x i : Opd} {cs : List Value} {k : IntKind} {q : Int} {e : Value} (hw : wantM ts g = true) (hr : Rd σ v cs) (hx : mev ts x = v) (hi : mev ts i = .int k q) (h0 : 0 ≤ q) (h1 : cs[q.toNat]? = some e)
    (hw' : ∀ p, wantM (upd ts d p) g' = true) (h : ∀ p, mld P drest K (upd (upd ts d p) d' e) σ) : mld P (⟨⟨some d, .iaS 1 x i, g⟩, ix, l, false⟩ :: ⟨⟨some d', .load1 (.t d), g'⟩, ix', l', false⟩ :: drest) K ts σ := by
  obtain ⟨id, off, h2, h3⟩ := hr.get hx hi h0 h1
  refine mld_step hw h2 ?_
  refine mld_step (v := e) (τ := σ) (hw' _) ?_ (h _)
  simp only [mop, mev, updO, upd_same, h3, Option.map_some]
end
theorem SetTo.keep {σ τ : H} {id i sz : Nat} {o : MObj} {cs : List Value} (h : SetTo σ id o τ) (hg : σ.get i = .cells sz cs) (hi : i ≠ id) : τ.get i = .cells sz cs := h.cells hg hi
end Go.Mini
