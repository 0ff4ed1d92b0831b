/- Slices of structs of plain fields that come in: objects that are only read. -/
import Derived.Test.YtepjinaomedecaaDoorRowS
import Derived.Test.YtepjinaomedecaaDoorRdG
import Derived.Deep.Slices
namespace Go.Mini
open Go.ChangeShapes Go.WideShapes Go.ChangeAt Go.RowKit
set_option linter.unusedVariables false
set_option linter.unusedSimpArgs false
theorem Fits.length : ∀ {ks : List CK} {vs : List Value}, Fits ks vs → vs.length = ks.length
  | _, _, .nil => rfl
  | _, _, .cons h hs => by simp [Fits.length hs]
/-- The cells of a struct of plain fields. -/
theorem trod_fits {P : Program} {w : World} {base : Nat} {spare : Nat → Bool} {held : Bool} {H : Type} {enc : TypeId × Value → H} {e : TypeId} {fs : Array Field} {ks : List CK} {n : Nat} {cs : List Value} {x : DataW H × List MemPlace} (ht : P.underlying e = some (.struct fs)) (hc : P.cellsOf e = ks.length)
    (hk : (fs.toList.map fun f => (f.offset, P.cellsOf f.type, leafK P f.type)) = ks.zipIdx.map fun p => (p.2, 1, some p.1)) (h : DataW.trod enc P w base spare held n e cs = some x) : Fits ks cs := by
  obtain ⟨xs, m, rfl, rfl, hl, hxl, hf⟩ := DataW.trod_struct ht h
  refine .of_get (by rw [hl, hc]) fun i v hv => ?_
  have hi : i < ks.length := by rw [← hc, ← hl]; exact (List.getElem?_eq_some_iff.1 hv).1
  refine ⟨ks[i], List.getElem?_eq_getElem hi, ?_⟩
  have h1 := congrArg (fun l => l[i]?) hk
  simp only [List.getElem?_map, List.getElem?_zipIdx, List.getElem?_eq_getElem hi, Option.map_some] at h1
  cases hfi : fs.toList[i]? with
  | none => rw [hfi] at h1; cases h1
  | some f =>
    rw [hfi] at h1
    simp only [Option.map_some, Option.some.injEq, Prod.mk.injEq, Nat.zero_add] at h1
    obtain ⟨ho, hcf, hlf⟩ := h1
    have h2 := hf i f (by rw [← Array.getElem?_toList]; exact hfi)
    rw [hcf, ho] at h2
    have h3 : (cs.drop i).take 1 = [v] := by
      have hlt := (List.getElem?_eq_some_iff.1 hv).1
      rw [List.drop_eq_getElem_cons hlt, List.take_succ_cons, List.take_zero, (List.getElem?_eq_some_iff.1 hv).2]
    rw [h3] at h2
    have hxi : i < xs.length := by
      rw [hxl]; have := (List.getElem?_eq_some_iff.1 hfi).1; simpa using this
    rw [List.getElem?_eq_getElem hxi] at h2
    unfold leafK at hlf
    split at hlf <;> first | (cases hlf; done) | skip
    all_goals
      rename_i hu
      injection hlf with hlf
      rw [← hlf]
    · obtain ⟨z, hz, _, hw⟩ := DataW.trod_int hu h2
      obtain rfl : v = _ := by simpa using hz
      refine ⟨z, rfl, ?_⟩
      simpa [Lit.wf] using hw
    · first
        | (obtain ⟨s, hz, _, hw⟩ := DataW.trod_string hu h2
           obtain rfl : v = _ := by simpa using hz
           exact ⟨s, rfl, by have : maxLen ≤ 9223372036854775807 := by decide
                             show (s.size : Int) ≤ 9223372036854775807
                             omega⟩)
        | (obtain ⟨b, hz, _⟩ := DataW.trod_bool hu h2
           obtain rfl : v = _ := by simpa using hz
           exact ⟨b, rfl⟩)
    · first
        | (obtain ⟨s, hz, _, hw⟩ := DataW.trod_string hu h2
           obtain rfl : v = _ := by simpa using hz
           exact ⟨s, rfl, by have : maxLen ≤ 9223372036854775807 := by decide
                             show (s.size : Int) ≤ 9223372036854775807
                             omega⟩)
        | (obtain ⟨b, hz, _⟩ := DataW.trod_bool hu h2
           obtain rfl : v = _ := by simpa using hz
           exact ⟨b, rfl⟩)
/-- A slice of structs that came in: an object for it. -/
theorem sliceG_arg {P : Program} {w : World} {t e : TypeId} {fs : Array Field} {ks : List CK} {v : Value} {H : Type} {enc : TypeId × Value → H} {d : DataW H} {ps : List MemPlace} {μ : Nat → Blk} {σ : Mini.H} (hpos : 0 < ks.length) (ht : P.underlying t = some (.slice e)) (he : P.underlying e = some (.struct fs)) (hc : P.cellsOf e = ks.length)
    (hk : (fs.toList.map fun f => (f.offset, P.cellsOf f.type, leafK P f.type)) = ks.zipIdx.map fun p => (p.2, 1, some p.1))
    (hval : Value.okWide P w .any 0 t v) (hd : DataW.Trod enc P w 0 (fun _ => true) true t v d ps) (hs : Sim w.heap.size w μ σ w) (hro : AllRo σ) :
    ∃ (L : List (List Value)) (v0 : Value) (σ' : Mini.H) (μ' : Nat → Blk), AllRo σ' ∧ Sim w.heap.size w μ' σ' w ∧ VR μ' σ'.size v0 v ∧ RdN σ' ks.length v0 L ∧ Ext σ σ' ∧ Agr σ.size μ μ' ∧ ∀ l ∈ L, Fits ks l := by
  obtain ⟨a, len, cap, rfl⟩ := okWide_slice ht hval
  obtain ⟨fuel, hf⟩ := hd
  rcases Go.Deep.open_slice ht hf with ⟨hcs, _⟩ | ⟨x, ln, cp, m, n, D, Pl, hcs, _, hl, hm, hmm, _, hx⟩
  · simp only [Value.cells, List.cons.injEq, and_true] at hcs
    obtain ⟨rfl, rfl, rfl⟩ : a = none ∧ len = 0 ∧ cap = 0 := by simpa using hcs
    exact ⟨[], .slice none 0 0, σ, μ, hro, hs, .nilSlice, .nil, .refl _, .refl _ _, fun _ h => (by cases h)⟩
  · obtain ⟨rfl, rfl, rfl⟩ : a = some x ∧ len = ln ∧ cap = cp := by simpa [Value.cells] using hcs
    have hm' : len ≤ m := by rw [hmm]; simp; exact hl
    have hok : w.has P .any 0 x e cap := by
      have : Cell.okWide P w .any 0 t (.slice (some x) len cap) := by unfold Value.okWide at hval; rw [ht] at hval; exact hval
      unfold Cell.okWide Cell.ok at this
      rw [ht] at this
      exact this.2.2
    obtain ⟨_, hspot, row, cells, hsh, _⟩ := hok
    obtain ⟨b, off, spot⟩ := x
    dsimp only at hspot
    subst hspot
    unfold World.shape? at hsh
    split at hsh
    · rename_i c el fz hb
      have hb : w.heap[b]? = some (.cells c el fz) := hb
      obtain ⟨Z, hZ⟩ := Go.Deep.choose_lt (α := List Value) (n := len) (p := fun i l => Fits ks l ∧ ∀ j, j < ks.length → c[off + (i * ks.length + j)]? = l[j]?) (fun i hi => by
        obtain ⟨cs', h1, h2⟩ := hx i (by omega)
        have hfit := trod_fits he hc hk h2
        obtain ⟨_, hlen, hcell⟩ := World.cells?_some h1
        refine ⟨cs', hfit, fun j hj => ?_⟩
        have h3 := hcell j (by omega)
        rw [Go.Deep.add_add, add_plain] at h3
        unfold World.cell? at h3
        simp only [hb, Option.isSome_none, Bool.false_eq_true, if_false] at h3
        rw [← h3, hc])
      have hLl : ∀ l ∈ (List.range len).map Z, Fits ks l := fun l hl => by
        obtain ⟨i, hi, rfl⟩ := List.mem_map.1 hl
        exact (hZ i (List.mem_range.1 hi)).1
      have hLk : ∀ l ∈ (List.range len).map Z, l.length = ks.length := fun l hl => (hLl l hl).length
      have hlen : ((List.range len).map Z).length = len := by simp
      have hfl := flat_len hLk
      rw [hlen] at hfl
      have hpl : ∀ l : List Value, Fits ks l → ∀ u ∈ l, flat 0 u = true := fun l h u hu => by
        have := h.plain
        exact List.all_eq_true.1 this u hu
      have hcr : CellsR μ σ.size (((List.range len).map Z).flatten) c off := fun j u hu => by
        have hj : j < len * ks.length := by rw [← hfl]; exact (List.getElem?_eq_some_iff.1 hu).1
        have hq : j / ks.length < len := (Nat.div_lt_iff_lt_mul hpos).2 hj
        have hr : j % ks.length < ks.length := Nat.mod_lt _ hpos
        have hjq : j = j / ks.length * ks.length + j % ks.length := by rw [Nat.mul_comm]; exact (Nat.div_add_mod j ks.length).symm
        have h1 := flat_row hLk (j / ks.length) (by rw [hlen]; exact hq)
        have h2 : ((((List.range len).map Z).flatten.drop (j / ks.length * ks.length)).take ks.length)[j % ks.length]? = some u := by
          rw [List.getElem?_take, if_pos hr, List.getElem?_drop, ← hjq]; exact hu
        rw [h1, List.getElem_map, List.getElem_range] at h2
        obtain ⟨h3, h4⟩ := hZ _ hq
        have h5 := h4 _ hr
        rw [← hjq, h2] at h5
        exact ⟨u, h5, VR.of_flat 0 u (hpl _ h3 u (List.mem_of_getElem? h2))⟩
      have hg : (σ.push (.ro ((List.range len).map Z).flatten)).get σ.size = .ro ((List.range len).map Z).flatten := _root_.Go.Mini.H.get_push_self _ _
      refine ⟨(List.range len).map Z, .slice (some ⟨σ.size, 0, none⟩) len len, σ.push (.ro ((List.range len).map Z).flatten), setMu μ σ.size ⟨b, off, 0, 0, false⟩, hro.push _, hs.pushRo hro hb hcr, ?_, ?_, Ext.push _ _, .setMu μ _, hLl⟩
      · have := VR.slice (μ := setMu μ σ.size ⟨b, off, 0, 0, false⟩) (n := (σ.push (.ro ((List.range len).map Z).flatten)).size) (id := σ.size) (off := 0) (len := len) (cap := len) (cap' := cap) (o' := off) (by simp) (Nat.le_refl _) hl (fun _ => by rw [setMu_self]; simp) (fun h => by rw [setMu_self] at h; simp at h) (fun h => by rw [setMu_self] at h; simp at h)
        rw [setMu_self] at this
        exact this
      · refine .mk hlen (row_ro hg (rowAll hfl)) fun i hi => ?_
        rw [← flat_row hLk i hi]
        have hi' : i < len := by rw [hlen] at hi; exact hi
        refine row_ro hg (rowL_some _ _ _ ?_)
        rw [hfl]
        calc i * ks.length + ks.length = (i + 1) * ks.length := by rw [Nat.add_mul]; omega
          _ ≤ len * ks.length := Nat.mul_le_mul_right _ hi'
    · cases hsh
end Go.Mini
