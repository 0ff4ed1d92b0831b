/- Slices that come in: objects that are only read. -/
import Derived.Test.YtepjinaomedecaaDoorRow
namespace Go.Mini
open Go.ChangeShapes Go.WideShapes Go.ChangeAt Go.RowKit
set_option linter.unusedVariables false
set_option linter.unusedSimpArgs false
/-- All objects are only read. -/
def AllRo (σ : H) : Prop := ∀ i, σ.get i ≠ .dead → ∃ ds, σ.get i = .ro ds
theorem AllRo.empty : AllRo H.empty := fun i h => absurd rfl h
theorem AllRo.push {σ : H} (h : AllRo σ) (cs : List Value) : AllRo (σ.push (.ro cs)) := fun i hi => by
  by_cases e : i = σ.size
  · subst e; exact ⟨cs, H.get_push_self _ _⟩
  · rw [H.get_push_ne e] at hi ⊢; exact h i hi
theorem Sim.pushRo {B : Nat} {w0 w : World} {μ : Nat → Blk} {σ : H} (h : Sim B w0 μ σ w) (hro : AllRo σ) {b o : Nat} {cs : List Value} {cs' : Array Value} {t : TypeId} {fz : Nat × Nat}
    (hb : w.heap[b]? = some (.cells cs' t fz)) (hc : CellsR μ σ.size cs cs' o) : Sim B w0 (setMu μ σ.size ⟨b, o, 0, 0, false⟩) (σ.push (.ro cs)) w := by
  have hag : Agr σ.size μ (setMu μ σ.size ⟨b, o, 0, 0, false⟩) := .setMu μ _
  have hs : σ.size ≤ (σ.push (.ro cs)).size := by simp
  have hbl : b < w.heap.size := (Array.getElem?_eq_some_iff.1 hb).1
  have hall := hro.push cs
  refine ⟨h.below, h.base, h.fx, h.wh, ?_, ?_, ?_, ?_, ?_, ?_, ?_⟩
  · intro i hi
    simp only [H.size_push] at hi
    by_cases e : i = σ.size
    · subst e; rw [setMu_self]; exact hbl
    · rw [hag i (by omega)]; exact h.fin i (by omega)
  · intro i s ds hd
    obtain ⟨es, he⟩ := hall i (by rw [hd]; simp)
    rw [he] at hd; cases hd
  · intro i ds hd
    by_cases e : i = σ.size
    · subst e
      rw [H.get_push_self] at hd
      cases hd
      rw [setMu_self]
      exact ⟨⟨rfl, rfl⟩, cs', t, fz, hb, hc.mono hs hag⟩
    · rw [H.get_push_ne e] at hd
      have hi := H.lt_of_live (σ := σ) (i := i) (by rw [hd]; simp)
      rw [hag i hi]
      obtain ⟨h0, ds', t', fz', h2, h4⟩ := h.ro i ds hd
      exact ⟨h0, ds', t', fz', h2, h4.mono hs hag⟩
  · intro i es c hd
    obtain ⟨es, he⟩ := hall i (by rw [hd]; simp)
    rw [he] at hd; cases hd
  · intro i R hd
    obtain ⟨es, he⟩ := hall i (by rw [hd]; simp)
    rw [he] at hd; cases hd
  · intro i T ds hd
    obtain ⟨es, he⟩ := hall i (by rw [hd]; simp)
    rw [he] at hd; cases hd
  · intro i j hi hj hr hne
    obtain ⟨es, he⟩ := hall i hi
    exact absurd he (hr es)
/-- From a contract at objects that are only read. -/
theorem calls_of_mcallsR {E : World → Prop} {P : Program} {f : FuncId} {args args' : List Value} {σ : H} {μ : Nat → Blk} {w : World} (hs : Sim w.heap.size w μ σ w) (ha : VRs μ σ.size args args') {v : Value} (kv : Nat) (hv : flat kv v = true)
    (hE : E w) (h : MCalls E P f args σ (fun v' _ => v' = v)) : Calls P f args'.toArray w fun e w' => e = .returned v ∧ Below w.heap.size w w' := by
  refine (h.2 w.heap.size w μ w args' hE hs ha).mono fun e w' ⟨v1, v', τ, μ', he, hr, hs', hvr, _, _⟩ => ?_
  subst hr
  rw [VR.eq_of_flat kv _ _ hvr hv] at he
  exact ⟨he, hs'.below⟩
/-- A slice of numbers that came in: an object for it. -/
theorem slice_arg {P : Program} {w : World} {t e : TypeId} {k : IntKind} {v : Value} {H : Type} {enc : TypeId × Value → H} {d : DataW H} {ps : List MemPlace} {μ : Nat → Blk} {σ : Mini.H} (ht : P.underlying t = some (.slice e)) (he : P.underlying e = some (.int k)) (hc : P.cellsOf e = 1)
    (hval : Value.okWide P w .any 0 t v) (hd : DataW.Trod enc P w 0 (fun _ => true) true t v d ps) (hs : Sim w.heap.size w μ σ w) (hro : AllRo σ) :
    ∃ (l : List Int) (v0 : Value) (σ' : Mini.H) (μ' : Nat → Blk), AllRo σ' ∧ Sim w.heap.size w μ' σ' w ∧ VR μ' σ'.size v0 v ∧ Rd σ' v0 (l.map (Value.int k)) ∧ Ext σ σ' ∧ Agr σ.size μ μ' ∧ (∀ n ∈ l, k.min ≤ n ∧ n ≤ k.max) := by
  obtain ⟨a, len, cap, rfl⟩ := okWide_slice ht hval
  obtain ⟨fuel, hf⟩ := hd
  rcases open_ints ht he hc hf with ⟨hcs, _⟩ | ⟨x, ln, cp, zs, hcs, _, hl, hm, hz, _, hcell, hwz⟩
  · simp only [Value.cells, List.cons.injEq, and_true] at hcs
    obtain ⟨rfl, rfl, rfl⟩ : a = none ∧ len = 0 ∧ cap = 0 := by simpa using hcs
    exact ⟨[], .slice none 0 0, σ, μ, hro, hs, .nilSlice, .nil, .refl _, .refl _ _, fun _ h => nomatch h⟩
  · obtain ⟨rfl, rfl, rfl⟩ : a = some x ∧ len = ln ∧ cap = cp := by simpa [Value.cells] using hcs
    have hz : zs.length = cap := by simpa using hz
    have hok : w.has P .any 0 x e cap := by
      have : Cell.okWide P w .any 0 t (.slice (some x) len cap) := by unfold Value.okWide at hval; rw [ht] at hval; exact hval
      unfold Cell.okWide Cell.ok at this
      rw [ht] at this
      exact this.2.2
    obtain ⟨_, hspot, row, cells, hsh, _⟩ := hok
    obtain ⟨b, off, spot⟩ := x
    dsimp only at hspot
    subst hspot
    unfold World.shape? at hsh
    split at hsh
    · rename_i c el fz hb
      have hb : w.heap[b]? = some (.cells c el fz) := hb
      have hlen : (zs.take len).length = len := by rw [List.length_take]; omega
      have hcr : CellsR μ σ.size ((zs.take len).map (Value.int k)) c off := fun j u hu => by
        rw [List.getElem?_map] at hu
        have hj : j < len := by
          apply Classical.byContradiction
          intro hn
          rw [List.getElem?_eq_none (by omega)] at hu; cases hu
        rw [List.getElem?_take, if_pos hj, List.getElem?_eq_getElem (by omega)] at hu
        simp only [Option.map_some, Option.some.injEq] at hu
        have h1 := hcell j (by omega)
        rw [List.getD_eq_getElem?_getD, List.getElem?_eq_getElem (by omega)] at h1
        simp only [Option.getD_some] at h1
        rw [add_plain] at h1
        unfold World.cell? at h1
        simp only [hb, Option.isSome_none, Bool.false_eq_true, if_false] at h1
        exact ⟨_, h1, by rw [← hu]; exact .int _ _⟩
      refine ⟨zs.take len, .slice (some ⟨σ.size, 0, none⟩) len len, σ.push (.ro ((zs.take len).map (Value.int k))), setMu μ σ.size ⟨b, off, 0, 0, false⟩, hro.push _, hs.pushRo hro hb hcr, ?_, ?_, Ext.push _ _, .setMu μ _, fun n hn => ?_⟩
      · have := VR.slice (μ := setMu μ σ.size ⟨b, off, 0, 0, false⟩) (n := (σ.push (.ro ((zs.take len).map (Value.int k)))).size) (id := σ.size) (off := 0) (len := len) (cap := len) (cap' := cap) (o' := off) (by simp) (Nat.le_refl _) hl (fun _ => by rw [setMu_self]; simp) (fun h => by rw [setMu_self] at h; simp at h) (fun h => by rw [setMu_self] at h; simp at h)
        rw [setMu_self] at this
        exact this
      · have hrow : (σ.push (.ro ((zs.take len).map (Value.int k)))).row σ.size 0 ((zs.take len).map (Value.int k)).length = some ((zs.take len).map (Value.int k)) := row_ro (_root_.Go.Mini.H.get_push_self _ _) (rowAll rfl)
        have := Rd.mk (cap := len) hrow
        rwa [List.length_map, hlen] at this
      · have hw := hwz n (List.mem_of_mem_take hn)
        simpa [Lit.wf] using hw
    · cases hsh
end Go.Mini
