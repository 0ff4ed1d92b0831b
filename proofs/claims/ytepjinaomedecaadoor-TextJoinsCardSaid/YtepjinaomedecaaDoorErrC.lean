/- tag.Num in the small world. -/
import Derived.Test.YtepjinaomedecaaDoorErrB
import Derived.Test.YtepjinaomedecaaDoorTagA
namespace Go.Proofs.YtepjinaomedecaaDoor
open Go.Mini Go.RowKit
open Go.Proofs.YtepjinaomedecaaDoor.Code
set_option linter.unusedVariables false
set_option linter.unusedSimpArgs false
set_option linter.ambiguousOpen false
attribute [local irreducible] mx ml mld mstep Ex.thn Ex.inb

/-- An error in the small world: so many tags around a number. -/
inductive SChain (σ : H) : Nat → Value → Int → Prop where
  | num (k : Int) : SChain σ 0 (.iface 66 (.int .i64 k)) k
  | tag {n id : Nat} {v : Value} {k : Int} {s : Value} (h : σ.get id = .cells 0 [s, v]) (t : SChain σ n v k) : SChain σ (n + 1) (.iface 101 (.pointer (some ⟨id, 0, none⟩))) k
theorem SChain.of_ext {σ τ : H} (e : Ext σ τ) {n : Nat} {v : Value} {k : Int} (h : SChain σ n v k) : SChain τ n v k := by
  induction h with
  | num k => exact .num k
  | tag h t ih => exact .tag (e.cells h) ih
theorem TagE.chain {σ : H} {v : Value} {name : ByteArray} {n : Int} (h : TagE σ v name n) : SChain σ 1 v n := by
  obtain ⟨id, rfl, h2⟩ := h
  exact .tag h2 (.num n)
theorem SChain.echain {B : Fz} {w0 w : World} {μ : Nat → Blk} {σ : H} (hs : Sim B w0 μ σ w) {n : Nat} {v : Value} {k : Int} (h : SChain σ n v k) : ∀ {v'}, VR μ σ.size v v' → EChain w n v' k := by
  induction h with
  | num k =>
    intro v' hv
    obtain ⟨x, rfl, hx⟩ := hv.inv_iface
    obtain rfl := hx.inv_int
    exact .num k
  | @tag n id v k s h t ih =>
    intro v' hv
    obtain ⟨x, rfl, hx⟩ := hv.inv_iface
    obtain ⟨hid, rfl⟩ := hx.inv_ptr
    obtain ⟨u, h1, h2⟩ := hs.cell (id := id) (off := 1) (v := v) (by simp [H.cell, h])
    exact .tag h1 (ih h2)
theorem ErrType.sim {B : Fz} {w0 w : World} {μ : Nat → Blk} {σ : H} (hs : Sim B w0 μ σ w) (h : ErrType w0) : ErrType w := by
  have := h.lt
  unfold ErrType at *
  simp only [World.cell?] at h ⊢
  rw [hs.below.block 0 (by have := hs.wh; omega)]; exact h
theorem frozen_of {w : World} {b i : Nat} {c : Array Value} {t : TypeId} {fz : Nat × Nat} (h : w.heap[b]? = some (.cells c t fz)) (hz : Unfrozen c fz) (hi : i < c.size) : w.frozen? ⟨b, i, none⟩ = false := by
  simp only [World.frozen?, h]
  have := hz i hi
  simp only [Bool.and_eq_false_iff, decide_eq_false_iff_not]
  rcases Nat.lt_or_ge i fz.1 with y | y
  · exact .inl (by omega)
  · exact .inr (fun x => this ⟨y, x⟩)
theorem setCell_at {w : World} {b i : Nat} {c : Array Value} {t : TypeId} {fz : Nat × Nat} (h : w.heap[b]? = some (.cells c t fz)) (v : Value) :
    w.setCell ⟨b, i, none⟩ v = { w with heap := w.heap.setIfInBounds b (.cells (c.setIfInBounds i v) t fz) } := by
  unfold World.setCell
  congr 1
  apply Array.ext_getElem?
  intro k
  have hb : b < w.heap.size := by
    rcases Nat.lt_or_ge b w.heap.size with y | y
    · exact y
    · rw [Array.getElem?_eq_none y] at h; cases h
  rw [Array.getElem?_modify, Array.getElem?_setIfInBounds]
  split
  · rename_i e; subst e; show Option.map _ (w.heap[b]?) = _; rw [h]; simp [hb]
  · rfl

theorem errorsAs_m {E : World → Prop} (hE : ∀ w, E w → ErrType w) {n : Nat} {v : Value} {k x : Int} {tid : Nat} {σ : H} (hc : SChain σ n v k) (ht : σ.get tid = .cells 0 [.int .i64 x]) :
    MCalls E Tryd.prog 35 [v, .iface 77 (.pointer (some ⟨tid, 0, none⟩))] σ (fun r τ => r = .bool true ∧ SetTo σ tid (.cells 0 [.int .i64 k]) τ) := by
  refine ⟨by kernel_rfl, fun B w0 μ w args' he hs ha => ?_⟩
  obtain ⟨v', h0, hv⟩ := ha.get (i := 0) rfl
  obtain ⟨t', h1, hv1⟩ := ha.get (i := 1) rfl
  have hl := ha.length
  obtain ⟨p, rfl, hp⟩ := hv1.inv_iface
  obtain ⟨hid, rfl⟩ := hp.inv_ptr
  obtain rfl : args' = [v', .iface 77 (.pointer (some ⟨(μ tid).b, (μ tid).o + 0, none⟩))] := by
    match args', hl, h0, h1 with
    | [a, b], _, h0, h1 => simp at h0 h1; rw [h0, h1]; rfl
  obtain ⟨_, cs', t, fz, hb, ⟨hz, hn⟩, hcs⟩ := hs.own tid 0 _ ht
  obtain ⟨y, hy, hyv⟩ := hcs 0 _ rfl
  have hyo : (μ tid).o + 0 < cs'.size := by
    rcases Nat.lt_or_ge ((μ tid).o + 0) cs'.size with q | q
    · exact q
    · rw [Array.getElem?_eq_none q] at hy; cases hy
  have hlt : (μ tid).b < w.heap.size := hs.fin tid hid
  refine (errorsAs_c n v' k ⟨(μ tid).b, (μ tid).o + 0, none⟩ y w ((hE _ he).sim hs) (hc.echain hs hv) (by simp [World.cell?, hb]; simpa using hy) (frozen_of hb hz hyo)).mono ?_
  rintro e w' ⟨rfl, w2, hbel, rfl⟩
  have hs2 := hs.of_grown hbel
  have hb2 : w2.heap[(μ tid).b]? = some (.cells cs' t fz) := by rw [hbel.block _ hlt]; exact hb
  refine ⟨.bool true, .bool true, σ.set tid (.cells 0 [.int .i64 k]), μ, rfl, ⟨rfl, .mk' (H.lt_of_cells ht)⟩, ?_, .bool true, .refl _ _, by simp⟩
  refine hs2.setOwn ht (setCell_at hb2 _) ⟨fun j hj => hz j (by simpa using hj), by simpa using hn⟩ (.inl ⟨_, rfl, fun j u hu => ?_⟩)
  match j, hu with
  | 0, hu =>
    simp at hu; subst hu
    exact ⟨.int .i64 k, by rw [Array.getElem?_setIfInBounds, if_pos rfl, if_pos hyo], .int _ _⟩

attribute [local irreducible] MCalls
theorem tNum_c {E : World → Prop} (hE : ∀ w, E w → ErrType w) {n : Nat} {v : Value} {k : Int} {σ : H} (hc : SChain σ n v k) : MCalls E Tryd.prog 14 [v] σ (fun r τ => r = .int .i64 k ∧ Ext σ τ) := by
  have hv : ∃ T x, v = .iface T x := by cases hc with
    | num k => exact ⟨_, _, rfl⟩
    | tag h t => exact ⟨_, _, rfl⟩
  obtain ⟨T, x, rfl⟩ := hv
  refine mcalls_of fn14 (by simp) ?_
  unfold c14 r14
  refine stepR0 ?_
  have hg := H.get_push_self σ (.cells 0 [.int .i64 0])
  have e1 : Ext σ (σ.push (.cells 0 [.int .i64 0])) := Ext.push _ _
  refine ml_call Sd0 Sd0 (errorsAs_m hE (hc.of_ext e1) hg) ?_
  rintro _ τ ⟨rfl, hs⟩
  have h2 := hs.self
  (have fx := h2; refine stepR ?_; clear fx)
  exact fin1 ⟨Sd0, hs.ext e1 (Nat.le_refl _)⟩
end Go.Proofs.YtepjinaomedecaaDoor
