/- The library's parts of text.Read: Atoi, Itoa, Split; text.number, text.needs, text.part, text.form. -/
import Derived.Test.YtepjinaomedecaaDoorTextP
import Derived.Test.YtepjinaomedecaaDoorGridR
import Derived.Test.YtepjinaomedecaaDoorBldB
import Derived.Lib.SmallJoins
import Derived.Lib.AtoiErrMem
namespace Go.Proofs.YtepjinaomedecaaDoor
open Go.Mini
open Go.RowKit (Below)
set_option linter.unusedVariables false
set_option linter.unusedSimpArgs false
set_option linter.ambiguousOpen false

/-- What the library's variables hold. -/
structure TextE (w : World) : Prop where
  et : ErrType w
  ml : ∃ m, w.cell? ⟨1, 0, none⟩ = some (.int .i64 m)
  es : ∃ te pe, w.cell? ⟨3, 0, none⟩ = some (.iface te pe)
  er : ∃ te pe, w.cell? ⟨4, 0, none⟩ = some (.iface te pe)
  tab : Lib.TabIs Tryd.prog w "internal/strconv.uint64pow10" .u64 Lib.pow10Tab
theorem cell_below {w w' : World} {B : Nat} (hb : Below B w w') (hB : w.heap.size ≤ B) {g : Nat} {v : Value} (h : w.cell? ⟨g, 0, none⟩ = some v) : w'.cell? ⟨g, 0, none⟩ = some v := by
  have hlt : g < w.heap.size := by
    rcases Nat.lt_or_ge g w.heap.size with h' | h'
    · exact h'
    · simp [World.cell?, Array.getElem?_eq_none h'] at h
  unfold World.cell? at h ⊢
  simp only at h ⊢
  rw [hb.block g (by omega)]; exact h
theorem TextE.below {w w' : World} {B : Nat} (h : TextE w) (hb : Below B w w') (hB : w.heap.size ≤ B) : TextE w' := by
  refine ⟨cell_below hb hB h.et, ?_, ?_, ?_, ?_⟩
  · obtain ⟨m, hm⟩ := h.ml; exact ⟨m, cell_below hb hB hm⟩
  · obtain ⟨t, p, hm⟩ := h.es; exact ⟨t, p, cell_below hb hB hm⟩
  · obtain ⟨t, p, hm⟩ := h.er; exact ⟨t, p, cell_below hb hB hm⟩
  · have ht := h.tab
    have hgn : Tryd.prog.globalNamed "internal/strconv.uint64pow10" = some 2 := by kernel_rfl
    unfold Lib.TabIs World.var? at ht ⊢
    rw [hgn] at ht ⊢
    simp only [Option.bind_some] at ht ⊢
    have hlt : 2 < w.heap.size := by
      rcases Nat.lt_or_ge 2 w.heap.size with h' | h'
      · exact h'
      · rw [Array.getElem?_eq_none h'] at ht; cases ht
    rw [hb.block _ (by omega)]
    exact ht
theorem TextE.sim {B : Fz} {w0 w : World} {μ : Nat → Blk} {σ : H} (h : TextE w0) (hs : Sim B w0 μ σ w) : TextE w := h.below hs.below hs.wh

variable {E : World → Prop}
theorem itoa_c (hE : ∀ w, E w → TextE w) (n : Int) (h0 : -9223372036854775808 ≤ n) (h1 : n ≤ 9223372036854775807) (σ : H) : MCalls E Tryd.prog 44 [.int .i64 n] σ (fun v τ => v = .string ⟨(Lib.itoa n).toArray⟩ ∧ τ = σ) := by
  refine ⟨by kernel_rfl, fun B w0 μ w args' hEw hs ha => ?_⟩
  obtain ⟨_, _, rfl, h2, ha⟩ := VRs.inv_cons ha
  obtain rfl := VRs.inv_nil ha
  obtain rfl := h2.inv_int
  refine (Tryd.strconv_Itoa n h0 h1 w ((hE _ hEw).sim hs).tab).mono fun e w' ⟨he, k, os, hw⟩ => ?_
  refine ⟨_, _, σ, μ, he, ⟨rfl, rfl⟩, hs.of_grown ?_, .string _, .refl _ _, Nat.le_refl _⟩
  rw [hw]; exact ⟨rfl, rfl, rfl, by simp [Go.Sort.grow, World.drewN], fun j hj => by simp [Go.Sort.grow, World.drewN, Array.getElem?_append, hj]⟩

/-- What Atoi answers. -/
def atoiQ (s : ByteArray) (σ : H) (v : Value) (τ : H) : Prop := Ext σ τ ∧
  ((∃ n, Lib.atoiAll s.data.toList = .ok n ∧ v = .tuple #[.int .i64 n, .nilIface]) ∨ ((∀ n, Lib.atoiAll s.data.toList ≠ .ok n) ∧ ∃ n t p, v = .tuple #[.int .i64 n, .iface t p]))
theorem atoi_c (hE : ∀ w, E w → TextE w) (s : ByteArray) (hl : s.size ≤ 1000000) (σ : H) : MCalls E Tryd.prog 72 [.string s] σ (atoiQ s σ) := by
  refine ⟨by kernel_rfl, fun B w0 μ w args' hEw hs ha => ?_⟩
  obtain ⟨_, _, rfl, h2, ha⟩ := VRs.inv_cons ha
  obtain rfl := VRs.inv_nil ha
  obtain rfl := h2.inv_string
  have hT := (hE _ hEw).sim hs
  have fail : ∀ (N : Nat) (n : Int) (ev : Value) (w' : World), (∀ n, Lib.atoiAll s.data.toList ≠ .ok n) → w.heap.size ≤ N → w'.heap[N]? = some (.cells #[.string ⟨#[65, 116, 111, 105]⟩, .string s, ev] 182 (0, 0)) → Below w.heap.size w w' →
      ∃ v v' τ μ', Ending.returned (.tuple #[.int .i64 n, .iface 172 (.pointer (some ⟨N, 0, none⟩))]) = .returned v' ∧ atoiQ s σ v τ ∧ Sim B w0 μ' τ w' ∧ VR μ' τ.size v v' ∧ Agr σ.size μ μ' ∧ σ.size ≤ τ.size := by
    intro N n ev w' hno hN hw hb
    have hs' := hs.of_grown hb
    have hlt : N < w'.heap.size := (Array.getElem?_eq_some_iff.1 hw).1
    have hle : B.le N := by
      refine ⟨Nat.le_trans hs.base hN, ?_⟩
      cases e : B.x N with
      | none => rfl
      | some o =>
        have := hs.fx N o e
        rw [Array.getElem?_eq_none hN] at this; cases this
    have hp := hs'.push' (sz := 1) (cs := []) (p := ⟨N, 0, 1, 3, false⟩) hle hlt rfl (fun h => by cases h) hw ⟨unfrozen0 _, rfl⟩ (fun j v hv => by simp at hv) (fun i hi e => by
      have := hs.fin i (H.lt_of_live hi)
      simp only at e; omega)
    have hptr : VR (setMu μ σ.size ⟨N, 0, 1, 3, false⟩) (σ.push (.cells 1 [])).size (.pointer (some ⟨σ.size, 0, none⟩)) (.pointer (some ⟨N, 0, none⟩)) := by
      have := VR.ptr (μ := setMu μ σ.size ⟨N, 0, 1, 3, false⟩) (n := (σ.push (.cells 1 [])).size) (id := σ.size) (off := 0) (by simp)
      rwa [setMu_self] at this
    exact ⟨.tuple #[.int .i64 n, .iface 172 (.pointer (some ⟨σ.size, 0, none⟩))], _, _, _, rfl, ⟨Ext.push _ _, .inr ⟨hno, n, _, _, rfl⟩⟩, hp, .tuple (.cons (.int _ _) (.cons (.iface hptr) .nil)), .setMu μ _, by simp⟩
  cases hc : Lib.atoiAll s.data.toList with
  | ok n =>
    refine (Tryd.strconv_Atoi_ok s (by omega) n hc w).mono fun e w' ⟨he, hw⟩ => ?_
    refine ⟨_, _, σ, μ, he, ⟨.refl _, .inl ⟨n, hc, rfl⟩⟩, hs.of_grown ?_, .tuple (c := #[.int .i64 n, .nilIface]) (c' := #[.int .i64 n, .nilIface]) (.cons (.int _ _) (.cons .nilIface .nil)), .refl _ _, Nat.le_refl _⟩
    rcases hw with rfl | ⟨t, rfl⟩
    · exact .refl _ _
    · exact Lib.bytesWorld_below w 5 t
  | range =>
    obtain ⟨te, pe, hes⟩ := hT.er
    refine (Tryd.strconv_Atoi_range s (by omega) hc _ w hes (.inr ⟨te, pe, rfl⟩)).mono fun e w' ⟨N, he, hN, hw, hb⟩ => ?_
    subst he
    exact fail N _ _ w' (fun n h => by rw [hc] at h; cases h) hN hw hb
  | _ =>
    obtain ⟨te, pe, hes⟩ := hT.es
    refine (Tryd.strconv_Atoi_syntax s (by omega) hc _ w hes (.inr ⟨te, pe, rfl⟩)).mono fun e w' ⟨N, he, hN, hw, hb⟩ => ?_
    subst he
    exact fail N _ _ w' (fun n h => by rw [hc] at h; cases h) hN hw hb
end Go.Proofs.YtepjinaomedecaaDoor
