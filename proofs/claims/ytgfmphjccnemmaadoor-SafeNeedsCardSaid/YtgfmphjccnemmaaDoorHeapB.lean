import Derived.Test.YtgfmphjccnemmaaDoorHeapA
namespace Go.Proofs.YtgfmphjccnemmaaDoor
open Go.Mini
open Go.Proofs.YtgfmphjccnemmaaDoor.Code
set_option linter.unusedVariables false
set_option linter.unusedSimpArgs false
set_option linter.ambiguousOpen false
attribute [local irreducible] mx ml mld mstep MCalls Ex.thn Ex.inb

abbrev dv (L : List Due) (i : Nat) : Due := L.getD i (0, 0)
def up (L : List Due) (i : Nat) : List Due :=
  if h : 0 < i ∧ lt (dv L i) (dv L ((i - 1) / 2)) = true then up (swp L i ((i - 1) / 2)) ((i - 1) / 2) else L
termination_by i
decreasing_by omega
def kid (L : List Due) (i : Nat) : Nat := if 2 * i + 2 < L.length ∧ lt (dv L (2 * i + 2)) (dv L (2 * i + 1)) = true then 2 * i + 2 else 2 * i + 1
def down (L : List Due) (i : Nat) : List Due :=
  if h : 2 * i + 1 < L.length ∧ lt (dv L (kid L i)) (dv L i) = true then down (swp L i (kid L i)) (kid L i) else L
termination_by L.length - i
decreasing_by
  rw [swp_len]
  have : i < kid L i := by unfold kid; split <;> omega
  omega

theorem HeapAt.len {σ0 τ : H} {hid : Nat} {L : List Due} (h : HeapAt σ0 hid L τ) : ∃ v, τ.get hid = .cells 0 [v] ∧ ∀ ts x, mev ts x = v → mop ts τ (.len false x) = some (.int .i64 L.length, τ) := by
  obtain ⟨h1, h2, v, h3, h4⟩ := h
  refine ⟨v, h3, fun ts x hx => ?_⟩
  rcases h4 with ⟨rfl, rfl⟩ | ⟨id, R, rfl, h6, h7⟩ <;> simp [mop, hx]

set_option maxHeartbeats 1000000 in
theorem hsink_c {σ0 σ : H} {hid : Nat} {L : List Due} (h : HeapAt σ0 hid L σ) (hL : L.length ≤ 1000000) :
    MCalls Tryd.prog 84 [.pointer (some ⟨hid, 0, none⟩)] σ (fun v τ => HeapAt σ0 hid (down L 0) τ ∧ Keep2 hid σ τ) := by
  refine mcalls_of fn84 (by simp) ?_
  unfold c84 r84
  refine stepR0 ?_
  refine mx_loop (fun n ts τ => ∃ L' i, n = L.length - i ∧ ts 0 = .pointer (some ⟨hid, 0, none⟩) ∧ ts 2 = .int .i64 ((i : Nat) : Int) ∧ HeapAt σ0 hid L' τ ∧ Keep2 hid σ τ ∧ down L' i = down L 0 ∧ L'.length = L.length ∧ i ≤ L.length) L.length ?_ ?_
  · exact ⟨L, 0, by omega, Sd0, Sd0, h, .of_ext (.refl _), rfl, rfl, by omega⟩
  rintro n ts τ ⟨L', i, hn, t0, t2, hh, hk, hd, hl, hi⟩
  obtain ⟨v, hv, hlen⟩ := hh.len
  have c2 : 2 * (i : Int) + 1 = ((2 * i + 1 : Nat) : Int) := by omega
  have c1 : ((2 * i + 1 : Nat) : Int) + 1 = ((2 * i + 2 : Nat) : Int) := by omega
  (have fx := And.intro t0 (And.intro t2 (And.intro hv c2)); refine stepR ?_; clear fx)
  refine ml_op Sd0 (hlen _ _ Sd0) ?_
  rcases Nat.lt_or_ge (2 * i + 1) L.length with hlt | hge
  · have ha1 : ¬ ((L'.length : Int) ≤ ((2 * i + 1 : Nat) : Int)) := by omega
    (have fx := And.intro t0 (And.intro t2 (And.intro hv (And.intro ha1 (And.intro c2 c1)))); refine stepR ?_; clear fx)
    refine ml_cut (fun ts τ => HeapAt σ0 hid L' τ ∧ Keep2 hid σ τ ∧ ts 0 = .pointer (some ⟨hid, 0, none⟩) ∧ ts 2 = .int .i64 ((i : Nat) : Int) ∧ ts 3 = .int .i64 ((kid L' i : Nat) : Int)) ?_ ?_
    · refine ml_op Sd0 (hlen _ _ Sd0) ?_
      rcases Nat.lt_or_ge (2 * i + 2) L.length with hlt2 | hge2
      · have ha2 : ((2 * i + 2 : Nat) : Int) < (L'.length : Int) := by omega
        (have fx := And.intro t0 (And.intro t2 (And.intro hv (And.intro ha2 (And.intro c2 c1)))); refine stepR ?_; clear fx)
        refine ml_call Sd0 (have fx := t0; Sd) (hless_c hh (2 * i + 2) (2 * i + 1) (by omega) (by omega) (by omega)) ?_
        rintro _ τ2 ⟨rfl, e⟩
        cases hlt3 : lt (L'.getD (2 * i + 2) (0, 0)) (L'.getD (2 * i + 1) (0, 0))
        · have hkid : kid L' i = 2 * i + 1 := by unfold kid; rw [if_neg]; rintro ⟨_, h⟩; rw [show dv L' (2 * i + 2) = L'.getD (2 * i + 2) (0, 0) from rfl, show dv L' (2 * i + 1) = L'.getD (2 * i + 1) (0, 0) from rfl, hlt3] at h; cases h
          (have fx := And.intro t0 (And.intro t2 (And.intro c2 c1)); refine stepR ?_; clear fx)
          exact ⟨hh.of_ext e, hk.trans (.of_ext e), (have fx := t0; Sd), (have fx := t2; Sd), (have fx := hkid; Sd)⟩
        · have hkid : kid L' i = 2 * i + 2 := by unfold kid; rw [if_pos ⟨by omega, hlt3⟩]
          (have fx := And.intro t0 (And.intro t2 (And.intro c2 c1)); refine stepR ?_; clear fx)
          exact ⟨hh.of_ext e, hk.trans (.of_ext e), (have fx := t0; Sd), (have fx := t2; Sd), (have fx := hkid; Sd)⟩
      · have ha2 : ¬ ((2 * i + 2 : Nat) : Int) < (L'.length : Int) := by omega
        have hkid : kid L' i = 2 * i + 1 := by unfold kid; rw [if_neg]; rintro ⟨h, _⟩; omega
        (have fx := And.intro t0 (And.intro t2 (And.intro hv (And.intro ha2 (And.intro c2 c1)))); refine stepR ?_; clear fx)
        exact ⟨hh, hk, (have fx := t0; Sd), (have fx := t2; Sd), (have fx := hkid; Sd)⟩
    · clear t0 t2 hh hk hv hlen
      rintro ts τ ⟨hh, hk, t0, t2, t3⟩
      have hkl : kid L' i < L'.length ∧ i < kid L' i := by unfold kid; split <;> omega
      (have fx := And.intro t0 (And.intro t2 t3); refine stepR ?_; clear fx)
      refine ml_call Sd0 (have fx := And.intro t0 (And.intro t3 t2); Sd) (hless_c hh (kid L' i) i hkl.1 (by omega) (by omega)) ?_
      rintro _ τ2 ⟨rfl, e⟩
      cases hlt3 : lt (L'.getD (kid L' i) (0, 0)) (L'.getD i (0, 0))
      · (have fx := And.intro t0 (And.intro t2 t3); refine stepR ?_; clear fx)
        refine fin0 ⟨?_, hk.trans (.of_ext e)⟩
        rw [← hd, down, dif_neg]
        · exact hh.of_ext e
        · rintro ⟨_, h⟩; rw [show dv L' (kid L' i) = L'.getD (kid L' i) (0, 0) from rfl, show dv L' i = L'.getD i (0, 0) from rfl, hlt3] at h; cases h
      · (have fx := And.intro t0 (And.intro t2 t3); refine stepR ?_; clear fx)
        refine ml_call Sd0 (have fx := And.intro t0 (And.intro t3 t2); Sd) (hswap_c (hh.of_ext e) i (kid L' i) (by omega) hkl.1 (by omega)) ?_
        rintro _ τ3 ⟨hh3, hk3⟩
        (have fx := t3; refine stepR ?_; clear fx)
        refine ⟨_, ?_, swp L' i (kid L' i), kid L' i, rfl, (have fx := t0; Sd), Sd0, hh3, (hk.trans (.of_ext e)).trans hk3, ?_, by rw [swp_len]; exact hl, by omega⟩
        · omega
        · rw [← hd, down.eq_1 L' i, dif_pos ⟨by omega, hlt3⟩]
  · have ha1 : (L'.length : Int) ≤ ((2 * i + 1 : Nat) : Int) := by omega
    (have fx := And.intro t0 (And.intro t2 (And.intro hv (And.intro ha1 c2))); refine stepR ?_; clear fx)
    refine fin0 ⟨?_, hk⟩
    rw [← hd, down, dif_neg (by omega)]; exact hh
end Go.Proofs.YtgfmphjccnemmaaDoor
