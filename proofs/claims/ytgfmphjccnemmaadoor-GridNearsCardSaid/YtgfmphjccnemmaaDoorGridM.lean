/- A map's rows, each the other way round. -/
import Derived.Test.YtgfmphjccnemmaaDoorNearP
namespace Go.Proofs.YtgfmphjccnemmaaDoor
set_option linter.unusedVariables false
set_option linter.unusedSimpArgs false

def mirN (w i : Nat) : Nat := i / w * w + (w - 1) - i % w
theorem w8 {w : Nat} (h : 1 ≤ w ∧ w ≤ 8) : w = 1 ∨ w = 2 ∨ w = 3 ∨ w = 4 ∨ w = 5 ∨ w = 6 ∨ w = 7 ∨ w = 8 := by omega
theorem mirN_lt {w h i : Nat} (hw : 1 ≤ w ∧ w ≤ 8) (hi : i < w * h) : mirN w i < w * h := by
  unfold mirN
  rcases w8 hw with rfl | rfl | rfl | rfl | rfl | rfl | rfl | rfl <;> omega
theorem mirN_inv {w i : Nat} (hw : 1 ≤ w ∧ w ≤ 8) : mirN w (mirN w i) = i := by
  unfold mirN
  rcases w8 hw with rfl | rfl | rfl | rfl | rfl | rfl | rfl | rfl <;> omega
/-- The bytes the other way round. -/
def mirS (w : Nat) (S : ByteArray) : ByteArray := ⟨((List.range S.size).map fun i => S.data.toList.getD (mirN w i) 0).toArray⟩
theorem mirS_list (w : Nat) (S : ByteArray) : (mirS w S).data.toList = (List.range S.size).map fun i => S.data.toList.getD (mirN w i) 0 := by simp [mirS]
theorem mirS_size (w : Nat) (S : ByteArray) : (mirS w S).size = S.size := by
  have h : (mirS w S).data.toList.length = S.size := by rw [mirS_list]; simp
  rw [← h]; exact Array.length_toList.symm
theorem mirS_get {w : Nat} {S : ByteArray} {i : Nat} (hi : i < S.size) : (mirS w S).data.toList.getD i 0 = S.data.toList.getD (mirN w i) 0 := by
  rw [mirS_list, List.getD_eq_getElem?_getD, List.getElem?_map, List.getElem?_range hi]; rfl
section
variable {w h : Nat} {S : ByteArray}
theorem mirS_inv (hw : 1 ≤ w ∧ w ≤ 8) (hs : S.size = w * h) : mirS w (mirS w S) = S := by
  have e : (mirS w (mirS w S)).data.toList = S.data.toList := by
    have hl : S.data.toList.length = S.size := Array.length_toList
    apply List.ext_getElem
    · rw [mirS_list, List.length_map, List.length_range, mirS_size, hl]
    · intro i h1 h2
      have hi : i < S.size := by rw [← hl]; exact h2
      have g1 := mirS_get (w := w) (S := mirS w S) (i := i) (by rw [mirS_size]; exact hi)
      have g2 := mirS_get (w := w) (S := S) (i := mirN w i) (by rw [hs] at hi ⊢; exact mirN_lt hw hi)
      rw [g2, mirN_inv hw] at g1
      rw [List.getD_eq_getElem?_getD, List.getElem?_eq_getElem h1, List.getD_eq_getElem?_getD, List.getElem?_eq_getElem h2] at g1
      exact g1
  cases hA : mirS w (mirS w S); cases S; rw [hA] at e; simpa using e
theorem mir_opn (hw : 1 ≤ w ∧ w ≤ 8) (hs : S.size = w * h) {i : Nat} (hi : i < S.size) : opn (mirS w S) (i : Int) = opn S (mirN w i : Nat) := by
  have h1 : mirN w i < S.size := by rw [hs] at hi ⊢; exact mirN_lt hw hi
  simp only [opn, bAt, Int.toNat_natCast, mirS_get hi, mirS_size]
  have a1 : ((i : Nat) : Int) < (S.size : Int) := by omega
  have a2 : ((mirN w i : Nat) : Int) < (S.size : Int) := by omega
  simp [a1, a2]
theorem mir_sgn (hw : 1 ≤ w ∧ w ≤ 8) (hs : S.size = w * h) (ha : S.data.toList.all sign = true) : (mirS w S).data.toList.all sign = true := by
  rw [all_getD] at ha ⊢
  intro j hj
  rw [mirS_size] at hj
  rw [mirS_get hj]
  exact ha _ (by rw [hs] at hj ⊢; exact mirN_lt hw hj)
theorem mir_near (hw : 1 ≤ w ∧ w ≤ 8) (hs : S.size = w * h) {x y : Int} (hx : opn S x = true) (hy : y ∈ nearL w S x) : ((mirN w y.toNat : Nat) : Int) ∈ nearL w (mirS w S) (mirN w x.toNat : Nat) := by
  have hxl := opn_lt hx
  have hyo := near_opn hy
  have hyl := opn_lt hyo
  obtain ⟨a, rfl⟩ := Int.eq_ofNat_of_zero_le hxl.1
  obtain ⟨b, rfl⟩ := Int.eq_ofNat_of_zero_le hyl.1
  have ha : a < w * h := by rw [← hs]; omega
  have hb : b < w * h := by rw [← hs]; omega
  have hbs : mirN w b < S.size := by rw [hs]; exact mirN_lt hw hb
  rw [mem_near] at hy ⊢
  simp only [Int.toNat_natCast] at *
  refine ⟨by rw [mir_opn hw hs hbs, mirN_inv hw]; exact hyo, ?_⟩
  have h2 := hy.2
  rw [Int.tmod_eq_emod_of_nonneg (by omega)] at h2 ⊢
  unfold mirN
  rcases w8 hw with rfl | rfl | rfl | rfl | rfl | rfl | rfl | rfl <;> omega
theorem mir_reach (hw : 1 ≤ w ∧ w ≤ 8) (hs : S.size = w * h) {x y : Int} (hx : opn S x = true) (hr : Reach w S x y) : Reach w (mirS w S) (mirN w x.toNat : Nat) (mirN w y.toNat : Nat) := by
  induction hr with
  | here => exact .here
  | step hr hn ih => exact .step ih (mir_near hw hs (hr.opn hx) hn)
theorem mir_gr1 (hw : 1 ≤ w ∧ w ≤ 8) (hs : S.size = w * h) (hg : gr w h S = true) : gr w h (mirS w S) = true := by
  obtain ⟨hz, c, hc, hC, hr⟩ := gr_all hg
  obtain ⟨z1, z2, z3, z4⟩ := szd_spec hz
  have hml : mirN w c < S.size := by rw [hs] at hc ⊢; exact mirN_lt hw hc
  have hop : opn S (c : Int) = true := by
    simp only [opn, bAt, Int.toNat_natCast, hC]
    have h6 : (c : Int) < (S.size : Int) := by omega
    simp [h6]
  refine gr_of (c := mirN w c) ?_ (by rw [mirS_size]; exact hml) (by rw [mirS_get hml, mirN_inv hw]; exact hC) fun x hx => ?_
  · unfold szd
    rw [mirS_size, mir_sgn hw hs z4]
    simp only [z1.1, z1.2, z2.1, z2.2, decide_true, Bool.and_true, Bool.true_and, z3, beq_self_eq_true]
  · have hxl := opn_lt hx
    rw [mirS_size] at hxl
    obtain ⟨a, rfl⟩ := Int.eq_ofNat_of_zero_le hxl.1
    have ha : a < S.size := by omega
    rw [mir_opn hw hs ha] at hx
    have := mir_reach hw hs hop (hr _ hx)
    simp only [Int.toNat_natCast, mirN_inv hw] at this
    exact this
theorem mir_gr (hw : 1 ≤ w ∧ w ≤ 8) (hs : S.size = w * h) : gr w h (mirS w S) = gr w h S := by
  rw [Bool.eq_iff_iff]
  refine ⟨fun hg => ?_, mir_gr1 hw hs⟩
  have := mir_gr1 (S := mirS w S) hw (by rw [mirS_size]; exact hs) hg
  rwa [mirS_inv hw hs] at this
def b2n (b : Bool) : Nat := if b then 1 else 0
theorem nadd_len2 (S : ByteArray) (n : Int) (is : Bool) (l : List Int) : (nadd S n is l).length = l.length + b2n (is && opn S n) := by
  unfold nadd b2n
  cases is <;> cases opn S n <;> simp
theorem nearL_len2 (W : Int) (S : ByteArray) (c : Int) : (nearL W S c).length = b2n (opn S (c - W)) + b2n (decide (c.tmod W > 0) && opn S (c - 1)) + b2n (decide (c.tmod W < W - 1) && opn S (c + 1)) + b2n (opn S (c + W)) := by
  unfold nearL
  rw [nadd_len2, nadd_len2, nadd_len2, nadd_len2]; simp
theorem mir_opn2 (hw : 1 ≤ w ∧ w ≤ 8) (hs : S.size = w * h) {x y : Int} (hxy : 0 ≤ x → x < S.size → y = (mirN w x.toNat : Nat)) (hyx : 0 ≤ y → y < S.size → x = (mirN w y.toNat : Nat)) : opn (mirS w S) x = opn S y := by
  by_cases hx : 0 ≤ x ∧ x < S.size
  · rw [hxy hx.1 hx.2]
    obtain ⟨a, rfl⟩ := Int.eq_ofNat_of_zero_le hx.1
    exact mir_opn hw hs (by omega)
  · by_cases hy : 0 ≤ y ∧ y < S.size
    · exfalso
      have h1 := hyx hy.1 hy.2
      have h2 : mirN w y.toNat < S.size := by rw [hs]; exact mirN_lt hw (by rw [← hs]; omega)
      omega
    · have e1 : opn (mirS w S) x = false := by
        rw [← Bool.not_eq_true]; intro h; have := opn_lt h; rw [mirS_size] at this; exact hx this
      have e2 : opn S y = false := by
        rw [← Bool.not_eq_true]; intro h; exact hy (opn_lt h)
      rw [e1, e2]
theorem mir_nearlen (hw : 1 ≤ w ∧ w ≤ 8) (hs : S.size = w * h) {k : Nat} (hk : k < S.size) : (nearL w (mirS w S) (mirN w k : Nat)).length = (nearL w S k).length := by
  rw [nearL_len2, nearL_len2]
  rw [Int.tmod_eq_emod_of_nonneg (by omega), Int.tmod_eq_emod_of_nonneg (by omega)]
  have o1 : opn (mirS w S) ((mirN w k : Nat) - (w : Int)) = opn S ((k : Int) - w) := by
    refine mir_opn2 hw hs (fun h1 h2 => ?_) fun h1 h2 => ?_ <;> unfold mirN at * <;> rcases w8 hw with rfl | rfl | rfl | rfl | rfl | rfl | rfl | rfl <;> omega
  have o2 : opn (mirS w S) ((mirN w k : Nat) + (w : Int)) = opn S ((k : Int) + w) := by
    refine mir_opn2 hw hs (fun h1 h2 => ?_) fun h1 h2 => ?_ <;> unfold mirN at * <;> rcases w8 hw with rfl | rfl | rfl | rfl | rfl | rfl | rfl | rfl <;> omega
  have o3 : (decide (((mirN w k : Nat) : Int) % (w : Int) > 0) && opn (mirS w S) ((mirN w k : Nat) - 1)) = (decide ((k : Int) % (w : Int) < (w : Int) - 1) && opn S ((k : Int) + 1)) := by
    have e : (((mirN w k : Nat) : Int) % (w : Int) > 0) ↔ ((k : Int) % (w : Int) < (w : Int) - 1) := by
      unfold mirN; rcases w8 hw with rfl | rfl | rfl | rfl | rfl | rfl | rfl | rfl <;> omega
    by_cases hc : (k : Int) % (w : Int) < (w : Int) - 1
    · rw [decide_eq_true hc, decide_eq_true (e.2 hc), Bool.true_and, Bool.true_and]
      refine mir_opn2 hw hs (fun h1 h2 => ?_) fun h1 h2 => ?_ <;> unfold mirN at * <;> rcases w8 hw with rfl | rfl | rfl | rfl | rfl | rfl | rfl | rfl <;> omega
    · rw [decide_eq_false hc, decide_eq_false (fun x => hc (e.1 x)), Bool.false_and, Bool.false_and]
  have o4 : (decide (((mirN w k : Nat) : Int) % (w : Int) < (w : Int) - 1) && opn (mirS w S) ((mirN w k : Nat) + 1)) = (decide ((k : Int) % (w : Int) > 0) && opn S ((k : Int) - 1)) := by
    have e : (((mirN w k : Nat) : Int) % (w : Int) < (w : Int) - 1) ↔ ((k : Int) % (w : Int) > 0) := by
      unfold mirN; rcases w8 hw with rfl | rfl | rfl | rfl | rfl | rfl | rfl | rfl <;> omega
    by_cases hc : (k : Int) % (w : Int) > 0
    · rw [decide_eq_true hc, decide_eq_true (e.2 hc), Bool.true_and, Bool.true_and]
      refine mir_opn2 hw hs (fun h1 h2 => ?_) fun h1 h2 => ?_ <;> unfold mirN at * <;> rcases w8 hw with rfl | rfl | rfl | rfl | rfl | rfl | rfl | rfl <;> omega
    · rw [decide_eq_false hc, decide_eq_false (fun x => hc (e.1 x)), Bool.false_and, Bool.false_and]
  rw [o1, o2, o3, o4]; omega
end
end Go.Proofs.YtgfmphjccnemmaaDoor
