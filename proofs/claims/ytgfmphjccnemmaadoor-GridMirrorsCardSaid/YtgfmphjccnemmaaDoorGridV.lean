/- GridMirrors. -/
import Derived.Test.YtgfmphjccnemmaaDoorGridU
import Derived.Test.YtgfmphjccnemmaaDoorGridM
namespace Go.Proofs.YtgfmphjccnemmaaDoor
open Go.Mini
open Go.Proofs.YtgfmphjccnemmaaDoor.Code
set_option linter.unusedVariables false
set_option linter.unusedSimpArgs false
set_option linter.ambiguousOpen false
attribute [local irreducible] mx ml mld mstep MCalls Ex.thn Ex.inb
variable {E : World → Prop}

theorem bytesL_len (l : List UInt8) : (bytesL l).length = l.length := by simp [bytesL]
theorem bytesL_u8 (l : List UInt8) : (bytesL l).all isU8 = true := by simp [bytesL, isU8]
theorem bytesL_to (l : List UInt8) : (bytesL l).map toU8 = l := by
  unfold bytesL
  rw [List.map_map]
  conv => rhs; rw [← List.map_id l]
  apply List.map_congr_left
  intro b _
  simp [toU8]
theorem bytesL_set (l : List UInt8) (i : Nat) (b : UInt8) : (bytesL l).set i (.int .u8 b.toNat) = bytesL (l.set i b) := by unfold bytesL; rw [List.map_set]
theorem o_b2s {ts : Fr} {σ : H} {x : Opd} {id n : Nat} {L : List UInt8} (hx : mev ts x = .slice (some ⟨id, 0, none⟩) n n) (hg : σ.get id = .cells 1 (bytesL L)) (hn : L.length = n) : mop ts σ (.b2s x) = some (.string ⟨L.toArray⟩, σ) := by
  have hr : σ.row id 0 n = some (bytesL L) := by
    simp only [H.row, hg]
    exact rowAll (by rw [bytesL_len, hn])
  simp only [mop, hx, hr, bytesL_u8, if_true, bytesL_to]
def mixL (w : Nat) (S : ByteArray) (n : Nat) : List UInt8 := (List.range S.size).map fun j => if j < n then S.data.toList.getD (mirN w j) 0 else S.data.toList.getD j 0
theorem mixL_len (w : Nat) (S : ByteArray) (n : Nat) : (mixL w S n).length = S.size := by simp [mixL]
theorem mixL_zero (w : Nat) (S : ByteArray) : mixL w S 0 = S.data.toList := by
  have := list_range S.data.toList
  rw [ba_len] at this
  unfold mixL
  simpa using this
theorem mixL_all (w : Nat) (S : ByteArray) : mixL w S S.size = (mirS w S).data.toList := by
  rw [mirS_list]
  unfold mixL
  exact List.map_congr_left fun j hj => by rw [if_pos (List.mem_range.1 hj)]
theorem mixL_succ {w : Nat} {S : ByteArray} {n : Nat} (hn : n < S.size) : (mixL w S n).set n (S.data.toList.getD (mirN w n) 0) = mixL w S (n + 1) := by
  apply List.ext_getElem?
  intro i
  rw [List.getElem?_set]
  unfold mixL
  by_cases h : n = i
  · subst h
    rw [if_pos rfl, if_pos (by simpa using hn), List.getElem?_map, List.getElem?_range hn]
    simp
  · rw [if_neg h, List.getElem?_map, List.getElem?_map]
    rcases Nat.lt_or_ge i S.size with hi | hi
    · rw [List.getElem?_range hi]
      simp only [Option.map_some]
      by_cases h2 : i < n
      · rw [if_pos h2, if_pos (by omega)]
      · rw [if_neg h2, if_neg (by omega)]
    · rw [List.getElem?_eq_none (by simpa using hi)]; rfl

def okm (W Hh : Int) (S : ByteArray) : Bool := decide (S.size ≤ 64) && decide (1 ≤ W) && decide (W ≤ 8) && decide (1 ≤ Hh) && decide (Hh ≤ 8) && ((S.size : Int) == W * Hh)

set_option maxHeartbeats 4000000 in
theorem gridMirrors_c (W Hh : Int) (S : ByteArray) (c : Nat) (hc : c < 256) (σ : H) (hS63 : S.size ≤ 9223372036854775807) : MCalls E Tryd.prog 9 [mapV W Hh S, .int .u8 c] σ (fun v τ => v = .bool true) := by
  refine mcalls_of fn9 (by simp) ?_
  unfold c9 r9 mapV
  refine stepR0 ?_
  refine ml_call Sd0 Sd0 (gAwake_c _) ?_
  rintro _ τ ⟨rfl, e1⟩
  have g1 := e1.cells (H.get_push_self σ _)
  refine stepR0 ?_
  refine ml_mid (fun ts τ' => τ' = τ ∧ ts 1 = .int .u8 c ∧ ts 2 = .pointer (some ⟨σ.size, 0, none⟩) ∧ ts 48 = .bool (!okm W Hh S)) ?_ ?_
  · unfold okm
    by_cases h1 : S.size ≤ 64
    · have h1' : ¬ (64 : Int) < (S.size : Int) := by omega
      by_cases h2 : 1 ≤ W
      · have h2' : ¬ W < 1 := by omega
        by_cases h3 : W ≤ 8
        · have h3' : ¬ 8 < W := by omega
          by_cases h4 : 1 ≤ Hh
          · have h4' : ¬ Hh < 1 := by omega
            by_cases h5 : Hh ≤ 8
            · have h5' : ¬ 8 < Hh := by omega
              have hm := mul_le64 ⟨h2, h3⟩ ⟨h4, h5⟩
              (have fx := And.intro g1 (And.intro h1' (And.intro h2' (And.intro h3' (And.intro h4' h5')))); refine stepR ?_; clear fx)
              exact ⟨rfl, Sd0, Sd0, (have fx := And.intro h1 (And.intro h2 (And.intro h3 (And.intro h4 h5))); Sd)⟩
            · have h5' : 8 < Hh := by omega
              (have fx := And.intro g1 (And.intro h1' (And.intro h2' (And.intro h3' (And.intro h4' h5')))); refine stepR ?_; clear fx)
              exact ⟨rfl, Sd0, Sd0, (have fx := And.intro h1 (And.intro h2 (And.intro h3 (And.intro h4 h5))); Sd)⟩
          · have h4' : Hh < 1 := by omega
            (have fx := And.intro g1 (And.intro h1' (And.intro h2' (And.intro h3' h4'))); refine stepR ?_; clear fx)
            exact ⟨rfl, Sd0, Sd0, (have fx := And.intro h1 (And.intro h2 (And.intro h3 h4)); Sd)⟩
        · have h3' : 8 < W := by omega
          (have fx := And.intro g1 (And.intro h1' (And.intro h2' h3')); refine stepR ?_; clear fx)
          exact ⟨rfl, Sd0, Sd0, (have fx := And.intro h1 (And.intro h2 h3); Sd)⟩
      · have h2' : W < 1 := by omega
        (have fx := And.intro g1 (And.intro h1' h2'); refine stepR ?_; clear fx)
        exact ⟨rfl, Sd0, Sd0, (have fx := And.intro h1 h2; Sd)⟩
    · have h1' : (64 : Int) < (S.size : Int) := by omega
      (have fx := And.intro g1 h1'; refine stepR ?_; clear fx)
      exact ⟨rfl, Sd0, Sd0, (have fx := h1; Sd)⟩
  rintro ts τ' ⟨rfl, t1, t2, t48⟩
  cases hok : okm W Hh S
  · rw [hok] at t48
    (have fx := t48; refine stepR ?_; clear fx)
    refine ml_call Sd0 Sd0 (gAwake_c _) ?_
    rintro _ τ2 ⟨rfl, e2⟩
    refine stepR0 ?_
    exact fin1 Sd0
  rw [hok] at t48
  simp only [okm, Bool.and_eq_true, decide_eq_true_eq, beq_iff_eq] at hok
  obtain ⟨⟨⟨⟨⟨k1, k2⟩, k3⟩, k4⟩, k5⟩, k6⟩ := hok
  obtain ⟨w, rfl⟩ := Int.eq_ofNat_of_zero_le (show 0 ≤ W by omega)
  obtain ⟨h, rfl⟩ := Int.eq_ofNat_of_zero_le (show 0 ≤ Hh by omega)
  have hw : 1 ≤ w ∧ w ≤ 8 := by omega
  have hs : S.size = w * h := by exact_mod_cast k6
  have hbl := bytesL_len S.data.toList
  rw [ba_len] at hbl
  (have fx := And.intro t48 (And.intro t2 g1); refine stepR ?_; clear fx)
  generalize hτ0 : H.push _ _ = τ0
  have gb0 : τ0.get τ'.size = .cells 1 (bytesL (mixL w S 0)) := by rw [← hτ0, mixL_zero]; exact H.get_push_self _ _
  have gm0 : τ0.get σ.size = .cells 0 (mapC w h S) := by rw [← hτ0]; exact (Ext.push _ _).cells g1
  have hne : σ.size ≠ τ'.size := by have := H.lt_of_cells g1; omega
  generalize τ'.size = bid at gb0 hne ⊢
  clear hτ0 g1 e1
  have hwI : (1 : Int) ≤ (w : Int) ∧ (w : Int) ≤ 8 := by omega
  have hS1 : 1 ≤ S.size := by have := (mul_le64 ⟨k2, k3⟩ ⟨k4, k5⟩).1; omega
  -- what comes of a cell's number
  have hmir : ∀ i : Nat, i < S.size → ∃ q r p : Nat, ((i : Int).tdiv (w : Int)) = (q : Int) ∧ ((i : Int).tmod (w : Int)) = (r : Int) ∧ (q : Int) * (w : Int) = (p : Int) ∧ p + r = i ∧ (r < w ∧ q ≤ i) ∧ ((p : Int) + w - 1 - r).toNat = mirN w i := by
    intro i hi
    refine ⟨i / w, i % w, i / w * w, by rw [Int.tdiv_eq_ediv_of_nonneg (by omega)]; rfl, by rw [Int.tmod_eq_emod_of_nonneg (by omega)]; rfl, by simp, Nat.div_add_mod' i w, ⟨Nat.mod_lt _ (by omega), Nat.div_le_self i w⟩, ?_⟩
    unfold mirN
    have := Nat.mod_lt i (show w > 0 by omega)
    omega
  refine mx_loop (fun n ts τ => ∃ i, n = S.size - i ∧ i ≤ S.size ∧ ts 1 = .int .u8 c ∧ ts 2 = .pointer (some ⟨σ.size, 0, none⟩) ∧ ts 5 = .slice (some ⟨bid, 0, none⟩) S.size S.size ∧ ts 6 = .int .i64 ((i : Nat) : Int) ∧
    τ.get σ.size = .cells 0 (mapC w h S) ∧ τ.get bid = .cells 1 (bytesL (mixL w S i))) S.size ?_ ?_
  · exact ⟨0, by omega, by omega, (have fx := t1; Sd), (have fx := t2; Sd), Sd0, Sd0, gm0, gb0⟩
  clear gm0 gb0 t1 t2 t48
  rintro n ts τ ⟨i, rfl, hi, t1, t2, t5, t6, gm, gb⟩
  have gm' : τ.get σ.size = .cells 0 [.int .i64 w, .int .i64 h, .string S] := gm
  have hml := mixL_len w S i
  have hrd : Rd τ (.slice (some ⟨bid, 0, none⟩) S.size S.size) (bytesL (mixL w S i)) := (Own.full (sz := 1) (n := S.size) gb (by rw [bytesL_len, hml]; omega)).rd
  rcases Nat.lt_or_ge i S.size with hlt | hge
  · obtain ⟨q, r, p, hq, hr, hqw, hpr, ⟨hrw, hqb⟩, hmn⟩ := hmir i hlt
    have hmlt : mirN w i < S.size := by rw [hs] at hlt ⊢; exact mirN_lt hw hlt
    have hi64 : ((i : Nat) : Int) < (S.size : Int) := by omega
    (have fx := And.intro t1 (And.intro t2 (And.intro t5 (And.intro t6 (And.intro gm' (And.intro hq (And.intro hr (And.intro hqw hi64))))))); refine stepR ?_; clear fx)
    rw [hmn]
    (have fx := And.intro t5 t6; refine stepR ?_; clear fx)
    refine mld_storeA (off := i) (vs := [.int .u8 (S.data.toList.getD (mirN w i) 0).toNat]) Sd0 Sd0 Sd0 gb rfl (by simp [bytesL_len, hml]; omega) rfl fun τ2 s2 => ?_
    rw [spl_one, bytesL_set, mixL_succ hlt] at s2
    (have fx := t6; refine stepR ?_; clear fx)
    exact ⟨_, by omega, i + 1, rfl, by omega, (have fx := t1; Sd), (have fx := t2; Sd), (have fx := t5; Sd), Sd0, s2.cells gm hne, s2.self⟩
  · obtain rfl : i = S.size := by omega
    have hnl : ¬ (S.size : Int) < (S.size : Int) := by omega
    rw [mixL_all] at gb
    have hmsz : (mirS w S).data.toList.length = S.size := by rw [ba_len, mirS_size]
    (have fx := And.intro t1 (And.intro t2 (And.intro t5 (And.intro t6 (And.intro gm' hnl)))); refine stepR ?_; clear fx)
    refine ml_op Sd0 (o_b2s (L := (mirS w S).data.toList) Sd0 gb hmsz) ?_
    have eS : (⟨(mirS w S).data.toList.toArray⟩ : ByteArray) = mirS w S := by cases hq : mirS w S; simp
    rw [eS]
    refine stepR0 ?_
    refine ml_init (vs := mapC w h (mirS w S)) Sd0 Sd0 Sd0 rfl rfl rfl fun τ2 e2 g7 => ?_
    have gm2 := e2.cells gm'
    have hk : ∃ k : Nat, k < S.size ∧ ((c : Int).tmod (S.size : Int)) = (k : Int) := ⟨c % S.size, Nat.mod_lt _ (by omega), by rw [Int.tmod_eq_emod_of_nonneg (by omega)]; rfl⟩
    obtain ⟨k, hkl, hkm⟩ := hk
    obtain ⟨q, r, p, hq, hr, hqw, hpr, ⟨hrw, hqb⟩, hmn⟩ := hmir k hkl
    have hSne : (S.size : Int) ≠ 0 := by omega
    have hml2 : mirN w k < S.size := by rw [hs] at hkl ⊢; exact mirN_lt hw hkl
    have hmi : (p : Int) + w - 1 - r = ((mirN w k : Nat) : Int) := by omega
    (have fx := And.intro t1 (And.intro t2 (And.intro t5 (And.intro hkm (And.intro gm2 (And.intro hq (And.intro hr hqw)))))); refine stepR ?_; clear fx)
    rw [hmi]
    (have fx := And.intro t2 (And.intro gm2 g7); refine stepR ?_; clear fx)
    refine mld_call Sd0 Sd0 (right_c w h (mirS w S) τ2) (fun _ _ x => x.2) ?_
    rintro _ τ3 ⟨rfl, e3⟩
    refine stepR0 ?_
    refine mld_callW Sd0 Sd0 (gOf_c w h S τ3) ?_
    rintro _ τ4 ⟨rfl, e4⟩
    refine stepR0 ?_
    refine mld_callW Sd0 Sd0 (right_c w h S τ4) ?_
    rintro _ τ5 ⟨rfl, e5⟩
    rw [mir_gr hw hs]
    have hgg : (gr w h S == gr w h S) = true := by simp
    have e25 := e3.trans (e4.trans e5)
    have gm5 := e25.cells gm2
    have g75 := e25.cells g7
    (have fx := And.intro hgg (And.intro t2 (And.intro gm5 g75)); refine stepR ?_; clear fx)
    refine mld_call Sd0 Sd0 (gOf_c w h S τ5) (fun _ _ x => x.2) ?_
    rintro _ τ6 ⟨rfl, e6⟩
    refine stepR0 ?_
    refine mld_call Sd0 Sd0 (gnear_c w h S k τ6) (fun _ _ x => x.1) ?_
    intro v1 τ7 o1
    refine stepR0 ?_
    refine mld_len Sd0 o1.rd Sd0 ?_
    rw [ints_len]
    refine stepR0 ?_
    refine mld_callW Sd0 Sd0 (gnear_c w h (mirS w S) (mirN w k : Nat) τ7) ?_
    intro v2 τ8 o2
    refine stepR0 ?_
    refine mld_len Sd0 o2.rd Sd0 ?_
    rw [ints_len]
    have hlen : (gnear w h (mirS w S) (mirN w k : Nat) (gr w h (mirS w S))).length = (gnear w h S k (gr w h S)).length := by
      unfold gnear
      rw [mir_gr hw hs, mir_opn hw hs hml2, mirN_inv hw]
      cases hb : gr w h S && opn S k
      · rfl
      · exact mir_nearlen hw hs hkl
    rw [hlen]
    have hee : (((gnear w h S k (gr w h S)).length : Int) == ((gnear w h S k (gr w h S)).length : Int)) = true := by simp
    (have fx := hee; refine stepR ?_; clear fx)
    exact fin1 Sd0
end Go.Proofs.YtgfmphjccnemmaaDoor
