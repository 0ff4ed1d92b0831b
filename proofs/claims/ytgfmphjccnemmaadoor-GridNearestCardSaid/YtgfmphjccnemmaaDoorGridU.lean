/- The grid's example; GridKinds. -/
import Derived.Test.YtgfmphjccnemmaaDoorGridT
namespace Go.Proofs.YtgfmphjccnemmaaDoor
open Go.Mini
open Go.Proofs.YtgfmphjccnemmaaDoor.Code
set_option linter.unusedVariables false
set_option linter.unusedSimpArgs false
set_option linter.ambiguousOpen false
attribute [local irreducible] mx ml mld mstep MCalls Ex.thn Ex.inb
variable {E : World → Prop}

theorem parsed_ex {W Hh : Int} {S : ByteArray} (h : Parsed [46, 67, 10] W Hh S) : W = 2 ∧ Hh = 1 ∧ S = ⟨#[46, 67]⟩ := by
  obtain ⟨_, rows, h1, h2, h3, h4⟩ := h
  have e : flatR [[46, 67]] ++ [] = flatR rows := by rw [← h1]; rfl
  obtain ⟨more, rfl, hm⟩ := flatR_pre (by simp) (fun r hr => (h2 r hr).1) e
  have := flatR_nil hm.symm
  subst this
  have h5 := (h2 [46, 67] (by simp)).2
  simp at h3 h4 h5
  refine ⟨h5.symm, h3.symm, ?_⟩
  cases S; simp at h4; congr 1; exact Array.ext' h4
theorem parsed_ex' : Parsed [46, 67, 10] 2 1 ⟨#[46, 67]⟩ := ⟨gr21, [[46, 67]], rfl, by simp, rfl, rfl⟩
theorem gAwake_c (σ : H) : MCalls E Tryd.prog 28 [] σ (fun v τ => v = .bool true ∧ Ext σ τ) := by
  refine mcalls_of fn28 (by simp) ?_
  unfold c28 r28
  refine stepR0 ?_
  refine ml_call Sd0 Sd0 (gParse_c ⟨#[46, 67, 10]⟩ (by decide) σ) ?_
  rintro _ τ ⟨e1, ⟨W, Hh, S, rfl, hp⟩ | ⟨ev, _, _, hno⟩⟩
  · obtain ⟨rfl, rfl, rfl⟩ := parsed_ex hp
    refine stepR0 ?_
    refine ml_init (vs := mapC 2 1 ⟨#[46, 67]⟩) Sd0 Sd0 Sd0 rfl rfl rfl fun τ2 e2 g2 => ?_
    refine stepR0 ?_
    refine ml_call Sd0 Sd0 (tNum_nil τ2) ?_
    rintro _ τ3 ⟨rfl, rfl⟩
    (have fx := g2; refine stepR ?_; clear fx)
    refine ml_call Sd0 Sd0 (gopen_c 2 1 ⟨#[46, 67]⟩ 0 τ3) ?_
    rintro _ τ4 ⟨rfl, e4⟩
    rw [gr21, show opn ⟨#[46, 67]⟩ 0 = true by decide +kernel]
    refine stepR0 ?_
    exact fin1 ⟨Sd0, e1.trans (e2.trans e4)⟩
  · exact absurd parsed_ex' (hno _ _ _)

/-! ## GridKinds -/
theorem gkind_count (S : ByteArray) (b : UInt8) : (gkind S b true).length = S.data.toList.count b := by
  unfold gkind
  rw [if_pos rfl, List.length_map, ← List.countP_eq_length_filter, List.count]
  have e : S.data.toList = (List.range S.size).map fun i => S.data.toList.getD i 0 := by
    apply List.ext_getElem
    · simp [ba_len]
    · intro i h1 h2
      simp only [List.getElem_map, List.getElem_range, List.getD_eq_getElem?_getD, List.getElem?_eq_getElem h1, Option.getD_some]
  conv => rhs; rw [e]
  rw [List.countP_map]; rfl
theorem count4 : ∀ {l : List UInt8}, l.all sign = true → l.count 35 + l.count 46 + l.count 67 + l.count 80 = l.length
  | [], _ => rfl
  | b :: l, h => by
    simp only [List.all_cons, Bool.and_eq_true] at h
    have ih := count4 h.2
    have hb := h.1
    simp only [sign, Bool.or_eq_true, beq_iff_eq] at hb
    rcases hb with ((rfl | rfl) | rfl) | rfl <;> simp [List.count_cons] <;> omega
theorem hasC {W Hh : Int} {S : ByteArray} (h : gr W Hh S = true) : 0 < S.data.toList.count 67 := by
  have h1 := (gr_iff.1 h).2.1
  rcases first_c S with ⟨h2, _⟩ | ⟨o, _, h3, h4, _⟩
  · omega
  · rw [List.count_pos_iff]
    have h5 : o < S.data.toList.length := by rw [ba_len]; exact h3
    rw [List.getD_eq_getElem?_getD, List.getElem?_eq_getElem h5] at h4
    rw [← show S.data.toList[o] = 67 from h4]; exact List.getElem_mem h5
def cntO (S : ByteArray) (n : Nat) : Nat := ((List.range n).filter fun i => opn S ((i : Nat) : Int)).length
theorem cntO_succ (S : ByteArray) (n : Nat) : cntO S (n + 1) = cntO S n + (if opn S n then 1 else 0) := by
  unfold cntO; rw [List.range_succ, List.filter_append, List.length_append]
  cases h : opn S n <;> simp [h]
theorem cntO_le (S : ByteArray) (n : Nat) : cntO S n ≤ n := by unfold cntO; exact Nat.le_trans (List.length_filter_le _ _) (by simp)
theorem cntO_all (S : ByteArray) : cntO S S.size + S.data.toList.count 35 = S.size := by
  have := opens_len S
  unfold opens at this; rw [List.length_map] at this; exact this

set_option maxHeartbeats 2000000 in
theorem gridKinds_c (W Hh : Int) (S : ByteArray) (σ : H) (hS63 : S.size ≤ 9223372036854775807) : MCalls E Tryd.prog 11 [mapV W Hh S] σ (fun v τ => v = .bool true) := by
  refine mcalls_of fn11 (by simp) ?_
  unfold c11 r11 mapV
  refine stepR0 ?_
  refine ml_call Sd0 Sd0 (gAwake_c _) ?_
  rintro _ τ ⟨rfl, e1⟩
  have g1 := e1.cells (H.get_push_self σ _)
  by_cases hS : 200 < S.size
  · have hS' : (200 : Int) < (S.size : Int) := by omega
    (have fx := And.intro g1 hS'; refine stepR ?_; clear fx)
    refine ml_call Sd0 Sd0 (gAwake_c _) ?_
    rintro _ τ2 ⟨rfl, e2⟩
    refine stepR0 ?_
    exact fin1 Sd0
  have hS' : ¬ (200 : Int) < (S.size : Int) := by omega
  (have fx := And.intro g1 hS'; refine stepR ?_; clear fx)
  refine ml_call Sd0 Sd0 (gOf_c W Hh S τ) ?_
  rintro _ τ2 ⟨rfl, e2⟩
  have g2 := e2.cells g1
  refine stepR0 ?_
  refine ml_init (vs := mapC W Hh S) Sd0 Sd0 Sd0 rfl rfl rfl fun τ3 e3 g3 => ?_
  have g13 := e3.cells g2
  have hb : ∀ k, (gkind S k (gr W Hh S)).length ≤ 200 := fun k => by
    cases hg : gr W Hh S
    · simp [gkind]
    · rw [gkind_count]; exact Nat.le_trans List.count_le_length (by rw [ba_len]; omega)
  obtain ⟨c1, hc1⟩ : ∃ c, c = (gkind S 35 (gr W Hh S)).length := ⟨_, rfl⟩
  obtain ⟨c2, hc2⟩ : ∃ c, c = (gkind S 46 (gr W Hh S)).length := ⟨_, rfl⟩
  obtain ⟨c3, hc3⟩ : ∃ c, c = (gkind S 67 (gr W Hh S)).length := ⟨_, rfl⟩
  obtain ⟨c4, hc4⟩ : ∃ c, c = (gkind S 80 (gr W Hh S)).length := ⟨_, rfl⟩
  have b1 := hb 35; rw [← hc1] at b1
  have b2 := hb 46; rw [← hc2] at b2
  have b3 := hb 67; rw [← hc3] at b3
  have b4 := hb 80; rw [← hc4] at b4
  (have fx := g3; refine stepR ?_; clear fx)
  refine mld_call Sd0 Sd0 (gkind_c W Hh S 35 τ3) (fun _ _ h => h.1) ?_
  intro v1 τ4 o1
  have e4 := o1.1
  refine stepR0 ?_
  refine mld_len Sd0 o1.rd Sd0 ?_
  rw [ints_len, ← hc1]
  refine stepR0 ?_
  refine mld_call Sd0 Sd0 (gkind_c W Hh S 46 τ4) (fun _ _ h => h.1) ?_
  intro v2 τ5 o2
  have e5 := o2.1
  refine stepR0 ?_
  refine mld_len Sd0 o2.rd Sd0 ?_
  rw [ints_len, ← hc2]
  refine stepR0 ?_
  refine mld_call Sd0 Sd0 (gkind_c W Hh S 67 τ5) (fun _ _ h => h.1) ?_
  intro v3 τ6 o3
  have e6 := o3.1
  refine stepR0 ?_
  refine mld_len Sd0 o3.rd Sd0 ?_
  rw [ints_len, ← hc3]
  refine stepR0 ?_
  refine mld_callW Sd0 Sd0 (gkind_c W Hh S 80 τ6) ?_
  intro v4 τ7 o4
  have e7 := o4.1
  refine stepR0 ?_
  refine mld_len Sd0 o4.rd Sd0 ?_
  rw [ints_len, ← hc4]
  have e37 : Ext τ3 τ7 := e4.trans (e5.trans (e6.trans e7))
  have g17 := e37.cells g13
  have g37 := e37.cells g3
  clear o1 o2 o3 o4 e4 e5 e6 e7 e37 g13 g3
  (have fx := g37; refine stepR ?_; clear fx)
  refine ml_call Sd0 Sd0 (right_c W Hh S τ7) ?_
  rintro _ τ ⟨rfl, e8⟩
  have g1 := e8.cells g17
  have g3 := e8.cells g37
  clear g17 g37
  cases hg : gr W Hh S
  · have hz : ∀ k, (gkind S k false).length = 0 := fun k => rfl
    rw [hg, hz] at hc1 hc2 hc3 hc4
    subst hc1; subst hc2; subst hc3; subst hc4
    refine stepR0 ?_
    exact fin1 Sd0
  rw [hg, gkind_count] at hc1 hc2 hc3 hc4
  have hgs := gr_size hg
  have h4 := count4 hgs.2.2.2.2
  rw [← hc1, ← hc2, ← hc3, ← hc4, ba_len] at h4
  have hO := cntO_all S
  rw [← hc1] at hO
  have hC := hasC hg
  rw [← hc3] at hC
  refine stepR0 ?_
  refine mx_loop (fun n ts τ => ∃ i, n = S.size - i ∧ i ≤ S.size ∧ ts 1 = .pointer (some ⟨σ.size, 0, none⟩) ∧ ts 3 = .pointer (some ⟨τ2.size, 0, none⟩) ∧ ts 4 = .int .i64 (((c1 : Nat) : Int) + c2 + c3 + c4) ∧ ts 5 = .int .i64 ((cntO S i : Nat) : Int) ∧ ts 6 = .int .i64 ((i : Nat) : Int) ∧
    τ.get σ.size = .cells 0 (mapC W Hh S) ∧ τ.get τ2.size = .cells 0 (mapC W Hh S)) S.size ?_ ?_
  · exact ⟨0, by omega, by omega, Sd0, Sd0, Sd0, Sd0, Sd0, g1, g3⟩
  clear g1 g3 e8 e3 e2 e1 g2 τ
  rintro n ts τ ⟨i, rfl, hi, t1, t3, t4, t5, t6, g1, g3⟩
  have hle := cntO_le S i
  rcases Nat.lt_or_ge i S.size with hlt | hge
  · have hlt' : ((i : Nat) : Int) < (S.size : Int) := by omega
    (have fx := And.intro t1 (And.intro t3 (And.intro t4 (And.intro t5 (And.intro t6 (And.intro g1 (And.intro g3 hlt')))))); refine stepR ?_; clear fx)
    refine ml_call (have fx := t6; Sd) Sd0 (gopen_c W Hh S i τ) ?_
    rintro _ τ9 ⟨rfl, e9⟩
    rw [hg, Bool.true_and]
    have hs := cntO_succ S i
    cases ho : opn S i
    · rw [ho] at hs
      simp only [Bool.false_eq_true, if_false, Nat.add_zero] at hs
      (have fx := t6; refine stepR ?_; clear fx)
      exact ⟨_, by omega, i + 1, rfl, by omega, (have fx := t1; Sd), (have fx := t3; Sd), (have fx := t4; Sd), (have fx := And.intro t5 hs; Sd), Sd0, e9.cells g1, e9.cells g3⟩
    · rw [ho] at hs
      simp only [if_true] at hs
      (have fx := And.intro t6 t5; refine stepR ?_; clear fx)
      exact ⟨_, by omega, i + 1, rfl, by omega, (have fx := t1; Sd), (have fx := t3; Sd), (have fx := t4; Sd), (have fx := hs; Sd), Sd0, e9.cells g1, e9.cells g3⟩
  · obtain rfl : i = S.size := by omega
    have hnl : ¬ (S.size : Int) < (S.size : Int) := by omega
    have hsum : ((((c1 : Nat) : Int) + c2 + c3 + c4) == (S.size : Int)) = true := by rw [beq_iff_eq]; omega
    (have fx := And.intro t1 (And.intro t3 (And.intro t4 (And.intro t5 (And.intro t6 (And.intro g1 (And.intro g3 (And.intro hnl hsum))))))); refine stepR ?_; clear fx)
    refine ml_call Sd0 Sd0 (gkind_c W Hh S 35 τ) ?_
    intro v5 τ5 o5
    (have fx := hsum; refine stepR ?_; clear fx)
    refine ml_len (have fx := hsum; Sd) o5.rd Sd0 ?_
    rw [ints_len, hg, gkind_count, ← hc1]
    have g35 := o5.1.cells g3
    have hsub : (((cntO S S.size : Nat) : Int) == (((c1 : Nat) : Int) + c2 + c3 + c4 - c1)) = true := by rw [beq_iff_eq]; omega
    (have fx := And.intro t5 (And.intro hsum (And.intro hsub (And.intro g35 t3))); refine stepR ?_; clear fx)
    refine ml_call (have fx := And.intro hsum hsub; Sd) Sd0 (gkind_c W Hh S 67 τ5) ?_
    intro v6 τ6 o6
    (have fx := And.intro hsum hsub; refine stepR ?_; clear fx)
    refine ml_len (have fx := And.intro hsum hsub; Sd) o6.rd Sd0 ?_
    rw [ints_len, hg, gkind_count, ← hc3]
    have hpos : (0 : Int) < ((c3 : Nat) : Int) := by omega
    (have fx := And.intro hsum (And.intro hsub hpos); refine stepR ?_; clear fx)
    exact fin1 (have fx := And.intro hsum (And.intro hsub hpos); Sd)
end Go.Proofs.YtgfmphjccnemmaaDoor
