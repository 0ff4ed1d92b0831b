import Derived.Test.YtepjinaomedecaaDoorRefC
namespace Go.Proofs.YtepjinaomedecaaDoor
open Go.Mini
open Go.Proofs.YtepjinaomedecaaDoor.Code
set_option linter.unusedVariables false
set_option linter.unusedSimpArgs false
set_option linter.ambiguousOpen false
attribute [local irreducible] mx ml mld mstep MCalls Ex.thn Ex.inb
variable {E : World → Prop}

def sizeOK (W Hh : Int) (S : ByteArray) : Bool := (decide (1 ≤ W) && decide (W ≤ 8)) && (decide (1 ≤ Hh) && decide (Hh ≤ 8)) && ((S.size : Int) == W * Hh)
theorem sizeOK_iff {W Hh : Int} {S : ByteArray} : sizeOK W Hh S = true ↔ (1 ≤ W ∧ W ≤ 8) ∧ (1 ≤ Hh ∧ Hh ≤ 8) ∧ (S.size : Int) = W * Hh := by
  simp only [sizeOK, Bool.and_eq_true, decide_eq_true_eq, beq_iff_eq, and_assoc]
theorem gr_false {W Hh : Int} {S : ByteArray} (h : szd W Hh S = false) : gr W Hh S = false := by
  rw [← Bool.not_eq_true, gr_iff]; intro h2; rw [h2.1] at h; cases h

set_option maxHeartbeats 4000000 in
theorem rRight_c (W Hh : Int) (S : ByteArray) (σ : H) :
    MCalls E Tryd.prog 17 [mapV W Hh S] σ (fun v τ => v = .bool (gr W Hh S) ∧ Ext σ τ) := by
  refine mcalls_of fn17 (by simp) ?_
  unfold c17 r17 mapV
  refine stepR0 ?_
  generalize hτ : H.push _ _ = τ
  have gm : τ.get σ.size = .cells 0 (mapC W Hh S) := by rw [← hτ]; exact H.get_push_self _ _
  have e1 : Ext σ τ := hτ ▸ Ext.push _ _
  clear hτ
  refine ml_mid (fun ts τ' => τ' = τ ∧ ts 1 = .pointer (some ⟨σ.size, 0, none⟩) ∧ ts 39 = .bool (!sizeOK W Hh S)) ?_ ?_
  · by_cases h1 : W < 1
    · have h1' : ¬ 1 ≤ W := by omega
      (have fx := And.intro gm h1; refine stepR ?_; clear fx)
      exact ⟨rfl, Sd0, (by first | with_reducible rfl | (simp only [go_sem, reduceIte, Nat.reduceEqDiff, reduceCtorEq, Nat.reduceAdd, Nat.reduceLeDiff, Int.reduceNeg, Int.reduceToNat, Int.reduceBEq, Int.reduceBNe, Int.reduceLT, Int.reduceLE, Int.reduceAdd, Int.reduceSub, sizeOK, h1, h1']; done) | (simp only [go_sem, reduceIte, Nat.reduceEqDiff, reduceCtorEq, Nat.reduceAdd, Nat.reduceLeDiff, Int.reduceNeg, Int.reduceToNat, Int.reduceBEq, Int.reduceBNe, Int.reduceLT, Int.reduceLE, Int.reduceAdd, Int.reduceSub, sizeOK, h1, h1']; with_reducible rfl) | (simp only [go_sem, reduceIte, Nat.reduceEqDiff, reduceCtorEq, Nat.reduceAdd, Nat.reduceLeDiff, Int.reduceNeg, Int.reduceToNat, Int.reduceBEq, Int.reduceBNe, Int.reduceLT, Int.reduceLE, Int.reduceAdd, Int.reduceSub, sizeOK, h1, h1']; (try simp (disch := omega) only [i64wrap, u64wrap, u8wrap, u32wrap, i32wrap]); first | with_reducible rfl | done | (refine congrArg (Value.int _) ?_; omega)) | (simp only [go_sem, reduceIte, Nat.reduceEqDiff, reduceCtorEq, Nat.reduceAdd, Nat.reduceLeDiff, Int.reduceNeg, Int.reduceToNat, Int.reduceBEq, Int.reduceBNe, Int.reduceLT, Int.reduceLE, Int.reduceAdd, Int.reduceSub, sizeOK, h1, h1']; rfl))⟩
    have h1' : 1 ≤ W := by omega
    by_cases h2 : 8 < W
    · have h2' : ¬ W ≤ 8 := by omega
      (have fx := And.intro gm (And.intro h1 h2); refine stepR ?_; clear fx)
      exact ⟨rfl, Sd0, (by first | with_reducible rfl | (simp only [go_sem, reduceIte, Nat.reduceEqDiff, reduceCtorEq, Nat.reduceAdd, Nat.reduceLeDiff, Int.reduceNeg, Int.reduceToNat, Int.reduceBEq, Int.reduceBNe, Int.reduceLT, Int.reduceLE, Int.reduceAdd, Int.reduceSub, sizeOK, h1, h1', h2, h2']; done) | (simp only [go_sem, reduceIte, Nat.reduceEqDiff, reduceCtorEq, Nat.reduceAdd, Nat.reduceLeDiff, Int.reduceNeg, Int.reduceToNat, Int.reduceBEq, Int.reduceBNe, Int.reduceLT, Int.reduceLE, Int.reduceAdd, Int.reduceSub, sizeOK, h1, h1', h2, h2']; with_reducible rfl) | (simp only [go_sem, reduceIte, Nat.reduceEqDiff, reduceCtorEq, Nat.reduceAdd, Nat.reduceLeDiff, Int.reduceNeg, Int.reduceToNat, Int.reduceBEq, Int.reduceBNe, Int.reduceLT, Int.reduceLE, Int.reduceAdd, Int.reduceSub, sizeOK, h1, h1', h2, h2']; (try simp (disch := omega) only [i64wrap, u64wrap, u8wrap, u32wrap, i32wrap]); first | with_reducible rfl | done | (refine congrArg (Value.int _) ?_; omega)) | (simp only [go_sem, reduceIte, Nat.reduceEqDiff, reduceCtorEq, Nat.reduceAdd, Nat.reduceLeDiff, Int.reduceNeg, Int.reduceToNat, Int.reduceBEq, Int.reduceBNe, Int.reduceLT, Int.reduceLE, Int.reduceAdd, Int.reduceSub, sizeOK, h1, h1', h2, h2']; rfl))⟩
    have h2' : W ≤ 8 := by omega
    by_cases h3 : Hh < 1
    · have h3' : ¬ 1 ≤ Hh := by omega
      (have fx := And.intro gm (And.intro h1 (And.intro h2 h3)); refine stepR ?_; clear fx)
      exact ⟨rfl, Sd0, (by first | with_reducible rfl | (simp only [go_sem, reduceIte, Nat.reduceEqDiff, reduceCtorEq, Nat.reduceAdd, Nat.reduceLeDiff, Int.reduceNeg, Int.reduceToNat, Int.reduceBEq, Int.reduceBNe, Int.reduceLT, Int.reduceLE, Int.reduceAdd, Int.reduceSub, sizeOK, h1, h1', h2, h2', h3, h3']; done) | (simp only [go_sem, reduceIte, Nat.reduceEqDiff, reduceCtorEq, Nat.reduceAdd, Nat.reduceLeDiff, Int.reduceNeg, Int.reduceToNat, Int.reduceBEq, Int.reduceBNe, Int.reduceLT, Int.reduceLE, Int.reduceAdd, Int.reduceSub, sizeOK, h1, h1', h2, h2', h3, h3']; with_reducible rfl) | (simp only [go_sem, reduceIte, Nat.reduceEqDiff, reduceCtorEq, Nat.reduceAdd, Nat.reduceLeDiff, Int.reduceNeg, Int.reduceToNat, Int.reduceBEq, Int.reduceBNe, Int.reduceLT, Int.reduceLE, Int.reduceAdd, Int.reduceSub, sizeOK, h1, h1', h2, h2', h3, h3']; (try simp (disch := omega) only [i64wrap, u64wrap, u8wrap, u32wrap, i32wrap]); first | with_reducible rfl | done | (refine congrArg (Value.int _) ?_; omega)) | (simp only [go_sem, reduceIte, Nat.reduceEqDiff, reduceCtorEq, Nat.reduceAdd, Nat.reduceLeDiff, Int.reduceNeg, Int.reduceToNat, Int.reduceBEq, Int.reduceBNe, Int.reduceLT, Int.reduceLE, Int.reduceAdd, Int.reduceSub, sizeOK, h1, h1', h2, h2', h3, h3']; rfl))⟩
    have h3' : 1 ≤ Hh := by omega
    by_cases h4 : 8 < Hh
    · have h4' : ¬ Hh ≤ 8 := by omega
      (have fx := And.intro gm (And.intro h1 (And.intro h2 (And.intro h3 h4))); refine stepR ?_; clear fx)
      exact ⟨rfl, Sd0, (by first | with_reducible rfl | (simp only [go_sem, reduceIte, Nat.reduceEqDiff, reduceCtorEq, Nat.reduceAdd, Nat.reduceLeDiff, Int.reduceNeg, Int.reduceToNat, Int.reduceBEq, Int.reduceBNe, Int.reduceLT, Int.reduceLE, Int.reduceAdd, Int.reduceSub, sizeOK, h1, h1', h2, h2', h3, h3', h4, h4']; done) | (simp only [go_sem, reduceIte, Nat.reduceEqDiff, reduceCtorEq, Nat.reduceAdd, Nat.reduceLeDiff, Int.reduceNeg, Int.reduceToNat, Int.reduceBEq, Int.reduceBNe, Int.reduceLT, Int.reduceLE, Int.reduceAdd, Int.reduceSub, sizeOK, h1, h1', h2, h2', h3, h3', h4, h4']; with_reducible rfl) | (simp only [go_sem, reduceIte, Nat.reduceEqDiff, reduceCtorEq, Nat.reduceAdd, Nat.reduceLeDiff, Int.reduceNeg, Int.reduceToNat, Int.reduceBEq, Int.reduceBNe, Int.reduceLT, Int.reduceLE, Int.reduceAdd, Int.reduceSub, sizeOK, h1, h1', h2, h2', h3, h3', h4, h4']; (try simp (disch := omega) only [i64wrap, u64wrap, u8wrap, u32wrap, i32wrap]); first | with_reducible rfl | done | (refine congrArg (Value.int _) ?_; omega)) | (simp only [go_sem, reduceIte, Nat.reduceEqDiff, reduceCtorEq, Nat.reduceAdd, Nat.reduceLeDiff, Int.reduceNeg, Int.reduceToNat, Int.reduceBEq, Int.reduceBNe, Int.reduceLT, Int.reduceLE, Int.reduceAdd, Int.reduceSub, sizeOK, h1, h1', h2, h2', h3, h3', h4, h4']; rfl))⟩
    have h4' : Hh ≤ 8 := by omega
    have hm := mul_le64 ⟨h1', h2'⟩ ⟨h3', h4'⟩
    have hw : IntKind.i64.wrap (W * Hh) = W * Hh := i64wrap (by omega) (by omega)
    (have fx := And.intro gm (And.intro h1 (And.intro h2 (And.intro h3 (And.intro h4 hw)))); refine stepR ?_; clear fx)
    refine ⟨rfl, Sd0, ?_⟩
    simp only [go_sem, reduceIte, Nat.reduceEqDiff, reduceCtorEq, Nat.reduceAdd, Nat.reduceLeDiff, Int.reduceNeg, Int.reduceToNat, Int.reduceBEq, Int.reduceBNe, Int.reduceLT, Int.reduceLE, Int.reduceAdd, Int.reduceSub, sizeOK, h1, h1', h2, h2', h3, h3', h4, h4', hw, Bool.and_self, Bool.true_and, bne]
  rintro ts τ ⟨rfl, t1, t39⟩
  rcases Bool.eq_false_or_eq_true (sizeOK W Hh S) with hok | hok
  rotate_left
  · rw [hok] at t39
    (have fx := t39; refine stepR ?_; clear fx)
    refine fin1 ⟨?_, e1⟩
    have : gr W Hh S = false := gr_false (by
      unfold sizeOK at hok; unfold szd; rw [hok]; rfl)
    simp only [go_sem, reduceIte, Nat.reduceEqDiff, reduceCtorEq, Nat.reduceAdd, Nat.reduceLeDiff, Int.reduceNeg, Int.reduceToNat, Int.reduceBEq, Int.reduceBNe, Int.reduceLT, Int.reduceLE, Int.reduceAdd, Int.reduceSub, this]
  rw [hok] at t39
  obtain ⟨hW, hH, hS⟩ := sizeOK_iff.1 hok
  have hWH := mul_le64 hW hH
  have hN : 1 ≤ S.size ∧ S.size ≤ 64 := by omega
  have hszd : szd W Hh S = S.data.toList.all sign := by
    unfold sizeOK at hok; unfold szd; rw [hok]; rfl
  (have fx := And.intro t1 (And.intro t39 gm); refine stepR ?_; clear fx)
  refine ml_op Sd0 (o_mks1 Sd0 Sd0 (by omega) (by omega)) ?_
  refine stepR0 ?_
  generalize hτ : H.push _ _ = τ2
  have rs : RS σ σ.size τ.size (mapC W Hh S) (bools (met0 S 0)) τ2 := by
    refine ⟨e1.trans (hτ ▸ Ext.push _ _), ?_, (hτ ▸ Ext.push _ _ : Ext τ τ2).cells gm, e1.size⟩
    rw [met0_zero, ← hτ]; unfold bools; rw [List.map_replicate]; exact H.get_push_self _ _
  clear hτ gm e1
  generalize hmid : σ.size = mid at *
  generalize hoid : τ.size = oid at *
  refine mx_loop (fun n ts τ => ∃ i : Nat, n = S.size - i ∧ i ≤ S.size ∧ RS σ mid oid (mapC W Hh S) (bools (met0 S i)) τ ∧ (∀ j, j < i → sign (S.data.toList.getD j 0) = true) ∧
    ts 1 = .pointer (some ⟨mid, 0, none⟩) ∧ ts 3 = .slice (some ⟨oid, 0, none⟩) S.size S.size ∧ ts 4 = .bool (flag0 S i) ∧ ts 5 = .int .i64 ((i : Nat) : Int)) S.size ?_ ?_
  · refine ⟨0, rfl, Nat.zero_le _, rs, fun j hj => absurd hj (Nat.not_lt_zero _), (have fx := t1; Sd), Sd0, ?_, Sd0⟩
    have : flag0 S 0 = false := by unfold flag0; simp
    exact (have fx := this; Sd)
  clear rs t1 t39
  rintro n ts τ ⟨i, rfl, hi, rs, hsg, t1, t3, t4, t5⟩
  have hmap := rs.map
  rcases Nat.lt_or_ge i S.size with hlt | hge
  · have hb35 : (((S.data.toList.getD i 0).toNat : Int) != 35) = (S.data.toList.getD i 0 != UInt8.ofNat 35) := u8ne (S.data.toList.getD i 0) 35 (by omega)
    have hb46 : (((S.data.toList.getD i 0).toNat : Int) != 46) = (S.data.toList.getD i 0 != UInt8.ofNat 46) := u8ne (S.data.toList.getD i 0) 46 (by omega)
    have hb67 : (((S.data.toList.getD i 0).toNat : Int) != 67) = (S.data.toList.getD i 0 != UInt8.ofNat 67) := u8ne (S.data.toList.getD i 0) 67 (by omega)
    have hb80 : (((S.data.toList.getD i 0).toNat : Int) != 80) = (S.data.toList.getD i 0 != UInt8.ofNat 80) := u8ne (S.data.toList.getD i 0) 80 (by omega)
    have hc67 : (((S.data.toList.getD i 0).toNat : Int) == 67) = (S.data.toList.getD i 0 == UInt8.ofNat 67) := u8eq (S.data.toList.getD i 0) 67 (by omega)
    have hmst := met0_step hlt
    have hfst := flag0_step hlt
    have hsi : sign (S.data.toList.getD i 0) = (!(S.data.toList.getD i 0 != UInt8.ofNat 35 && S.data.toList.getD i 0 != UInt8.ofNat 46 && S.data.toList.getD i 0 != UInt8.ofNat 67 && S.data.toList.getD i 0 != UInt8.ofNat 80)) := by
      simp only [sign, bne, ← Bool.not_or, Bool.not_not]; rfl
    (have fx := And.intro t1 (And.intro t5 hmap); refine stepR ?_; clear fx)
    refine ml_mid (fun ts' τ' => τ' = τ ∧ ts' 1 = ts 1 ∧ ts' 3 = ts 3 ∧ ts' 4 = ts 4 ∧ ts' 5 = ts 5 ∧ ts' 6 = .int .u8 (S.data.toList.getD i 0).toNat ∧ ts' 68 = .bool (!sign (S.data.toList.getD i 0))) ?_ ?_
    · rw [hsi]
      generalize S.data.toList.getD i 0 = c at *
      cases a1 : (c != UInt8.ofNat 35)
      · rw [a1] at hb35
        (have fx := And.intro hb35 (And.intro t1 (And.intro t3 (And.intro t4 t5))); refine stepR ?_; clear fx)
        exact ⟨rfl, (have fx := t1; Sd), (have fx := t3; Sd), (have fx := t4; Sd), (have fx := t5; Sd), Sd0, (have fx := And.intro hb35 a1; Sd)⟩
      rw [a1] at hb35
      cases a2 : (c != UInt8.ofNat 46)
      · rw [a2] at hb46
        (have fx := And.intro hb35 (And.intro hb46 (And.intro t1 (And.intro t3 (And.intro t4 t5)))); refine stepR ?_; clear fx)
        exact ⟨rfl, (have fx := t1; Sd), (have fx := t3; Sd), (have fx := t4; Sd), (have fx := t5; Sd), Sd0, (have fx := And.intro hb35 (And.intro hb46 (And.intro a1 a2)); Sd)⟩
      rw [a2] at hb46
      cases a3 : (c != UInt8.ofNat 67)
      · rw [a3] at hb67
        (have fx := And.intro hb35 (And.intro hb46 (And.intro hb67 (And.intro t1 (And.intro t3 (And.intro t4 t5))))); refine stepR ?_; clear fx)
        exact ⟨rfl, (have fx := t1; Sd), (have fx := t3; Sd), (have fx := t4; Sd), (have fx := t5; Sd), Sd0, (have fx := And.intro hb35 (And.intro hb46 (And.intro hb67 (And.intro a1 (And.intro a2 a3)))); Sd)⟩
      rw [a3] at hb67
      cases a4 : (c != UInt8.ofNat 80)
      · rw [a4] at hb80
        (have fx := And.intro hb35 (And.intro hb46 (And.intro hb67 (And.intro hb80 (And.intro t1 (And.intro t3 (And.intro t4 t5)))))); refine stepR ?_; clear fx)
        exact ⟨rfl, (have fx := t1; Sd), (have fx := t3; Sd), (have fx := t4; Sd), (have fx := t5; Sd), Sd0, (have fx := And.intro hb35 (And.intro hb46 (And.intro hb67 (And.intro hb80 (And.intro a1 (And.intro a2 (And.intro a3 a4)))))); Sd)⟩
      · rw [a4] at hb80
        (have fx := And.intro hb35 (And.intro hb46 (And.intro hb67 (And.intro hb80 (And.intro t1 (And.intro t3 (And.intro t4 t5)))))); refine stepR ?_; clear fx)
        exact ⟨rfl, (have fx := t1; Sd), (have fx := t3; Sd), (have fx := t4; Sd), (have fx := t5; Sd), Sd0, (have fx := And.intro hb35 (And.intro hb46 (And.intro hb67 (And.intro hb80 (And.intro a1 (And.intro a2 (And.intro a3 a4)))))); Sd)⟩
    rintro ts' _ ⟨rfl, u1, u3, u4, u5, u6, u68⟩
    rw [t1] at u1; rw [t3] at u3; rw [t4] at u4; rw [t5] at u5
    clear t1 t3 t4 t5
    rcases Bool.eq_false_or_eq_true (sign (S.data.toList.getD i 0)) with hs | hs
    rotate_left
    · rw [hs] at u68
      (have fx := u68; refine stepR ?_; clear fx)
      refine fin1 ⟨?_, rs.ext⟩
      have : gr W Hh S = false := gr_false (by
        rw [hszd, ← Bool.not_eq_true, all_getD]; intro h; rw [h i hlt] at hs; cases hs)
      simp only [go_sem, reduceIte, Nat.reduceEqDiff, reduceCtorEq, Nat.reduceAdd, Nat.reduceLeDiff, Int.reduceNeg, Int.reduceToNat, Int.reduceBEq, Int.reduceBNe, Int.reduceLT, Int.reduceLE, Int.reduceAdd, Int.reduceSub, this]
    rw [hs] at u68
    have hsg' : ∀ j, j < i + 1 → sign (S.data.toList.getD j 0) = true := fun j hj => by
      by_cases e : j < i
      · exact hsg j e
      · have : j = i := by omega
        subst this; exact hs
    by_cases h67 : S.data.toList.getD i 0 = 67
    · have hq : (((S.data.toList.getD i 0).toNat : Int) == 67) = true := by rw [h67]; rfl
      have ho := rs.out
      rcases Bool.eq_false_or_eq_true (flag0 S i) with hf | hf
      · rw [if_neg (by rw [hf]; simp)] at hmst
        rw [hf] at u4
        (have fx := And.intro u1 (And.intro u3 (And.intro u4 (And.intro u5 (And.intro u6 (And.intro u68 hq))))); refine stepR ?_; clear fx)
        refine ⟨_, ?_, i + 1, rfl, hlt, hmst ▸ rs, hsg', (have fx := u1; Sd), (have fx := u3; Sd), ?_, Sd0⟩
        · omega
        · rw [hfst, hf]; exact (have fx := u4; Sd)
      · rw [if_pos ⟨h67, hf⟩] at hmst
        rw [hf] at u4
        (have fx := And.intro u1 (And.intro u3 (And.intro u4 (And.intro u5 (And.intro u6 (And.intro u68 hq))))); refine stepR ?_; clear fx)
        refine ml_setB (off := i) (c := true) Sd0 (have fx := u5; Sd) Sd0 ho (by rw [met0_len]; exact hlt) fun τ3 s3 => ?_
        (have fx := u5; refine stepR ?_; clear fx)
        refine ⟨_, ?_, i + 1, rfl, hlt, hmst ▸ rs.set s3, hsg', (have fx := u1; Sd), (have fx := u3; Sd), ?_, Sd0⟩
        · omega
        · rw [hfst, h67]; exact Sd0
    · have hq : (((S.data.toList.getD i 0).toNat : Int) == 67) = false := by rw [hc67]; simpa using h67
      rw [if_neg (fun h => h67 h.1)] at hmst
      (have fx := And.intro u1 (And.intro u3 (And.intro u4 (And.intro u5 (And.intro u6 (And.intro u68 hq))))); refine stepR ?_; clear fx)
      refine ⟨_, ?_, i + 1, rfl, hlt, hmst ▸ rs, hsg', (have fx := u1; Sd), (have fx := u3; Sd), ?_, Sd0⟩
      · omega
      · have : (S.data.toList.getD i 0 == 67) = false := beq_eq_false_iff_ne.2 h67
        rw [hfst, this, Bool.or_false]; exact (have fx := u4; Sd)
  · have : i = S.size := by omega
    subst this
    obtain ⟨hms, hmc⟩ := met0_ok W S
    have hall : szd W Hh S = true := by rw [hszd, all_getD]; exact hsg
    generalize met0 S S.size = met at rs hms hmc
    (have fx := And.intro t1 (And.intro t3 (And.intro t5 hmap)); refine stepR ?_; clear fx)
    clear hsg hi hge t5
    refine mx_loop (fun n ts τ => ∃ (r : Nat) (met : List Bool), n = S.size - r ∧ r ≤ S.size ∧ RS σ mid oid (mapC W Hh S) (bools met) τ ∧ MS W S (firstS S) met ∧ MCm W S (firstS S) r met ∧
      ts 1 = .pointer (some ⟨mid, 0, none⟩) ∧ ts 3 = .slice (some ⟨oid, 0, none⟩) S.size S.size ∧ ts 4 = .bool (flag0 S S.size) ∧ ts 7 = .int .i64 ((r : Nat) : Int)) S.size ?_ ?_
    · exact ⟨0, met, rfl, Nat.zero_le _, rs, hms, hmc, (have fx := t1; Sd), (have fx := t3; Sd), (have fx := t4; Sd), Sd0⟩
    clear rs t1 t3 t4 hms hmc met hmap
    rintro n ts τ ⟨r, met, rfl, hrn, rs, hms, hmc, t1, t3, t4, t7⟩
    rcases Nat.lt_or_ge r S.size with hlt | hge
    · (have fx := And.intro t1 (And.intro t3 t7); refine stepR ?_; clear fx)
      refine mx_loop (fun n ts τ => ∃ (i : Nat) (met : List Bool), n = S.size - i ∧ i ≤ S.size ∧ RS σ mid oid (mapC W Hh S) (bools met) τ ∧ M1 W S (firstS S) r i met ∧
        ts 1 = .pointer (some ⟨mid, 0, none⟩) ∧ ts 3 = .slice (some ⟨oid, 0, none⟩) S.size S.size ∧ ts 4 = .bool (flag0 S S.size) ∧ ts 7 = .int .i64 ((r : Nat) : Int) ∧ ts 8 = .int .i64 ((i : Nat) : Int)) S.size ?_ ?_
      · exact ⟨0, met, rfl, Nat.zero_le _, rs, M1.start hms hmc, (have fx := t1; Sd), (have fx := t3; Sd), (have fx := t4; Sd), (have fx := t7; Sd), Sd0⟩
      clear rs t1 t3 t4 t7 hms hmc met
      rintro n ts τ ⟨i, met, rfl, hin, rs, hp1, t1, t3, t4, t7, t8⟩
      rcases Nat.lt_or_ge i S.size with hilt | hige
      · have hopn := opn_nat hilt
        (have fx := And.intro t1 (And.intro t3 (And.intro t7 t8)); refine stepR ?_; clear fx)
        refine mx_loop (fun n ts τ => ∃ (j : Nat) (met : List Bool), n = S.size - j ∧ j ≤ S.size ∧ RS σ mid oid (mapC W Hh S) (bools met) τ ∧ M2 W S (firstS S) r i j met ∧ (opn S i = false → j = 0) ∧
          ts 1 = .pointer (some ⟨mid, 0, none⟩) ∧ ts 3 = .slice (some ⟨oid, 0, none⟩) S.size S.size ∧ ts 4 = .bool (flag0 S S.size) ∧ ts 7 = .int .i64 ((r : Nat) : Int) ∧ ts 8 = .int .i64 ((i : Nat) : Int) ∧ ts 9 = .int .i64 ((j : Nat) : Int)) S.size ?_ ?_
        · exact ⟨0, met, rfl, Nat.zero_le _, rs, M2.start hp1, fun _ => rfl, (have fx := t1; Sd), (have fx := t3; Sd), (have fx := t4; Sd), (have fx := t7; Sd), (have fx := t8; Sd), Sd0⟩
        clear rs t1 t3 t4 t7 t8 hp1 met
        rintro n ts τ ⟨j, met, rfl, hjn, rs, hp2, hj0, t1, t3, t4, t7, t8, t9⟩
        have hmap := rs.map
        rcases Bool.eq_false_or_eq_true (opn S i) with hop | hop
        · rw [hop] at hopn
          rcases Nat.lt_or_ge j S.size with hjlt | hjge
          · have hjI : (j : Int) < (S.size : Int) := by omega
            have hlen := hp2.1.1.len
            have ho := rs.out
            (have fx := And.intro t1 (And.intro t3 (And.intro t8 (And.intro t9 (And.intro hmap (And.intro hopn hjI))))); refine stepR ?_; clear fx)
            refine ml_getB (off := j) Sd0 (have fx := t9; Sd) ho (by omega) ?_
            rcases Bool.eq_false_or_eq_true (met.getD j false) with hm | hm
            rotate_left
            · (have fx := And.intro hm t9; refine stepR ?_; clear fx)
              exact ⟨_, by omega, j + 1, met, rfl, hjlt, rs, M2.skip hW hp2 hop (fun h => nomatch hm.symm.trans h.1), (fun h => nomatch hop.symm.trans h), (have fx := t1; Sd), (have fx := t3; Sd), (have fx := t4; Sd), (have fx := t7; Sd), (have fx := t8; Sd), Sd0⟩
            (have fx := And.intro hm (And.intro t1 (And.intro hmap (And.intro t8 t9))); refine stepR ?_; clear fx)
            refine ml_call (have fx := hm; Sd) (have fx := And.intro t8 t9; Sd) (rBeside_c W i j τ hW (by omega) (by omega)) ?_
            rintro _ τ ⟨rfl, rfl⟩
            rcases Bool.eq_false_or_eq_true (beside W i j) with hb | hb
            rotate_left
            · (have fx := And.intro hm (And.intro hb t9); refine stepR ?_; clear fx)
              exact ⟨_, by omega, j + 1, met, rfl, hjlt, rs, M2.skip hW hp2 hop (fun h => nomatch hb.symm.trans h.2), (fun h => nomatch hop.symm.trans h), (have fx := t1; Sd), (have fx := t3; Sd), (have fx := t4; Sd), (have fx := t7; Sd), (have fx := t8; Sd), Sd0⟩
            · (have fx := And.intro hm (And.intro hb (And.intro t3 t8)); refine stepR ?_; clear fx)
              refine ml_setB (off := i) (c := true) Sd0 (have fx := t8; Sd) Sd0 ho (by omega) fun τ2 s2 => ?_
              (have fx := t9; refine stepR ?_; clear fx)
              exact ⟨_, by omega, j + 1, _, rfl, hjlt, rs.set s2, M2.set hW hp2 hop hm hb, (fun h => nomatch hop.symm.trans h), (have fx := t1; Sd), (have fx := t3; Sd), (have fx := t4; Sd), (have fx := t7; Sd), (have fx := t8; Sd), Sd0⟩
          · have : j = S.size := by omega
            subst this
            have hjI : ¬ (S.size : Int) < (S.size : Int) := by omega
            (have fx := And.intro t1 (And.intro t3 (And.intro t8 (And.intro t9 hjI))); refine stepR ?_; clear fx)
            exact ⟨_, by omega, i + 1, met, rfl, hilt, rs, M2.done hp2, (have fx := t1; Sd), (have fx := t3; Sd), (have fx := t4; Sd), (have fx := t7; Sd), Sd0⟩
        · rw [hop] at hopn
          have hj00 := hj0 hop
          have hjI : (j : Int) < (S.size : Int) := by omega
          (have fx := And.intro t1 (And.intro t3 (And.intro t8 (And.intro t9 (And.intro hmap (And.intro hopn hjI))))); refine stepR ?_; clear fx)
          exact ⟨_, by omega, i + 1, met, rfl, hilt, rs, M1.wall hp2.1 hop, (have fx := t1; Sd), (have fx := t3; Sd), (have fx := t4; Sd), (have fx := t7; Sd), Sd0⟩
      · have : i = S.size := by omega
        subst this
        obtain ⟨hs', hc'⟩ := M1.done hp1
        (have fx := And.intro t3 (And.intro t7 t8); refine stepR ?_; clear fx)
        exact ⟨_, by omega, r + 1, met, rfl, hlt, rs, hs', hc', (have fx := t1; Sd), (have fx := t3; Sd), (have fx := t4; Sd), Sd0⟩
    · have : r = S.size := by omega
      subst this
      have hlen := hms.len
      have hreach : ∀ x, gr W Hh S = true → opn S x = true → met.getD x.toNat false = true := fun x hg hx => by
        have h := gr_iff.1 hg
        have hc := h.2.2 x hx
        have hf : opn S (Lib.indexByte S.data.toList 67) = true := by
          rcases first_c S with ⟨h1, _⟩ | ⟨o, h1, h2, h3, _⟩
          · have := h.2.1; omega
          · rw [h1]; simp only [opn, bAt, Int.toNat_natCast, h3]; simp [h2]
        obtain ⟨k, hk⟩ := reach_wk hf hc
        refine hmc.all (k := k) ?_
        unfold firstS; rw [if_pos h.2.1]; exact hk
      (have fx := And.intro t1 (And.intro t3 t7); refine stepR ?_; clear fx)
      refine mx_loop (fun n ts τ => ∃ (i : Nat), n = S.size - i ∧ i ≤ S.size ∧ RS σ mid oid (mapC W Hh S) (bools met) τ ∧ (∀ j : Nat, j < i → opn S j = true → met.getD j false = true) ∧
        ts 1 = .pointer (some ⟨mid, 0, none⟩) ∧ ts 3 = .slice (some ⟨oid, 0, none⟩) S.size S.size ∧ ts 4 = .bool (flag0 S S.size) ∧ ts 10 = .int .i64 ((i : Nat) : Int)) S.size ?_ ?_
      · exact ⟨0, rfl, Nat.zero_le _, rs, fun j hj => absurd hj (Nat.not_lt_zero _), (have fx := t1; Sd), (have fx := t3; Sd), (have fx := t4; Sd), Sd0⟩
      clear rs t1 t3 t4 t7
      rintro n ts τ ⟨i, rfl, hin, rs, hal, t1, t3, t4, t10⟩
      have hmap := rs.map
      rcases Nat.lt_or_ge i S.size with hilt | hige
      · have hopn := opn_nat hilt
        have next : (opn S i = true → met.getD i false = true) → ∀ j : Nat, j < i + 1 → opn S j = true → met.getD j false = true := fun h j hj ho => by
          by_cases e : j < i
          · exact hal j e ho
          · have : j = i := by omega
            subst this; exact h ho
        (have fx := And.intro t1 (And.intro t3 t10); refine stepR ?_; clear fx)
        refine ml_getB (off := i) Sd0 (have fx := t10; Sd) rs.out (by omega) ?_
        rcases Bool.eq_false_or_eq_true (met.getD i false) with hm | hm
        · (have fx := And.intro hm t10; refine stepR ?_; clear fx)
          exact ⟨_, by omega, i + 1, rfl, hilt, rs, next fun _ => hm, (have fx := t1; Sd), (have fx := t3; Sd), (have fx := t4; Sd), Sd0⟩
        rcases Bool.eq_false_or_eq_true (opn S i) with hop | hop
        · rw [hop] at hopn
          (have fx := And.intro hm (And.intro t1 (And.intro t10 (And.intro hmap hopn))); refine stepR ?_; clear fx)
          refine fin1 ⟨?_, rs.ext⟩
          have : gr W Hh S = false := by
            rw [← Bool.not_eq_true]; intro hg
            have := hreach i hg hop
            rw [Int.toNat_natCast, hm] at this; cases this
          simp only [go_sem, reduceIte, Nat.reduceEqDiff, reduceCtorEq, Nat.reduceAdd, Nat.reduceLeDiff, Int.reduceNeg, Int.reduceToNat, Int.reduceBEq, Int.reduceBNe, Int.reduceLT, Int.reduceLE, Int.reduceAdd, Int.reduceSub, this]
        · rw [hop] at hopn
          (have fx := And.intro hm (And.intro t1 (And.intro t10 (And.intro hmap hopn))); refine stepR ?_; clear fx)
          exact ⟨_, by omega, i + 1, rfl, hilt, rs, next fun h => (nomatch hop.symm.trans h), (have fx := t1; Sd), (have fx := t3; Sd), (have fx := t4; Sd), Sd0⟩
      · have : i = S.size := by omega
        subst this
        (have fx := And.intro t1 (And.intro t3 (And.intro t4 t10)); refine stepR ?_; clear fx)
        refine fin1 ⟨?_, rs.ext⟩
        simp only [go_sem, reduceIte, Nat.reduceEqDiff, reduceCtorEq, Nat.reduceAdd, Nat.reduceLeDiff, Int.reduceNeg, Int.reduceToNat, Int.reduceBEq, Int.reduceBNe, Int.reduceLT, Int.reduceLE, Int.reduceAdd, Int.reduceSub, t4]
        rw [Value.bool.injEq, Bool.eq_iff_iff, gr_iff]
        unfold flag0
        simp only [Bool.and_eq_true, decide_eq_true_eq]
        constructor
        · rintro ⟨h0, h1⟩
          refine ⟨hall, h0, fun x hx => ?_⟩
          have hx0 := opn_lt hx
          have e : ((x.toNat : Nat) : Int) = x := Int.toNat_of_nonneg hx0.1
          obtain ⟨k, hk⟩ := hms.snd x.toNat (hal x.toNat (by omega) (by rw [e]; exact hx))
          rw [e] at hk
          unfold firstS at hk; rw [if_pos h0] at hk
          exact wk_reach hk
        · rintro ⟨_, h0, _⟩
          refine ⟨h0, ?_⟩
          rcases first_c S with ⟨h1, _⟩ | ⟨o, h1, h2, _, _⟩ <;> omega
end Go.Proofs.YtepjinaomedecaaDoor
