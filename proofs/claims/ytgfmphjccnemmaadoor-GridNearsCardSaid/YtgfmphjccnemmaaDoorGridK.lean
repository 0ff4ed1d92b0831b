/- GridNears. -/
import Derived.Test.YtgfmphjccnemmaaDoorGridU
import Derived.Test.YtgfmphjccnemmaaDoorGridM
import Derived.Test.YtgfmphjccnemmaaDoorRefD
namespace Go.Proofs.YtgfmphjccnemmaaDoor
open Go.Mini
open Go.Proofs.YtgfmphjccnemmaaDoor.Code
set_option linter.unusedVariables false
set_option linter.unusedSimpArgs false
set_option linter.ambiguousOpen false
attribute [local irreducible] mx ml mld mstep MCalls Ex.thn Ex.inb
variable {E : World → Prop}

theorem sorted_ext : ∀ {l l' : List Int}, l.Pairwise (· < ·) → l'.Pairwise (· < ·) → (∀ x, x ∈ l ↔ x ∈ l') → l = l'
  | [], [], _, _, _ => rfl
  | [], y :: l', _, _, h => absurd ((h y).2 (by simp)) (by simp)
  | x :: l, [], _, _, h => absurd ((h x).1 (by simp)) (by simp)
  | x :: l, y :: l', h1, h2, h => by
    rw [List.pairwise_cons] at h1 h2
    have e : x = y := by
      rcases List.mem_cons.1 ((h x).1 (by simp)) with e | m
      · exact e
      · rcases List.mem_cons.1 ((h y).2 (by simp)) with e | m'
        · exact e.symm
        · have := h2.1 _ m; have := h1.1 _ m'; omega
    subst e
    rw [sorted_ext h1.2 h2.2 fun z => ⟨fun m => ?_, fun m => ?_⟩]
    · rcases List.mem_cons.1 ((h z).1 (by simp [m])) with e | m'
      · subst e; have := h1.1 _ m; omega
      · exact m'
    · rcases List.mem_cons.1 ((h z).2 (by simp [m])) with e | m'
      · subst e; have := h2.1 _ m; omega
      · exact m'
theorem nearL_sorted {W : Int} {S : ByteArray} {c : Int} (hW : 1 ≤ W ∧ W ≤ 8) (hc : 0 ≤ c) : (nearL W S c).Pairwise (· < ·) := by
  have h1 := Int.tmod_lt_of_pos c (show 0 < W by omega)
  have h0 := Int.tmod_nonneg W hc
  unfold nearL nadd
  cases opn S (c - W) <;> cases opn S (c - 1) <;> cases opn S (c + 1) <;> cases opn S (c + W) <;> by_cases h2 : c.tmod W > 0 <;> by_cases h3 : c.tmod W < W - 1 <;> simp [h2, h3] <;> (try omega)
def filL (p : Nat → Bool) (n : Nat) : List Int := ((List.range n).filter p).map Int.ofNat
theorem filL_succ (p : Nat → Bool) (n : Nat) : filL p (n + 1) = if p n then filL p n ++ [(n : Int)] else filL p n := by
  unfold filL
  rw [List.range_succ, List.filter_append, List.map_append]
  cases h : p n
  · simp [h]
  · simp [h]
theorem filL_at {p : Nat → Bool} {n : Nat} (hp : p n = true) : ∀ {N : Nat}, n < N → (filL p N)[(filL p n).length]? = some (n : Int)
  | 0, h => absurd h (Nat.not_lt_zero _)
  | N + 1, h => by
    rw [filL_succ]
    by_cases e : n = N
    · subst e
      rw [if_pos hp, List.getElem?_append_right (Nat.le_refl _), Nat.sub_self]; rfl
    · have ih := filL_at hp (N := N) (by omega)
      split
      · rw [List.getElem?_append_left (List.getElem?_eq_some_iff.1 ih).1]; exact ih
      · exact ih
theorem filL_len (p : Nat → Bool) (n : Nat) : (filL p n).length ≤ n := by
  unfold filL; rw [List.length_map]; exact Nat.le_trans (List.length_filter_le _ _) (by simp)
theorem filL_sorted (p : Nat → Bool) (n : Nat) : (filL p n).Pairwise (· < ·) := by
  unfold filL
  rw [List.pairwise_map]
  exact (List.pairwise_lt_range.filter _).imp fun h => Int.ofNat_lt.2 h
theorem near_fil {W : Int} {S : ByteArray} {c : Int} (hW : 1 ≤ W ∧ W ≤ 8) (ho : opn S c = true) : nearL W S c = filL (fun i => opn S (i : Int) && beside W c i) S.size := by
  refine sorted_ext (nearL_sorted hW (opn_lt ho).1) (filL_sorted _ _) fun x => ?_
  rw [near_iff hW ho]
  unfold filL
  rw [List.mem_map]
  constructor
  · rintro ⟨h1, h2⟩
    have hl := opn_lt h1
    have e : Int.ofNat x.toNat = x := Int.toNat_of_nonneg hl.1
    refine ⟨x.toNat, List.mem_filter.2 ⟨List.mem_range.2 (by omega), ?_⟩, e⟩
    have e' : ((x.toNat : Nat) : Int) = x := e
    rw [e', h1, h2]; rfl
  · rintro ⟨i, hi, rfl⟩
    have := (List.mem_filter.1 hi).2
    rw [Bool.and_eq_true] at this
    exact this
theorem gkind_fil (S : ByteArray) (kind : UInt8) : gkind S kind true = filL (fun i => S.data.toList.getD i 0 == kind) S.size := by
  unfold gkind filL; rw [if_pos rfl]

def nearN (W : Int) (S : ByteArray) (c : Int) (n : Nat) : Nat := if opn S c then (filL (fun i => opn S (i : Int) && beside W c i) n).length else 0
def kindN (S : ByteArray) (kind : UInt8) (n : Nat) : Nat := (filL (fun i => S.data.toList.getD i 0 == kind) n).length

theorem kindN_succ (S : ByteArray) (kind : UInt8) (n : Nat) : kindN S kind (n + 1) = if S.data.toList.getD n 0 == kind then kindN S kind n + 1 else kindN S kind n := by
  unfold kindN; rw [filL_succ]; split <;> simp
theorem nearN_succ (W : Int) (S : ByteArray) (c : Int) (n : Nat) : nearN W S c (n + 1) = if opn S c && (opn S n && beside W c n) then nearN W S c n + 1 else nearN W S c n := by
  unfold nearN; rw [filL_succ]
  cases opn S c
  · simp
  · simp only [if_true, Bool.true_and]; split <;> simp

set_option maxHeartbeats 4000000 in
theorem gridNears_c (W Hh : Int) (S : ByteArray) (c : Int) (kind : Nat) (hk : kind < 256) (σ : H) : MCalls E Tryd.prog 12 [mapV W Hh S, .int .i64 c, .int .u8 kind] σ (fun v τ => v = .bool true) := by
  refine mcalls_of fn12 (by simp) ?_
  unfold c12 r12 mapV
  have hku : ((UInt8.ofNat kind).toNat : Int) = (kind : Int) := by simp [UInt8.toNat_ofNat']; omega
  refine stepR0 ?_
  refine ml_call Sd0 Sd0 (gAwake_c _) ?_
  rintro _ τ ⟨rfl, e1⟩
  have g1 := e1.cells (H.get_push_self σ _)
  by_cases hS : 200 < S.size
  · have hS' : (200 : Int) < (S.size : Int) := by omega
    (have fx := And.intro g1 hS'; refine stepR ?_; clear fx)
    refine ml_call Sd0 Sd0 (gAwake_c _) ?_
    rintro _ τ2 ⟨rfl, e2⟩
    refine stepR0 ?_
    exact fin1 Sd0
  have hS' : ¬ (200 : Int) < (S.size : Int) := by omega
  (have fx := And.intro g1 hS'; refine stepR ?_; clear fx)
  refine ml_call Sd0 Sd0 (gOf_c W Hh S τ) ?_
  rintro _ τ2 ⟨rfl, e2⟩
  have g2 := e2.cells g1
  refine stepR0 ?_
  refine ml_call Sd0 Sd0 (gnear_c W Hh S c τ2) ?_
  intro lv τ3 o3
  have g3 := o3.1.cells g2
  (have fx := g3; refine stepR ?_; clear fx)
  refine ml_call Sd0 Sd0 (gOf_c W Hh S τ3) ?_
  rintro _ τ4 ⟨rfl, e4⟩
  have g4 := e4.cells g3
  have hk' : ((UInt8.ofNat kind).toNat : Int) = (kind : Int) := hku
  refine stepR0 ?_
  refine ml_call Sd0 (have fx := hk'; Sd) (gkind_c W Hh S (UInt8.ofNat kind) τ4) ?_
  intro kv τ5 o5
  have g5 := o5.1.cells g4
  (have fx := g5; refine stepR ?_; clear fx)
  refine ml_call Sd0 Sd0 (rRight_c W Hh S τ5) ?_
  rintro _ τ6 ⟨rfl, e6⟩
  have g6 := e6.cells g5
  have rl := ((o3.of_ext e4).rd.of_ext o5.1).of_ext e6
  have rk := o5.rd.of_ext e6
  cases hg : gr W Hh S
  · rw [hg] at rl rk
    have z1 : (ints (gnear W Hh S c false)).length = 0 := rfl
    have z2 : (ints (gkind S (UInt8.ofNat kind) false)).length = 0 := rfl
    refine stepR0 ?_
    refine ml_len Sd0 rl Sd0 ?_
    rw [z1]
    refine stepR0 ?_
    refine ml_len Sd0 rk Sd0 ?_
    rw [z2]
    (have fx := g6; refine stepR ?_; clear fx)
    refine ml_call Sd0 Sd0 (gOf_c W Hh S τ6) ?_
    rintro _ τ7 ⟨rfl, e7⟩
    refine stepR0 ?_
    refine ml_call Sd0 Sd0 (gopen_c W Hh S c τ7) ?_
    rintro _ τ8 ⟨rfl, e8⟩
    rw [hg, Bool.false_and]
    refine stepR0 ?_
    exact fin1 Sd0
  have hgs := gr_size hg
  have hW := hgs.1
  obtain ⟨hS1, hS64⟩ := hgs.2.2.2.1
  rw [hg] at rl rk
  generalize UInt8.ofNat kind = kb at rk hku
  have hkk : ∀ b : UInt8, (((b.toNat : Nat) : Int) == (kind : Int)) = (b == kb) := fun b => by
    rw [← hku]
    by_cases h : b = kb
    · subst h; simp
    · rw [beq_eq_false_iff_ne.2 h, beq_eq_false_iff_ne]
      intro e; exact h (UInt8.toNat_inj.1 (by omega))
  rw [gkind_fil] at rk
  have hLb : (gnear W Hh S c true).length ≤ 64 := by
    unfold gnear
    cases ho : opn S c
    · simp
    · rw [if_pos (by rfl), near_fil hW ho]; exact Nat.le_trans (filL_len _ _) hS64
  have hLl : (gnear W Hh S c true).length = nearN W S c S.size := by
    unfold gnear nearN
    cases ho : opn S c
    · simp
    · rw [if_pos (by rfl), if_pos rfl, near_fil hW ho]
  clear o3 o5 e1 e2 e4 g1 g2 g3 g4 g5 hk'
  refine stepR0 ?_
  refine ml_mid (fun ts τ' => τ' = τ6 ∧ ts 1 = .int .i64 c ∧ ts 2 = .int .u8 kind ∧ ts 3 = .pointer (some ⟨σ.size, 0, none⟩) ∧ ts 7 = lv ∧ ts 8 = kv ∧ ts 9 = .bool (opn S c)) ?_ ?_
  · unfold opn
    by_cases h0 : 0 ≤ c
    · by_cases h1 : c < (S.size : Int)
      · have hb := u8ne (S.data.toList.getD c.toNat 0) 35 (by omega)
        have hb' : (((S.data.toList.getD c.toNat 0).toNat : Int) != (35 : Int)) = (bAt S c != 35) := hb
        (have fx := And.intro g6 (And.intro h0 h1); refine stepR ?_; clear fx)
        exact ⟨rfl, Sd0, Sd0, Sd0, Sd0, Sd0, (have fx := And.intro h0 (And.intro h1 hb'); Sd)⟩
      · (have fx := And.intro g6 (And.intro h0 h1); refine stepR ?_; clear fx)
        exact ⟨rfl, Sd0, Sd0, Sd0, Sd0, Sd0, (have fx := And.intro h0 h1; Sd)⟩
    · (have fx := And.intro g6 h0; refine stepR ?_; clear fx)
      exact ⟨rfl, Sd0, Sd0, Sd0, Sd0, Sd0, (have fx := h0; Sd)⟩
  rintro ts τ' ⟨rfl, t1, t2, t3, t7, t8, t9⟩
  (have fx := And.intro t3 g6; refine stepR ?_; clear fx)
  refine ml_call Sd0 Sd0 (gOf_c W Hh S _) ?_
  rintro _ τ7 ⟨rfl, e7⟩
  (have fx := t1; refine stepR ?_; clear fx)
  refine ml_call Sd0 Sd0 (gopen_c W Hh S c τ7) ?_
  rintro _ τ8 ⟨rfl, e8⟩
  rw [hg, Bool.true_and]
  have hee : (opn S c == opn S c) = true := by simp
  have e78 := e7.trans e8
  have g8 := e78.cells g6
  have rl8 := rl.of_ext e78
  have rk8 := rk.of_ext e78
  clear g6 rl rk e78 e7 e8 e6
  (have fx := And.intro t9 hee; refine stepR ?_; clear fx)
  refine mx_loop (fun m ts τ => ∃ n, m = S.size - n ∧ n ≤ S.size ∧ ts 1 = .int .i64 c ∧ ts 2 = .int .u8 kind ∧ ts 3 = .pointer (some ⟨σ.size, 0, none⟩) ∧ ts 7 = lv ∧ ts 8 = kv ∧ ts 9 = .bool (opn S c) ∧ ts 10 = .int .i64 ((nearN W S c n : Nat) : Int) ∧ ts 11 = .int .i64 ((kindN S kb n : Nat) : Int) ∧ ts 12 = .int .i64 ((n : Nat) : Int) ∧
    τ.get σ.size = .cells 0 [.int .i64 W, .int .i64 Hh, .string S] ∧ Rd τ lv (ints (gnear W Hh S c true)) ∧ Rd τ kv (ints (filL (fun i => S.data.toList.getD i 0 == kb) S.size))) S.size ?_ ?_
  · have hz : nearN W S c 0 = 0 := by unfold nearN filL; split <;> rfl
    have hz2 : kindN S kb 0 = 0 := rfl
    exact ⟨0, rfl, by omega, (have fx := t1; Sd), (have fx := t2; Sd), (have fx := t3; Sd), (have fx := t7; Sd), (have fx := t8; Sd), (have fx := t9; Sd), (have fx := hz; Sd), (have fx := hz2; Sd), Sd0, g8, rl8, rk8⟩
  clear t1 t2 t3 t7 t8 t9 g8 rl8 rk8
  rintro m ts τ ⟨n, rfl, hn, t1, t2, t3, t7, t8, t9, t10, t11, t12, g, rl, rk⟩
  have hkl := filL_len (fun i => S.data.toList.getD i 0 == kb) S.size
  have hkn : kindN S kb n ≤ n := filL_len _ _
  have hnn : nearN W S c n ≤ n := by unfold nearN; split; exact filL_len _ _; omega
  rcases Nat.lt_or_ge n S.size with hlt | hge
  · have hlt' : ((n : Nat) : Int) < (S.size : Int) := by omega
    have hkk1 := hkk (S.data.toList.getD n 0)
    (have fx := And.intro t1 (And.intro t2 (And.intro t3 (And.intro t12 (And.intro g (And.intro hlt' hkk1))))); refine stepR ?_; clear fx)
    refine mx_cut (fun ts' τ' => τ' = τ ∧ ts' 1 = .int .i64 c ∧ ts' 2 = .int .u8 kind ∧ ts' 3 = .pointer (some ⟨σ.size, 0, none⟩) ∧ ts' 7 = lv ∧ ts' 8 = kv ∧ ts' 9 = .bool (opn S c) ∧ ts' 10 = .int .i64 ((nearN W S c n : Nat) : Int) ∧ ts' 11 = .int .i64 ((kindN S kb (n + 1) : Nat) : Int) ∧ ts' 12 = .int .i64 ((n : Nat) : Int)) ?_ ?_
    · have hks := kindN_succ S kb n
      cases hb : S.data.toList.getD n 0 == kb
      · rw [hb] at hks
        simp only [Bool.false_eq_true, if_false] at hks
        rw [hks]
        (have fx := hb; refine stepR ?_; clear fx)
        exact ⟨rfl, (have fx := t1; Sd), (have fx := t2; Sd), (have fx := t3; Sd), (have fx := t7; Sd), (have fx := t8; Sd), (have fx := t9; Sd), (have fx := t10; Sd), (have fx := t11; Sd), (have fx := t12; Sd)⟩
      · rw [hb] at hks
        simp only [if_true] at hks
        rw [hks]
        have hat := filL_at (p := fun i => S.data.toList.getD i 0 == kb) hb hlt
        have hlk : kindN S kb n < (filL (fun i => S.data.toList.getD i 0 == kb) S.size).length := (List.getElem?_eq_some_iff.1 hat).1
        have hge' : ¬ ((filL (fun i => S.data.toList.getD i 0 == kb) S.size).length : Int) ≤ ((kindN S kb n : Nat) : Int) := by omega
        have hnn' : (((n : Nat) : Int) != ((n : Nat) : Int)) = false := by simp
        (have fx := And.intro hb (And.intro t11 t8); refine stepR ?_; clear fx)
        refine ml_len Sd0 rk (have fx := t8; Sd) ?_
        rw [ints_len]
        (have fx := And.intro hge' (And.intro t8 t11); refine stepR ?_; clear fx)
        refine ml_getSg (e := .int .i64 n) Sd0 rk (have fx := t8; Sd) (have fx := t11; Sd) (by omega) (by rw [Int.toNat_natCast]; unfold ints; rw [List.getElem?_map]; exact congrArg (Option.map (Value.int .i64)) hat) (fun p => (have fx := hge'; Sd)) fun p => ?_
        (have fx := And.intro hge' (And.intro t12 (And.intro hnn' t11)); refine stepR ?_; clear fx)
        exact ⟨rfl, (have fx := t1; Sd), (have fx := t2; Sd), (have fx := t3; Sd), (have fx := t7; Sd), (have fx := t8; Sd), (have fx := t9; Sd), (have fx := t10; Sd), Sd0, (have fx := t12; Sd)⟩
    · clear t1 t2 t3 t7 t8 t9 t10 t11 t12 ts
      rintro ts τ' ⟨rfl, t1, t2, t3, t7, t8, t9, t10, t11, t12⟩
      have hns := nearN_succ W S c n
      have skip : nearN W S c (n + 1) = nearN W S c n → ∀ (ts2 : Fr) (τ2 : H), Ext τ' τ2 → ts2 1 = .int .i64 c → ts2 2 = .int .u8 kind → ts2 3 = .pointer (some ⟨σ.size, 0, none⟩) → ts2 7 = lv → ts2 8 = kv → ts2 9 = .bool (opn S c) → ts2 10 = .int .i64 ((nearN W S c n : Nat) : Int) → ts2 11 = .int .i64 ((kindN S kb (n + 1) : Nat) : Int) → ts2 12 = .int .i64 (((n + 1 : Nat)) : Int) →
          ∃ m, m < S.size - n ∧ ∃ n, m = S.size - n ∧ n ≤ S.size ∧ ts2 1 = .int .i64 c ∧ ts2 2 = .int .u8 kind ∧ ts2 3 = .pointer (some ⟨σ.size, 0, none⟩) ∧ ts2 7 = lv ∧ ts2 8 = kv ∧ ts2 9 = .bool (opn S c) ∧ ts2 10 = .int .i64 ((nearN W S c n : Nat) : Int) ∧ ts2 11 = .int .i64 ((kindN S kb n : Nat) : Int) ∧ ts2 12 = .int .i64 ((n : Nat) : Int) ∧
            τ2.get σ.size = .cells 0 [.int .i64 W, .int .i64 Hh, .string S] ∧ Rd τ2 lv (ints (gnear W Hh S c true)) ∧ Rd τ2 kv (ints (filL (fun i => S.data.toList.getD i 0 == kb) S.size)) :=
        fun e ts2 τ2 x a1 a2 a3 a7 a8 a9 a10 a11 a12 => ⟨_, by omega, n + 1, rfl, hlt, a1, a2, a3, a7, a8, a9, by rw [e]; exact a10, a11, a12, x.cells g, rl.of_ext x, rk.of_ext x⟩
      rcases Bool.eq_false_or_eq_true (opn S c) with ho | ho
      rotate_left
      · rw [ho] at hns t9
        simp only [Bool.false_and, Bool.false_eq_true, if_false] at hns
        (have fx := And.intro t9 t12; refine stepR ?_; clear fx)
        refine skip hns _ _ (Ext.refl _) ?_ ?_ ?_ ?_ ?_ ?_ ?_ ?_ ?_
        · exact (have fx := t1; Sd)
        · exact (have fx := t2; Sd)
        · exact (have fx := t3; Sd)
        · exact (have fx := t7; Sd)
        · exact (have fx := t8; Sd)
        · exact (have fx := And.intro t9 ho; Sd)
        · exact (have fx := t10; Sd)
        · exact (have fx := t11; Sd)
        · exact Sd0
      have hcl := opn_lt ho
      rw [ho] at hns t9
      simp only [Bool.true_and] at hns
      have hw35 := u8eq (S.data.toList.getD n 0) 35 (by omega)
      have hw35' : (((S.data.toList.getD n 0).toNat : Int) == (35 : Int)) = (S.data.toList.getD n 0 == 35) := hw35
      have hon : opn S (n : Int) = (S.data.toList.getD n 0 != 35) := by
        simp only [opn, bAt, Int.toNat_natCast]
        have h1 : (0 : Int) ≤ (n : Int) := by omega
        simp [hlt']
      cases hwl : S.data.toList.getD n 0 == 35
      rotate_left
      · rw [hwl] at hw35'
        have hon' : opn S (n : Int) = false := by rw [hon, bne, hwl]; rfl
        rw [hon'] at hns
        simp only [Bool.false_and, Bool.false_eq_true, if_false] at hns
        (have fx := And.intro t3 (And.intro t9 (And.intro t12 (And.intro g hw35'))); refine stepR ?_; clear fx)
        refine skip hns _ _ (Ext.refl _) ?_ ?_ ?_ ?_ ?_ ?_ ?_ ?_ ?_
        · exact (have fx := t1; Sd)
        · exact (have fx := t2; Sd)
        · exact (have fx := t3; Sd)
        · exact (have fx := t7; Sd)
        · exact (have fx := t8; Sd)
        · exact (have fx := And.intro t9 ho; Sd)
        · exact (have fx := t10; Sd)
        · exact (have fx := t11; Sd)
        · exact Sd0
      rw [hwl] at hw35'
      have hon' : opn S (n : Int) = true := by rw [hon, bne, hwl]; rfl
      rw [hon'] at hns
      simp only [Bool.true_and] at hns
      (have fx := And.intro t1 (And.intro t3 (And.intro t9 (And.intro t12 (And.intro g hw35')))); refine stepR ?_; clear fx)
      refine ml_call Sd0 (have fx := t12; Sd) (rBeside_c W c n τ' hW (by omega) (by omega)) ?_
      rintro _ τ2 ⟨rfl, hτ2⟩
      have e2 : Ext τ' τ2 := hτ2 ▸ Ext.refl _
      clear hτ2
      cases hbs : beside W c n
      · rw [hbs] at hns
        simp only [Bool.false_eq_true, if_false] at hns
        (have fx := t12; refine stepR ?_; clear fx)
        refine skip hns _ _ e2 ?_ ?_ ?_ ?_ ?_ ?_ ?_ ?_ ?_
        · exact (have fx := t1; Sd)
        · exact (have fx := t2; Sd)
        · exact (have fx := t3; Sd)
        · exact (have fx := t7; Sd)
        · exact (have fx := t8; Sd)
        · exact (have fx := And.intro t9 ho; Sd)
        · exact (have fx := t10; Sd)
        · exact (have fx := t11; Sd)
        · exact Sd0
      rw [hbs] at hns
      simp only [if_true] at hns
      have rl2 := rl.of_ext e2
      have hgn : gnear W Hh S c true = filL (fun i => opn S (i : Int) && beside W c i) S.size := by rw [gnear, ho, Bool.and_self, if_pos rfl, near_fil hW ho]
      have hat := filL_at (p := fun i => opn S (i : Int) && beside W c i) (n := n) (by rw [hon', hbs]; rfl) hlt
      have hne : nearN W S c n = (filL (fun i => opn S (i : Int) && beside W c i) n).length := by unfold nearN; rw [if_pos ho]
      rw [← hne, ← hgn] at hat
      have hll : nearN W S c n < (gnear W Hh S c true).length := (List.getElem?_eq_some_iff.1 hat).1
      have hge' : ¬ ((gnear W Hh S c true).length : Int) ≤ ((nearN W S c n : Nat) : Int) := by omega
      have hnn' : (((n : Nat) : Int) != ((n : Nat) : Int)) = false := by simp
      (have fx := And.intro t7 t10; refine stepR ?_; clear fx)
      refine ml_len Sd0 rl2 (have fx := t7; Sd) ?_
      rw [ints_len]
      (have fx := And.intro hge' (And.intro t7 t10); refine stepR ?_; clear fx)
      refine ml_getSg (e := .int .i64 n) Sd0 rl2 (have fx := t7; Sd) (have fx := t10; Sd) (by omega) (by rw [Int.toNat_natCast]; unfold ints; rw [List.getElem?_map]; exact congrArg (Option.map (Value.int .i64)) hat) (fun p => (have fx := hge'; Sd)) fun p => ?_
      have g2 := e2.cells g
      (have fx := And.intro hge' (And.intro t3 (And.intro t10 (And.intro t12 (And.intro hnn' g2)))); refine stepR ?_; clear fx)
      refine ml_call Sd0 Sd0 (gOf_c W Hh S τ2) ?_
      rintro _ τ3 ⟨rfl, e3⟩
      (have fx := t12; refine stepR ?_; clear fx)
      refine ml_call Sd0 (have fx := t12; Sd) (gnear_c W Hh S n τ3) ?_
      intro bv τ4 ⟨e4, bo, own, hid⟩
      have hbk : gnear W Hh S n (gr W Hh S) = nearL W S n := by rw [gnear, hg, hon', Bool.and_self, if_pos rfl]
      rw [hbk] at own
      have hb4 : (nearL W S n).length ≤ 64 := by rw [near_fil hW hon']; exact Nat.le_trans (filL_len _ _) hS64
      have hmem : c ∈ nearL W S n := near_symm hW ho ((near_iff hW ho).2 ⟨hon', hbs⟩)
      have e24 := e2.trans (e3.trans e4)
      refine stepR0 ?_
      refine mx_loop (fun m ts' τ5 => ∃ q, m = (nearL W S n).length - q ∧ q ≤ (nearL W S n).length ∧ τ5 = τ4 ∧ ts' 1 = .int .i64 c ∧ ts' 2 = .int .u8 kind ∧ ts' 3 = .pointer (some ⟨σ.size, 0, none⟩) ∧ ts' 7 = lv ∧ ts' 8 = kv ∧ ts' 9 = .bool true ∧ ts' 10 = .int .i64 (((nearN W S c n : Nat) : Int) + 1) ∧ ts' 11 = .int .i64 ((kindN S kb (n + 1) : Nat) : Int) ∧ ts' 12 = .int .i64 ((n : Nat) : Int) ∧ ts' 13 = bv ∧ ts' 14 = .bool (((nearL W S n).take q).any (· == c)) ∧ ts' 15 = .int .i64 ((q : Nat) : Int)) (nearL W S n).length ?_ ?_
      · exact ⟨0, rfl, by omega, rfl, (have fx := t1; Sd), (have fx := t2; Sd), (have fx := t3; Sd), (have fx := t7; Sd), (have fx := t8; Sd), (have fx := t9; Sd), Sd0, (have fx := t11; Sd), (have fx := t12; Sd), Sd0, (by first | with_reducible rfl | (simp only [go_sem, reduceIte, Nat.reduceEqDiff, reduceCtorEq, Nat.reduceAdd, Nat.reduceLeDiff, Int.reduceNeg, Int.reduceToNat, Int.reduceBEq, Int.reduceBNe, Int.reduceLT, Int.reduceLE, Int.reduceAdd, Int.reduceSub, List.take_zero, List.any_nil]; done) | (simp only [go_sem, reduceIte, Nat.reduceEqDiff, reduceCtorEq, Nat.reduceAdd, Nat.reduceLeDiff, Int.reduceNeg, Int.reduceToNat, Int.reduceBEq, Int.reduceBNe, Int.reduceLT, Int.reduceLE, Int.reduceAdd, Int.reduceSub, List.take_zero, List.any_nil]; with_reducible rfl) | (simp only [go_sem, reduceIte, Nat.reduceEqDiff, reduceCtorEq, Nat.reduceAdd, Nat.reduceLeDiff, Int.reduceNeg, Int.reduceToNat, Int.reduceBEq, Int.reduceBNe, Int.reduceLT, Int.reduceLE, Int.reduceAdd, Int.reduceSub, List.take_zero, List.any_nil]; (try simp (disch := omega) only [i64wrap, u64wrap, u8wrap, u32wrap, i32wrap]); first | with_reducible rfl | done | (refine congrArg (Value.int _) ?_; omega)) | (simp only [go_sem, reduceIte, Nat.reduceEqDiff, reduceCtorEq, Nat.reduceAdd, Nat.reduceLeDiff, Int.reduceNeg, Int.reduceToNat, Int.reduceBEq, Int.reduceBNe, Int.reduceLT, Int.reduceLE, Int.reduceAdd, Int.reduceSub, List.take_zero, List.any_nil]; rfl)), Sd0⟩
      clear t1 t2 t3 t7 t8 t9 t10 t11 t12 ts
      rintro m ts τ5 ⟨q, rfl, hq, rfl, t1, t2, t3, t7, t8, t9, t10, t11, t12, t13, t14, t15⟩
      (have fx := And.intro t13 t15; refine stepR ?_; clear fx)
      refine ml_len Sd0 own.rd (have fx := t13; Sd) ?_
      rw [ints_len]
      rcases Nat.lt_or_ge q (nearL W S n).length with hql | hqg
      · have hql' : ((q : Nat) : Int) < ((nearL W S n).length : Int) := by omega
        have hta : ((nearL W S n).take (q + 1)).any (· == c) = (((nearL W S n).take q).any (· == c) || ((nearL W S n).getD q 0 == c)) := by
          rw [List.take_add_one, List.getElem?_eq_getElem hql, List.any_append, List.getD_eq_getElem?_getD, List.getElem?_eq_getElem hql]; simp
        cases hf : ((nearL W S n).take q).any (· == c)
        · rw [hf] at t14 hta
          (have fx := And.intro t13 (And.intro t14 (And.intro t15 hql')); refine stepR ?_; clear fx)
          refine ml_getSg Sd0 own.rd (have fx := t13; Sd) (have fx := t15; Sd) (by omega) (by rw [Int.toNat_natCast]; exact ints_at hql) (fun p => (have fx := t14; Sd)) fun p => ?_
          (have fx := And.intro t1 (And.intro t14 t15); refine stepR ?_; clear fx)
          refine ⟨_, by omega, q + 1, rfl, hql, rfl, (have fx := t1; Sd), (have fx := t2; Sd), (have fx := t3; Sd), (have fx := t7; Sd), (have fx := t8; Sd), (have fx := t9; Sd), (have fx := t10; Sd), (have fx := t11; Sd), (have fx := t12; Sd), (have fx := t13; Sd), (have fx := hta; Sd), Sd0⟩
        · rw [hf] at t14 hta
          (have fx := And.intro t13 (And.intro t14 (And.intro t15 hql')); refine stepR ?_; clear fx)
          refine ⟨_, by omega, q + 1, rfl, hql, rfl, (have fx := t1; Sd), (have fx := t2; Sd), (have fx := t3; Sd), (have fx := t7; Sd), (have fx := t8; Sd), (have fx := t9; Sd), (have fx := t10; Sd), (have fx := t11; Sd), (have fx := t12; Sd), (have fx := t13; Sd), (have fx := hta; Sd), Sd0⟩
      · obtain rfl : q = (nearL W S n).length := by omega
        have hql' : ¬ ((nearL W S n).length : Int) < ((nearL W S n).length : Int) := by omega
        have hany : (nearL W S n).any (· == c) = true := List.any_eq_true.2 ⟨c, hmem, by simp⟩
        rw [List.take_length, hany] at t14
        (have fx := And.intro t12 (And.intro t13 (And.intro t14 (And.intro t15 hql'))); refine stepR ?_; clear fx)
        exact ⟨_, by omega, n + 1, rfl, hlt, (have fx := t1; Sd), (have fx := t2; Sd), (have fx := t3; Sd), (have fx := t7; Sd), (have fx := t8; Sd), (have fx := And.intro t9 ho; Sd), (have fx := And.intro t10 hns; Sd), (have fx := t11; Sd), (have fx := t12; Sd), e24.cells g, rl.of_ext e24, rk.of_ext e24⟩
  · obtain rfl : n = S.size := by omega
    have hnl : ¬ (S.size : Int) < (S.size : Int) := by omega
    have heq1 : (((nearN W S c S.size : Nat) : Int) == ((nearN W S c S.size : Nat) : Int)) = true := by simp
    have heq2 : (((kindN S kb S.size : Nat) : Int) == ((kindN S kb S.size : Nat) : Int)) = true := by simp
    have hKl : (filL (fun i => S.data.toList.getD i 0 == kb) S.size).length = kindN S kb S.size := rfl
    (have fx := And.intro t1 (And.intro t2 (And.intro t3 (And.intro t12 (And.intro g (And.intro hnl (And.intro t10 t7)))))); refine stepR ?_; clear fx)
    refine ml_len Sd0 rl (have fx := t7; Sd) ?_
    rw [ints_len, hLl]
    (have fx := And.intro heq1 (And.intro t8 (And.intro t11 t10)); refine stepR ?_; clear fx)
    refine ml_len (have fx := heq1; Sd) rk (have fx := t8; Sd) ?_
    rw [ints_len, hKl]
    (have fx := And.intro heq1 (And.intro heq2 t11); refine stepR ?_; clear fx)
    exact fin1 (have fx := And.intro heq1 heq2; Sd)
end Go.Proofs.YtgfmphjccnemmaaDoor
