/- FieldSteps. -/
import Derived.Test.YtcjogomiiinkfaaDoorFieldG
namespace Go.Proofs.YtcjogomiiinkfaaDoor
open Go.Mini
open Go.Proofs.YtcjogomiiinkfaaDoor.Code
set_option linter.unusedVariables false
set_option linter.unusedSimpArgs false
set_option linter.ambiguousOpen false
attribute [local irreducible] mx ml mld mstep MCalls Ex.thn Ex.inb
variable {E : World → Prop}
section
variable {W Hh : Int} {S : ByteArray} {s : Int} {st : Int} {f : List Int}
/-- In a right map each open cell is so many steps from an open source. -/
theorem fs_dist (hg : gr W Hh S = true) (hs : opn S s = true) (hc : Cst W S [s] st f) {x : Int} (hx : opn S x = true) : ∃ k : Nat, Wk W S [s] k x ∧ (∀ j, Wk W S [s] j x → k ≤ j) ∧ f.getD x.toNat 0 = st * k ∧ k < S.size := by
  rcases cst_at hc hx with ⟨_, h⟩ | ⟨k, h1, h2, h3⟩
  · obtain ⟨_, c0, hc0, hC, hr⟩ := gr_all hg
    have hop : opn S (c0 : Int) = true := by
      simp only [opn, bAt, Int.toNat_natCast, hC]
      have h6 : (c0 : Int) < (S.size : Int) := by omega
      simp [h6]
    obtain ⟨k, hk⟩ := reach_wk hs (((hr s hs).symm (gr_size hg).1 hop).trans (hr x hx))
    exact absurd hk (h k)
  · exact ⟨k, h1, h2, h3, h1.short h2⟩
theorem fs_wall (hc : Cst W S [s] st f) {i : Nat} (hi : i < S.size) (hx : opn S (i : Int) = false) : f.getD i 0 = -1 := by
  rcases hc.2 i hi with ⟨h, _⟩ | ⟨k, h1, _⟩
  · exact h
  · rw [h1.opn] at hx; cases hx
theorem fs_diff (hg : gr W Hh S = true) (hs : opn S s = true) (hc : Cst W S [s] st f) (h1 : 1 ≤ st) {x n : Int} (hx : opn S x = true) (hn : n ∈ nearL W S x) : f.getD n.toNat 0 - f.getD x.toNat 0 ≤ st ∧ -st ≤ f.getD n.toNat 0 - f.getD x.toNat 0 := by
  obtain ⟨a, a1, a2, a3, _⟩ := fs_dist hg hs hc hx
  obtain ⟨b, b1, b2, b3, _⟩ := fs_dist hg hs hc (near_opn hn)
  have h2 := b2 (a + 1) (.step a1 hn)
  have h3 := a2 (b + 1) (.step b1 (near_symm (gr_size hg).1 hx hn))
  rw [a3, b3]
  have e1 : st * (b : Int) ≤ st * ((a + 1 : Nat) : Int) := Int.mul_le_mul_of_nonneg_left (by omega) (by omega)
  have e2 : st * (a : Int) ≤ st * ((b + 1 : Nat) : Int) := Int.mul_le_mul_of_nonneg_left (by omega) (by omega)
  rw [Int.natCast_add, Int.mul_add] at e1 e2
  simp at e1 e2
  omega
theorem fs_less (hg : gr W Hh S = true) (hs : opn S s = true) (hc : Cst W S [s] st f) {x : Int} (hx : opn S x = true) (hne : x ≠ s) : ∃ n ∈ nearL W S x, f.getD n.toNat 0 - f.getD x.toNat 0 = -st := by
  obtain ⟨a, a1, a2, a3, _⟩ := fs_dist hg hs hc hx
  cases a1 with
  | src h _ => simp at h; exact absurd h hne
  | @step k y _ hy hxy =>
    have hyx := near_symm (gr_size hg).1 hy.opn hxy
    refine ⟨y, hyx, ?_⟩
    obtain ⟨b, b1, b2, b3, _⟩ := fs_dist hg hs hc hy.opn
    have h1 := b2 k hy
    have h2 := a2 (b + 1) (.step b1 hxy)
    obtain rfl : b = k := by omega
    rw [a3, b3, Int.natCast_add, Int.mul_add]; simp; omega
end
theorem path_last {W : Int} {S : ByteArray} {x y : Int} {out : List Int} (h : PathTo W S x out y) : (out = [] ∧ y = x) ∨ (0 < out.length ∧ out.getD (out.length - 1) 0 = y) := by
  induction h with
  | nil x => exact .inl ⟨rfl, rfl⟩
  | @cons x h y out hn t ih =>
    right
    refine ⟨by simp, ?_⟩
    rcases ih with ⟨rfl, rfl⟩ | ⟨h1, h2⟩
    · rfl
    · rw [← h2, List.length_cons, show out.length + 1 - 1 = (out.length - 1) + 1 by omega, List.getD_cons_succ]
theorem sgn_opn {S : ByteArray} {i : Nat} (hi : i < S.size) : opn S (i : Int) = !(S.data.toList.getD i 0 == 35) := by
  simp only [opn, bAt, Int.toNat_natCast]
  have h1 : (i : Int) < (S.size : Int) := by omega
  simp [h1, bne]

set_option maxHeartbeats 4000000 in
theorem fieldSteps_c (W Hh : Int) (S : ByteArray) {σ : H} (so c step : Nat) (hso : so < 256) (hc : c < 256) (hstp : step < 256) :
    MCalls E Tryd.prog 6 [mapV W Hh S, .int .u8 so, .int .u8 c, .int .u8 step] σ (fun v τ => v = .bool true) := by
  refine mcalls_of fn6 (by simp) ?_
  unfold c6 r6 mapV
  refine stepR0 ?_
  refine ml_call Sd0 Sd0 (fAwake_c _) ?_
  rintro _ τ ⟨rfl, e1⟩
  have g1 := e1.cells (H.get_push_self σ _)
  (have fx := g1; refine stepR ?_; clear fx)
  refine ml_call Sd0 Sd0 (rRight_c W Hh S τ) ?_
  rintro _ τ2 ⟨rfl, e2⟩
  cases hg : gr W Hh S
  · refine stepR0 ?_
    refine ml_call Sd0 Sd0 (fAwake_c _) ?_
    rintro _ τ3 ⟨rfl, e3⟩
    refine stepR0 ?_
    exact fin1 Sd0
  have g2 := e2.cells g1
  have hgs := gr_size hg
  obtain ⟨hS1, hS64⟩ := hgs.2.2.2.1
  have hSne : (S.size : Int) ≠ 0 := by omega
  have hmod : ∀ c : Nat, ∃ k : Nat, k < S.size ∧ ((c : Int).tmod (S.size : Int)) = (k : Int) := fun c => ⟨c % S.size, Nat.mod_lt _ (by omega), by rw [Int.tmod_eq_emod_of_nonneg (by omega)]; rfl⟩
  obtain ⟨s, hsl, hsm⟩ := hmod so
  obtain ⟨at_, hal, ham⟩ := hmod c
  obtain ⟨k0, hk0, hkm⟩ : ∃ k : Nat, k < 9 ∧ ((step : Int).tmod 9) = (k : Int) := ⟨step % 9, Nat.mod_lt _ (by omega), by rw [Int.tmod_eq_emod_of_nonneg (by omega)]; rfl⟩
  (have fx := And.intro g2 (And.intro hsm hkm); refine stepR ?_; clear fx)
  refine ml_call Sd0 Sd0 (gOf_c W Hh S τ2) ?_
  rintro _ τ3 ⟨rfl, e3⟩
  have g3 := e3.cells g2
  obtain ⟨k, hkd⟩ : ∃ k : Int, k = 1 + (k0 : Int) := ⟨_, rfl⟩
  have hkb : 1 ≤ k ∧ k ≤ 9 := by omega
  (have fx := And.intro hsm hkm; refine stepR ?_; clear fx)
  refine ml_call Sd0 (have fx := And.intro hkm hkd; Sd) (costs_c W Hh S [(s : Int)] k _ _ (one_rd (H.get_push_self _ _))) ?_
  intro v τ4 hcr
  obtain ⟨fv, f, rfl, hcf, hof⟩ := cost_ok hcr (by simp [costOK, hg]; omega)
  have g4 : τ4.get σ.size = .cells 0 [.int .i64 W, .int .i64 Hh, .string S] := hof.1.cells ((Ext.push _ _).cells g3)
  have rf := hof.rd
  have lf := hcf.1
  have hne0 : ((S.size : Int) != (S.size : Int)) = false := by simp
  clear hof hcr g3 g2 g1 e1 e2 e3
  refine stepR0 ?_
  refine ml_call Sd0 Sd0 (tNumN_c τ4) ?_
  rintro _ τ5 ⟨rfl, rfl⟩
  refine stepR0 ?_
  refine ml_len Sd0 rf Sd0 ?_
  rw [ints_len, lf]
  (have fx := And.intro g4 hne0; refine stepR ?_; clear fx)
  have hss : (s : Int) < (S.size : Int) := by omega
  have hu35 : ∀ i : Nat, (((S.data.toList.getD i 0).toNat : Int) == (35 : Int)) = (S.data.toList.getD i 0 == 35) := fun i => u8eq _ 35 (by omega)
  have hu := hu35 s
  have hwo := sgn_opn hsl
  have afs := ints_at (l := f) (i := s) (by omega)
  cases hb : S.data.toList.getD s 0 == 35
  rotate_left
  · rw [hb] at hu hwo
    have hf1 := fs_wall hcf hsl hwo
    rw [hf1] at afs
    (have fx := And.intro g4 (And.intro hsm hu); refine stepR ?_; clear fx)
    refine ml_getSg (e := .int .i64 (-1)) Sd0 rf Sd0 (have fx := hsm; Sd) (by omega) (by rw [Int.toNat_natCast]; exact afs) (fun p => Sd0) fun p => ?_
    (have fx := And.intro g4 hsm; refine stepR ?_; clear fx)
    refine ml_call Sd0 Sd0 (gOf_c W Hh S _) ?_
    rintro _ τ5 ⟨rfl, e5⟩
    (have fx := hsm; refine stepR ?_; clear fx)
    refine ml_call Sd0 (have fx := hsm; Sd) (fWay_c W Hh S (rf.of_ext e5) (s : Int)) ?_
    rintro wv τ6 ⟨out, how, hway⟩
    obtain rfl := way_none (by unfold downOK; rw [hwo]; simp) hway
    refine stepR0 ?_
    refine ml_len Sd0 how.rd Sd0 ?_
    rw [ints_len, List.length_nil]
    refine stepR0 ?_
    exact fin1 Sd0
  rw [hb] at hu hwo
  have hwo : opn S (s : Int) = true := hwo
  (have fx := And.intro g4 (And.intro hsm hu); refine stepR ?_; clear fx)
  refine mx_loop (fun n ts τ => ∃ i, n = S.size - i ∧ i ≤ S.size ∧ ts 2 = .int .u8 c ∧ ts 4 = .pointer (some ⟨σ.size, 0, none⟩) ∧ ts 9 = .int .i64 (s : Int) ∧ ts 10 = .int .i64 k ∧ ts 11 = fv ∧ ts 13 = .int .i64 ((i : Nat) : Int) ∧ τ.get σ.size = .cells 0 [.int .i64 W, .int .i64 Hh, .string S] ∧ Rd τ fv (ints f)) S.size ?_ ?_
  · exact ⟨0, rfl, by omega, Sd0, Sd0, (have fx := hsm; Sd), (have fx := And.intro hkm hkd; Sd), Sd0, Sd0, g4, rf⟩
  clear g4 rf
  rintro n ts τ ⟨i, rfl, hi, t2, t4, t9, t10, t11, t13, g, rf⟩
  (have fx := And.intro t11 t13; refine stepR ?_; clear fx)
  refine ml_len Sd0 rf (have fx := t11; Sd) ?_
  rw [ints_len, lf]
  rcases Nat.lt_or_ge i S.size with hil | hig
  · have hil' : ((i : Nat) : Int) < (S.size : Int) := by omega
    have ui := hu35 i
    have oi := sgn_opn hil
    have afi := ints_at (l := f) (i := i) (by omega)
    have hfi : (opn S (i : Int) = false → f.getD i 0 = -1) ∧ (opn S (i : Int) = true → 0 ≤ f.getD i 0 ∧ f.getD i 0 ≤ 9 * 64) := by
      refine ⟨fun h => fs_wall hcf hil h, fun h => ?_⟩
      obtain ⟨d, _, _, h3, h4⟩ := fs_dist hg hwo hcf h
      rw [Int.toNat_natCast] at h3
      rw [h3]
      exact ⟨Int.mul_nonneg (by omega) (by omega), Int.mul_le_mul (by omega) (by omega) (by omega) (by omega)⟩
    generalize hF : f.getD i 0 = fi at afi hfi
    (have fx := And.intro hil' (And.intro t11 t13); refine stepR ?_; clear fx)
    refine mld_mid (fun ts2 τ2 => τ2 = τ ∧ ts2 2 = .int .u8 c ∧ ts2 4 = .pointer (some ⟨σ.size, 0, none⟩) ∧ ts2 9 = .int .i64 (s : Int) ∧ ts2 10 = .int .i64 k ∧ ts2 11 = fv ∧ ts2 13 = .int .i64 ((i : Nat) : Int) ∧ ts2 93 = .bool false) ?_ ?_
    · refine mld_getS (e := .int .i64 fi) Sd0 rf (have fx := t11; Sd) (have fx := t13; Sd) (by omega) (by rw [Int.toNat_natCast]; exact afi) (fun p => Sd0) fun p => ?_
      cases hw : S.data.toList.getD i 0 == 35
      · rw [hw] at ui oi
        have h1 := (hfi.2 oi).1
        have h2 : ¬ fi < 0 := by omega
        (have fx := And.intro t4 (And.intro g (And.intro t13 (And.intro ui h2))); refine stepR ?_; clear fx)
        exact ⟨rfl, (have fx := t2; Sd), (have fx := t4; Sd), (have fx := t9; Sd), (have fx := t10; Sd), (have fx := t11; Sd), (have fx := t13; Sd), (have fx := And.intro h2 ui; Sd)⟩
      · rw [hw] at ui oi
        have h1 := hfi.1 oi
        subst h1
        (have fx := And.intro t4 (And.intro g (And.intro t13 ui)); refine stepR ?_; clear fx)
        exact ⟨rfl, (have fx := t2; Sd), (have fx := t4; Sd), (have fx := t9; Sd), (have fx := t10; Sd), (have fx := t11; Sd), (have fx := t13; Sd), (have fx := ui; Sd)⟩
    clear t2 t4 t9 t10 t11 t13 ts
    rintro ts τ2 ⟨rfl, t2, t4, t9, t10, t11, t13, t93⟩
    (have fx := And.intro t93 (And.intro t4 g); refine stepR ?_; clear fx)
    refine ml_call Sd0 Sd0 (gOf_c W Hh S _) ?_
    rintro _ τ3 ⟨rfl, e3⟩
    (have fx := t13; refine stepR ?_; clear fx)
    refine ml_call Sd0 (have fx := t13; Sd) (gnear_c W Hh S (i : Int) τ3) ?_
    intro nv τ4 hon
    rw [hg] at hon
    have e4 := e3.trans hon.1
    have g4 := e4.cells g
    have rf4 := rf.of_ext e4
    have rn := hon.rd
    clear hon g rf e3 e4
    have hdiff : ∀ x ∈ gnear W Hh S (i : Int) true, opn S x = true ∧ f.getD x.toNat 0 - fi ≤ k ∧ -k ≤ f.getD x.toNat 0 - fi ∧ 0 ≤ f.getD x.toNat 0 ∧ f.getD x.toNat 0 ≤ 9 * 64 ∧ 0 ≤ fi ∧ fi ≤ 9 * 64 := fun x hx => by
      unfold gnear at hx
      cases ho : opn S (i : Int)
      · rw [ho, Bool.and_false, if_neg (by simp)] at hx; cases hx
      · rw [ho, Bool.and_self, if_pos rfl] at hx
        obtain ⟨h1, h2⟩ := fs_diff hg hwo hcf (by omega) ho hx
        have hxo := near_opn hx
        obtain ⟨d, _, _, h3, h4⟩ := fs_dist hg hwo hcf hxo
        rw [Int.toNat_natCast, hF] at h1 h2
        refine ⟨hxo, h1, h2, ?_, ?_, hfi.2 ho⟩
        · rw [h3]; exact Int.mul_nonneg (by omega) (by omega)
        · rw [h3]; exact Int.mul_le_mul (by omega) (by omega) (by omega) (by omega)
    have hless : opn S (i : Int) = true → (decide ((i : Int) = (s : Int)) || (gnear W Hh S (i : Int) true).any (fun x => f.getD x.toNat 0 - fi == -k)) = true := fun ho => by
      by_cases his : (i : Int) = (s : Int)
      · rw [decide_eq_true his, Bool.true_or]
      · obtain ⟨x, hx, h1⟩ := fs_less hg hwo hcf ho his
        rw [Int.toNat_natCast, hF] at h1
        rw [Bool.or_eq_true]
        right
        rw [List.any_eq_true]
        refine ⟨x, ?_, by rw [h1]; simp⟩
        unfold gnear; rw [ho, Bool.and_self, if_pos rfl]; exact hx
    generalize hL : gnear W Hh S (i : Int) true = L at *
    have hLn : L.length ≤ 4 := by
      rw [← hL]; unfold gnear; split
      · exact nearL_len ..
      · simp
    clear hL
    have heqs : ((i : Int) == (s : Int)) = decide ((i : Int) = (s : Int)) := rfl
    (have fx := And.intro t13 t9; refine stepR ?_; clear fx)
    refine mx_loop (fun n ts τ => ∃ j, n = L.length - j ∧ j ≤ L.length ∧ τ = τ4 ∧ ts 2 = .int .u8 c ∧ ts 4 = .pointer (some ⟨σ.size, 0, none⟩) ∧ ts 9 = .int .i64 (s : Int) ∧ ts 10 = .int .i64 k ∧ ts 11 = fv ∧ ts 13 = .int .i64 ((i : Nat) : Int) ∧ ts 14 = nv ∧ ts 15 = .bool (decide ((i : Int) = (s : Int)) || (L.take j).any (fun x => f.getD x.toNat 0 - fi == -k)) ∧ ts 16 = .int .i64 ((j : Nat) : Int)) L.length ?_ ?_
    · refine ⟨0, rfl, by omega, rfl, (have fx := t2; Sd), (have fx := t4; Sd), (have fx := t9; Sd), (have fx := t10; Sd), (have fx := t11; Sd), (have fx := t13; Sd), Sd0, ?_, Sd0⟩
      rw [List.take_zero, List.any_nil, Bool.or_false]
      exact (have fx := heqs; Sd)
    clear t2 t4 t9 t10 t11 t13 t93 ts
    rintro n ts τ ⟨j, rfl, hj, rfl, t2, t4, t9, t10, t11, t13, t14, t15, t16⟩
    (have fx := And.intro t14 t16; refine stepR ?_; clear fx)
    refine ml_len Sd0 rn (have fx := t14; Sd) ?_
    rw [ints_len]
    rcases Nat.lt_or_ge j L.length with hjl | hjg
    · have hjl' : ((j : Nat) : Int) < (L.length : Int) := by omega
      have hnj : L.getD j 0 ∈ L := by
        rw [List.getD_eq_getElem?_getD, List.getElem?_eq_getElem hjl]; exact List.getElem_mem hjl
      have aj := ints_at hjl
      have htk : (L.take (j + 1)).any (fun x => f.getD x.toNat 0 - fi == -k) = ((L.take j).any (fun x => f.getD x.toNat 0 - fi == -k) || (f.getD (L.getD j 0).toNat 0 - fi == -k)) := by
        have hge : L.getD j 0 = L[j] := by rw [List.getD_eq_getElem?_getD, List.getElem?_eq_getElem hjl]; rfl
        rw [hge, List.take_succ_eq_append_getElem hjl, List.any_append, List.any_cons, List.any_nil, Bool.or_false]
      obtain ⟨d1, d2, d3, d4, d5, d6, d7⟩ := hdiff _ hnj
      generalize hnx : L.getD j 0 = nx at d1 d2 d3 d4 d5 aj htk
      have hnl := opn_lt d1
      have anx := ints_at (l := f) (i := nx.toNat) (by omega)
      generalize hfx : f.getD nx.toNat 0 = fx' at d2 d3 d4 d5 anx htk
      have h1 : ¬ k < fx' - fi := by omega
      have h2 : ¬ fx' - fi < -k := by omega
      (have fx := And.intro hjl' (And.intro t11 (And.intro t14 t16)); refine stepR ?_; clear fx)
      refine mld_getS (e := .int .i64 nx) Sd0 rn (have fx := t14; Sd) (have fx := t16; Sd) (by omega) (by rw [Int.toNat_natCast]; exact aj) (fun p => Sd0) fun p => ?_
      refine mld_getS (e := .int .i64 fx') Sd0 rf4 (have fx := t11; Sd) Sd0 hnl.1 anx (fun p => Sd0) fun p => ?_
      (have fx := And.intro t11 t13; refine stepR ?_; clear fx)
      refine mld_getS (e := .int .i64 fi) Sd0 rf4 (have fx := t11; Sd) (have fx := t13; Sd) (by omega) (by rw [Int.toNat_natCast]; exact afi) (fun p => Sd0) fun p => ?_
      have post : ∀ ts2 : Fr, ts2 2 = .int .u8 c → ts2 4 = .pointer (some ⟨σ.size, 0, none⟩) → ts2 9 = .int .i64 (s : Int) → ts2 10 = .int .i64 k → ts2 11 = fv → ts2 13 = .int .i64 ((i : Nat) : Int) → ts2 14 = nv → ts2 15 = .bool (decide ((i : Int) = (s : Int)) || (L.take (j + 1)).any (fun x => f.getD x.toNat 0 - fi == -k)) → ts2 16 = .int .i64 (((j + 1 : Nat)) : Int) →
          ∃ m, m < L.length - j ∧ ∃ j, m = L.length - j ∧ j ≤ L.length ∧ τ = τ ∧ ts2 2 = .int .u8 c ∧ ts2 4 = .pointer (some ⟨σ.size, 0, none⟩) ∧ ts2 9 = .int .i64 (s : Int) ∧ ts2 10 = .int .i64 k ∧ ts2 11 = fv ∧ ts2 13 = .int .i64 ((i : Nat) : Int) ∧ ts2 14 = nv ∧ ts2 15 = .bool (decide ((i : Int) = (s : Int)) || (L.take j).any (fun x => f.getD x.toNat 0 - fi == -k)) ∧ ts2 16 = .int .i64 ((j : Nat) : Int) :=
        fun ts2 a2 a4 a9 a10 a11 a13 a14 a15 a16 => ⟨_, by omega, j + 1, rfl, hjl, rfl, a2, a4, a9, a10, a11, a13, a14, a15, a16⟩
      rw [htk, ← Bool.or_assoc] at post
      rcases Bool.eq_false_or_eq_true (decide ((i : Int) = (s : Int)) || (L.take j).any (fun x => f.getD x.toNat 0 - fi == -k)) with hq | hq
      · rw [hq] at t15
        rw [hq, Bool.true_or] at post
        (have fx := And.intro h1 (And.intro h2 (And.intro t10 (And.intro t15 t16))); refine stepR ?_; clear fx)
        exact post _ (have fx := t2; Sd) (have fx := t4; Sd) (have fx := t9; Sd) (have fx := t10; Sd) (have fx := t11; Sd) (have fx := t13; Sd) (have fx := t14; Sd) (by first | with_reducible rfl | (simp only [go_sem, reduceIte, Nat.reduceEqDiff, reduceCtorEq, Nat.reduceAdd, Nat.reduceLeDiff, Int.reduceNeg, Int.reduceToNat, Int.reduceBEq, Int.reduceBNe, Int.reduceLT, Int.reduceLE, Int.reduceAdd, Int.reduceSub, t15, Int.zero_sub]; done) | (simp only [go_sem, reduceIte, Nat.reduceEqDiff, reduceCtorEq, Nat.reduceAdd, Nat.reduceLeDiff, Int.reduceNeg, Int.reduceToNat, Int.reduceBEq, Int.reduceBNe, Int.reduceLT, Int.reduceLE, Int.reduceAdd, Int.reduceSub, t15, Int.zero_sub]; with_reducible rfl) | (simp only [go_sem, reduceIte, Nat.reduceEqDiff, reduceCtorEq, Nat.reduceAdd, Nat.reduceLeDiff, Int.reduceNeg, Int.reduceToNat, Int.reduceBEq, Int.reduceBNe, Int.reduceLT, Int.reduceLE, Int.reduceAdd, Int.reduceSub, t15, Int.zero_sub]; (try simp (disch := omega) only [i64wrap, u64wrap, u8wrap, u32wrap, i32wrap]); first | with_reducible rfl | done | (refine congrArg (Value.int _) ?_; omega)) | (simp only [go_sem, reduceIte, Nat.reduceEqDiff, reduceCtorEq, Nat.reduceAdd, Nat.reduceLeDiff, Int.reduceNeg, Int.reduceToNat, Int.reduceBEq, Int.reduceBNe, Int.reduceLT, Int.reduceLE, Int.reduceAdd, Int.reduceSub, t15, Int.zero_sub]; rfl)) Sd0
      · rw [hq] at t15
        rw [hq, Bool.false_or] at post
        (have fx := And.intro h1 (And.intro h2 (And.intro t10 (And.intro t15 t16))); refine stepR ?_; clear fx)
        exact post _ (have fx := t2; Sd) (have fx := t4; Sd) (have fx := t9; Sd) (have fx := t10; Sd) (have fx := t11; Sd) (have fx := t13; Sd) (have fx := t14; Sd) (by first | with_reducible rfl | (simp only [go_sem, reduceIte, Nat.reduceEqDiff, reduceCtorEq, Nat.reduceAdd, Nat.reduceLeDiff, Int.reduceNeg, Int.reduceToNat, Int.reduceBEq, Int.reduceBNe, Int.reduceLT, Int.reduceLE, Int.reduceAdd, Int.reduceSub, t15, Int.zero_sub]; done) | (simp only [go_sem, reduceIte, Nat.reduceEqDiff, reduceCtorEq, Nat.reduceAdd, Nat.reduceLeDiff, Int.reduceNeg, Int.reduceToNat, Int.reduceBEq, Int.reduceBNe, Int.reduceLT, Int.reduceLE, Int.reduceAdd, Int.reduceSub, t15, Int.zero_sub]; with_reducible rfl) | (simp only [go_sem, reduceIte, Nat.reduceEqDiff, reduceCtorEq, Nat.reduceAdd, Nat.reduceLeDiff, Int.reduceNeg, Int.reduceToNat, Int.reduceBEq, Int.reduceBNe, Int.reduceLT, Int.reduceLE, Int.reduceAdd, Int.reduceSub, t15, Int.zero_sub]; (try simp (disch := omega) only [i64wrap, u64wrap, u8wrap, u32wrap, i32wrap]); first | with_reducible rfl | done | (refine congrArg (Value.int _) ?_; omega)) | (simp only [go_sem, reduceIte, Nat.reduceEqDiff, reduceCtorEq, Nat.reduceAdd, Nat.reduceLeDiff, Int.reduceNeg, Int.reduceToNat, Int.reduceBEq, Int.reduceBNe, Int.reduceLT, Int.reduceLE, Int.reduceAdd, Int.reduceSub, t15, Int.zero_sub]; rfl)) Sd0
    · obtain rfl : j = L.length := by omega
      have hjl' : ¬ (L.length : Int) < (L.length : Int) := by omega
      rw [List.take_length] at t15
      generalize hq : (decide ((i : Int) = (s : Int)) || L.any (fun x => f.getD x.toNat 0 - fi == -k)) = q at hless t15
      (have fx := And.intro hjl' (And.intro t11 t13); refine stepR ?_; clear fx)
      refine ml_getS (e := .int .i64 fi) rf4 (have fx := t11; Sd) (have fx := t13; Sd) (by omega) (by rw [Int.toNat_natCast]; exact afi) fun p => ?_
      cases ho : opn S (i : Int)
      · have h1 := hfi.1 ho
        have h2 : ¬ 0 ≤ fi := by omega
        (have fx := And.intro h2 t13; refine stepR ?_; clear fx)
        exact ⟨_, by omega, i + 1, rfl, hil, (have fx := t2; Sd), (have fx := t4; Sd), (have fx := t9; Sd), (have fx := t10; Sd), (have fx := t11; Sd), Sd0, g4, rf4⟩
      · have h1 := (hfi.2 ho).1
        obtain rfl := hless ho
        (have fx := And.intro h1 (And.intro t15 t13); refine stepR ?_; clear fx)
        exact ⟨_, by omega, i + 1, rfl, hil, (have fx := t2; Sd), (have fx := t4; Sd), (have fx := t9; Sd), (have fx := t10; Sd), (have fx := t11; Sd), Sd0, g4, rf4⟩
  have hil' : ¬ ((i : Nat) : Int) < (S.size : Int) := by omega
  (have fx := And.intro hil' (And.intro t2 (And.intro t4 (And.intro g ham))); refine stepR ?_; clear fx)
  refine ml_call Sd0 Sd0 (gOf_c W Hh S _) ?_
  rintro _ τ3 ⟨rfl, e3⟩
  (have fx := And.intro t11 ham; refine stepR ?_; clear fx)
  refine ml_call Sd0 (have fx := And.intro t11 ham; Sd) (fWay_c W Hh S (rf.of_ext e3) (at_ : Int)) ?_
  rintro wv τ4 ⟨out, how, hway⟩
  have rf4 := (rf.of_ext e3).of_ext how.1
  have ro := how.rd
  have aat := ints_at (l := f) (i := at_) (by omega)
  have oat := sgn_opn hal
  (have fx := And.intro t11 ham; refine stepR ?_; clear fx)
  refine ml_getS rf4 (have fx := t11; Sd) (have fx := ham; Sd) (by omega) (by rw [Int.toNat_natCast]; exact aat) fun p => ?_
  cases ho : opn S (at_ : Int)
  · have hf1 := fs_wall hcf hal ho
    rw [hf1]
    obtain rfl := way_none (by unfold downOK; rw [ho]; simp) hway
    refine stepR0 ?_
    refine ml_len Sd0 ro Sd0 ?_
    rw [ints_len, List.length_nil]
    refine stepR0 ?_
    exact fin1 Sd0
  obtain ⟨d, hd1, hd2, hd3, hd4⟩ := fs_dist hg hwo hcf ho
  rw [Int.toNat_natCast] at hd3
  obtain ⟨hlen, y, hy, hp⟩ := way_ok hg hcf (by omega) (by omega) hd1 hd2 hway
  simp only [List.mem_singleton] at hy
  subst hy
  have hfa : f.getD at_ 0 = (out.length : Int) * k := by rw [hd3, hlen, Int.mul_comm]
  have hm0 : 0 ≤ (out.length : Int) * k := Int.mul_nonneg (by omega) (by omega)
  have hm1 : (out.length : Int) * k ≤ 64 * 9 := Int.mul_le_mul (by omega) (by omega) (by omega) (by omega)
  rw [hfa] at aat ⊢
  have hfn : ¬ (out.length : Int) * k < 0 := by omega
  have hbe : ((out.length : Int) * k == (out.length : Int) * k) = true := by simp
  have hlen64 : out.length ≤ 64 := by omega
  clear hfa hlen hd1 hd2 hd3 hd4 hway how
  (have fx := hfn; refine stepR ?_; clear fx)
  refine ml_len (have fx := hfn; Sd) ro Sd0 ?_
  rw [ints_len]
  (have fx := And.intro hfn (And.intro t10 (And.intro t11 ham)); refine stepR ?_; clear fx)
  refine ml_getS rf4 (have fx := And.intro t11 hfn; Sd) (have fx := And.intro ham hfn; Sd) (by omega) (by rw [Int.toNat_natCast]; exact aat) fun p => ?_
  dsimp only
  (have fx := And.intro hfn hbe; refine stepR ?_; clear fx)
  refine ml_len (have fx := And.intro hfn hbe; Sd) ro Sd0 ?_
  rw [ints_len]
  rcases path_last hp with ⟨rfl, hys⟩ | ⟨h1, h2⟩
  · rw [List.length_nil] at hbe hfn ⊢
    have hss2 : ((at_ : Int) == (s : Int)) = true := by rw [hys]; simp
    (have fx := And.intro hfn (And.intro hbe (And.intro t9 (And.intro ham hss2))); refine stepR ?_; clear fx)
    exact fin1 (have fx := And.intro hfn (And.intro hbe hss2); Sd)
  · have hz : ((out.length : Int) == 0) = false := by
      have : ¬ ((out.length : Int) = 0) := by omega
      exact beq_eq_false_iff_ne.2 this
    have hz2 : (0 : Int) < (out.length : Int) := by omega
    have hss2 : ((s : Int) == (s : Int)) = true := by simp
    have alast := ints_at (l := out) (i := out.length - 1) (by omega)
    rw [h2] at alast
    (have fx := And.intro hfn (And.intro hbe (And.intro hz hz2)); refine stepR ?_; clear fx)
    refine ml_len (have fx := And.intro hfn (And.intro hbe hz); Sd) ro Sd0 ?_
    rw [ints_len]
    (have fx := And.intro hfn (And.intro hbe (And.intro hz hz2)); refine stepR ?_; clear fx)
    refine ml_len (have fx := And.intro hfn (And.intro hbe (And.intro hz hz2)); Sd) ro Sd0 ?_
    rw [ints_len]
    (have fx := And.intro hfn (And.intro hbe (And.intro hz hz2)); refine stepR ?_; clear fx)
    refine ml_getSg (q := (out.length : Int) - 1) (e := .int .i64 (s : Int)) (have fx := And.intro hfn (And.intro hbe (And.intro hz hz2)); Sd) ro Sd0 Sd0 (by omega) (by rw [show ((out.length : Int) - 1).toNat = out.length - 1 by omega]; exact alast) (fun p => (have fx := And.intro hfn (And.intro hbe (And.intro hz hz2)); Sd)) fun p => ?_
    (have fx := And.intro hfn (And.intro hbe (And.intro hz (And.intro hz2 (And.intro t9 hss2)))); refine stepR ?_; clear fx)
    exact fin1 (have fx := And.intro hfn (And.intro hbe (And.intro hz (And.intro hz2 hss2))); Sd)
end Go.Proofs.YtcjogomiiinkfaaDoor
