/- RouteParts. -/
import Derived.Test.YtcjogomiiinkfaaDoorRouteE
namespace Go.Proofs.YtcjogomiiinkfaaDoor
open Go.Mini
open Go.Proofs.YtcjogomiiinkfaaDoor.Code
set_option linter.unusedVariables false
set_option linter.unusedSimpArgs false
set_option linter.ambiguousOpen false
attribute [local irreducible] mx ml mld mstep MCalls Ex.thn Ex.inb
variable {E : World → Prop}

theorem wk_from {W : Int} {S : ByteArray} {on : List Int} {k : Nat} {x : Int} (h : Wk W S on k x) : ∃ y ∈ on, Wk W S [y] k x := by
  induction h with
  | src h ho => exact ⟨_, h, .src (by simp) ho⟩
  | step _ hn ih => obtain ⟨y, hy, h⟩ := ih; exact ⟨y, hy, .step h hn⟩
theorem wk_mono {W : Int} {S : ByteArray} {on : List Int} {y : Int} (hy : y ∈ on) {k : Nat} {x : Int} (h : Wk W S [y] k x) : Wk W S on k x := by
  induction h with
  | src h ho => simp at h; subst h; exact .src hy ho
  | step _ hn ih => exact .step ih hn
theorem mem_gkind {S : ByteArray} {b : UInt8} {y : Int} : y ∈ gkind S b true ↔ ∃ i : Nat, i < S.size ∧ S.data.toList.getD i 0 = b ∧ y = i := by
  unfold gkind
  rw [if_pos rfl, List.mem_map]
  constructor
  · rintro ⟨i, h, rfl⟩
    rw [List.mem_filter, List.mem_range, beq_iff_eq] at h
    exact ⟨i, h.1, h.2, rfl⟩
  · rintro ⟨i, h1, h2, rfl⟩
    exact ⟨i, by rw [List.mem_filter, List.mem_range, beq_iff_eq]; exact ⟨h1, h2⟩, rfl⟩
theorem gkind_le (S : ByteArray) (b : UInt8) (q : Bool) : (gkind S b q).length ≤ S.size := by
  unfold gkind
  split
  · rw [List.length_map]; exact Nat.le_trans (List.length_filter_le _ _) (by simp)
  · simp
theorem ch_opn {S : ByteArray} {y : Int} (h : y ∈ gkind S 67 true) : opn S y = true := by
  obtain ⟨i, h1, h2, rfl⟩ := mem_gkind.1 h
  rw [sgn_opn h1, h2]; rfl
section
variable {W Hh : Int} {S : ByteArray} {f : List Int}
/-- In a right map each open cell has a charger within reach; the nearest is so far. -/
theorem ch_dist (hg : gr W Hh S = true) (hc : Cst W S (gkind S 67 true) 1 f) {x : Int} (hx : opn S x = true) :
    0 ≤ f.getD x.toNat 0 ∧ (∃ y ∈ gkind S 67 true, ∀ g, Cst W S [y] 1 g → g.getD x.toNat 0 ≤ f.getD x.toNat 0) ∧ ∀ y ∈ gkind S 67 true, ∀ g, Cst W S [y] 1 g → f.getD x.toNat 0 ≤ g.getD x.toNat 0 := by
  rcases cst_at hc hx with ⟨_, h⟩ | ⟨k, h1, h2, h3⟩
  · obtain ⟨_, c0, hc0, hC, hr⟩ := gr_all hg
    have hm : (c0 : Int) ∈ gkind S 67 true := mem_gkind.2 ⟨c0, hc0, hC, rfl⟩
    obtain ⟨k, hk⟩ := reach_wk (ch_opn hm) (hr x hx)
    exact absurd (wk_mono hm hk) (h k)
  · rw [h3, Int.one_mul]
    refine ⟨by omega, ?_, fun y hy g hgc => ?_⟩
    · obtain ⟨y, hy, hk⟩ := wk_from h1
      refine ⟨y, hy, fun g hgc => ?_⟩
      rcases cst_at hgc hx with ⟨e, _⟩ | ⟨m, _, m2, m3⟩
      · omega
      · have := m2 k hk
        rw [m3]; omega
    · obtain ⟨m, m1, m2, m3, _⟩ := fs_dist hg (ch_opn hy) hgc hx
      have := h2 m (wk_mono hy m1)
      rw [m3]; omega
end
theorem planOK_two {W Hh : Int} {S : ByteArray} (hg : gr W Hh S = true) (a b : Int) : planOK W Hh S a b 2 = (opn S a && opn S b) := by
  unfold planOK; rw [hg]; simp

/-- The least of the costs from the chargers so far. -/
def leastR (W : Int) (S : ByteArray) (l : List Int) (k : Nat) (B : Int) : Prop :=
  0 ≤ B ∧ B ≤ 1000 ∧ (∀ y ∈ l, ∃ g, Cst W S [y] 1 g ∧ B ≤ g.getD k 0) ∧ (B = 1000 ∨ ∃ y ∈ l, ∃ g, Cst W S [y] 1 g ∧ B = g.getD k 0)

set_option maxHeartbeats 8000000 in
theorem routeParts_c (hE : ∀ w, E w → ErrType w) (W Hh : Int) (S : ByteArray) {σ : H} (a b c : Nat) (ha : a < 256) (hb : b < 256) (hc : c < 256) :
    MCalls E Tryd.prog 14 [mapV W Hh S, .int .u8 a, .int .u8 b, .int .u8 c] σ (fun v τ => v = .bool true) := by
  refine mcalls_of fn14 (by simp) ?_
  unfold c14 r14 mapV
  refine stepR0 ?_
  refine ml_call Sd0 Sd0 (oAwake_c _) ?_
  rintro _ τ ⟨rfl, e1⟩
  have g1 := e1.cells (H.get_push_self σ _)
  (have fx := g1; refine stepR ?_; clear fx)
  refine ml_call Sd0 Sd0 (rRight_c W Hh S τ) ?_
  rintro _ τ2 ⟨rfl, e2⟩
  cases hg : gr W Hh S
  · refine stepR0 ?_
    refine ml_call Sd0 Sd0 (oAwake_c _) ?_
    rintro _ τ3 ⟨rfl, e3⟩
    refine stepR0 ?_
    exact fin1 Sd0
  have g2 := e2.cells g1
  have hgs := gr_size hg
  obtain ⟨hS1, hS64⟩ := hgs.2.2.2.1
  have hSne : (S.size : Int) ≠ 0 := by omega
  have hmod : ∀ c : Nat, ∃ k : Nat, k < S.size ∧ ((c : Int).tmod (S.size : Int)) = (k : Int) := fun c => ⟨c % S.size, Nat.mod_lt _ (by omega), by rw [Int.tmod_eq_emod_of_nonneg (by omega)]; rfl⟩
  obtain ⟨i, hi, him⟩ := hmod a
  obtain ⟨j, hj, hjm⟩ := hmod b
  obtain ⟨k, hk, hkm⟩ := hmod c
  (have fx := g2; refine stepR ?_; clear fx)
  refine ml_call Sd0 Sd0 (gOf_c W Hh S τ2) ?_
  rintro _ τ3 ⟨rfl, e3⟩
  have g3 := e3.cells g2
  refine stepR0 ?_
  refine ml_init (vs := mapC W Hh S) Sd0 Sd0 Sd0 rfl rfl rfl fun τ4 e4 g7 => ?_
  have g4 := e4.cells g3
  have g7' : τ4.get τ3.size = .cells 0 [.int .i64 W, .int .i64 Hh, .string S] := g7
  generalize τ3.size = xid at g7' ⊢
  clear g7 g3 g2 g1 e1 e2 e3 e4
  (have fx := g7'; refine stepR ?_; clear fx)
  refine ml_call Sd0 Sd0 (gkind_c W Hh S 67 τ4) ?_
  intro ov τ5 hov
  rw [hg] at hov
  have g5 := hov.1.cells g4
  have g75 := hov.1.cells g7'
  have ro := hov.rd
  have hol : (gkind S 67 true).length ≤ 64 := Nat.le_trans (gkind_le ..) hS64
  clear hov g4 g7'
  (have fx := And.intro g5 (And.intro g75 (And.intro him (And.intro hjm hkm))); refine stepR ?_; clear fx)
  refine ml_call Sd0 (have fx := And.intro him (And.intro hjm hkm); Sd) (oTotal_c W Hh S ro i j k) ?_
  rintro _ τ6 ⟨n, num, ev0, rfl, ht, en0, e6⟩
  have g76 := e6.cells g75
  have ro := ro.of_ext e6
  (have fx := And.intro g76 (And.intro him (And.intro hjm hkm)); refine stepR ?_; clear fx)
  refine ml_call Sd0 (have fx := And.intro him (And.intro hjm hkm); Sd) (oPlan_c W Hh S i j 1 τ6) ?_
  intro v1 τ7 hp1
  obtain ⟨wv1, p, ev1, rfl, en1, e7, hf1⟩ := plan_en hp1
  have g77 := e7.cells g76
  have ro := ro.of_ext e7
  have en0 := en0.of_ext e7
  (have fx := And.intro g77 (And.intro him (And.intro hjm hkm)); refine stepR ?_; clear fx)
  refine ml_call Sd0 (have fx := And.intro him (And.intro hjm hkm); Sd) (oPlan_c W Hh S j k 2 τ7) ?_
  intro v2 τ8 hp2
  obtain ⟨wv2, q, ev2, rfl, en2, e8, hf2⟩ := plan_en hp2
  have g78 := e8.cells g77
  have ro := ro.of_ext e8
  have en0 := en0.of_ext e8
  have en1 := en1.of_ext e8
  rw [planOK_one hg] at en1 hf1
  rw [planOK_two hg] at en2 hf2
  clear hp1 hp2 e6 e7 e8 g5 g75 g76 g77
  refine stepR0 ?_
  refine ml_call Sd0 Sd0 (en0.num hE) ?_
  rintro _ τ9 ⟨rfl, e9⟩
  have g79 := e9.cells g78
  have ro := ro.of_ext e9
  have en1 := en1.of_ext e9
  have en2 := en2.of_ext e9
  have hkk : ((k : Nat) : Int).toNat = k := Int.toNat_natCast k
  cases ht with
  | bad h =>
    refine stepR0 ?_
    refine ml_call Sd0 Sd0 (en1.num hE) ?_
    rintro _ τ10 ⟨rfl, e10⟩
    have en2 := en2.of_ext e10
    cases o1 : (opn S (i : Int) && opn S (j : Int))
    · refine stepR0 ?_
      exact fin1 Sd0
    rw [Bool.and_eq_true] at o1
    have o3 : opn S (k : Int) = false := by
      unfold totOK at h
      rw [hg, o1.1, o1.2] at h
      simpa using h
    rw [o3, Bool.and_false] at en2
    refine stepR0 ?_
    refine ml_call Sd0 Sd0 (en2.num hE) ?_
    rintro _ τ11 ⟨rfl, e11⟩
    refine stepR0 ?_
    exact fin1 Sd0
  | much h h2 => omega
  | none h h2 h3 =>
    obtain ⟨_, _, _, ok⟩ := tot_ok h
    have := (ch_dist hg h2 ok).1
    omega
  | @good f1 f2 f3 h h0 h1 h2 h3 h4 =>
  obtain ⟨_, oi, oj, ok⟩ := tot_ok h
  obtain ⟨f1', hc1, rfl⟩ := hf1 (by rw [oi, oj]; rfl)
  obtain ⟨f2', hc2, rfl⟩ := hf2 (by rw [oj, ok]; rfl)
  obtain rfl := h1.uniq hc1
  obtain rfl := h2.uniq hc2
  obtain ⟨hd0, ⟨y0, hy0, hmin⟩, hall⟩ := ch_dist hg h3 ok
  have lo1 := cst_lo h1 (by omega) hS64 (i := i) (by omega)
  have lo2 := cst_lo h2 (by omega) hS64 (i := j) (by omega)
  have lo3 := cst_lo h3 (by omega) hS64 (i := k) (by omega)
  rw [oi, oj] at en1
  rw [oj, ok] at en2
  rw [hkk] at *
  simp only [Int.toNat_natCast] at *
  generalize hx1 : f1.getD i 0 = x1 at *
  generalize hx2 : f2.getD j 0 = x2 at *
  generalize hx3 : f3.getD k 0 = x3 at *
  have hsub : x1 + x2 + x3 - x1 - x2 = x3 := by omega
  rw [Bool.and_self, if_pos rfl] at en1 en2
  (have fx := hsub; refine stepR ?_; clear fx)
  refine mx_loop (fun n ts τ => ∃ h B, n = (gkind S 67 true).length - h ∧ h ≤ (gkind S 67 true).length ∧ leastR W S ((gkind S 67 true).take h) k B ∧ Ext τ9 τ ∧ ts 9 = .pointer (some ⟨xid, 0, none⟩) ∧ ts 10 = ov ∧ ts 13 = .int .i64 (k : Int) ∧ ts 18 = ev1 ∧ ts 21 = ev2 ∧ ts 22 = .int .i64 x3 ∧ ts 23 = .int .i64 B ∧ ts 24 = .int .i64 ((h : Nat) : Int)) (gkind S 67 true).length ?_ ?_
  · refine ⟨0, 1000, rfl, by omega, ⟨by omega, by omega, fun y hy => ?_, .inl rfl⟩, Ext.refl _, (have fx := hsub; Sd), (have fx := hsub; Sd), (have fx := And.intro hsub hkm; Sd), (have fx := hsub; Sd), (have fx := hsub; Sd), (have fx := hsub; Sd), (have fx := hsub; Sd), (have fx := hsub; Sd)⟩
    rw [List.take_zero] at hy; cases hy
  rintro n ts τ ⟨h, B, rfl, hh, hB, e, t9, t10, t13, t18, t21, t22, t23, t24⟩
  have g := e.cells g79
  have rl := ro.of_ext e
  (have fx := And.intro t10 t24; refine stepR ?_; clear fx)
  refine ml_len Sd0 rl (have fx := t10; Sd) ?_
  rw [ints_len]
  rcases Nat.lt_or_ge h (gkind S 67 true).length with hil | hig
  · have hil' : ((h : Nat) : Int) < ((gkind S 67 true).length : Int) := by omega
    have ah := ints_at hil
    have hm : (gkind S 67 true).getD h 0 ∈ gkind S 67 true := by rw [List.getD_eq_getElem?_getD, List.getElem?_eq_getElem hil]; exact List.getElem_mem hil
    have htk : (gkind S 67 true).take (h + 1) = (gkind S 67 true).take h ++ [(gkind S 67 true).getD h 0] := by
      have hge : (gkind S 67 true).getD h 0 = (gkind S 67 true)[h] := by rw [List.getD_eq_getElem?_getD, List.getElem?_eq_getElem hil]; rfl
      rw [hge, List.take_succ_eq_append_getElem hil]
    generalize (gkind S 67 true).getD h 0 = y at ah hm htk
    have hyo := ch_opn hm
    (have fx := And.intro hil' (And.intro t9 (And.intro g (And.intro t13 (And.intro t10 t24)))); refine stepR ?_; clear fx)
    refine mld_getS (e := .int .i64 y) Sd0 rl (have fx := t10; Sd) (have fx := t24; Sd) (by omega) (by rw [Int.toNat_natCast]; exact ah) (fun p => Sd0) fun p => ?_
    (have fx := t13; refine stepR ?_; clear fx)
    refine mld_callW Sd0 (have fx := t13; Sd) (oPlan_c W Hh S k y 1 τ) ?_
    intro v3 τ10 hp3
    obtain ⟨wv3, m, ev3, rfl, en3, e10, hf3⟩ := plan_en hp3
    rw [planOK_one hg, ok, hyo, Bool.and_self, if_pos rfl] at en3
    rw [planOK_one hg, ok, hyo, Bool.and_self] at hf3
    obtain ⟨gg, hgg, rfl⟩ := hf3 rfl
    rw [Int.toNat_natCast]
    have log := cst_lo hgg (by omega) hS64 (i := k) (by omega)
    have hxg := hall y hm gg hgg
    refine stepR0 ?_
    refine ml_call Sd0 Sd0 (en3.num hE) ?_
    rintro _ τ11 ⟨rfl, e11⟩
    obtain ⟨B0, B1, B2, B3⟩ := hB
    have hB' : leastR W S ((gkind S 67 true).take (h + 1)) k (if gg.getD k 0 < B then gg.getD k 0 else B) := by
      rw [htk]
      refine ⟨by split <;> omega, by split <;> omega, fun z hz => ?_, ?_⟩
      · rcases List.mem_append.1 hz with hz | hz
        · obtain ⟨g', h1, h2⟩ := B2 z hz
          exact ⟨g', h1, by split <;> omega⟩
        · rw [List.mem_singleton] at hz; subst hz
          exact ⟨gg, hgg, by split <;> omega⟩
      · by_cases hlt : gg.getD k 0 < B
        · rw [if_pos hlt]; exact .inr ⟨y, List.mem_append.2 (.inr (by simp)), gg, hgg, rfl⟩
        · rw [if_neg hlt]
          exact B3.imp id fun ⟨z, hz, r⟩ => ⟨z, List.mem_append.2 (.inl hz), r⟩
    by_cases hlt : gg.getD k 0 < B
    · rw [if_pos hlt] at hB'
      (have fx := And.intro t23 (And.intro hlt t24); refine stepR ?_; clear fx)
      exact ⟨_, by omega, h + 1, _, rfl, hil, hB', e.trans (e10.trans e11), (have fx := t9; Sd), (have fx := t10; Sd), (have fx := t13; Sd), (have fx := t18; Sd), (have fx := t21; Sd), (have fx := t22; Sd), (have fx := hlt; Sd), Sd0⟩
    · rw [if_neg hlt] at hB'
      (have fx := And.intro t23 (And.intro hlt t24); refine stepR ?_; clear fx)
      exact ⟨_, by omega, h + 1, _, rfl, hil, hB', e.trans (e10.trans e11), (have fx := t9; Sd), (have fx := t10; Sd), (have fx := t13; Sd), (have fx := t18; Sd), (have fx := t21; Sd), (have fx := t22; Sd), (have fx := hlt; Sd), Sd0⟩
  obtain rfl : h = (gkind S 67 true).length := by omega
  have hil' : ¬ ((gkind S 67 true).length : Int) < ((gkind S 67 true).length : Int) := by omega
  rw [List.take_length] at hB
  have hBx : B = x3 := by
    obtain ⟨B0, B1, B2, B3⟩ := hB
    obtain ⟨gy, h5, h6⟩ := B2 y0 hy0
    have h7 := hmin gy h5
    rcases B3 with h8 | ⟨y, hy, g', h8, h9⟩
    · omega
    · have := hall y hy g' h8
      omega
  subst hBx
  have hbb : (B == B) = true := by simp
  (have fx := And.intro hil' t18; refine stepR ?_; clear fx)
  refine ml_call Sd0 (have fx := t18; Sd) ((en1.of_ext e).num hE) ?_
  rintro _ τ10 ⟨rfl, e10⟩
  (have fx := t21; refine stepR ?_; clear fx)
  refine ml_call Sd0 (have fx := t21; Sd) (((en2.of_ext e).of_ext e10).num hE) ?_
  rintro _ τ11 ⟨rfl, e11⟩
  (have fx := And.intro t22 (And.intro t23 hbb); refine stepR ?_; clear fx)
  exact fin1 (have fx := hbb; Sd)
end Go.Proofs.YtcjogomiiinkfaaDoor
