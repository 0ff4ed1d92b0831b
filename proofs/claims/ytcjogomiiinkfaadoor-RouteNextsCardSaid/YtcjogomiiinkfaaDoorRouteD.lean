/- Errors by their number; RouteThird; route.Total and the document's; RouteTotals. -/
import Derived.Test.YtcjogomiiinkfaaDoorRouteC
namespace Go.Proofs.YtcjogomiiinkfaaDoor
open Go.Mini
open Go.Proofs.YtcjogomiiinkfaaDoor.Code
set_option linter.unusedVariables false
set_option linter.unusedSimpArgs false
set_option linter.ambiguousOpen false
attribute [local irreducible] mx ml mld mstep MCalls Ex.thn Ex.inb
variable {E : World → Prop}

/-- An error of this number; none is of number zero. -/
def EN (σ : H) (ev : Value) (k : Int) : Prop := (k = 0 ∧ ev = .nilIface) ∨ ∃ nm, TagE σ ev nm k
theorem EN.of_ext {σ τ : H} {ev : Value} {k : Int} (h : EN σ ev k) (e : Ext σ τ) : EN τ ev k := by
  rcases h with h | ⟨nm, h⟩
  · exact .inl h
  · exact .inr ⟨nm, h.of_ext e⟩
theorem EN.num (hE : ∀ w, E w → ErrType w) {σ : H} {ev : Value} {k : Int} (h : EN σ ev k) : MCalls E Tryd.prog 19 [ev] σ (fun r τ => r = .int .i64 k ∧ Ext σ τ) := by
  rcases h with ⟨rfl, rfl⟩ | ⟨nm, h⟩
  · exact MCalls.mono (tNumN_c σ) fun v τ ⟨h1, h2⟩ => ⟨h1, h2 ▸ Ext.refl _⟩
  · exact tNum_c hE h.chain
theorem plan_en {W Hh : Int} {S : ByteArray} {a b step : Int} {σ τ : H} {v : Value} (h : planR W Hh S a b step σ v τ) :
    ∃ wv n ev, v = .tuple #[wv, .int .i64 n, ev] ∧ EN τ ev (if planOK W Hh S a b step = true then 0 else 1) ∧ Ext σ τ ∧ (planOK W Hh S a b step = true → ∃ f, Cst W S [b] step f ∧ n = f.getD a.toNat 0) := by
  cases hok : planOK W Hh S a b step
  · obtain ⟨nm, e, rfl, h1, h2⟩ := plan_bad h hok
    exact ⟨_, _, _, rfl, .inr ⟨nm, h1⟩, h2, fun h => by cases h⟩
  · obtain ⟨wv, out, f, rfl, h1, _, h2⟩ := plan_ok h hok
    exact ⟨_, _, _, rfl, .inl ⟨rfl, rfl⟩, h2.1, fun _ => ⟨f, h1, rfl⟩⟩
theorem planOK_one {W Hh : Int} {S : ByteArray} (hg : gr W Hh S = true) (a b : Int) : planOK W Hh S a b 1 = (opn S a && opn S b) := by
  unfold planOK; rw [hg]; simp

set_option maxHeartbeats 4000000 in
theorem routeThird_c (hE : ∀ w, E w → ErrType w) (W Hh : Int) (S : ByteArray) {σ : H} (a b c : Nat) (ha : a < 256) (hb : b < 256) (hc : c < 256) :
    MCalls E Tryd.prog 10 [mapV W Hh S, .int .u8 a, .int .u8 b, .int .u8 c] σ (fun v τ => v = .bool true) := by
  refine mcalls_of fn10 (by simp) ?_
  unfold c10 r10 mapV
  refine stepR0 ?_
  refine ml_call Sd0 Sd0 (oAwake_c _) ?_
  rintro _ τ ⟨rfl, e1⟩
  have g1 := e1.cells (H.get_push_self σ _)
  (have fx := g1; refine stepR ?_; clear fx)
  refine ml_call Sd0 Sd0 (rRight_c W Hh S τ) ?_
  rintro _ τ2 ⟨rfl, e2⟩
  cases hg : gr W Hh S
  · refine stepR0 ?_
    refine ml_call Sd0 Sd0 (oAwake_c _) ?_
    rintro _ τ3 ⟨rfl, e3⟩
    refine stepR0 ?_
    exact fin1 Sd0
  have g2 := e2.cells g1
  have hgs := gr_size hg
  obtain ⟨hS1, hS64⟩ := hgs.2.2.2.1
  have hSne : (S.size : Int) ≠ 0 := by omega
  have hmod : ∀ c : Nat, ∃ k : Nat, k < S.size ∧ ((c : Int).tmod (S.size : Int)) = (k : Int) := fun c => ⟨c % S.size, Nat.mod_lt _ (by omega), by rw [Int.tmod_eq_emod_of_nonneg (by omega)]; rfl⟩
  obtain ⟨i, hi, him⟩ := hmod a
  obtain ⟨j, hj, hjm⟩ := hmod b
  obtain ⟨k, hk, hkm⟩ := hmod c
  (have fx := g2; refine stepR ?_; clear fx)
  refine ml_call Sd0 Sd0 (gOf_c W Hh S τ2) ?_
  rintro _ τ3 ⟨rfl, e3⟩
  have g3 := e3.cells g2
  refine stepR0 ?_
  refine ml_init (vs := mapC W Hh S) Sd0 Sd0 Sd0 rfl rfl rfl fun τ4 e4 g7 => ?_
  have g4 := e4.cells g3
  have g7' : τ4.get τ3.size = .cells 0 [.int .i64 W, .int .i64 Hh, .string S] := g7
  generalize τ3.size = xid at g7' ⊢
  clear g7 g3 g2 g1 e1 e2 e3 e4
  (have fx := And.intro g4 (And.intro g7' (And.intro him (And.intro hjm hkm))); refine stepR ?_; clear fx)
  refine ml_call Sd0 (have fx := And.intro him (And.intro hjm hkm); Sd) (oPlan_c W Hh S i j 1 τ4) ?_
  intro v1 τ5 hp1
  obtain ⟨wv1, p, ev1, rfl, en1, e5, hf1⟩ := plan_en hp1
  have g5 := e5.cells g4
  have g75 := e5.cells g7'
  (have fx := And.intro g75 (And.intro him (And.intro hjm hkm)); refine stepR ?_; clear fx)
  refine ml_call Sd0 (have fx := And.intro him (And.intro hjm hkm); Sd) (oPlan_c W Hh S j k 1 τ5) ?_
  intro v2 τ6 hp2
  obtain ⟨wv2, q, ev2, rfl, en2, e6, hf2⟩ := plan_en hp2
  have g6 := e6.cells g5
  have g76 := e6.cells g75
  have en1 := en1.of_ext e6
  (have fx := And.intro g76 (And.intro him (And.intro hjm hkm)); refine stepR ?_; clear fx)
  refine ml_call Sd0 (have fx := And.intro him (And.intro hjm hkm); Sd) (oPlan_c W Hh S i k 1 τ6) ?_
  intro v3 τ7 hp3
  obtain ⟨wv3, s, ev3, rfl, en3, e7, hf3⟩ := plan_en hp3
  have g7 := e7.cells g6
  have en1 := en1.of_ext e7
  have en2 := en2.of_ext e7
  rw [planOK_one hg] at en1 en2 en3 hf1 hf2 hf3
  clear hp1 hp2 hp3 e5 e6 e7 g4 g5 g6 g7' g75 g76
  refine stepR0 ?_
  refine ml_call Sd0 Sd0 (en1.num hE) ?_
  rintro _ τ8 ⟨rfl, e8⟩
  have g8 := e8.cells g7
  refine ml_mid (fun ts τ' => Ext τ8 τ' ∧ ts 4 = .pointer (some ⟨σ.size, 0, none⟩) ∧ ts 10 = .int .i64 (i : Int) ∧ ts 11 = .int .i64 (j : Int) ∧ ts 12 = .int .i64 (k : Int) ∧ ts 14 = .int .i64 p ∧ ts 17 = .int .i64 q ∧ ts 20 = .int .i64 s ∧ ts 86 = .bool (!(opn S (i : Int) && opn S (j : Int) && opn S (k : Int)))) ?_ ?_
  · cases o1 : (opn S (i : Int) && opn S (j : Int))
    · (have fx := And.intro him (And.intro hjm hkm); refine stepR ?_; clear fx)
      exact ⟨Ext.refl _, Sd0, (have fx := him; Sd), (have fx := hjm; Sd), (have fx := hkm; Sd), Sd0, Sd0, Sd0, Sd0⟩
    (have fx := And.intro him (And.intro hjm hkm); refine stepR ?_; clear fx)
    refine ml_call Sd0 Sd0 ((en2.of_ext e8).num hE) ?_
    rintro _ τ9 ⟨rfl, e9⟩
    rw [Bool.and_eq_true] at o1
    rw [o1.2, Bool.true_and]
    cases o3 : opn S (k : Int)
    · (have fx := And.intro him (And.intro hjm hkm); refine stepR ?_; clear fx)
      exact ⟨e9, Sd0, (have fx := him; Sd), (have fx := hjm; Sd), (have fx := hkm; Sd), Sd0, Sd0, Sd0, Sd0⟩
    rw [o1.1, o3] at en3
    (have fx := And.intro him (And.intro hjm hkm); refine stepR ?_; clear fx)
    refine ml_call Sd0 Sd0 (((en3.of_ext e8).of_ext e9).num hE) ?_
    rintro _ τ10 ⟨rfl, e10⟩
    (have fx := And.intro him (And.intro hjm hkm); refine stepR ?_; clear fx)
    exact ⟨e9.trans e10, Sd0, (have fx := him; Sd), (have fx := hjm; Sd), (have fx := hkm; Sd), Sd0, Sd0, Sd0, Sd0⟩
  rintro ts τ9 ⟨e9, t4, t10, t11, t12, t14, t17, t20, t86⟩
  have g9 := e9.cells g8
  have hu35 : ∀ i : Nat, (((S.data.toList.getD i 0).toNat : Int) == (35 : Int)) = (S.data.toList.getD i 0 == 35) := fun i => u8eq _ 35 (by omega)
  have hui := hu35 i
  have huj := hu35 j
  have huk := hu35 k
  have oi := sgn_opn hi
  have oj := sgn_opn hj
  have ok := sgn_opn hk
  have hii : ((i : Nat) : Int) < (S.size : Int) := by omega
  have hjj : ((j : Nat) : Int) < (S.size : Int) := by omega
  have hkk : ((k : Nat) : Int) < (S.size : Int) := by omega
  cases o1 : opn S (i : Int)
  · rw [o1] at oi t86
    have hwi : (S.data.toList.getD i 0 == 35) = true := by cases h : S.data.toList.getD i 0 == 35 <;> rw [h] at oi <;> first | rfl | cases oi
    rw [hwi] at hui
    (have fx := And.intro t86 (And.intro t4 (And.intro g9 (And.intro t10 hui))); refine stepR ?_; clear fx)
    exact fin1 (have fx := hui; Sd)
  have hwi : (S.data.toList.getD i 0 == 35) = false := by cases h : S.data.toList.getD i 0 == 35 <;> rw [h, o1] at oi <;> first | rfl | cases oi
  rw [hwi] at hui
  cases o2 : opn S (j : Int)
  · rw [o2] at oj
    rw [o1, o2] at t86
    have hwj : (S.data.toList.getD j 0 == 35) = true := by cases h : S.data.toList.getD j 0 == 35 <;> rw [h] at oj <;> first | rfl | cases oj
    rw [hwj] at huj
    (have fx := And.intro t86 (And.intro t4 (And.intro g9 (And.intro t10 (And.intro t11 (And.intro hui huj))))); refine stepR ?_; clear fx)
    exact fin1 (have fx := And.intro hui huj; Sd)
  have hwj : (S.data.toList.getD j 0 == 35) = false := by cases h : S.data.toList.getD j 0 == 35 <;> rw [h, o2] at oj <;> first | rfl | cases oj
  rw [hwj] at huj
  cases o3 : opn S (k : Int)
  · rw [o3] at ok
    rw [o1, o2, o3] at t86
    have hwk : (S.data.toList.getD k 0 == 35) = true := by cases h : S.data.toList.getD k 0 == 35 <;> rw [h] at ok <;> first | rfl | cases ok
    rw [hwk] at huk
    (have fx := And.intro t86 (And.intro t4 (And.intro g9 (And.intro t10 (And.intro t11 (And.intro t12 (And.intro hui (And.intro huj huk))))))); refine stepR ?_; clear fx)
    exact fin1 (have fx := And.intro hui (And.intro huj huk); Sd)
  rw [o1, o2, o3] at t86
  obtain ⟨f1, hc1, rfl⟩ := hf1 (by rw [o1, o2]; rfl)
  obtain ⟨f2, hc2, rfl⟩ := hf2 (by rw [o2, o3]; rfl)
  obtain ⟨f3, hc3, rfl⟩ := hf3 (by rw [o1, o3]; rfl)
  obtain ⟨d1, w1, _, h1, b1⟩ := fs_dist hg o2 hc1 o1
  obtain ⟨d2, w2, _, h2, b2⟩ := fs_dist hg o3 hc2 o2
  obtain ⟨d3, w3, m3, h3, b3⟩ := fs_dist hg o3 hc3 o1
  have hle := m3 _ (wk_trans w2 w1)
  rw [h1] at t14
  rw [h2] at t17
  rw [h3] at t20
  rw [Int.one_mul] at t14 t17 t20
  have hle' : (d3 : Int) ≤ (d1 : Int) + (d2 : Int) := by omega
  by_cases hik : (i : Int) = (k : Int)
  · have h0 : d3 = 0 := by
      have := m3 0 (.src (by rw [hik]; simp) o1)
      omega
    subst h0
    have hne : ((i : Int) != (k : Int)) = false := by rw [hik]; simp
    (have fx := And.intro t86 (And.intro t20 (And.intro t14 (And.intro t17 (And.intro hle' (And.intro t10 (And.intro t12 hne)))))); refine stepR ?_; clear fx)
    exact fin1 (have fx := And.intro hle' hne; Sd)
  · have hne : ((i : Int) != (k : Int)) = true := by simp [hik]
    (have fx := And.intro t86 (And.intro t20 (And.intro t14 (And.intro t17 (And.intro hle' (And.intro t10 (And.intro t12 hne)))))); refine stepR ?_; clear fx)
    exact fin1 (have fx := And.intro hle' hne; Sd)
end Go.Proofs.YtcjogomiiinkfaaDoor
