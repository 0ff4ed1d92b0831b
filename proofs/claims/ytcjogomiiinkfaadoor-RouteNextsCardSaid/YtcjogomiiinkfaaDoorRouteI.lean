/- RouteNexts. -/
import Derived.Test.YtcjogomiiinkfaaDoorFieldL
import Derived.Test.YtcjogomiiinkfaaDoorRouteG
namespace Go.Proofs.YtcjogomiiinkfaaDoor
open Go.Mini
open Go.Proofs.YtcjogomiiinkfaaDoor.Code
set_option linter.unusedVariables false
set_option linter.unusedSimpArgs false
set_option linter.ambiguousOpen false
attribute [local irreducible] mx ml mld mstep MCalls Ex.thn Ex.inb
variable {E : World → Prop}

theorem getD_take {l : List Int} {i j : Nat} (hij : i < j) (hi : i < l.length) : l.getD i 0 ∈ l.take j := by
  rw [List.getD_eq_getElem?_getD, List.getElem?_eq_getElem hi]
  exact List.mem_take_iff_getElem.2 ⟨i, by omega, rfl⟩
theorem next_at {t : List Bool} {l : List Int} {n : Int} {ok : Bool} {i : Nat} (h : nextR t l (.tuple #[.int .i64 n, .bool ok])) (hi : i < l.length) (hf : freeT t (l.getD i 0) = true) (hall : ∀ x ∈ l.take i, freeT t x = false) : n = l.getD i 0 ∧ ok = true := by
  rcases h with ⟨hv, ha⟩ | ⟨j, hj, hv, hp, ha⟩
  · have := ha _ (List.mem_of_mem_take (getD_take (Nat.lt_succ_self i) hi))
    rw [hf] at this; cases this
  · have hij : i = j := by
      rcases Nat.lt_trichotomy i j with h | h | h
      · have := ha _ (getD_take h hi); rw [hf] at this; cases this
      · exact h
      · have := hall _ (getD_take h hj); rw [hp] at this; cases this
    subst hij
    simp only [Value.tuple.injEq, Array.mk.injEq, List.cons.injEq, Value.int.injEq, Value.bool.injEq, true_and, and_true] at hv
    exact hv
theorem next_no {t : List Bool} {l : List Int} {n : Int} {ok : Bool} (h : nextR t l (.tuple #[.int .i64 n, .bool ok])) (hall : ∀ x ∈ l, freeT t x = false) : n = 0 ∧ ok = false := by
  rcases h with ⟨hv, ha⟩ | ⟨j, hj, hv, hp, ha⟩
  · simp only [Value.tuple.injEq, Array.mk.injEq, List.cons.injEq, Value.int.injEq, Value.bool.injEq, true_and, and_true] at hv
    exact hv
  · have := hall _ (List.mem_of_mem_take (getD_take (Nat.lt_succ_self j) hj))
    rw [hp] at this; cases this
theorem next_tup {t : List Bool} {l : List Int} {v : Value} (h : nextR t l v) : ∃ n ok, v = .tuple #[.int .i64 n, .bool ok] := by
  rcases h with ⟨rfl, _⟩ | ⟨j, _, rfl, _⟩
  · exact ⟨_, _, rfl⟩
  · exact ⟨_, _, rfl⟩

set_option maxHeartbeats 8000000 in
theorem routeNexts_c (W Hh : Int) (S : ByteArray) {σ : H} {fv tv : Value} {f : List Int} {t : List Bool} (hr : Rd σ fv (ints f)) (ht : Rd σ tv (bools t)) (c : Int) :
    MCalls E Tryd.prog 12 [mapV W Hh S, fv, .int .i64 c, tv] σ (fun v τ => v = .bool true) := by
  refine mcalls_of fn12 (by simp) ?_
  unfold c12 r12 mapV
  refine stepR0 ?_
  refine ml_call Sd0 Sd0 (oAwake_c _) ?_
  rintro _ τ ⟨rfl, e1⟩
  have g1 := e1.cells (H.get_push_self σ _)
  have e1' := (Ext.push _ _).trans e1
  have r1 := hr.of_ext e1'
  have rt1 := ht.of_ext e1'
  by_cases hS : 200 < S.size
  · have hS' : (200 : Int) < (S.size : Int) := by omega
    (have fx := And.intro g1 hS'; refine stepR ?_; clear fx)
    refine ml_call Sd0 Sd0 (oAwake_c _) ?_
    rintro _ τ2 ⟨rfl, e2⟩
    refine stepR0 ?_
    exact fin1 Sd0
  have hS' : ¬ (200 : Int) < (S.size : Int) := by omega
  (have fx := And.intro g1 hS'; refine stepR ?_; clear fx)
  refine ml_len Sd0 r1 Sd0 ?_
  rw [ints_len]
  by_cases hl : 200 < f.length
  · have hl' : (200 : Int) < (f.length : Int) := by omega
    (have fx := hl'; refine stepR ?_; clear fx)
    refine ml_call Sd0 Sd0 (oAwake_c _) ?_
    rintro _ τ2 ⟨rfl, e2⟩
    refine stepR0 ?_
    exact fin1 Sd0
  have hl' : ¬ (200 : Int) < (f.length : Int) := by omega
  (have fx := hl'; refine stepR ?_; clear fx)
  refine ml_len (have fx := hl'; Sd) rt1 (have fx := hl'; Sd) ?_
  rw [bools_len]
  by_cases hk : 200 < t.length
  · have hk' : (200 : Int) < (t.length : Int) := by omega
    (have fx := hk'; refine stepR ?_; clear fx)
    refine ml_call Sd0 Sd0 (oAwake_c _) ?_
    rintro _ τ2 ⟨rfl, e2⟩
    refine stepR0 ?_
    exact fin1 Sd0
  have hk' : ¬ (200 : Int) < (t.length : Int) := by omega
  (have fx := And.intro g1 hk'; refine stepR ?_; clear fx)
  refine ml_call Sd0 Sd0 (gOf_c W Hh S τ) ?_
  rintro _ τ2 ⟨rfl, e2⟩
  have r2 := r1.of_ext e2
  have rt2 := rt1.of_ext e2
  have g2 := e2.cells g1
  refine stepR0 ?_
  refine ml_call Sd0 Sd0 (oNext_c W Hh S r2 rt2 c) ?_
  rintro v τ3 ⟨l, hld, hn, e3⟩
  obtain ⟨n, ok, rfl⟩ := next_tup hn
  have g3 := e3.cells g2
  have r3 := r2.of_ext e3
  have rt3 := rt2.of_ext e3
  (have fx := g3; refine stepR ?_; clear fx)
  refine ml_call Sd0 Sd0 (rRight_c W Hh S τ3) ?_
  rintro _ τ4 ⟨rfl, e4⟩
  have g4 := e4.cells g3
  have r4 := r3.of_ext e4
  have rt4 := rt3.of_ext e4
  cases hg : gr W Hh S
  · have hd : downOK W Hh S f c = false := by unfold downOK; rw [hg]; simp
    obtain rfl : l = [] := by unfold DownR at hld; rw [if_neg (by rw [hd]; simp)] at hld; exact hld
    obtain ⟨rfl, rfl⟩ := next_no hn fun x h => (by cases h)
    refine stepR0 ?_
    exact fin1 Sd0
  (have fx := g4; refine stepR ?_; clear fx)
  refine ml_call Sd0 Sd0 (rDown_c W Hh S r4 c hg) ?_
  rintro dv τ5 ⟨l2, hd2, hdd2⟩
  obtain rfl := hld.uniq hdd2
  have rd := hd2.rd
  have rt5 := rt4.of_ext hd2.1
  refine stepR0 ?_
  refine mx_loop (fun m ts τ => ∃ i, m = l.length - i ∧ i ≤ l.length ∧ τ = τ5 ∧ ts 3 = tv ∧ ts 9 = .int .i64 n ∧ ts 10 = .bool ok ∧ ts 11 = dv ∧ ts 12 = .int .i64 ((i : Nat) : Int) ∧ ∀ x ∈ l.take i, freeT t x = false) l.length ?_ ?_
  · exact ⟨0, rfl, by omega, rfl, Sd0, Sd0, Sd0, Sd0, Sd0, fun x h => (by cases h)⟩
  rintro m ts τ ⟨i, rfl, hi, rfl, t3, t9, t10, t11, t12, hall⟩
  (have fx := And.intro t12 t11; refine stepR ?_; clear fx)
  refine ml_len Sd0 rd (have fx := t11; Sd) ?_
  rw [ints_len]
  rcases Nat.lt_or_ge i l.length with hil | hig
  rotate_left
  · obtain rfl : i = l.length := by omega
    have hil' : ¬ (l.length : Int) < (l.length : Int) := by omega
    rw [List.take_length] at hall
    obtain ⟨rfl, rfl⟩ := next_no hn hall
    (have fx := And.intro hil' (And.intro t9 t10); refine stepR ?_; clear fx)
    exact fin1 Sd0
  have hil' : ((i : Nat) : Int) < (l.length : Int) := by omega
  have h4 := hld.len
  have ai := ints_at hil
  have hx0 : 0 ≤ l.getD i 0 := (opn_lt (hld.mem (List.mem_of_mem_take (getD_take (Nat.lt_succ_self i) hil))).1).1
  have hat := fun h => next_at hn hil h hall
  have htk : ∀ x ∈ l.take (i + 1), x = l.getD i 0 ∨ freeT t x = false := fun x hx => by
    rw [take_succ_at hil, List.mem_append, List.mem_singleton] at hx
    exact hx.elim (fun h => .inr (hall x h)) .inl
  generalize l.getD i 0 = x at ai hx0 hat htk
  (have fx := And.intro hil' (And.intro t11 t12); refine stepR ?_; clear fx)
  refine ml_getS rd (have fx := And.intro t11 hil'; Sd) (have fx := And.intro t12 hil'; Sd) (by omega) (by rw [Int.toNat_natCast]; exact ai) fun p => ?_
  (have fx := t3; refine stepR ?_; clear fx)
  refine ml_len Sd0 rt5 (have fx := t3; Sd) ?_
  rw [bools_len]
  by_cases hxl : (t.length : Int) ≤ x
  · obtain ⟨rfl, rfl⟩ := hat (by unfold freeT; rw [decide_eq_true hxl, Bool.true_or])
    have hnn : (n == n) = true := by simp
    (have fx := And.intro hxl (And.intro t9 (And.intro t10 (And.intro t11 t12))); refine stepR ?_; clear fx)
    refine ml_getSg (have fx := And.intro hxl t10; Sd) rd (have fx := And.intro t11 hxl; Sd) (have fx := And.intro t12 hxl; Sd) (by omega) (by rw [Int.toNat_natCast]; exact ai) (fun p => (have fx := And.intro hxl t10; Sd)) fun p => ?_
    (have fx := And.intro hxl (And.intro t9 (And.intro t10 hnn)); refine stepR ?_; clear fx)
    exact fin1 (have fx := And.intro hxl (And.intro t9 (And.intro t10 hnn)); Sd)
  have hxf : freeT t x = !t.getD x.toNat false := by unfold freeT; rw [decide_eq_false hxl, Bool.false_or]
  have at' := bools_at (l := t) (i := x.toNat) (by omega)
  (have fx := And.intro hxl (And.intro t3 (And.intro t11 t12)); refine stepR ?_; clear fx)
  refine ml_getSg (have fx := hxl; Sd) rd (have fx := And.intro t11 hxl; Sd) (have fx := And.intro t12 hxl; Sd) (by omega) (by rw [Int.toNat_natCast]; exact ai) (fun p => (have fx := hxl; Sd)) fun p => ?_
  (have fx := And.intro hxl t3; refine stepR ?_; clear fx)
  refine ml_getSg (have fx := hxl; Sd) rt5 (have fx := And.intro t3 hxl; Sd) (have fx := hxl; Sd) hx0 at' (fun p => (have fx := hxl; Sd)) fun p => ?_
  rcases Bool.eq_false_or_eq_true (t.getD x.toNat false) with hb | hb
  · rw [hb] at hxf ⊢
    (have fx := And.intro hxl t12; refine stepR ?_; clear fx)
    refine ⟨_, by omega, i + 1, rfl, hil, rfl, (have fx := t3; Sd), (have fx := t9; Sd), (have fx := t10; Sd), (have fx := t11; Sd), Sd0, fun y hy => ?_⟩
    rcases htk y hy with rfl | h
    · rw [hxf]; rfl
    · exact h
  · rw [hb] at hxf ⊢
    obtain ⟨rfl, rfl⟩ := hat (by rw [hxf]; rfl)
    have hnn : (n == n) = true := by simp
    (have fx := And.intro hxl (And.intro t9 (And.intro t10 (And.intro t11 t12))); refine stepR ?_; clear fx)
    refine ml_getSg (have fx := And.intro hxl t10; Sd) rd (have fx := And.intro t11 hxl; Sd) (have fx := And.intro t12 hxl; Sd) (by omega) (by rw [Int.toNat_natCast]; exact ai) (fun p => (have fx := And.intro hxl t10; Sd)) fun p => ?_
    (have fx := And.intro hxl (And.intro t9 (And.intro t10 hnn)); refine stepR ?_; clear fx)
    exact fin1 (have fx := And.intro hxl (And.intro t9 (And.intro t10 hnn)); Sd)
end Go.Proofs.YtcjogomiiinkfaaDoor
