import Derived.Test.YtgfmphjccnemmaaDoorSafeM
namespace Go.Proofs.YtgfmphjccnemmaaDoor
open Go.Mini
open Go.Proofs.YtgfmphjccnemmaaDoor.Code
set_option linter.unusedVariables false
set_option linter.unusedSimpArgs false
set_option linter.ambiguousOpen false
attribute [local irreducible] mx ml mld mstep MCalls Ex.thn Ex.inb

theorem need_spec {W Hh : Int} {S : ByteArray} {a : List Int} {step c n : Int} (h : needO W Hh S a step c = some n) : costOK W Hh S a step = true ∧ opn S c = true ∧ ∃ k : Nat, Wk W S a k c ∧ (∀ j, Wk W S a j c → k ≤ j) ∧ n = step * k := by
  unfold needO at h
  split at h
  · rename_i h1
    simp only [Bool.and_eq_true] at h1
    refine ⟨h1.1, h1.2, ?_⟩
    rcases dist_spec W S a c with ⟨h2, _⟩ | ⟨k, h2, h3, h4⟩
    · rw [h2] at h; cases h
    · rw [h2] at h; simp only [Option.map_some, Option.some.injEq] at h; exact ⟨k, h3, h4, h.symm⟩
  · cases h
/-- A safe robot that isn't in a charger that is on may go to a neighbour. -/
theorem may_some {W Hh : Int} {S : ByteArray} {a : List Int} {step c n charge : Int} (h : needO W Hh S a step c = some n) (h0 : n ≠ 0) (hc : n ≤ charge) : ∃ y ∈ gnear W Hh S c (gr W Hh S), mayB W Hh S a step c y charge = true := by
  obtain ⟨hok, ho, k, hk, hm, rfl⟩ := need_spec h
  obtain ⟨hg, h1, h2, h3⟩ := costOK_iff.1 hok
  cases hk with
  | src hx hy => exact absurd (by simp) h0
  | @step k y _ hw hn =>
    have hy := hw.opn
    have hW := (gr_size hg).1
    have hny := near_symm hW hy hn
    have hmem : y ∈ gnear W Hh S c (gr W Hh S) := by unfold gnear; rw [hg, ho]; exact hny
    refine ⟨y, hmem, ?_⟩
    have e : step * ((k + 1 : Nat) : Int) = step * (k : Int) + step := by rw [Int.natCast_add, Int.mul_add]; simp
    have hk0 : 0 ≤ step * (k : Int) := Int.mul_nonneg (by omega) (by omega)
    rw [e] at hc
    unfold mayB safeB needO
    rw [hok, hy, decide_eq_true hmem, decide_eq_true (show step ≤ charge by omega)]
    rcases dist_spec W S a y with ⟨_, h5⟩ | ⟨m, h5, h6, h7⟩
    · exact absurd hw (h5 k)
    · rw [h5]
      have := h7 k hw
      have hmk : step * (m : Int) ≤ step * (k : Int) := Int.mul_le_mul_of_nonneg_left (by omega) (by omega)
      simp only [Bool.and_self, if_true, Option.map_some, Option.any_some, Bool.true_and, decide_eq_true_eq]
      omega

theorem safeGoes_c {σ : H} (W Hh : Int) (S : ByteArray) {o : List Nat} (hl : o.length = 8) (ho : ∀ b ∈ o, b < 256) (c charge st : Nat) (hc : c < 256) (hch : charge < 256) (hst : st < 256) :
    MCalls Tryd.prog 8 [mapV W Hh S, offV o, .int .u8 c, .int .u8 charge, .int .u8 st] σ (fun v _ => v = .bool true) := by
  refine mcalls_of fn8 (by simp) ?_
  unfold c8 r8 mapV offV
  refine stepR0 ?_
  generalize hτ : H.push (H.push _ _) _ = τ
  have gm : τ.get σ.size = .cells 0 (mapC W Hh S) := by rw [← hτ, H.get_push_ne (by simp), H.get_push_self]; rfl
  have go : τ.get (σ.size + 1) = .cells 0 (offC o) := by rw [← hτ]; exact H.get_push_self (σ.push _) _
  clear hτ
  generalize σ.size + 1 = io at go
  generalize σ.size = im at gm
  refine ml_call Sd0 Sd0 (sAwake_c τ) ?_
  rintro _ τ1 ⟨rfl, e1⟩
  have gm1 := e1.cells gm
  have go1 := e1.cells go
  (have fx := gm1; refine stepR ?_; clear fx)
  refine ml_call Sd0 Sd0 (rRight_c W Hh S τ1) ?_
  rintro _ τ2 ⟨rfl, e2⟩
  have gm2 := e2.cells gm1
  have go2 := e2.cells go1
  cases hg : gr W Hh S
  · refine stepR0 ?_
    refine ml_call Sd0 Sd0 (sAwake_c τ2) ?_
    rintro _ τ3 ⟨rfl, e3⟩
    refine stepR0 ?_
    exact fin1 Sd0
  have hS := gr_size hg
  (have fx := gm2; refine stepR ?_; clear fx)
  refine ml_call Sd0 Sd0 (gOf_c W Hh S τ2) ?_
  rintro _ τ3 ⟨rfl, e3⟩
  refine stepR0 ?_
  refine ml_init (vs := mapC W Hh S) Sd0 Sd0 Sd0 rfl rfl rfl fun τ4 e4 gx => ?_
  have e24 := e3.trans e4
  have gm4 := e24.cells gm2
  have go4 := e24.cells go2
  generalize τ3.size = ix at gx
  (have fx := gx; refine stepR ?_; clear fx)
  refine ml_loadN Sd0 Sd0 (row_of go4 (rowC (by rw [offC_len]; exact hl))) ?_
  (have fx := gx; refine stepR ?_; clear fx)
  refine ml_call Sd0 Sd0 (on_c (σ := τ4) W Hh S hl ho) ?_
  rintro v1 τ5 ⟨rd1, e5⟩
  generalize onL S o (gr W Hh S) = a at rd1
  have gm5 := e5.cells gm4
  have gx5 := e5.cells gx
  clear gx go4 gm4 go2 gm2 gm1 go1 gm go
  have hr3 : (st : Int).tmod 3 = ((st % 3 : Nat) : Int) := by rw [Int.ofNat_tmod]; rfl
  have h3 : st % 3 < 3 := Nat.mod_lt _ (by omega)
  have hrem : (c : Int).tmod (S.size : Int) = ((c % S.size : Nat) : Int) := by rw [Int.ofNat_tmod]
  have hNz : (S.size : Int) ≠ 0 := by omega
  generalize c % S.size = at_ at hrem
  generalize hk : 1 + ((st % 3 : Nat) : Int) = k
  have hk1 : 1 ≤ k ∧ k ≤ 3 := by omega
  (have fx := And.intro hr3 (And.intro hk (And.intro gm5 (And.intro gx5 hrem))); refine stepR ?_; clear fx)
  refine ml_call Sd0 (have fx := And.intro hr3 (And.intro hk hrem); Sd) (need_c W Hh S rd1 at_ k) ?_
  rintro _ τ6 ⟨rfl, e6⟩
  have gx6 := e6.cells gx5
  (have fx := And.intro gx6 hrem; refine stepR ?_; clear fx)
  refine ml_call Sd0 (have fx := hrem; Sd) (gnear_c W Hh S at_ τ6) ?_
  rintro nv τ7 ⟨e7, no, nown, _⟩
  have gx7 := e7.cells gx6
  have rd7 := (rd1.of_ext e6).of_ext e7
  have nrd := nown.rd
  have hspec : ∀ n, needO W Hh S a k at_ = some n → n ≠ 0 → n ≤ charge → ∃ y ∈ gnear W Hh S at_ (gr W Hh S), mayB W Hh S a k at_ y charge = true := fun n h1 h2 h3 => may_some h1 h2 h3
  have hnl := gnear_len W Hh S at_ (gr W Hh S)
  generalize hL : gnear W Hh S at_ (gr W Hh S) = L at nown nrd hspec hnl
  have hLn : (ints L).length = L.length := ints_len _
  generalize hN : needO W Hh S a k at_ = N at hspec
  refine stepR0 ?_
  refine mx_loop (fun n ts τ => ∃ i : Nat, n = L.length - i ∧ i ≤ L.length ∧ Rd τ v1 (ints a) ∧ Rd τ nv (ints L) ∧ τ.get ix = .cells 0 (mapC W Hh S) ∧
    ts 3 = .int .u8 charge ∧ ts 11 = .pointer (some ⟨ix, 0, none⟩) ∧ ts 12 = v1 ∧ ts 13 = .int .i64 k ∧ ts 14 = .int .i64 at_ ∧ ts 15 = .int .i64 (N.getD 0) ∧ ts 16 = .bool N.isSome ∧ ts 17 = nv ∧ ts 18 = .bool ((L.take i).any fun y => mayB W Hh S a k at_ y charge) ∧ ts 19 = .int .i64 ((i : Nat) : Int)) L.length ?_ ?_
  · exact ⟨0, rfl, Nat.zero_le _, rd7, nrd, gx7, Sd0, Sd0, Sd0, (have fx := And.intro hr3 hk; Sd), (have fx := hrem; Sd), Sd0, Sd0, Sd0, by rw [List.take_zero, List.any_nil]; exact Sd0, Sd0⟩
  clear rd7 nrd gx7 gx6 gx5 gm5 rd1 nown
  rintro n ts τ ⟨i, rfl, hi, rd, nrd, gx, t3, t11, t12, t13, t14, t15, t16, t17, t18, t19⟩
  (have fx := And.intro t17 t19; refine stepR ?_; clear fx)
  refine ml_len Sd0 nrd (have fx := t17; Sd) ?_
  rcases Nat.lt_or_ge i L.length with hlt | hge
  · have hget : (ints L)[((i : Int)).toNat]? = some (.int .i64 (L.getD i 0)) := by rw [Int.toNat_natCast]; exact ints_at hlt
    have htk : L.take (i + 1) = L.take i ++ [L.getD i 0] := take_succ_getD hlt
    generalize L.getD i 0 = y at hget htk
    have hany : (L.take (i + 1)).any (fun y => mayB W Hh S a k at_ y charge) = ((L.take i).any (fun y => mayB W Hh S a k at_ y charge) || mayB W Hh S a k at_ y charge) := by
      rw [htk, List.any_append]; simp
    (have fx := And.intro hLn (And.intro t11 (And.intro t12 (And.intro t14 (And.intro t17 (And.intro t19 gx))))); refine stepR ?_; clear fx)
    refine mld_getS Sd0 nrd (have fx := t17; Sd) (have fx := t19; Sd) (by omega) hget (fun p => Sd0) fun p => ?_
    (have fx := And.intro t3 t13; refine stepR ?_; clear fx)
    refine mld_callW Sd0 (have fx := And.intro t12 (And.intro t14 (And.intro t3 t13)); Sd) (may_c W Hh S rd at_ y charge k (by omega) (by omega) (by omega) (by omega)) ?_
    rintro _ τ2 ⟨rfl, e2⟩
    have gx2 := e2.cells gx
    have rd2 := rd.of_ext e2
    have nrd2 := nrd.of_ext e2
    cases hm : mayB W Hh S a k at_ y charge
    · rw [hm, Bool.or_false] at hany
      (have fx := t19; refine stepR ?_; clear fx)
      exact ⟨_, by omega, i + 1, rfl, hlt, rd2, nrd2, gx2, (have fx := t3; Sd), (have fx := t11; Sd), (have fx := t12; Sd), (have fx := t13; Sd), (have fx := t14; Sd), (have fx := t15; Sd), (have fx := t16; Sd), (have fx := t17; Sd), by rw [hany]; exact (have fx := t18; Sd), Sd0⟩
    · rw [hm, Bool.or_true] at hany
      have hsafe : safeB W Hh S a k y (charge - k) = true := by
        unfold mayB at hm; simp only [Bool.and_eq_true] at hm; exact hm.2
      (have fx := And.intro t11 (And.intro t12 (And.intro t17 (And.intro t19 gx2))); refine stepR ?_; clear fx)
      refine mld_getS Sd0 nrd2 (have fx := t17; Sd) (have fx := t19; Sd) (by omega) hget (fun p => Sd0) fun p => ?_
      (have fx := And.intro t3 t13; refine stepR ?_; clear fx)
      refine mld_callW Sd0 (have fx := And.intro t12 (And.intro t3 t13); Sd) (safe_c W Hh S rd2 y (charge - k) k) ?_
      rw [hsafe]
      rintro _ τ3 ⟨rfl, e3⟩
      (have fx := t19; refine stepR ?_; clear fx)
      exact ⟨_, by omega, i + 1, rfl, hlt, rd2.of_ext e3, nrd2.of_ext e3, e3.cells gx2, (have fx := t3; Sd), (have fx := t11; Sd), (have fx := t12; Sd), (have fx := t13; Sd), (have fx := t14; Sd), (have fx := t15; Sd), (have fx := t16; Sd), (have fx := t17; Sd), by rw [hany]; exact Sd0, Sd0⟩
  have : i = L.length := by omega
  subst this
  rw [List.take_length] at t18
  cases N with
  | none =>
    (have fx := And.intro hLn (And.intro t16 t19); refine stepR ?_; clear fx)
    exact fin1 Sd0
  | some n =>
    by_cases h0 : n = 0
    · have h0' : (n == 0) = true := by rw [h0]; rfl
      (have fx := And.intro hLn (And.intro t15 (And.intro t16 (And.intro t19 h0'))); refine stepR ?_; clear fx)
      exact fin1 (have fx := h0'; Sd)
    · have h0' : (n == 0) = false := beq_eq_false_iff_ne.2 h0
      by_cases hn : n ≤ charge
      · have hn' : ¬ (charge : Int) < n := by omega
        have hsome : (L.any fun y => mayB W Hh S a k at_ y charge) = true := by
          obtain ⟨y, hy, hmy⟩ := hspec n rfl h0 hn
          exact List.any_eq_true.2 ⟨y, hy, hmy⟩
        rw [hsome] at t18
        (have fx := And.intro hLn (And.intro t3 (And.intro t15 (And.intro t16 (And.intro t18 (And.intro t19 (And.intro h0' hn')))))); refine stepR ?_; clear fx)
        exact fin1 (have fx := And.intro h0' hn'; Sd)
      · have hn' : (charge : Int) < n := by omega
        (have fx := And.intro hLn (And.intro t3 (And.intro t15 (And.intro t16 (And.intro t18 (And.intro t19 (And.intro h0' hn')))))); refine stepR ?_; clear fx)
        exact fin1 (have fx := And.intro h0' hn'; Sd)
end Go.Proofs.YtgfmphjccnemmaaDoor
