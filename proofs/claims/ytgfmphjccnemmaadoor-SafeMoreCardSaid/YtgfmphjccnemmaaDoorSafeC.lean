import Derived.Test.YtgfmphjccnemmaaDoorSafeA
import Derived.Test.YtgfmphjccnemmaaDoorSafeB
import Derived.Test.YtgfmphjccnemmaaDoorFieldB
import Derived.Test.YtgfmphjccnemmaaDoorGridH
namespace Go.Proofs.YtgfmphjccnemmaaDoor
open Go.Mini
open Go.Proofs.YtgfmphjccnemmaaDoor.Code
set_option linter.unusedVariables false
set_option linter.unusedSimpArgs false
set_option linter.ambiguousOpen false
attribute [local irreducible] mx ml mld mstep MCalls Ex.thn Ex.inb

/-- The chargers that are on. -/
def onL (S : ByteArray) (o : List Nat) (b : Bool) : List Int := (gkind S 67 b).filter fun x => !isOff o x.toNat
theorem gkind_mem {S : ByteArray} {k : UInt8} {b : Bool} {x : Int} : x ∈ gkind S k b ↔ b = true ∧ ∃ i : Nat, x = i ∧ i < S.size ∧ S.data.toList.getD i 0 = k := by
  unfold gkind
  cases b
  · simp
  · simp only [if_true, List.mem_map, List.mem_filter, List.mem_range, beq_iff_eq, true_and]
    constructor
    · rintro ⟨i, ⟨h1, h2⟩, rfl⟩; exact ⟨i, rfl, h1, h2⟩
    · rintro ⟨i, rfl, h1, h2⟩; exact ⟨i, ⟨h1, h2⟩, rfl⟩

theorem on_c {σ : H} (W Hh : Int) (S : ByteArray) {o : List Nat} (hl : o.length = 8) (ho : ∀ b ∈ o, b < 256) :
    MCalls Tryd.prog 18 [mapV W Hh S, offV o] σ (fun v τ => Rd τ v (ints (onL S o (gr W Hh S))) ∧ Ext σ τ) := by
  refine mcalls_of fn18 (by simp) ?_
  unfold c18 r18 mapV offV
  refine stepR0 ?_
  generalize hτ : H.push _ _ = τ
  have g1 : τ.get σ.size = .cells 0 [.int .i64 W, .int .i64 Hh, .string S] := by rw [← hτ, H.get_push_ne (by simp), H.get_push_self]
  have g2 : τ.get (σ.size + 1) = .cells 0 (offC o) := by rw [← hτ]; exact H.get_push_self (σ.push _) _
  have e1 : Ext σ τ := hτ ▸ (Ext.push _ _).trans (Ext.push _ _)
  have hlt := H.lt_of_cells g2
  clear hτ
  (have fx := g1; refine stepR ?_; clear fx)
  refine ml_call Sd0 Sd0 (gkind_c W Hh S 67 τ) ?_
  rintro kv τ2 ⟨e2, oid, own, hid⟩
  refine stepR0 ?_
  refine ml_call Sd0 Sd0 (deleteFunc_c (p := fun x => isOff o x.toNat) own rfl ?_ ?_) ?_
  · unfold gkind
    cases hg : gr W Hh S
    · simp
    · have := gkindN_len S 67 S.size
      have := gr_size hg
      simp only [gkindN] at *; simp only [if_true]; omega
  · intro x hx τ3 kb
    obtain ⟨hg, i, rfl, hi, _⟩ := gkind_mem.1 hx
    have := gr_size hg
    have g3 : τ3.get (σ.size + 1) = .cells 0 (offC o) := by
      rw [kb.2 _ (by have := e2.size; omega) (fun e => by have := hid _ e; omega)]; exact e2.cells g2
    rw [Int.toNat_natCast]
    exact (on1_c hl ho g3 i (by omega)).mono fun v τ' h => ⟨h.1, by rw [h.2]; exact .refl _⟩
  rintro v τ3 ⟨rd, kb⟩
  refine stepR0 ?_
  refine fin1 ⟨?_, kb.ext (e1.trans e2) fun i hi => by have := hid i hi; have := e1.size; omega⟩
  simp only [go_sem, reduceIte, Nat.reduceEqDiff, reduceCtorEq, Nat.reduceAdd, Nat.reduceLeDiff, Int.reduceNeg, Int.reduceToNat, Int.reduceBEq, Int.reduceBNe, Int.reduceLT, Int.reduceLE, Int.reduceAdd, Int.reduceSub]
  exact rd

/-! ## What is needed -/
noncomputable def dist (W : Int) (S : ByteArray) (src : List Int) (x : Int) : Option Nat :=
  @dite _ (∃ k, Wk W S src k x) (Classical.propDecidable _) (fun h => some (Classical.choose (show ∃ k, Wk W S src k x ∧ ∀ j, Wk W S src j x → k ≤ j from by
    obtain ⟨k, hk⟩ := h
    induction k using Nat.strongRecOn with
    | ind k ih =>
      by_cases hc : ∃ j, j < k ∧ Wk W S src j x
      · obtain ⟨j, hj, hw⟩ := hc; exact ih j hj hw
      · exact ⟨k, hk, fun j hj => Nat.le_of_not_lt fun hlt => hc ⟨j, hlt, hj⟩⟩))) (fun _ => none)
theorem dist_spec (W : Int) (S : ByteArray) (src : List Int) (x : Int) : (dist W S src x = none ∧ ∀ k, ¬ Wk W S src k x) ∨ ∃ k, dist W S src x = some k ∧ Wk W S src k x ∧ ∀ j, Wk W S src j x → k ≤ j := by
  unfold dist
  by_cases h : ∃ k, Wk W S src k x
  · rw [dif_pos h]
    exact .inr ⟨_, rfl, Classical.choose_spec (_ : ∃ k, Wk W S src k x ∧ ∀ j, Wk W S src j x → k ≤ j)⟩
  · rw [dif_neg h]
    exact .inl ⟨rfl, fun k hk => h ⟨k, hk⟩⟩
theorem dist_eq {W : Int} {S : ByteArray} {src : List Int} {x : Int} {k : Nat} (h : Wk W S src k x) (hm : ∀ j, Wk W S src j x → k ≤ j) : dist W S src x = some k := by
  rcases dist_spec W S src x with ⟨_, h2⟩ | ⟨k', h1, h2, h3⟩
  · exact absurd h (h2 k)
  · rw [h1, Nat.le_antisymm (h3 _ h) (hm _ h2)]
theorem dist_none {W : Int} {S : ByteArray} {src : List Int} {x : Int} (h : ∀ k, ¬ Wk W S src k x) : dist W S src x = none := by
  rcases dist_spec W S src x with ⟨h1, _⟩ | ⟨k', h1, h2, h3⟩
  · exact h1
  · exact absurd h2 (h k')
def costV (step : Int) : Option Nat → Int
  | none => -1
  | some k => step * k
theorem CostOK.eq {W : Int} {S : ByteArray} {src : List Int} {step x c : Int} (h : CostOK W S src step x c) : c = costV step (dist W S src x) := by
  rcases h with ⟨rfl, h⟩ | ⟨k, h1, h2, rfl⟩
  · rw [dist_none h]; rfl
  · rw [dist_eq h1 h2]; rfl
theorem Cst.get {W : Int} {S : ByteArray} {src : List Int} {step : Int} {out : List Int} (h : Cst W S src step out) {i : Nat} (hi : i < S.size) : out.getD i 0 = costV step (dist W S src i) := (h.2 i hi).eq
theorem costV_nonneg {step : Int} (h : 0 ≤ step) {d : Option Nat} : 0 ≤ costV step d ↔ d.isSome = true := by
  cases d with
  | none => simp [costV]
  | some k => simp only [costV, Option.isSome_some, iff_true]; exact Int.mul_nonneg h (by omega)

noncomputable def needO (W Hh : Int) (S : ByteArray) (on : List Int) (step c : Int) : Option Int :=
  if costOK W Hh S on step && opn S c then (dist W S on c).map (fun (k : Nat) => step * (k : Int)) else none
theorem costOK_iff {W Hh : Int} {S : ByteArray} {srcs : List Int} {step : Int} : costOK W Hh S srcs step = true ↔ gr W Hh S = true ∧ 1 ≤ step ∧ step ≤ 100 ∧ srcs.length ≤ 64 := by
  simp only [costOK, Bool.and_eq_true, decide_eq_true_eq, and_assoc]

theorem need_c {σ : H} (W Hh : Int) (S : ByteArray) {ov : Value} {on : List Int} (hr : Rd σ ov (ints on)) (c step : Int) :
    MCalls Tryd.prog 19 [mapV W Hh S, ov, .int .i64 c, .int .i64 step] σ (fun v τ => v = .tuple #[.int .i64 ((needO W Hh S on step c).getD 0), .bool (needO W Hh S on step c).isSome] ∧ Ext σ τ) := by
  refine mcalls_of fn19 (by simp) ?_
  unfold c19 r19 mapV
  refine stepR0 ?_
  generalize hτ : H.push _ _ = τ
  have g1 : τ.get σ.size = .cells 0 [.int .i64 W, .int .i64 Hh, .string S] := by rw [← hτ]; exact H.get_push_self _ _
  have e1 : Ext σ τ := hτ ▸ Ext.push _ _
  clear hτ
  (have fx := g1; refine stepR ?_; clear fx)
  refine ml_call Sd0 Sd0 (costs_c W Hh S on step ov τ (hr.of_ext e1)) ?_
  intro v τ2 h2
  unfold costR at h2
  unfold needO
  cases hok : costOK W Hh S on step
  · rw [if_neg (by rw [hok]; simp)] at h2
    obtain ⟨ev, rfl, ⟨id, rfl, _⟩, e2⟩ := h2
    refine stepR0 ?_
    refine fin2 (And.intro ?_ (e1.trans e2))
    simp only [go_sem, reduceIte, Nat.reduceEqDiff, reduceCtorEq, Nat.reduceAdd, Nat.reduceLeDiff, Int.reduceNeg, Int.reduceToNat, Int.reduceBEq, Int.reduceBNe, Int.reduceLT, Int.reduceLE, Int.reduceAdd, Int.reduceSub, Bool.false_and]
    try rfl
  rw [if_pos hok] at h2
  obtain ⟨vo, out, rfl, hc, e2, oid, own, _⟩ := h2
  have hall := costOK_iff.1 hok
  have g2 := e2.cells g1
  (have fx := g2; refine stepR ?_; clear fx)
  refine ml_call Sd0 Sd0 (gopen_c W Hh S c τ2) ?_
  rintro _ τ3 ⟨rfl, e3⟩
  rw [hall.1]
  have e13 := e1.trans (e2.trans e3)
  cases hop : opn S c
  · refine stepR0 ?_
    refine fin2 (And.intro ?_ (e13))
    simp only [go_sem, reduceIte, Nat.reduceEqDiff, reduceCtorEq, Nat.reduceAdd, Nat.reduceLeDiff, Int.reduceNeg, Int.reduceToNat, Int.reduceBEq, Int.reduceBNe, Int.reduceLT, Int.reduceLE, Int.reduceAdd, Int.reduceSub, Bool.and_false]
    try rfl
  have hcl := opn_lt hop
  have hci : ((c.toNat : Nat) : Int) = c := Int.toNat_of_nonneg hcl.1
  have hct : c.toNat < S.size := by omega
  have hget := hc.get hct
  rw [hci] at hget
  have rd := (own.of_ext e3).rd
  have hge := ints_getD (l := out) (i := c.toNat) (by rw [hc.1]; exact hct)
  rw [hget] at hge
  have hnn := costV_nonneg (step := step) (by omega) (d := dist W S on c)
  refine stepR0 ?_
  refine ml_getSg Sd0 rd Sd0 Sd0 hcl.1 hge (fun p => Sd0) fun p => ?_
  cases hd : dist W S on c with
  | none =>
    rw [hd] at hge
    have h0 : costV step none < 0 := by simp [costV]
    (have fx := h0; refine stepR ?_; clear fx)
    refine fin2 (And.intro ?_ (e13))
    simp only [go_sem, reduceIte, Nat.reduceEqDiff, reduceCtorEq, Nat.reduceAdd, Nat.reduceLeDiff, Int.reduceNeg, Int.reduceToNat, Int.reduceBEq, Int.reduceBNe, Int.reduceLT, Int.reduceLE, Int.reduceAdd, Int.reduceSub, Bool.and_self, Option.map_none]
    try rfl
  | some k =>
    rw [hd] at hge hnn
    have h0 : ¬ costV step (some k) < 0 := by have := hnn.2 rfl; omega
    (have fx := h0; refine stepR ?_; clear fx)
    refine ml_getS rd Sd0 Sd0 hcl.1 hge fun p2 => ?_
    refine stepR0 ?_
    refine fin2 (And.intro ?_ (e13))
    simp only [go_sem, reduceIte, Nat.reduceEqDiff, reduceCtorEq, Nat.reduceAdd, Nat.reduceLeDiff, Int.reduceNeg, Int.reduceToNat, Int.reduceBEq, Int.reduceBNe, Int.reduceLT, Int.reduceLE, Int.reduceAdd, Int.reduceSub, Bool.and_self, Option.map_some, costV]
    try rfl

noncomputable def safeB (W Hh : Int) (S : ByteArray) (on : List Int) (step c charge : Int) : Bool := (needO W Hh S on step c).any fun n => decide (n ≤ charge)
theorem safe_c {σ : H} (W Hh : Int) (S : ByteArray) {ov : Value} {on : List Int} (hr : Rd σ ov (ints on)) (c charge step : Int) :
    MCalls Tryd.prog 20 [mapV W Hh S, ov, .int .i64 c, .int .i64 charge, .int .i64 step] σ (fun v τ => v = .bool (safeB W Hh S on step c charge) ∧ Ext σ τ) := by
  refine mcalls_of fn20 (by simp) ?_
  unfold c20 r20 mapV
  refine stepR0 ?_
  generalize hτ : H.push _ _ = τ
  have g1 : τ.get σ.size = .cells 0 [.int .i64 W, .int .i64 Hh, .string S] := by rw [← hτ]; exact H.get_push_self _ _
  have e1 : Ext σ τ := hτ ▸ Ext.push _ _
  clear hτ
  (have fx := g1; refine stepR ?_; clear fx)
  refine ml_call Sd0 Sd0 (need_c W Hh S (hr.of_ext e1) c step) ?_
  rintro _ τ2 ⟨rfl, e2⟩
  unfold safeB
  cases hn : needO W Hh S on step c with
  | none =>
    refine stepR0 ?_
    refine fin1 ⟨?_, e1.trans e2⟩
    simp only [go_sem, reduceIte, Nat.reduceEqDiff, reduceCtorEq, Nat.reduceAdd, Nat.reduceLeDiff, Int.reduceNeg, Int.reduceToNat, Int.reduceBEq, Int.reduceBNe, Int.reduceLT, Int.reduceLE, Int.reduceAdd, Int.reduceSub, Option.isSome_none]
    try rfl
  | some n =>
    refine stepR0 ?_
    refine fin1 ⟨?_, e1.trans e2⟩
    simp only [go_sem, reduceIte, Nat.reduceEqDiff, reduceCtorEq, Nat.reduceAdd, Nat.reduceLeDiff, Int.reduceNeg, Int.reduceToNat, Int.reduceBEq, Int.reduceBNe, Int.reduceLT, Int.reduceLE, Int.reduceAdd, Int.reduceSub, Option.isSome_some]
    try rfl

/-- slices.Index, slices.Contains. -/
theorem slIndex_c {σ : H} {v : Value} {l : List Int} (hr : Rd σ v (ints l)) (hl : l.length ≤ 1000000) (x : Int) :
    MCalls Tryd.prog 61 [v, .int .i64 x] σ (fun r τ => τ = σ ∧ ((r = .int .i64 (-1) ∧ x ∉ l) ∨ ∃ i : Nat, i < l.length ∧ r = .int .i64 i ∧ x ∈ l)) := by
  refine mcalls_of fn61 (by simp) ?_
  unfold c61 r61
  have hsz : (ints l).length = l.length := ints_len _
  refine stepR0 ?_
  refine ml_len Sd0 hr Sd0 ?_
  (have fx := hsz; refine stepR ?_; clear fx)
  refine mx_loop (fun n ts τ => ∃ i : Nat, n = l.length - i ∧ i ≤ l.length ∧ τ = σ ∧ x ∉ l.take i ∧ ts 0 = v ∧ ts 1 = .int .i64 x ∧ ts 7 = .int .i64 l.length ∧ ts 8 = .int .i64 ((i : Nat) : Int)) l.length ?_ ?_
  · exact ⟨0, rfl, Nat.zero_le _, rfl, by simp, Sd0, Sd0, Sd0, Sd0⟩
  rintro n ts τ ⟨i, rfl, hi, rfl, hall, t0, t1, t7, t8⟩
  rcases Nat.lt_or_ge i l.length with hlt | hge
  · have hm : l.getD i 0 ∈ l := by rw [List.getD_eq_getElem?_getD, List.getElem?_eq_getElem hlt]; exact List.getElem_mem hlt
    (have fx := And.intro t0 (And.intro t1 (And.intro t7 t8)); refine stepR ?_; clear fx)
    refine ml_getS hr (have fx := t0; Sd) (have fx := t8; Sd) (by omega) (by rw [Int.toNat_natCast]; exact ints_getD hlt) fun q => ?_
    by_cases hx : x = l.getD i 0
    · have hx2 : (x == l.getD i 0) = true := by simpa using hx
      (have fx := And.intro t1 (And.intro hx2 t8); refine stepR ?_; clear fx)
      exact fin1 ⟨rfl, .inr ⟨i, hlt, Sd0, by rw [hx]; exact hm⟩⟩
    · have hx2 : (x == l.getD i 0) = false := by simpa using hx
      (have fx := And.intro t1 (And.intro hx2 t8); refine stepR ?_; clear fx)
      refine ⟨_, ?_, i + 1, rfl, hlt, rfl, ?_, (have fx := t0; Sd), (have fx := t1; Sd), (have fx := t7; Sd), Sd0⟩
      · omega
      · rw [take_succ_getD hlt, List.mem_append, List.mem_singleton]
        rintro (h | h)
        · exact hall h
        · exact hx h
  · have : i = l.length := by omega
    subst this
    rw [List.take_length] at hall
    (have fx := And.intro t0 (And.intro t1 (And.intro t7 t8)); refine stepR ?_; clear fx)
    exact fin1 ⟨rfl, .inl ⟨Sd0, hall⟩⟩
theorem contains_c {σ : H} {v : Value} {l : List Int} (hr : Rd σ v (ints l)) (hl : l.length ≤ 1000000) (x : Int) :
    MCalls Tryd.prog 42 [v, .int .i64 x] σ (fun r τ => r = .bool (decide (x ∈ l)) ∧ τ = σ) := by
  refine mcalls_of fn42 (by simp) ?_
  unfold c42 r42
  refine stepR0 ?_
  refine ml_call Sd0 Sd0 (slIndex_c hr hl x) ?_
  rintro _ τ ⟨rfl, ⟨rfl, h⟩ | ⟨i, hi, rfl, h⟩⟩
  · refine stepR0 ?_
    refine fin1 ⟨?_, rfl⟩
    simp only [go_sem, reduceIte, Nat.reduceEqDiff, reduceCtorEq, Nat.reduceAdd, Nat.reduceLeDiff, Int.reduceNeg, Int.reduceToNat, Int.reduceBEq, Int.reduceBNe, Int.reduceLT, Int.reduceLE, Int.reduceAdd, Int.reduceSub, h]
  · have h0 : (0 : Int) ≤ (i : Int) := by omega
    (have fx := h0; refine stepR ?_; clear fx)
    refine fin1 ⟨?_, rfl⟩
    simp only [go_sem, reduceIte, Nat.reduceEqDiff, reduceCtorEq, Nat.reduceAdd, Nat.reduceLeDiff, Int.reduceNeg, Int.reduceToNat, Int.reduceBEq, Int.reduceBNe, Int.reduceLT, Int.reduceLE, Int.reduceAdd, Int.reduceSub, h, h0]

noncomputable def mayB (W Hh : Int) (S : ByteArray) (on : List Int) (step c to charge : Int) : Bool :=
  decide (to ∈ gnear W Hh S c (gr W Hh S)) && decide (step ≤ charge) && safeB W Hh S on step to (charge - step)
theorem safeB_ok {W Hh : Int} {S : ByteArray} {on : List Int} {step c charge : Int} (h : safeB W Hh S on step c charge = true) : 1 ≤ step ∧ step ≤ 100 := by
  unfold safeB needO at h
  split at h
  · rename_i h1
    simp only [Bool.and_eq_true] at h1
    have := costOK_iff.1 h1.1
    exact ⟨this.2.1, this.2.2.1⟩
  · simp at h
theorem gnear_len (W Hh : Int) (S : ByteArray) (c : Int) (b : Bool) : (gnear W Hh S c b).length ≤ 4 := by
  unfold gnear; split
  · exact nearL_len W S c
  · simp
theorem may_c {σ : H} (W Hh : Int) (S : ByteArray) {ov : Value} {on : List Int} (hr : Rd σ ov (ints on)) (c to charge step : Int) (h1 : -9223372036854775808 ≤ charge) (h2 : charge ≤ 9223372036854775807) (h3 : -9223372036854775808 ≤ step) (h4 : step ≤ 9223372036854775807) :
    MCalls Tryd.prog 25 [mapV W Hh S, ov, .int .i64 c, .int .i64 to, .int .i64 charge, .int .i64 step] σ (fun v τ => v = .bool (mayB W Hh S on step c to charge) ∧ Ext σ τ) := by
  refine mcalls_of fn25 (by simp) ?_
  unfold c25 r25 mapV
  refine stepR0 ?_
  generalize hτ : H.push _ _ = τ
  have g1 : τ.get σ.size = .cells 0 [.int .i64 W, .int .i64 Hh, .string S] := by rw [← hτ]; exact H.get_push_self _ _
  have e1 : Ext σ τ := hτ ▸ Ext.push _ _
  clear hτ
  (have fx := g1; refine stepR ?_; clear fx)
  refine ml_call Sd0 Sd0 (gnear_c W Hh S c τ) ?_
  rintro nv τ2 ⟨e2, no, nown, _⟩
  refine stepR0 ?_
  refine ml_call Sd0 Sd0 (contains_c nown.rd (by have := gnear_len W Hh S c (gr W Hh S); omega) to) ?_
  rintro _ τ2 ⟨rfl, rfl⟩
  have g2 := e2.cells g1
  unfold mayB
  by_cases hin : to ∈ gnear W Hh S c (gr W Hh S)
  · by_cases hs : step ≤ charge
    · (have fx := And.intro hin (And.intro hs g2); refine stepR ?_; clear fx)
      refine ml_call (have fx := And.intro hin hs; Sd) Sd0 (safe_c W Hh S (hr.of_ext (e1.trans e2)) to (IntKind.i64.wrap (charge - step)) step) ?_
      rintro _ τ3 ⟨rfl, e3⟩
      (have fx := And.intro hin hs; refine stepR ?_; clear fx)
      refine fin1 ⟨?_, e1.trans (e2.trans e3)⟩
      simp only [go_sem, reduceIte, Nat.reduceEqDiff, reduceCtorEq, Nat.reduceAdd, Nat.reduceLeDiff, Int.reduceNeg, Int.reduceToNat, Int.reduceBEq, Int.reduceBNe, Int.reduceLT, Int.reduceLE, Int.reduceAdd, Int.reduceSub, hin, hs, Bool.true_and]
      rw [Value.bool.injEq]
      by_cases hw : 1 ≤ step ∧ step ≤ 100
      · rw [i64wrap (by omega) (by omega)]
      · have a1 : safeB W Hh S on step to (IntKind.i64.wrap (charge - step)) = false := by
          rw [← Bool.not_eq_true]; exact fun h => hw (safeB_ok h)
        have a2 : safeB W Hh S on step to (charge - step) = false := by
          rw [← Bool.not_eq_true]; exact fun h => hw (safeB_ok h)
        rw [a1, a2]
    · (have fx := And.intro hin hs; refine stepR ?_; clear fx)
      refine fin1 ⟨?_, e1.trans e2⟩
      simp only [go_sem, reduceIte, Nat.reduceEqDiff, reduceCtorEq, Nat.reduceAdd, Nat.reduceLeDiff, Int.reduceNeg, Int.reduceToNat, Int.reduceBEq, Int.reduceBNe, Int.reduceLT, Int.reduceLE, Int.reduceAdd, Int.reduceSub, hin, hs, Bool.and_false, Bool.false_and]
  · (have fx := hin; refine stepR ?_; clear fx)
    refine fin1 ⟨?_, e1.trans e2⟩
    simp only [go_sem, reduceIte, Nat.reduceEqDiff, reduceCtorEq, Nat.reduceAdd, Nat.reduceLeDiff, Int.reduceNeg, Int.reduceToNat, Int.reduceBEq, Int.reduceBNe, Int.reduceLT, Int.reduceLE, Int.reduceAdd, Int.reduceSub, hin, Bool.false_and]
end Go.Proofs.YtgfmphjccnemmaaDoor
