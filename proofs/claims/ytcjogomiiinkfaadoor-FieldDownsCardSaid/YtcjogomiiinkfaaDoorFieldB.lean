import Derived.Test.YtcjogomiiinkfaaDoorFieldA
import Derived.Test.YtcjogomiiinkfaaDoorFieldP
import Derived.Test.YtcjogomiiinkfaaDoorTagA
import Derived.Test.YtcjogomiiinkfaaDoorHeapD
import Derived.Test.YtcjogomiiinkfaaDoorGridH
namespace Go.Proofs.YtcjogomiiinkfaaDoor
open Go.Mini
open Go.Proofs.YtcjogomiiinkfaaDoor.Code
set_option linter.unusedVariables false
set_option linter.unusedSimpArgs false
set_option linter.ambiguousOpen false
attribute [local irreducible] mx ml mld mstep MCalls Ex.thn Ex.inb
variable {E : World → Prop}

theorem Own.keep2 {σ τ : H} {hid sz : Nat} {v : Value} {oid : Option Nat} {cs hc : List Value} (h : Own σ 1 v oid cs) (k : Keep2 hid σ τ) (hh : σ.get hid = .cells 0 hc) : Own τ 1 v oid cs := by
  cases h with
  | nil => exact .nil
  | @full id n _ h hl =>
    refine .full ?_ hl
    rw [k.2 id (by rw [h]; simp) (fun e => by rw [e, hh] at h; cases h) (by rw [h]; simp), h]
theorem HeapAt.setC {σ0 σ τ : H} {hid i : Nat} {L : List Due} {cs cs' : List Value} (h : HeapAt σ0 hid L σ) (hs : SetTo σ i (.cells 1 cs') τ) (hg : σ.get i = .cells 1 cs) (hi : σ0.size ≤ i) : HeapAt σ0 hid L τ := by
  obtain ⟨h1, h2, v, h3, h4⟩ := h
  have hne : hid ≠ i := fun e => by rw [e, hg] at h3; cases h3
  refine ⟨hs.ext h1 hi, h2, v, hs.cells h3 hne, ?_⟩
  rcases h4 with h4 | ⟨id, R, h5, h6, h7⟩
  · exact .inl h4
  · exact .inr ⟨id, R, h5, h6, hs.cells h7 (fun e => by rw [e, hg] at h7; cases h7)⟩

/-- What stands between two steps of Costs. -/
structure CS (σ0 : H) (mid hid oid : Nat) (mv : List Value) (out : List Int) (L : List Due) (τ : H) : Prop where
  heap : HeapAt σ0 hid L τ
  ok : HeapOK L
  out : τ.get oid = .cells 1 (ints out)
  map : τ.get mid = .cells 0 mv
  ho : σ0.size ≤ oid
  hm : mid ≠ hid
section
variable {σ0 τ τ' : H} {mid hid oid : Nat} {mv : List Value} {out : List Int} {L : List Due}
theorem CS.of_ext (h : CS σ0 mid hid oid mv out L τ) (e : Ext τ τ') : CS σ0 mid hid oid mv out L τ' :=
  ⟨h.heap.of_ext e, h.ok, e.cells h.out, e.cells h.map, h.ho, h.hm⟩
theorem CS.keep (h : CS σ0 mid hid oid mv out L τ) {L' : List Due} (hh : HeapAt σ0 hid L' τ') (k : Keep2 hid τ τ') (ho : HeapOK L') : CS σ0 mid hid oid mv out L' τ' := by
  obtain ⟨_, _, v, h3, _⟩ := h.heap
  refine ⟨hh, ho, ?_, ?_, h.ho, h.hm⟩
  · rw [k.2 oid (by rw [h.out]; simp) (fun e => by have := h.out; rw [e, h3] at this; cases this) (by rw [h.out]; simp), h.out]
  · rw [k.2 mid (by rw [h.map]; simp) h.hm (by rw [h.map]; simp), h.map]
theorem CS.push (h : CS σ0 mid hid oid mv out L τ) {x : Due} (hh : HeapAt σ0 hid (up (L ++ [x]) L.length) τ' ∧ Keep2 hid τ τ') :
    ∃ L', CS σ0 mid hid oid mv out L' τ' ∧ L'.Perm (L ++ [x]) := by
  obtain ⟨a, b⟩ := push_ok h.ok x
  exact ⟨_, h.keep hh.1 hh.2 a, b⟩
theorem CS.set (h : CS σ0 mid hid oid mv out L τ) {out' : List Int} (hs : SetTo τ oid (.cells 1 (ints out')) τ') : CS σ0 mid hid oid mv out' L τ' :=
  ⟨h.heap.setC hs h.out h.ho, h.ok, hs.self, hs.cells h.map (fun e => by have := h.map; rw [e, h.out] at this; cases this), h.ho, h.hm⟩
theorem CS.own {v : Value} {o : Option Nat} {cs : List Value} (h : CS σ0 mid hid oid mv out L τ) (k : Keep2 hid τ τ') (hv : Own τ 1 v o cs) : Own τ' 1 v o cs := by
  obtain ⟨_, _, w, h3, _⟩ := h.heap
  exact Own.keep2 (sz := 1) hv k h3
end
theorem ints_get {l : List Int} {i : Nat} (hi : i < l.length) : (ints l)[i]? = some (.int .i64 (l.getD i 0)) := by
  unfold ints; rw [List.getElem?_map, List.getElem?_eq_getElem hi, List.getD_eq_getElem?_getD, List.getElem?_eq_getElem hi]; rfl
theorem ints_set (l : List Int) (i : Nat) (c : Int) : (ints l).set i (.int .i64 c) = ints (l.set i c) := by unfold ints; rw [List.map_set]

/-- A right call. -/
noncomputable def costOK (W Hh : Int) (S : ByteArray) (srcs : List Int) (step : Int) : Bool := gr W Hh S && decide (1 ≤ step) && decide (step ≤ 100) && decide (srcs.length ≤ 64)
def costR (W Hh : Int) (S : ByteArray) (srcs : List Int) (step : Int) (σ : H) (v : Value) (τ : H) : Prop :=
  if costOK W Hh S srcs step = true then ∃ vo out, v = .tuple #[vo, .nilIface] ∧ Cst W S srcs step out ∧ Out σ τ 1 vo (ints out)
  else ∃ e, v = .tuple #[.slice none 0 0, e] ∧ TagE τ e ⟨#[102, 105, 101, 108, 100]⟩ 1 ∧ Ext σ τ

theorem nearL_len (W : Int) (S : ByteArray) (c : Int) : (nearL W S c).length ≤ 4 := by
  unfold nearL
  have h1 := nadd_len S (c + W) true (nadd S (c + 1) (decide (c.tmod W < W - 1)) (nadd S (c - 1) (decide (c.tmod W > 0)) (nadd S (c - W) true [])))
  have h2 := nadd_len S (c + 1) (decide (c.tmod W < W - 1)) (nadd S (c - 1) (decide (c.tmod W > 0)) (nadd S (c - W) true []))
  have h3 := nadd_len S (c - 1) (decide (c.tmod W > 0)) (nadd S (c - W) true [])
  have h4 := nadd_len S (c - W) true []
  simp only [List.length_nil] at h4
  omega
set_option maxHeartbeats 4000000 in
theorem costs_c (W Hh : Int) (S : ByteArray) (srcs : List Int) (step : Int) (sv : Value) (σ : H) (hr : Rd σ sv (ints srcs)) :
    MCalls E Tryd.prog 16 [mapV W Hh S, sv, .int .i64 step] σ (costR W Hh S srcs step σ) := by
  refine mcalls_of fn16 (by simp) ?_
  unfold c16 r16 mapV
  refine stepR0 ?_
  refine ml_call Sd0 Sd0 (right_c W Hh S _) ?_
  rintro _ τ ⟨rfl, e1⟩
  have g1 := e1.cells (H.get_push_self σ _)
  have e1' : Ext σ τ := (Ext.push _ _).trans e1
  have hr1 := hr.of_ext e1'
  have hsz : (ints srcs).length = srcs.length := ints_len _
  refine ml_mid (fun ts τ' => τ' = τ ∧ ts 1 = sv ∧ ts 2 = .int .i64 step ∧ ts 3 = .pointer (some ⟨σ.size, 0, none⟩) ∧ ts 31 = .bool (!costOK W Hh S srcs step)) ?_ ?_
  · cases hg : gr W Hh S
    · refine stepR0 ?_
      exact ⟨rfl, Sd0, Sd0, Sd0, (by first | with_reducible rfl | (simp only [go_sem, reduceIte, Nat.reduceEqDiff, reduceCtorEq, Nat.reduceAdd, Nat.reduceLeDiff, Int.reduceNeg, Int.reduceToNat, Int.reduceBEq, Int.reduceBNe, Int.reduceLT, Int.reduceLE, Int.reduceAdd, Int.reduceSub, costOK, hg]; done) | (simp only [go_sem, reduceIte, Nat.reduceEqDiff, reduceCtorEq, Nat.reduceAdd, Nat.reduceLeDiff, Int.reduceNeg, Int.reduceToNat, Int.reduceBEq, Int.reduceBNe, Int.reduceLT, Int.reduceLE, Int.reduceAdd, Int.reduceSub, costOK, hg]; with_reducible rfl) | (simp only [go_sem, reduceIte, Nat.reduceEqDiff, reduceCtorEq, Nat.reduceAdd, Nat.reduceLeDiff, Int.reduceNeg, Int.reduceToNat, Int.reduceBEq, Int.reduceBNe, Int.reduceLT, Int.reduceLE, Int.reduceAdd, Int.reduceSub, costOK, hg]; (try simp (disch := omega) only [i64wrap, u64wrap, u8wrap, u32wrap, i32wrap]); first | with_reducible rfl | done | (refine congrArg (Value.int _) ?_; omega)) | (simp only [go_sem, reduceIte, Nat.reduceEqDiff, reduceCtorEq, Nat.reduceAdd, Nat.reduceLeDiff, Int.reduceNeg, Int.reduceToNat, Int.reduceBEq, Int.reduceBNe, Int.reduceLT, Int.reduceLE, Int.reduceAdd, Int.reduceSub, costOK, hg]; rfl))⟩
    by_cases h1 : 1 ≤ step
    · by_cases h2 : step ≤ 100
      · have h1n : ¬ step < 1 := by omega
        have h2n : ¬ 100 < step := by omega
        (have fx := And.intro h1n h2n; refine stepR ?_; clear fx)
        refine ml_len (have fx := And.intro h1n h2n; Sd) hr1 Sd0 ?_
        rw [hsz]
        by_cases h3 : srcs.length ≤ 64
        · have h3n : ¬ (64 : Int) < (srcs.length : Int) := by omega
          (have fx := And.intro h1n (And.intro h2n h3n); refine stepR ?_; clear fx)
          exact ⟨rfl, Sd0, Sd0, Sd0, (by first | with_reducible rfl | (simp only [go_sem, reduceIte, Nat.reduceEqDiff, reduceCtorEq, Nat.reduceAdd, Nat.reduceLeDiff, Int.reduceNeg, Int.reduceToNat, Int.reduceBEq, Int.reduceBNe, Int.reduceLT, Int.reduceLE, Int.reduceAdd, Int.reduceSub, costOK, hg, h1, h2, h3, h3n, h1n, h2n]; done) | (simp only [go_sem, reduceIte, Nat.reduceEqDiff, reduceCtorEq, Nat.reduceAdd, Nat.reduceLeDiff, Int.reduceNeg, Int.reduceToNat, Int.reduceBEq, Int.reduceBNe, Int.reduceLT, Int.reduceLE, Int.reduceAdd, Int.reduceSub, costOK, hg, h1, h2, h3, h3n, h1n, h2n]; with_reducible rfl) | (simp only [go_sem, reduceIte, Nat.reduceEqDiff, reduceCtorEq, Nat.reduceAdd, Nat.reduceLeDiff, Int.reduceNeg, Int.reduceToNat, Int.reduceBEq, Int.reduceBNe, Int.reduceLT, Int.reduceLE, Int.reduceAdd, Int.reduceSub, costOK, hg, h1, h2, h3, h3n, h1n, h2n]; (try simp (disch := omega) only [i64wrap, u64wrap, u8wrap, u32wrap, i32wrap]); first | with_reducible rfl | done | (refine congrArg (Value.int _) ?_; omega)) | (simp only [go_sem, reduceIte, Nat.reduceEqDiff, reduceCtorEq, Nat.reduceAdd, Nat.reduceLeDiff, Int.reduceNeg, Int.reduceToNat, Int.reduceBEq, Int.reduceBNe, Int.reduceLT, Int.reduceLE, Int.reduceAdd, Int.reduceSub, costOK, hg, h1, h2, h3, h3n, h1n, h2n]; rfl))⟩
        · have h3n : (64 : Int) < (srcs.length : Int) := by omega
          (have fx := And.intro h1n (And.intro h2n h3n); refine stepR ?_; clear fx)
          exact ⟨rfl, Sd0, Sd0, Sd0, (by first | with_reducible rfl | (simp only [go_sem, reduceIte, Nat.reduceEqDiff, reduceCtorEq, Nat.reduceAdd, Nat.reduceLeDiff, Int.reduceNeg, Int.reduceToNat, Int.reduceBEq, Int.reduceBNe, Int.reduceLT, Int.reduceLE, Int.reduceAdd, Int.reduceSub, costOK, hg, h1, h2, h3, h3n, h1n, h2n]; done) | (simp only [go_sem, reduceIte, Nat.reduceEqDiff, reduceCtorEq, Nat.reduceAdd, Nat.reduceLeDiff, Int.reduceNeg, Int.reduceToNat, Int.reduceBEq, Int.reduceBNe, Int.reduceLT, Int.reduceLE, Int.reduceAdd, Int.reduceSub, costOK, hg, h1, h2, h3, h3n, h1n, h2n]; with_reducible rfl) | (simp only [go_sem, reduceIte, Nat.reduceEqDiff, reduceCtorEq, Nat.reduceAdd, Nat.reduceLeDiff, Int.reduceNeg, Int.reduceToNat, Int.reduceBEq, Int.reduceBNe, Int.reduceLT, Int.reduceLE, Int.reduceAdd, Int.reduceSub, costOK, hg, h1, h2, h3, h3n, h1n, h2n]; (try simp (disch := omega) only [i64wrap, u64wrap, u8wrap, u32wrap, i32wrap]); first | with_reducible rfl | done | (refine congrArg (Value.int _) ?_; omega)) | (simp only [go_sem, reduceIte, Nat.reduceEqDiff, reduceCtorEq, Nat.reduceAdd, Nat.reduceLeDiff, Int.reduceNeg, Int.reduceToNat, Int.reduceBEq, Int.reduceBNe, Int.reduceLT, Int.reduceLE, Int.reduceAdd, Int.reduceSub, costOK, hg, h1, h2, h3, h3n, h1n, h2n]; rfl))⟩
      · have h1n : ¬ step < 1 := by omega
        have h2n : 100 < step := by omega
        (have fx := And.intro h1n h2n; refine stepR ?_; clear fx)
        exact ⟨rfl, Sd0, Sd0, Sd0, (by first | with_reducible rfl | (simp only [go_sem, reduceIte, Nat.reduceEqDiff, reduceCtorEq, Nat.reduceAdd, Nat.reduceLeDiff, Int.reduceNeg, Int.reduceToNat, Int.reduceBEq, Int.reduceBNe, Int.reduceLT, Int.reduceLE, Int.reduceAdd, Int.reduceSub, costOK, hg, h1, h2, h1n, h2n]; done) | (simp only [go_sem, reduceIte, Nat.reduceEqDiff, reduceCtorEq, Nat.reduceAdd, Nat.reduceLeDiff, Int.reduceNeg, Int.reduceToNat, Int.reduceBEq, Int.reduceBNe, Int.reduceLT, Int.reduceLE, Int.reduceAdd, Int.reduceSub, costOK, hg, h1, h2, h1n, h2n]; with_reducible rfl) | (simp only [go_sem, reduceIte, Nat.reduceEqDiff, reduceCtorEq, Nat.reduceAdd, Nat.reduceLeDiff, Int.reduceNeg, Int.reduceToNat, Int.reduceBEq, Int.reduceBNe, Int.reduceLT, Int.reduceLE, Int.reduceAdd, Int.reduceSub, costOK, hg, h1, h2, h1n, h2n]; (try simp (disch := omega) only [i64wrap, u64wrap, u8wrap, u32wrap, i32wrap]); first | with_reducible rfl | done | (refine congrArg (Value.int _) ?_; omega)) | (simp only [go_sem, reduceIte, Nat.reduceEqDiff, reduceCtorEq, Nat.reduceAdd, Nat.reduceLeDiff, Int.reduceNeg, Int.reduceToNat, Int.reduceBEq, Int.reduceBNe, Int.reduceLT, Int.reduceLE, Int.reduceAdd, Int.reduceSub, costOK, hg, h1, h2, h1n, h2n]; rfl))⟩
    · have h1n : step < 1 := by omega
      (have fx := h1n; refine stepR ?_; clear fx)
      exact ⟨rfl, Sd0, Sd0, Sd0, (by first | with_reducible rfl | (simp only [go_sem, reduceIte, Nat.reduceEqDiff, reduceCtorEq, Nat.reduceAdd, Nat.reduceLeDiff, Int.reduceNeg, Int.reduceToNat, Int.reduceBEq, Int.reduceBNe, Int.reduceLT, Int.reduceLE, Int.reduceAdd, Int.reduceSub, costOK, hg, h1, h1n]; done) | (simp only [go_sem, reduceIte, Nat.reduceEqDiff, reduceCtorEq, Nat.reduceAdd, Nat.reduceLeDiff, Int.reduceNeg, Int.reduceToNat, Int.reduceBEq, Int.reduceBNe, Int.reduceLT, Int.reduceLE, Int.reduceAdd, Int.reduceSub, costOK, hg, h1, h1n]; with_reducible rfl) | (simp only [go_sem, reduceIte, Nat.reduceEqDiff, reduceCtorEq, Nat.reduceAdd, Nat.reduceLeDiff, Int.reduceNeg, Int.reduceToNat, Int.reduceBEq, Int.reduceBNe, Int.reduceLT, Int.reduceLE, Int.reduceAdd, Int.reduceSub, costOK, hg, h1, h1n]; (try simp (disch := omega) only [i64wrap, u64wrap, u8wrap, u32wrap, i32wrap]); first | with_reducible rfl | done | (refine congrArg (Value.int _) ?_; omega)) | (simp only [go_sem, reduceIte, Nat.reduceEqDiff, reduceCtorEq, Nat.reduceAdd, Nat.reduceLeDiff, Int.reduceNeg, Int.reduceToNat, Int.reduceBEq, Int.reduceBNe, Int.reduceLT, Int.reduceLE, Int.reduceAdd, Int.reduceSub, costOK, hg, h1, h1n]; rfl))⟩
  rintro ts σ1 ⟨rfl, t1, t2, t3, t31⟩
  cases hok : costOK W Hh S srcs step
  · rw [hok] at t31
    (have fx := t31; refine stepR ?_; clear fx)
    refine ml_call Sd0 Sd0 (tag_c _ _ _) ?_
    rintro ev τ ⟨he, e2⟩
    refine stepR0 ?_
    refine fin2 ?_
    unfold costR
    rw [if_neg (by rw [hok]; simp)]
    exact ⟨ev, Sd0, he, e1'.trans e2⟩
  rw [hok] at t31
  have hall : gr W Hh S = true ∧ 1 ≤ step ∧ step ≤ 100 ∧ srcs.length ≤ 64 := by
    simpa only [costOK, Bool.and_eq_true, decide_eq_true_eq, and_assoc] using hok
  obtain ⟨hg, h1, h2, h3⟩ := hall
  have hS := gr_size hg
  (have fx := t31; refine stepR ?_; clear fx)
  generalize hτ : H.push _ _ = τ
  have e2 : Ext σ1 τ := hτ ▸ Ext.push _ _
  have g34 : τ.get σ1.size = .cells 1 [.int .i64 (-1)] := hτ ▸ H.get_push_self _ _
  have g2 := e2.cells g1
  have hr2 := hr1.of_ext e2
  (have fx := And.intro g2 t3; refine stepR ?_; clear fx)
  refine ml_call Sd0 Sd0 (repeat_c τ σ1.size (-1) S.size g34 hS.2.2.2.1.1 (by omega)) ?_
  rintro _ τ3 ⟨oid, rfl, e3, ho3, g3⟩
  have hrep : ints (List.replicate S.size (-1)) = List.replicate S.size (.int .i64 (-1)) := by unfold ints; rw [List.map_replicate]
  rw [← hrep] at g3
  have g4 := e3.cells g2
  have hr3 := hr2.of_ext e3
  have e3' : Ext σ τ3 := e1'.trans (e2.trans e3)
  refine stepR0 ?_
  refine ml_call Sd0 Sd0 (hNew_c τ3) ?_
  rintro _ τ4 ⟨hid, rfl, hh, e4⟩
  have hb : HeapAt σ hid [] τ4 := ⟨e3'.trans e4, Nat.le_trans e3'.size hh.lo, by
    obtain ⟨_, hlo, v, h5, h6⟩ := hh
    refine ⟨v, h5, ?_⟩
    rcases h6 with h6 | ⟨id, R, h6, h7, h8⟩
    · exact .inl h6
    · exact .inr ⟨id, R, h6, Nat.le_trans e3'.size h7, h8⟩⟩
  have hmh : σ.size ≠ hid := by
    have := H.lt_of_cells g4
    have := hh.lo
    omega
  have cs : CS σ σ.size hid oid (mapC W Hh S) (List.replicate S.size (-1)) [] τ4 :=
    ⟨hb, fun j _ hj => absurd hj (Nat.not_lt_zero _), e4.cells g3, e4.cells g4, by have := e1'.size; have := e2.size; omega, hmh⟩
  (have fx := t1; refine stepR ?_; clear fx)
  refine ml_len Sd0 (hr3.of_ext e4) (have fx := t1; Sd) ?_
  rw [hsz]
  refine stepR0 ?_
  refine mx_loop (fun n ts τ => ∃ j L, n = srcs.length - j ∧ j ≤ srcs.length ∧ CS σ σ.size hid oid (mapC W Hh S) (List.replicate S.size (-1)) L τ ∧ (∀ p, p ∈ L ↔ p ∈ ((srcs.take j).filter fun s => opn S s).map fun s => ((0, s) : Due)) ∧ L.length ≤ j ∧
    ts 2 = .int .i64 step ∧ ts 3 = .pointer (some ⟨σ.size, 0, none⟩) ∧ ts 8 = .slice (some ⟨oid, 0, none⟩) S.size S.size ∧ ts 9 = .pointer (some ⟨hid, 0, none⟩) ∧ ts 40 = sv ∧ ts 41 = .int .i64 srcs.length ∧ ts 42 = .int .i64 ((j : Nat) : Int)) srcs.length ?_ ?_
  · exact ⟨0, [], rfl, Nat.zero_le _, cs, by simp, Nat.le_refl _, (have fx := t2; Sd), (have fx := t3; Sd), Sd0, Sd0, Sd0, Sd0, Sd0⟩
  clear t1 t2 t3 t31 cs hh hb g3 g4 hr3 hr2 g2 g34
  rintro n ts τ ⟨j, L, hn, hj, cs, hL, hLl, t2, t3, t8, t9, t40, t41, t42⟩
  rcases Nat.lt_or_ge j srcs.length with hlt | hge
  · (have fx := And.intro t2 (And.intro t3 (And.intro t8 (And.intro t9 (And.intro t40 (And.intro t41 t42))))); refine stepR ?_; clear fx)
    refine ml_getS (hr.of_ext cs.heap.ext) (have fx := t40; Sd) (have fx := t42; Sd) (by omega) (by rw [Int.toNat_natCast]; exact ints_get hlt) fun p => ?_
    have hmap := cs.map
    generalize hs : srcs.getD j 0 = s
    have htk : srcs.take (j + 1) = srcs.take j ++ [s] := by
      rw [List.take_add_one, List.getElem?_eq_getElem hlt]
      rw [List.getD_eq_getElem?_getD, List.getElem?_eq_getElem hlt] at hs
      simp at hs; simp [hs]
    (have fx := And.intro t3 hmap; refine stepR ?_; clear fx)
    refine ml_call Sd0 Sd0 (gopen_c W Hh S s τ) ?_
    rintro _ τ5 ⟨rfl, e5⟩
    have cs5 := cs.of_ext e5
    rw [hg, Bool.true_and]
    cases hop : opn S s
    · (have fx := t42; refine stepR ?_; clear fx)
      refine ⟨_, ?_, j + 1, L, rfl, hlt, cs5, ?_, by omega, (have fx := t2; Sd), (have fx := t3; Sd), (have fx := t8; Sd), (have fx := t9; Sd), (have fx := t40; Sd), (have fx := t41; Sd), Sd0⟩
      · omega
      · intro p
        rw [htk, List.filter_append, hL]; simp [hop]
    · (have fx := t9; refine stepR ?_; clear fx)
      refine ml_call Sd0 Sd0 (hPush_c cs5.heap (0, s) (by omega)) ?_
      rintro _ τ6 h6
      obtain ⟨L', cs6, hp6⟩ := cs5.push h6
      (have fx := t42; refine stepR ?_; clear fx)
      refine ⟨_, ?_, j + 1, L', rfl, hlt, cs6, ?_, by have := hp6.length_eq; simp at this; omega, (have fx := t2; Sd), (have fx := t3; Sd), (have fx := t8; Sd), (have fx := t9; Sd), (have fx := t40; Sd), (have fx := t41; Sd), Sd0⟩
      · omega
      · intro p
        rw [htk, List.filter_append, hp6.mem_iff, List.mem_append, hL]; simp [hop]
  · have : j = srcs.length := by omega
    subst this
    rw [List.take_length] at hL
    have hdi : DI W S srcs step (List.replicate S.size (-1)) L := (DI.start h1).perm fun p => (hL p).symm
    have hu : unf (List.replicate S.size (-1)) ≤ 64 := by
      unfold unf; exact Nat.le_trans List.countP_le_length (by simp; omega)
    (have fx := And.intro t2 (And.intro t3 (And.intro t8 (And.intro t9 (And.intro t40 (And.intro t41 t42))))); refine stepR ?_; clear fx)
    have hlen0 : (List.replicate S.size (-1 : Int)).length = S.size := by simp
    refine mx_loop (fun n ts τ => ∃ L out, n = L.length + 5 * unf out ∧ n ≤ 400 ∧ CS σ σ.size hid oid (mapC W Hh S) out L τ ∧ DI W S srcs step out L ∧ (∀ p ∈ L, p.1 ≤ step * ((64 - unf out : Nat) : Int)) ∧
      ts 2 = .int .i64 step ∧ ts 3 = .pointer (some ⟨σ.size, 0, none⟩) ∧ ts 8 = .slice (some ⟨oid, 0, none⟩) S.size S.size ∧ ts 9 = .pointer (some ⟨hid, 0, none⟩)) (L.length + 5 * unf (List.replicate S.size (-1))) ?_ ?_
    · exact ⟨L, _, rfl, by omega, cs, hdi, fun p hp => (by
        obtain ⟨s, _, rfl⟩ := List.mem_map.1 ((hL p).1 hp)
        exact Int.mul_nonneg (by omega) (by omega)), (have fx := t2; Sd), (have fx := t3; Sd), (have fx := t8; Sd), (have fx := t9; Sd)⟩
    clear cs t2 t3 t8 t9 t40 t41 t42 hdi hu hL hLl hn hge hj hr1 g1 hτ e1
    rintro n ts τ ⟨L, out, rfl, hn, cs, di, hB, t2, t3, t8, t9⟩
    have hol : out.length = S.size := di.len
    rcases Nat.eq_zero_or_pos L.length with h0 | hpos
    · have hL0 : L = [] := List.eq_nil_of_length_eq_zero h0
      subst hL0
      (have fx := t9; refine stepR ?_; clear fx)
      refine ml_call Sd0 (have fx := t9; Sd) (hPop_nil cs.heap) ?_
      rintro _ τ5 ⟨rfl, e5⟩
      have cs5 := cs.of_ext e5
      refine stepR0 ?_
      refine ml_storeA (id := τ5.size) (off := 0) (vs := [.int .i64 0, .int .i64 0]) Sd0 Sd0 Sd0 (H.get_push_self _ _) rfl (by simp) rfl fun τ6 t6 => ?_
      have e6 : Ext τ5 τ6 := t6.ext (Ext.push _ _) (Nat.le_refl _)
      have cs6 := cs5.of_ext e6
      (have fx := t8; refine stepR ?_; clear fx)
      refine fin2 ?_
      unfold costR
      rw [if_pos hok]
      refine ⟨_, out, (have fx := t8; Sd), di.done h1, cs6.heap.ext, some oid, ?_, fun id hi => ?_⟩
      · exact .full cs6.out (by rw [ints_len, hol]; omega)
      · cases hi; exact cs6.ho
    (have fx := t9; refine stepR ?_; clear fx)
    refine ml_call Sd0 (have fx := t9; Sd) (hPop_c cs.heap (by omega) hpos) ?_
    rintro _ τ5 ⟨rfl, hh5, k5⟩
    obtain ⟨ok5, pm5⟩ : HeapOK (popL L) ∧ (dv L 0 :: popL L).Perm L := pop_ok cs.ok hpos
    have cs5 : CS σ σ.size hid oid (mapC W Hh S) out (popL L) τ5 := cs.keep hh5 k5 ok5
    have di5 : DI W S srcs step out (dv L 0 :: popL L) := di.perm fun p => (pm5.mem_iff (a := p)).symm
    have hle5 : ∀ q ∈ popL L, (dv L 0).1 ≤ q.1 := fun q hq => by
      have := least_mem cs.ok (pm5.mem_iff.1 (List.mem_cons_of_mem _ hq))
      unfold le at this; omega
    have hB5 : ∀ p ∈ dv L 0 :: popL L, p.1 ≤ step * ((64 - unf out : Nat) : Int) := fun p hp => hB p (pm5.mem_iff.1 hp)
    have hid5 : hid < τ5.size := by obtain ⟨_, _, v, h3, _⟩ := cs5.heap; exact H.lt_of_cells h3
    have hlen5 : (popL L).length + 1 = L.length := by have := pm5.length_eq; simpa only [List.length_cons] using this
    clear pm5 cs di ok5 hB
    generalize dv L 0 = x at di5 hle5 hB5
    generalize popL L = M at di5 hle5 hlen5 cs5 hh5 hB5
    clear hh5
    refine stepR0 ?_
    refine ml_storeA (id := τ5.size) (off := 0) (vs := [.int .i64 x.1, .int .i64 x.2]) Sd0 Sd0 Sd0 (H.get_push_self _ _) rfl (by simp) rfl fun τ6 t6 => ?_
    have e6 : Ext τ5 τ6 := t6.ext (Ext.push _ _) (Nat.le_refl _)
    have cs6 := cs5.of_ext e6
    have g6 : τ6.get τ5.size = .cells 0 [.int .i64 x.1, .int .i64 x.2] := t6.self
    clear t6 cs5
    obtain ⟨k, hw, hxk⟩ := di5.mem x List.mem_cons_self
    have hx := opn_lt hw.opn
    have hxo := hw.opn
    have hxi : ((x.2.toNat : Nat) : Int) = x.2 := Int.toNat_of_nonneg hx.1
    have hx1 : x.2.toNat < out.length := by omega
    have hx0 : 0 ≤ x.1 := by rw [hxk]; exact Int.mul_nonneg (by omega) (by omega)
    have hxb : x.1 ≤ 6400 := by
      have h6 := hB5 x List.mem_cons_self
      have h7 : step * ((64 - unf out : Nat) : Int) ≤ 100 * 64 := Int.mul_le_mul h2 (by omega) (by omega) (by omega)
      omega
    (have fx := And.intro g6 t8; refine stepR ?_; clear fx)
    refine ml_load1 (v := .int .i64 (out.getD x.2.toNat 0)) Sd0 Sd0 (cell_of cs6.out (ints_get hx1)) ?_
    by_cases hf : out.getD x.2.toNat 0 < 0
    · have hf' : ¬ 0 ≤ out.getD x.2.toNat 0 := by omega
      (have fx := And.intro hf' (And.intro g6 t8); refine stepR ?_; clear fx)
      refine ml_storeA (off := x.2.toNat) (vs := [.int .i64 x.1]) Sd0 Sd0 Sd0 cs6.out rfl (by rw [ints_len]; exact hx1) rfl fun τ7 t7 => ?_
      rw [spl_one, ints_set] at t7
      have cs7 := cs6.set t7
      have g7 := t7.cells g6 (fun e => by have := cs6.out; rw [← e, g6] at this; cases this)
      have hmap := cs7.map
      (have fx := And.intro t3 (And.intro hmap g7); refine stepR ?_; clear fx)
      refine ml_call Sd0 Sd0 (gnear_c W Hh S x.2 τ7) ?_
      rintro nv τ8 ⟨e8, no, nown, nid⟩
      have cs8 := cs7.of_ext e8
      have g8 := e8.cells g7
      rw [hg, gnear, hxo, Bool.and_self, if_pos rfl] at nown
      have di8 := di5.take h1 hle5 hf
      have hu8 := unf_set (c := x.1) hx1 hf hx0
      generalize out.set x.2.toNat x.1 = out8 at cs8 di8 hu8
      have hol8 : out8.length = S.size := di8.len
      have hnl := nearL_len W S x.2
      have nlen := ints_len (nearL W S x.2)
      clear cs7 t7 cs6 hmap
      refine stepR0 ?_
      refine ml_len Sd0 nown.rd Sd0 ?_
      (have fx := nlen; refine stepR ?_; clear fx)
      refine mx_loop (fun n ts τ => ∃ j L', n = (nearL W S x.2).length - j ∧ j ≤ (nearL W S x.2).length ∧ CS σ σ.size hid oid (mapC W Hh S) out8 L' τ ∧ L'.Perm (M ++ ((nearL W S x.2).take j).map fun n => (x.1 + step, n)) ∧ Own τ 1 nv no (ints (nearL W S x.2)) ∧
        τ.get τ5.size = .cells 0 [.int .i64 x.1, .int .i64 x.2] ∧ ts 2 = .int .i64 step ∧ ts 3 = .pointer (some ⟨σ.size, 0, none⟩) ∧ ts 8 = .slice (some ⟨oid, 0, none⟩) S.size S.size ∧ ts 9 = .pointer (some ⟨hid, 0, none⟩) ∧
        ts 12 = .pointer (some ⟨τ5.size, 0, none⟩) ∧ ts 76 = nv ∧ ts 77 = .int .i64 (nearL W S x.2).length ∧ ts 78 = .int .i64 ((j : Nat) : Int)) (nearL W S x.2).length ?_ ?_
      · exact ⟨0, M, rfl, Nat.zero_le _, cs8, by simp, nown, g8, (have fx := t2; Sd), (have fx := t3; Sd), (have fx := t8; Sd), (have fx := t9; Sd), Sd0, Sd0, Sd0, Sd0⟩
      clear t2 t3 t8 t9 cs8 nown g8 g7 g6
      rintro m ts τ ⟨j, L', rfl, hj, cs9, pm9, nown, g9, t2, t3, t8, t9, t12, t76, t77, t78⟩
      rcases Nat.lt_or_ge j (nearL W S x.2).length with hlt | hge
      · (have fx := And.intro t2 (And.intro t3 (And.intro t8 (And.intro t9 (And.intro t12 (And.intro t76 (And.intro t77 t78)))))); refine stepR ?_; clear fx)
        refine ml_getS nown.rd (have fx := t76; Sd) (have fx := t78; Sd) (by omega) (by rw [Int.toNat_natCast]; exact ints_get hlt) fun p => ?_
        generalize hs : (nearL W S x.2).getD j 0 = s
        have htk : (nearL W S x.2).take (j + 1) = (nearL W S x.2).take j ++ [s] := by
          rw [List.take_add_one, List.getElem?_eq_getElem hlt]
          rw [List.getD_eq_getElem?_getD, List.getElem?_eq_getElem hlt] at hs
          simp at hs; simp [hs]
        have hl9 : L'.length = M.length + j := by have := pm9.length_eq; simp at this; omega
        (have fx := And.intro t9 (And.intro t12 (And.intro g9 t2)); refine stepR ?_; clear fx)
        refine ml_call Sd0 Sd0 (hPush_c cs9.heap (x.1 + step, s) (by omega)) ?_
        rintro _ τ10 h10
        obtain ⟨L2, cs10, pm10⟩ := cs9.push h10
        obtain ⟨hc0, hg0⟩ : ∃ hc, τ.get hid = .cells 0 hc := by obtain ⟨_, _, v, h3, _⟩ := cs9.heap; exact ⟨_, h3⟩
        have g10 : τ10.get τ5.size = .cells 0 [.int .i64 x.1, .int .i64 x.2] := by
          rw [h10.2.2 _ (by rw [g9]; simp) (by omega) (by rw [g9]; simp), g9]
        (have fx := t78; refine stepR ?_; clear fx)
        refine ⟨_, ?_, j + 1, L2, rfl, hlt, cs10, ?_, cs9.own h10.2 nown, g10, (have fx := t2; Sd), (have fx := t3; Sd), (have fx := t8; Sd), (have fx := t9; Sd), (have fx := t12; Sd), (have fx := t76; Sd), (have fx := t77; Sd), Sd0⟩
        · omega
        · rw [htk, List.map_append, ← List.append_assoc]
          exact pm10.trans (pm9.append_right _)
      · have : j = (nearL W S x.2).length := by omega
        subst this
        rw [List.take_length] at pm9
        have hl9 : L'.length = M.length + (nearL W S x.2).length := by have := pm9.length_eq; simpa using this
        (have fx := And.intro t2 (And.intro t3 (And.intro t8 (And.intro t9 (And.intro t12 (And.intro t76 (And.intro t77 t78)))))); refine stepR ?_; clear fx)
        refine ⟨_, by omega, L', out8, rfl, by omega, cs9, di8.perm fun p => (pm9.mem_iff (a := p)).symm, fun p hp => ?_, (have fx := t2; Sd), (have fx := t3; Sd), (have fx := t8; Sd), (have fx := t9; Sd)⟩
        have hu64 : unf out ≤ 64 := by unfold unf; exact Nat.le_trans List.countP_le_length (by omega)
        have hs1 : ((64 - unf out8 : Nat) : Int) = ((64 - unf out : Nat) : Int) + 1 := by omega
        rw [hs1, Int.mul_add, Int.mul_one]
        rcases List.mem_append.1 (pm9.mem_iff.1 hp) with h | h
        · have := hB5 p (List.mem_cons_of_mem _ h); omega
        · obtain ⟨s, _, rfl⟩ := List.mem_map.1 h
          have := hB5 x List.mem_cons_self
          simp only; omega
    · have hf' : 0 ≤ out.getD x.2.toNat 0 := by omega
      (have fx := hf'; refine stepR ?_; clear fx)
      exact ⟨_, by omega, M, out, rfl, by omega, cs6, di5.skip hf', fun p hp => hB5 p (List.mem_cons_of_mem _ hp), (have fx := t2; Sd), (have fx := t3; Sd), (have fx := t8; Sd), (have fx := t9; Sd)⟩
end Go.Proofs.YtcjogomiiinkfaaDoor
