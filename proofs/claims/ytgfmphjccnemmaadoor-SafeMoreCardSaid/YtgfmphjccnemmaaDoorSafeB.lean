import Derived.Test.YtgfmphjccnemmaaDoorCode
import Derived.Test.YtgfmphjccnemmaaDoorBase3
namespace Go.Proofs.YtgfmphjccnemmaaDoor
open Go.Mini
open Go.Proofs.YtgfmphjccnemmaaDoor.Code
set_option linter.unusedVariables false
set_option linter.unusedSimpArgs false
set_option linter.ambiguousOpen false
attribute [local irreducible] mx ml mld mstep MCalls Ex.thn Ex.inb

/-- All but one object is as it was. -/
def KeepBut (oid : Option Nat) (σ τ : H) : Prop := σ.size ≤ τ.size ∧ ∀ j, j < σ.size → oid ≠ some j → τ.get j = σ.get j
theorem KeepBut.of_ext {oid : Option Nat} {σ τ : H} (e : Ext σ τ) : KeepBut oid σ τ := ⟨e.size, fun j hj _ => e.get j hj⟩
theorem KeepBut.trans {oid : Option Nat} {a b c : H} (h : KeepBut oid a b) (k : KeepBut oid b c) : KeepBut oid a c :=
  ⟨Nat.le_trans h.1 k.1, fun j hj hn => (k.2 j (Nat.lt_of_lt_of_le hj h.1) hn).trans (h.2 j hj hn)⟩
theorem KeepBut.set {σ σ' τ : H} {id : Nat} {o : MObj} (h : KeepBut (some id) σ σ') (s : SetTo σ' id o τ) : KeepBut (some id) σ τ :=
  ⟨by rw [s.size]; exact h.1, fun j hj hn => by rw [s.other j (fun e => hn (by rw [e]))]; exact h.2 j hj hn⟩
theorem KeepBut.ext {σ0 σ τ : H} {oid : Option Nat} (e : Ext σ0 σ) (h : KeepBut oid σ τ) (hid : ∀ i, oid = some i → σ0.size ≤ i) : Ext σ0 τ :=
  ⟨Nat.le_trans e.size h.1, fun i hi => by rw [h.2 i (Nat.lt_of_lt_of_le hi e.size) (fun x => by have := hid i x; omega)]; exact e.get i hi⟩
theorem ints_getD {l : List Int} {i : Nat} (hi : i < l.length) : (ints l)[i]? = some (.int .i64 (l.getD i 0)) := by
  unfold ints; rw [List.getElem?_map, List.getElem?_eq_getElem hi, List.getD_eq_getElem?_getD, List.getElem?_eq_getElem hi]; rfl
theorem take_succ_getD {l : List Int} {j : Nat} (hj : j < l.length) : l.take (j + 1) = l.take j ++ [l.getD j 0] := by
  rw [List.take_add_one, List.getElem?_eq_getElem hj, List.getD_eq_getElem?_getD, List.getElem?_eq_getElem hj]; rfl

theorem _root_.Go.Mini.Own.inv {σ : H} {sz : Nat} {v : Value} {oid : Option Nat} {cs : List Value} (h : Own σ sz v oid cs) : (v = .slice none 0 0 ∧ oid = none ∧ cs = []) ∨ ∃ id n, v = .slice (some ⟨id, 0, none⟩) n n ∧ oid = some id ∧ σ.get id = .cells sz cs ∧ cs.length = n * sz := by
  cases h with
  | nil => exact .inl ⟨rfl, rfl, rfl⟩
  | full h hl => exact .inr ⟨_, _, rfl, rfl, h, hl⟩
theorem slIndexFunc_c {σ : H} {v fv : Value} {l : List Int} {p : Int → Bool} {g : FuncId} {caps : Array Value} (hr : Rd σ v (ints l)) (hf : fv = .func (.func g) #[] caps)
    (hl : l.length ≤ 1000000) (hp : ∀ x ∈ l, ∀ τ, Ext σ τ → MCalls Tryd.prog g ([.int .i64 x] ++ caps.toList) τ (fun r τ' => r = .bool (p x) ∧ Ext τ τ')) :
    MCalls Tryd.prog 56 [v, fv] σ (fun r τ => Ext σ τ ∧ ((r = .int .i64 (-1) ∧ ∀ x ∈ l, p x = false) ∨ ∃ i : Nat, i < l.length ∧ r = .int .i64 i ∧ p (l.getD i 0) = true ∧ ∀ x ∈ l.take i, p x = false)) := by
  subst hf
  refine mcalls_of fn56 (by simp) ?_
  unfold c56 r56
  have hsz : (ints l).length = l.length := ints_len _
  refine stepR0 ?_
  refine ml_len Sd0 hr Sd0 ?_
  (have fx := hsz; refine stepR ?_; clear fx)
  refine mx_loop (fun n ts τ => ∃ i : Nat, n = l.length - i ∧ i ≤ l.length ∧ Ext σ τ ∧ (∀ x ∈ l.take i, p x = false) ∧ ts 0 = v ∧ ts 1 = .func (.func g) #[] caps ∧ ts 7 = .int .i64 l.length ∧ ts 8 = .int .i64 ((i : Nat) : Int)) l.length ?_ ?_
  · exact ⟨0, rfl, Nat.zero_le _, .refl _, by simp, Sd0, Sd0, Sd0, Sd0⟩
  rintro n ts τ ⟨i, rfl, hi, e, hall, t0, t1, t7, t8⟩
  rcases Nat.lt_or_ge i l.length with hlt | hge
  · have hm : l.getD i 0 ∈ l := by rw [List.getD_eq_getElem?_getD, List.getElem?_eq_getElem hlt]; exact List.getElem_mem hlt
    (have fx := And.intro t0 (And.intro t1 (And.intro t7 t8)); refine stepR ?_; clear fx)
    refine ml_getS (hr.of_ext e) (have fx := t0; Sd) (have fx := t8; Sd) (by omega) (by rw [Int.toNat_natCast]; exact ints_getD hlt) fun q => ?_
    refine ml_callv Sd0 (have fx := t1; Sd) Sd0 (hp _ hm τ e) ?_
    rintro _ τ2 ⟨rfl, e2⟩
    cases hx : p (l.getD i 0)
    · (have fx := t8; refine stepR ?_; clear fx)
      refine ⟨_, ?_, i + 1, rfl, hlt, e.trans e2, ?_, (have fx := t0; Sd), (have fx := t1; Sd), (have fx := t7; Sd), Sd0⟩
      · omega
      · intro x hx2
        rw [take_succ_getD hlt, List.mem_append] at hx2
        rcases hx2 with h | h
        · exact hall x h
        · rw [List.mem_singleton] at h; subst h; exact hx
    · (have fx := t8; refine stepR ?_; clear fx)
      exact fin1 ⟨e.trans e2, .inr ⟨i, hlt, Sd0, hx, hall⟩⟩
  · have : i = l.length := by omega
    subst this
    rw [List.take_length] at hall
    (have fx := And.intro t0 (And.intro t1 (And.intro t7 t8)); refine stepR ?_; clear fx)
    exact fin1 ⟨e, .inl ⟨Sd0, hall⟩⟩

theorem repZ1 (z : Value) : ∀ n : Nat, repZ [z] n = List.replicate n z
  | 0 => rfl
  | n + 1 => by simp only [repZ, repZ1 z n, List.replicate_succ, List.cons_append, List.nil_append]
theorem _root_.Go.Mini.o_clr {ts : Fr} {σ : H} {x : Opd} {z : Value} {id off len cap sz : Nat} {cs : List Value} (hx : mev ts x = .slice (some ⟨id, off, none⟩) len cap) (hl : len ≠ 0) (hg : σ.get id = .cells sz cs) (hb : off + len ≤ cs.length) (hz : one z = true) :
    mop ts σ (.clr [z] x) = some (undef, σ.set id (.cells sz (spl cs off (List.replicate len z)))) := by
  simp only [mop, hx, hl, if_false, repZ1, putRow, hg, List.length_replicate]
  rw [if_pos ⟨hb, by rw [List.all_replicate]; simp [hz]⟩]; rfl
theorem spl_take : ∀ (vs cs : List Value) (k m : Nat), m ≤ k → (spl cs k vs).take m = cs.take m
  | [], cs, k, m, h => rfl
  | v :: vs, cs, k, m, h => by
    rw [spl, spl_take vs _ (k + 1) m (by omega)]
    exact List.take_set_of_le h

set_option maxHeartbeats 1000000 in
theorem deleteFunc_c {σ : H} {v fv : Value} {oid : Option Nat} {l : List Int} {p : Int → Bool} {g : FuncId} {caps : Array Value} (hr : Own σ 1 v oid (ints l)) (hf : fv = .func (.func g) #[] caps)
    (hl : l.length ≤ 1000000) (hp : ∀ x ∈ l, ∀ τ, KeepBut oid σ τ → MCalls Tryd.prog g ([.int .i64 x] ++ caps.toList) τ (fun r τ' => r = .bool (p x) ∧ Ext τ τ')) :
    MCalls Tryd.prog 37 [v, fv] σ (fun r τ => Rd τ r (ints (l.filter fun x => !p x)) ∧ KeepBut oid σ τ) := by
  subst hf
  refine mcalls_of fn37 (by simp) ?_
  unfold c37 r37
  have hsz : (ints l).length = l.length := ints_len _
  refine stepR0 ?_
  refine ml_call Sd0 Sd0 (slIndexFunc_c hr.rd rfl hl fun x hx τ e => hp x hx τ (.of_ext e)) ?_
  rintro _ τ ⟨e1, ⟨rfl, hall⟩ | ⟨i, hi, rfl, hpi, hall⟩⟩
  · refine stepR0 ?_
    refine fin1 ⟨?_, .of_ext e1⟩
    simp only [go_sem, reduceIte, Nat.reduceEqDiff, reduceCtorEq, Nat.reduceAdd, Nat.reduceLeDiff, Int.reduceNeg, Int.reduceToNat, Int.reduceBEq, Int.reduceBNe, Int.reduceLT, Int.reduceLE, Int.reduceAdd, Int.reduceSub]
    rw [List.filter_eq_self.2 (fun x hx => by rw [hall x hx]; rfl)]
    exact (hr.of_ext e1).rd
  · rcases hr.inv with ⟨_, _, h0⟩ | ⟨id, n, rfl, rfl, hg, hn⟩
    · rw [h0] at hsz; simp at hsz; omega
    have hln : l.length = n := by rw [← hsz]; omega
    subst hln
    have hne : ((i : Int) == -1) = false := by simp
    (have fx := hne; refine stepR ?_; clear fx)
    have hf0 : (l.take (i + 1)).filter (fun x => !p x) = l.take i := by
      rw [take_succ_getD hi, List.filter_append, List.filter_eq_self.2 (fun x hx => by rw [hall x hx]; rfl)]
      simp only [List.filter_cons, hpi, Bool.not_true, Bool.false_eq_true, if_false, List.filter_nil, List.append_nil]
    refine mx_loop (fun n ts τ => ∃ (j : Nat) (arr F : List Int), n = l.length - j ∧ j ≤ l.length ∧ F = (l.take j).filter (fun x => !p x) ∧ F.length < j ∧ arr.length = l.length ∧ arr.take F.length = F ∧ arr.drop j = l.drop j ∧
      τ.get id = .cells 1 (ints arr) ∧ KeepBut (some id) σ τ ∧ ts 0 = .slice (some ⟨id, 0, none⟩) l.length l.length ∧ ts 1 = .func (.func g) #[] caps ∧ ts 5 = .int .i64 ((F.length : Nat) : Int) ∧ ts 6 = .int .i64 ((j : Nat) : Int)) (l.length - (i + 1)) ?_ ?_
    · have hti : (l.take i).length = i := by rw [List.length_take]; omega
      refine ⟨i + 1, l, l.take i, rfl, hi, hf0.symm, by omega, rfl, by rw [hti], rfl, e1.cells hg, .of_ext e1, Sd0, Sd0, (have fx := hti; Sd), Sd0⟩
    rintro n ts τ ⟨j, arr, F, rfl, hj, hF, hFj, ha, hat, had, g1, kb, t0, t1, t5, t6⟩
    rcases Nat.lt_or_ge j l.length with hlt | hge
    · have hm : l.getD j 0 ∈ l := by rw [List.getD_eq_getElem?_getD, List.getElem?_eq_getElem hlt]; exact List.getElem_mem hlt
      have haj : arr.getD j 0 = l.getD j 0 := by
        have : (arr.drop j)[0]? = (l.drop j)[0]? := by rw [had]
        rw [List.getElem?_drop, List.getElem?_drop] at this
        rw [List.getD_eq_getElem?_getD, List.getD_eq_getElem?_getD]; simpa using congrArg (·.getD 0) this
      have hd1 : arr.drop (j + 1) = l.drop (j + 1) := by rw [← List.drop_drop, ← List.drop_drop, had]
      (have fx := And.intro t0 (And.intro t1 (And.intro t5 t6)); refine stepR ?_; clear fx)
      refine ml_load1 (v := .int .i64 (l.getD j 0)) Sd0 Sd0 (cell_of (off := j) g1 (by rw [← haj]; exact ints_getD (by omega))) ?_
      (have fx := t1; refine stepR ?_; clear fx)
      refine ml_callv Sd0 Sd0 Sd0 (hp _ hm τ kb) ?_
      rintro _ τ2 ⟨rfl, e2⟩
      have kb2 := kb.trans (.of_ext e2)
      have hFs : (l.take (j + 1)).filter (fun x => !p x) = if p (l.getD j 0) then F else F ++ [l.getD j 0] := by
        rw [take_succ_getD hlt, List.filter_append, ← hF]
        cases h : p (l.getD j 0) <;> simp only [List.filter_cons, h, Bool.not_true, Bool.not_false, if_true, Bool.false_eq_true, if_false, List.filter_nil, List.append_nil]
      cases hx : p (l.getD j 0)
      · rw [hx, if_neg (by simp)] at hFs
        (have fx := And.intro t0 t5; refine stepR ?_; clear fx)
        refine ml_storeA (off := F.length) (vs := [.int .i64 (l.getD j 0)]) Sd0 Sd0 Sd0 (e2.cells g1) rfl (by rw [ints_len]; omega) rfl fun τ3 t3 => ?_
        have hse : (ints arr).set F.length (.int .i64 (l.getD j 0)) = ints (arr.set F.length (l.getD j 0)) := by unfold ints; rw [List.map_set]
        rw [spl_one, hse] at t3
        have hap : (arr.set F.length (l.getD j 0)).take (F ++ [l.getD j 0]).length = F ++ [l.getD j 0] := by
          rw [List.length_append, List.length_cons, List.length_nil, Nat.zero_add, List.take_add_one, List.take_set_of_le (Nat.le_refl _), hat, List.getElem?_set_self (by omega)]; rfl
        (have fx := And.intro t5 t6; refine stepR ?_; clear fx)
        refine ⟨_, ?_, j + 1, _, F ++ [l.getD j 0], rfl, hlt, hFs.symm, by simp; omega, by simp [ha], hap, ?_, t3.self, kb2.set t3, (have fx := t0; Sd), (have fx := t1; Sd), (by first | with_reducible rfl | (simp only [go_sem, reduceIte, Nat.reduceEqDiff, reduceCtorEq, Nat.reduceAdd, Nat.reduceLeDiff, Int.reduceNeg, Int.reduceToNat, Int.reduceBEq, Int.reduceBNe, Int.reduceLT, Int.reduceLE, Int.reduceAdd, Int.reduceSub, List.length_append]; done) | (simp only [go_sem, reduceIte, Nat.reduceEqDiff, reduceCtorEq, Nat.reduceAdd, Nat.reduceLeDiff, Int.reduceNeg, Int.reduceToNat, Int.reduceBEq, Int.reduceBNe, Int.reduceLT, Int.reduceLE, Int.reduceAdd, Int.reduceSub, List.length_append]; with_reducible rfl) | (simp only [go_sem, reduceIte, Nat.reduceEqDiff, reduceCtorEq, Nat.reduceAdd, Nat.reduceLeDiff, Int.reduceNeg, Int.reduceToNat, Int.reduceBEq, Int.reduceBNe, Int.reduceLT, Int.reduceLE, Int.reduceAdd, Int.reduceSub, List.length_append]; (try simp (disch := omega) only [i64wrap, u64wrap, u8wrap, u32wrap, i32wrap]); first | with_reducible rfl | done | (refine congrArg (Value.int _) ?_; omega)) | (simp only [go_sem, reduceIte, Nat.reduceEqDiff, reduceCtorEq, Nat.reduceAdd, Nat.reduceLeDiff, Int.reduceNeg, Int.reduceToNat, Int.reduceBEq, Int.reduceBNe, Int.reduceLT, Int.reduceLE, Int.reduceAdd, Int.reduceSub, List.length_append]; rfl)), Sd0⟩
        · omega
        · rw [List.drop_set_of_lt (by omega), hd1]
      · rw [hx, if_pos rfl] at hFs
        (have fx := And.intro t5 t6; refine stepR ?_; clear fx)
        refine ⟨_, ?_, j + 1, arr, F, rfl, hlt, hFs.symm, by omega, ha, hat, hd1, e2.cells g1, kb2, (have fx := t0; Sd), (have fx := t1; Sd), (have fx := t5; Sd), Sd0⟩
        · omega
    · have : j = l.length := by omega
      subst this
      rw [List.take_length] at hF
      (have fx := And.intro t0 (And.intro t1 (And.intro t5 t6)); refine stepR ?_; clear fx)
      refine ml_op Sd0 (o_slc_lo Sd0 (have fx := t5; Sd) (by omega) (by omega) g1) ?_
      refine ml_op Sd0 (o_clr (len := l.length - F.length) (off := F.length) Sd0 (by omega) g1 (by rw [ints_len]; omega) rfl) ?_
      (have fx := And.intro t0 t5; refine stepR ?_; clear fx)
      refine ml_op Sd0 (o_slc_hi Sd0 (have fx := t5; Sd) (by omega) (by omega) (H.get_set_self (H.lt_of_cells g1))) ?_
      refine stepR0 ?_
      refine fin1 ⟨?_, kb.set (.mk' (H.lt_of_cells g1))⟩
      rw [← hF]
      simp only [go_sem, reduceIte, Nat.reduceEqDiff, reduceCtorEq, Nat.reduceAdd, Nat.reduceLeDiff, Int.reduceNeg, Int.reduceToNat, Int.reduceBEq, Int.reduceBNe, Int.reduceLT, Int.reduceLE, Int.reduceAdd, Int.reduceSub]
      have hrow : (τ.set id (.cells 1 (spl (ints arr) F.length (List.replicate (l.length - F.length) (.int .i64 0))))).row id 0 (ints F).length = some (ints F) := by
        refine row_of (H.get_set_self (H.lt_of_cells g1)) ?_
        rw [rowL_some _ _ _ (by rw [ints_len, spl_length, ints_len]; omega), List.drop_zero, ints_len, spl_take _ _ _ _ (Nat.le_refl _)]
        congr 1
        unfold ints
        rw [← List.map_take, hat]
      have := Rd.mk (cap := l.length) hrow
      rwa [ints_len] at this
end Go.Proofs.YtgfmphjccnemmaaDoor
