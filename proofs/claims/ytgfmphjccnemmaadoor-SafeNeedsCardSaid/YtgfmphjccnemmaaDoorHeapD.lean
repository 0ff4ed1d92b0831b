import Derived.Test.YtgfmphjccnemmaaDoorHeapC
namespace Go.Proofs.YtgfmphjccnemmaaDoor
open Go.Mini
open Go.Proofs.YtgfmphjccnemmaaDoor.Code
set_option linter.unusedVariables false
set_option linter.unusedSimpArgs false
set_option linter.ambiguousOpen false
attribute [local irreducible] mx ml mld mstep MCalls Ex.thn Ex.inb

set_option maxHeartbeats 1000000 in
theorem hPop_nil {σ0 σ : H} {hid : Nat} (h : HeapAt σ0 hid [] σ) : MCalls Tryd.prog 60 [.pointer (some ⟨hid, 0, none⟩)] σ (fun v τ => v = .tuple #[.agg #[.int .i64 0, .int .i64 0], .bool false] ∧ Ext σ τ) := by
  refine mcalls_of fn60 (by simp) ?_
  unfold c60 r60
  refine stepR0 ?_
  refine ml_call Sd0 Sd0 (hLen_c (h.of_ext (Ext.push _ _))) ?_
  rintro _ _ ⟨rfl, rfl⟩
  refine stepR0 ?_
  refine ml_storeAll Sd0 Sd0 Sd0 (H.get_push_self _ _) rfl rfl rfl ?_
  refine stepR0 ?_
  refine finC1 (vs := [.int .i64 0, .int .i64 0]) Sd0 (row_of (H.get_set_self (by simp)) rfl) ⟨Sd0, (Ext.push _ _).set' (Nat.le_refl _) _⟩

/-- What is left behind the least one. -/
def popL (L : List Due) : List Due := down ((L.set 0 (dv L (L.length - 1))).take (L.length - 1)) 0
set_option maxHeartbeats 1000000 in
theorem hPop_c {σ0 σ : H} {hid : Nat} {L : List Due} (h : HeapAt σ0 hid L σ) (hL : L.length ≤ 100000) (hne : 0 < L.length) :
    MCalls Tryd.prog 60 [.pointer (some ⟨hid, 0, none⟩)] σ (fun v τ => v = .tuple #[dueV (dv L 0), .bool true] ∧ HeapAt σ0 hid (popL L) τ ∧ Keep2 hid σ τ) := by
  refine mcalls_of fn60 (by simp) ?_
  unfold c60 r60
  refine stepR0 ?_
  refine ml_call Sd0 Sd0 (hLen_c (h.of_ext (Ext.push _ _))) ?_
  rintro _ _ ⟨rfl, rfl⟩
  obtain ⟨h1, h2, v, h3, h4⟩ := h
  rcases h4 with ⟨_, h4⟩ | ⟨id, R, rfl, h6, h7⟩
  · subst h4; exact absurd hne (Nat.lt_irrefl _)
  have hz : ((L.length : Int) == 0) = false := by rw [beq_eq_false_iff_ne]; omega
  have g1 := (Ext.push σ (.cells 0 [.int .i64 0, .int .i64 0])).cells h3
  have g2 := (Ext.push σ (.cells 0 [.int .i64 0, .int .i64 0])).cells h7
  have r0 := dues_row (L ++ R) 0 (by simp; omega)
  rw [getD_left hne] at r0
  (have fx := And.intro hz g1; refine stepR ?_; clear fx)
  refine ml_loadN Sd0 Sd0 (row_of g2 (by simpa using r0)) ?_
  refine stepR0 ?_
  refine ml_storeA (id := σ.size + 1) (off := 0) (vs := [.int .i64 (dv L 0).1, .int .i64 (dv L 0).2]) Sd0 Sd0 Sd0 p22 rfl (by simp) rfl fun σ2 t2 => ?_
  have hsz2 : σ2.size = σ.size + 2 := t2.size
  have e2 : Ext σ σ2 := t2.ext ((Ext.push _ _).trans (Ext.push _ _)) (by omega)
  have c0 : σ2.get σ.size = .cells 0 [.int .i64 0, .int .i64 0] := t2.cells p21 (by omega)
  have c1 : σ2.get (σ.size + 1) = .cells 0 [.int .i64 (dv L 0).1, .int .i64 (dv L 0).2] := t2.self
  clear g1 g2 t2
  have g1 := e2.cells h3
  have g2 := e2.cells h7
  have n1 : (L.length : Int) - 1 = ((L.length - 1 : Nat) : Int) := by omega
  have rl := dues_row (L ++ R) (L.length - 1) (by simp; omega)
  rw [getD_left (by omega)] at rl
  (have fx := And.intro g1 n1; refine stepR ?_; clear fx)
  refine mld_loadN Sd0 Sd0 (row_of g2 rl) ?_
  (have fx := And.intro g1 n1; refine stepR ?_; clear fx)
  have hne2 : hid ≠ id := fun e => by rw [e, g2] at g1; cases g1
  have l1 := H.lt_of_cells h3
  have l2 := H.lt_of_cells h7
  have sp := dues_spl (L ++ R) 0 (dv L (L.length - 1)) (by simp; omega)
  rw [List.set_append_left _ _ hne] at sp
  refine mld_storeA (id := id) (off := 0) (vs := [.int .i64 (dv L (L.length - 1)).1, .int .i64 (dv L (L.length - 1)).2]) Sd0 Sd0 Sd0 g2 rfl (by rw [dues_len]; simp; omega) rfl fun σ3 t3 => ?_
  have e3 : Ext σ0 σ3 := t3.ext (h1.trans e2) h6
  have g3 := t3.cells g1 hne2
  have g4 : σ3.get id = .cells 2 (dues (L.set 0 (dv L (L.length - 1)) ++ R)) := by rw [t3.self, ← sp]
  have c3 := t3.cells c0 (by omega)
  have c4 := t3.cells c1 (by omega)
  (have fx := And.intro g3 n1; refine stepR ?_; clear fx)
  refine ml_op Sd0 (o_slc_hi (q := ((L.length - 1 : Nat) : Int)) (k := .i64) Sd0 Sd0 (by omega) (by omega) g4) ?_
  (have fx := And.intro g3 n1; refine stepR ?_; clear fx)
  refine ml_storeA (id := hid) (off := 0) (vs := [.slice (some ⟨id, 0, none⟩) (L.length - 1) (L.length + R.length)]) Sd0 Sd0 Sd0 g3 rfl (by simp) rfl fun σ4 t4 => ?_
  have hsplit : L.set 0 (dv L (L.length - 1)) = (L.set 0 (dv L (L.length - 1))).take (L.length - 1) ++ (L.set 0 (dv L (L.length - 1))).drop (L.length - 1) := (List.take_append_drop _ _).symm
  have hlen1 : ((L.set 0 (dv L (L.length - 1))).take (L.length - 1)).length = L.length - 1 := by simp
  have hlen2 : ((L.set 0 (dv L (L.length - 1))).drop (L.length - 1)).length = 1 := by simp; omega
  have hh : HeapAt σ0 hid ((L.set 0 (dv L (L.length - 1))).take (L.length - 1)) σ4 := by
    refine ⟨t4.ext e3 h2, h2, _, t4.self, .inr ⟨id, (L.set 0 (dv L (L.length - 1))).drop (L.length - 1) ++ R, ?_, h6, ?_⟩⟩
    · rw [hlen1, List.length_append, hlen2, show L.length - 1 + (1 + R.length) = L.length + R.length by omega]
    · rw [← List.append_assoc, ← hsplit]; exact t4.cells g4 (Ne.symm hne2)
  have c5 := t4.cells c3 (by omega)
  have c6 := t4.cells c4 (by omega)
  have hk : Keep2 hid σ σ4 := by
    refine ⟨by rw [t4.size, t3.size]; exact e2.size, fun j a b c => ?_⟩
    have hj := e2.get j (H.lt_of_live a)
    rw [t4.other j b, t3.other j (fun e => by subst e; exact c _ h7), hj]
  refine stepR0 ?_
  refine ml_call Sd0 Sd0 (hsink_c hh (by omega)) ?_
  rintro _ σ5 ⟨hh5, hk5⟩
  have c7 : σ5.get σ.size = .cells 0 [.int .i64 0, .int .i64 0] := by rw [hk5.2 _ (by rw [c5]; simp) (by omega) (by rw [c5]; simp)]; exact c5
  have c8 : σ5.get (σ.size + 1) = .cells 0 [.int .i64 (dv L 0).1, .int .i64 (dv L 0).2] := by rw [hk5.2 _ (by rw [c6]; simp) (by omega) (by rw [c6]; simp)]; exact c6
  (have fx := c8; refine stepR ?_; clear fx)
  refine ml_storeA (id := σ.size) (off := 0) (vs := [.int .i64 (dv L 0).1, .int .i64 (dv L 0).2]) Sd0 Sd0 Sd0 c7 rfl (by simp) rfl fun σ6 t6 => ?_
  refine stepR0 ?_
  refine finC1 (vs := [.int .i64 (dv L 0).1, .int .i64 (dv L 0).2]) Sd0 (row_of t6.self rfl) ⟨Sd0, ?_, ?_⟩
  · obtain ⟨a1, a2, w, a3, a4⟩ := hh5
    refine ⟨t6.ext a1 h1.size, a2, w, t6.cells a3 (by omega), ?_⟩
    rcases a4 with a4 | ⟨id', R', a5, a6, a7⟩
    · exact .inl a4
    · exact .inr ⟨id', R', a5, a6, t6.cells a7 (fun e => by rw [e, c7] at a7; cases a7)⟩
  · have hk6 := hk.trans hk5
    exact ⟨by rw [t6.size]; exact hk6.1, fun j a b c => by rw [t6.other j (by have := H.lt_of_live a; omega)]; exact hk6.2 j a b c⟩
end Go.Proofs.YtgfmphjccnemmaaDoor
