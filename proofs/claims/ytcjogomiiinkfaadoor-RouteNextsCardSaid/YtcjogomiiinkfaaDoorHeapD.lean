import Derived.Test.YtcjogomiiinkfaaDoorHeapB
namespace Go.Proofs.YtcjogomiiinkfaaDoor
open Go.Mini
open Go.Proofs.YtcjogomiiinkfaaDoor.Code
set_option linter.unusedVariables false
set_option linter.unusedSimpArgs false
set_option linter.ambiguousOpen false
attribute [local irreducible] mx ml mld mstep MCalls Ex.thn Ex.inb
variable {E : World → Prop}

theorem o_appDue {ts : Fr} {σ0 σ : H} {L : List Due} {x : Due} {v : Value} {xs xx : Opd} {tid : Nat} (h1 : Ext σ0 σ)
    (h4 : (v = .slice none 0 0 ∧ L = []) ∨ ∃ id R, v = .slice (some ⟨id, 0, none⟩) L.length (L.length + R.length) ∧ σ0.size ≤ id ∧ σ.get id = .cells 2 (dues (L ++ R)))
    (hv : mev ts xs = v) (hx : mev ts xx = .slice (some ⟨tid, 0, none⟩) 1 1) (ht : σ.get tid = .cells 2 [.int .i64 x.1, .int .i64 x.2]) (hL : L.length ≤ 1000000) :
    ∃ id R' τ, mop ts σ (.app 2 16 xs xx) = some (.slice (some ⟨id, 0, none⟩) (L.length + 1) (L.length + 1 + R'.length), τ) ∧ σ0.size ≤ id ∧ τ.get id = .cells 2 (dues (L ++ [x] ++ R')) ∧ Ext σ0 τ ∧ σ.size ≤ τ.size ∧
      ∀ i, σ.get i ≠ .dead → (∀ cs, σ.get i ≠ .cells 2 cs) → τ.get i = σ.get i := by
  have hrow : firstL σ 2 1 (.slice (some ⟨tid, 0, none⟩) 1 1) = some [.int .i64 x.1, .int .i64 x.2] := by
    simp only [firstL, H.row, ht, Nat.one_mul]; rfl
  have hs := h1.size
  rcases h4 with ⟨rfl, rfl⟩ | ⟨id, R, rfl, h6, h7⟩
  · refine ⟨σ.size, [], σ.push (.cells 2 [.int .i64 x.1, .int .i64 x.2]), ?_, hs, by rw [H.get_push_self]; rfl, h1.trans (Ext.push _ _), by simp, fun i hi _ => H.get_push_lt (H.lt_of_live hi)⟩
    have : (1 : Nat) ≤ appMax ∧ 16 ≤ 128 := ⟨by simp [appMax], by omega⟩
    simp only [mop, hv, hx, lenL, hrow, this, and_self, if_true]
    simp
  · have hlt := H.lt_of_cells h7
    cases R with
    | nil =>
      have hr : σ.row id 0 (L.length * 2) = some (dues L) := by
        simp only [H.row, h7, List.append_nil]; exact rowAll (dues_len L)
      have e : dues L ++ [.int .i64 x.1, .int .i64 x.2] = dues (L ++ [x]) := by rw [dues_app]; rfl
      refine ⟨σ.size, [], (σ.set id .dead).push (.cells 2 (dues (L ++ [x]))), ?_, hs, ?_, (h1.set' h6 _).trans (Ext.push _ _), by simp, fun i hi hne => ?_⟩
      · have hap : L.length + 1 ≤ appMax ∧ 16 ≤ 128 := ⟨by simp only [appMax]; omega, by omega⟩
        simp only [mop, hv, hx, lenL, List.length_nil, Nat.add_zero]
        rw [if_neg (by omega), if_pos hap]
        simp only [h7, hr, hrow, e, dues_one, true_or, and_self, if_true]
      · have := H.get_push_self (σ.set id .dead) (.cells 2 (dues (L ++ [x])))
        rw [H.size_set] at this; rw [this, List.append_nil]
      · rw [H.get_push_lt (by simpa using H.lt_of_live hi), H.get_set_ne (fun e => by subst e; exact hne _ h7)]
    | cons y R =>
      have hsp := dues_spl (L ++ y :: R) L.length x (by simp)
      have hset : (L ++ y :: R).set L.length x = L ++ [x] ++ R := by
        rw [List.set_append_right _ _ (Nat.le_refl _), Nat.sub_self]; simp
      rw [hset] at hsp
      refine ⟨id, R, σ.set id (.cells 2 (dues (L ++ [x] ++ R))), ?_, h6, H.get_set_self hlt, h1.set' h6 _, by simp, fun i hi hne => H.get_set_ne (fun e => by subst e; exact hne _ h7)⟩
      simp only [mop, hv, hx, lenL, List.length_cons]
      rw [if_pos (by omega)]
      simp only [hrow, putRow, h7, Nat.zero_add]
      rw [if_pos ⟨by rw [dues_len]; simp; omega, rfl⟩, hsp]
      simp only [Option.map_some]
      congr 3; omega

theorem hLen_c {σ0 σ : H} {hid : Nat} {L : List Due} (h : HeapAt σ0 hid L σ) : MCalls E Tryd.prog 55 [.pointer (some ⟨hid, 0, none⟩)] σ (fun v τ => v = .int .i64 L.length ∧ τ = σ) := by
  obtain ⟨v, hv, hlen⟩ := h.len
  refine mcalls_of fn55 (by simp) ?_
  unfold c55 r55
  (have fx := hv; refine stepR ?_; clear fx)
  refine ml_op Sd0 (hlen _ _ Sd0) ?_
  refine stepR0 ?_
  exact fin1 ⟨Sd0, rfl⟩

theorem hNew_c (σ : H) : MCalls E Tryd.prog 38 [] σ (fun v τ => ∃ hid, v = .pointer (some ⟨hid, 0, none⟩) ∧ HeapAt σ hid [] τ ∧ Ext σ τ) := by
  refine mcalls_of fn38 (by simp) ?_
  unfold c38 r38
  refine stepR0 ?_
  exact fin1 ⟨σ.size, Sd0, ⟨Ext.push _ _, Nat.le_refl _, _, H.get_push_self _ _, .inl ⟨rfl, rfl⟩⟩, Ext.push _ _⟩

set_option maxHeartbeats 1000000 in
theorem hPush_c {σ0 σ : H} {hid : Nat} {L : List Due} (h : HeapAt σ0 hid L σ) (x : Due) (hL : L.length ≤ 100000) :
    MCalls E Tryd.prog 40 [.pointer (some ⟨hid, 0, none⟩), dueV x] σ (fun v τ => HeapAt σ0 hid (up (L ++ [x]) L.length) τ ∧ Keep2 hid σ τ) := by
  refine mcalls_of fn40 (by simp) ?_
  unfold c40 r40 dueV
  obtain ⟨h1, h2, v, h3, h4⟩ := h
  have hlt := H.lt_of_cells h3
  have hne : hid ≠ σ.size := by omega
  have g1 : (σ.push (.cells 0 [.int .i64 x.1, .int .i64 x.2])).get hid = .cells 0 [v] := by rw [H.get_push_lt hlt, h3]
  (have fx := g1; refine stepR ?_; clear fx)
  have hs1 : (σ.push (.cells 0 [.int .i64 x.1, .int .i64 x.2])).size = σ.size + 1 := rfl
  generalize hA : σ.push (.cells 0 [.int .i64 x.1, .int .i64 x.2]) = σ1 at g1 hs1
  have eA : Ext σ σ1 := by rw [← hA]; exact Ext.push _ _
  have e2 : Ext σ (σ1.push (.cells 2 [.int .i64 x.1, .int .i64 x.2])) := eA.trans (Ext.push _ _)
  obtain ⟨id, R', τ, hm, hidlo, hg, eτ, hsz, hkeep⟩ := o_appDue (x := x) (ts := (fun i => if i = 0 then v else .slice (some ⟨σ1.size, 0, none⟩) 1 1)) (xs := .t 0) (xx := .t 1) (h1.trans e2) (by
      rcases h4 with h4 | ⟨id, R, h5, h6, h7⟩
      · exact .inl h4
      · exact .inr ⟨id, R, h5, h6, e2.cells h7⟩) (by simp only [mev]; rfl) (by simp only [mev]; rfl) (H.get_push_self _ _) (by omega)
  have hm' : ∀ ts' : Fr, mev ts' (.t 11) = v → mev ts' (.t 13) = .slice (some ⟨σ1.size, 0, none⟩) 1 1 → mop ts' (σ1.push (.cells 2 [.int .i64 x.1, .int .i64 x.2])) (.app 2 16 (.t 11) (.t 13)) = some (.slice (some ⟨id, 0, none⟩) (L.length + 1) (L.length + 1 + R'.length), τ) := fun ts' a b => by
    rw [← hm]; simp only [mop, a, b]; rfl
  refine mld_op Sd0 (hm' _ Sd0 (have fx := hs1; Sd)) ?_
  have g3 : τ.get hid = .cells 0 [v] := by
    rw [hkeep hid (by rw [e2.cells h3]; simp) (by rw [e2.cells h3]; simp)]; exact e2.cells h3
  have hne2 : hid ≠ id := fun e => by rw [e, hg] at g3; cases g3
  have hlt3 := H.lt_of_cells g3
  refine stepR0 ?_
  have hh : HeapAt σ0 hid (L ++ [x]) (τ.set hid (.cells 0 [.slice (some ⟨id, 0, none⟩) (L.length + 1) (L.length + 1 + R'.length)])) := by
    refine ⟨eτ.set' h2 _, h2, _, H.get_set_self hlt3, .inr ⟨id, R', ?_, hidlo, ?_⟩⟩
    · simp
    · rw [H.get_set_ne (Ne.symm hne2), hg]
  have hk : Keep2 hid σ (τ.set hid (.cells 0 [.slice (some ⟨id, 0, none⟩) (L.length + 1) (L.length + 1 + R'.length)])) := by
    refine ⟨by have := e2.size; simp only [H.size_set]; omega, fun j h5 h6 h7 => ?_⟩
    have hj := e2.get j (H.lt_of_live h5)
    rw [H.get_set_ne h6, hkeep j (by rw [hj]; exact h5) (by rw [hj]; exact h7), hj]
  have g4 := H.get_set_self (σ := τ) (o := .cells 0 [.slice (some ⟨id, 0, none⟩) (L.length + 1) (L.length + 1 + R'.length)]) hlt3
  obtain ⟨τ2, hτ2⟩ : ∃ τ2, τ.set hid (.cells 0 [.slice (some ⟨id, 0, none⟩) (L.length + 1) (L.length + 1 + R'.length)]) = τ2 := ⟨_, rfl⟩
  rw [hτ2] at hh hk g4
  apply mld_op (τ := τ2)
  · exact Sd0
  · rw [← hτ2]
    apply o_store1 (id := hid) (off := 0) (sz := 0) (cs := [v])
    · simp only [go_sem, reduceIte, Nat.reduceEqDiff, reduceCtorEq, Nat.reduceAdd, Nat.reduceLeDiff, Int.reduceNeg, Int.reduceToNat, Int.reduceBEq, Int.reduceBNe, Int.reduceLT, Int.reduceLE, Int.reduceAdd, Int.reduceSub]
    · simp only [go_sem, reduceIte, Nat.reduceEqDiff, reduceCtorEq, Nat.reduceAdd, Nat.reduceLeDiff, Int.reduceNeg, Int.reduceToNat, Int.reduceBEq, Int.reduceBNe, Int.reduceLT, Int.reduceLE, Int.reduceAdd, Int.reduceSub]
    · rfl
    · rfl
    · exact g3
    · simp
  have n1 : ((L.length + 1 : Nat) : Int) - 1 = (L.length : Int) := by omega
  (have fx := And.intro g4 n1; refine stepR ?_; clear fx)
  refine mx_loop (fun n ts τ => ∃ L', ts 0 = .pointer (some ⟨hid, 0, none⟩) ∧ ts 4 = .int .i64 ((n : Nat) : Int) ∧ HeapAt σ0 hid L' τ ∧ Keep2 hid σ τ ∧ up L' n = up (L ++ [x]) L.length ∧ L'.length = L.length + 1 ∧ n ≤ L.length) L.length ?_ ?_
  · exact ⟨L ++ [x], Sd0, Sd0, hh, hk, rfl, by simp, Nat.le_refl _⟩
  clear hh hk hτ2 g4 hm hm' hkeep hsz hlt3 g3 g1 hs1 hA e2 eA h4 h3 n1 hg hne2 hlt hne
  rintro n ts τ3 ⟨L', t0, t4, hh, hk, hu, hl, hn⟩
  by_cases hz : n = 0
  · subst hz
    (have fx := And.intro t0 t4; refine stepR ?_; clear fx)
    refine fin0n ⟨?_, hk⟩
    rw [← hu, up, dif_neg (by omega)]; exact hh
  · have hq : IntKind.i64.wrap (((n : Int) - 1).tdiv 2) = (((n - 1) / 2 : Nat) : Int) := by
      have : (n : Int) - 1 = ((n - 1 : Nat) : Int) := by omega
      rw [this, ← Int.ofNat_two, ← Int.ofNat_tdiv, i64wrap] <;> omega
    have hpos : 0 < (n : Int) := by omega
    (have fx := And.intro t0 (And.intro t4 (And.intro hq hpos)); refine stepR ?_; clear fx)
    refine ml_call Sd0 (have fx := And.intro t0 (And.intro t4 hq); Sd) (hless_c hh n ((n - 1) / 2) (by omega) (by omega) (by omega)) ?_
    rintro _ τ4 ⟨rfl, e⟩
    cases hlt3 : lt (L'.getD n (0, 0)) (L'.getD ((n - 1) / 2) (0, 0))
    · (have fx := And.intro t0 (And.intro t4 hq); refine stepR ?_; clear fx)
      refine fin0n ⟨?_, hk.trans (.of_ext e)⟩
      rw [← hu, up, dif_neg]
      · exact hh.of_ext e
      · rintro ⟨_, h⟩; rw [show dv L' n = L'.getD n (0, 0) from rfl, show dv L' ((n - 1) / 2) = L'.getD ((n - 1) / 2) (0, 0) from rfl, hlt3] at h; cases h
    · (have fx := And.intro t0 (And.intro t4 hq); refine stepR ?_; clear fx)
      refine ml_call Sd0 (have fx := And.intro t0 (And.intro t4 hq); Sd) (hswap_c (hh.of_ext e) n ((n - 1) / 2) (by omega) (by omega) (by omega)) ?_
      rintro _ τ5 ⟨hh5, hk5⟩
      (have fx := And.intro t4 hq; refine stepR ?_; clear fx)
      refine ⟨(n - 1) / 2, by omega, swp L' n ((n - 1) / 2), (have fx := t0; Sd), (have fx := hq; Sd), hh5, (hk.trans (.of_ext e)).trans hk5, ?_, by rw [swp_len]; exact hl, by omega⟩
      rw [← hu, up.eq_1 L' n, dif_pos ⟨by omega, hlt3⟩]
end Go.Proofs.YtcjogomiiinkfaaDoor
namespace Go.Proofs.YtcjogomiiinkfaaDoor
open Go.Mini
open Go.Proofs.YtcjogomiiinkfaaDoor.Code
set_option linter.unusedVariables false
set_option linter.unusedSimpArgs false
set_option linter.ambiguousOpen false
attribute [local irreducible] mx ml mld mstep MCalls Ex.thn Ex.inb
variable {E : World → Prop}

set_option maxHeartbeats 1000000 in
theorem hPop_nil {σ0 σ : H} {hid : Nat} (h : HeapAt σ0 hid [] σ) : MCalls E Tryd.prog 41 [.pointer (some ⟨hid, 0, none⟩)] σ (fun v τ => v = .tuple #[.agg #[.int .i64 0, .int .i64 0], .bool false] ∧ Ext σ τ) := by
  refine mcalls_of fn41 (by simp) ?_
  unfold c41 r41
  refine stepR0 ?_
  refine ml_call Sd0 Sd0 (hLen_c (h.of_ext (Ext.push _ _))) ?_
  rintro _ _ ⟨rfl, rfl⟩
  refine stepR0 ?_
  refine ml_storeAll Sd0 Sd0 Sd0 (H.get_push_self _ _) rfl rfl rfl ?_
  refine stepR0 ?_
  refine finC1 (vs := [.int .i64 0, .int .i64 0]) Sd0 (row_of (H.get_set_self (by simp)) rfl) ⟨Sd0, (Ext.push _ _).set' (Nat.le_refl _) _⟩

/-- What is left behind the least one. -/
def popL (L : List Due) : List Due := down ((L.set 0 (dv L (L.length - 1))).take (L.length - 1)) 0
set_option maxHeartbeats 1000000 in
theorem hPop_c3 {σ0 σ : H} {hid : Nat} {L : List Due} (h : HeapAt σ0 hid L σ) (hL : L.length ≤ 100000) (hne : 0 < L.length) :
    MCalls E Tryd.prog 41 [.pointer (some ⟨hid, 0, none⟩)] σ (fun v τ => v = .tuple #[dueV (dv L 0), .bool true] ∧ HeapAt σ0 hid (popL L) τ ∧ Keep3 hid σ τ) := by
  refine mcalls_of fn41 (by simp) ?_
  unfold c41 r41
  refine stepR0 ?_
  refine ml_call Sd0 Sd0 (hLen_c (h.of_ext (Ext.push _ _))) ?_
  rintro _ _ ⟨rfl, rfl⟩
  obtain ⟨h1, h2, v, h3, h4⟩ := h
  rcases h4 with ⟨_, h4⟩ | ⟨id, R, rfl, h6, h7⟩
  · subst h4; exact absurd hne (Nat.lt_irrefl _)
  have hz : ((L.length : Int) == 0) = false := by rw [beq_eq_false_iff_ne]; omega
  have g1 := (Ext.push σ (.cells 0 [.int .i64 0, .int .i64 0])).cells h3
  have g2 := (Ext.push σ (.cells 0 [.int .i64 0, .int .i64 0])).cells h7
  have r0 := dues_row (L ++ R) 0 (by simp; omega)
  rw [getD_left hne] at r0
  (have fx := And.intro hz g1; refine stepR ?_; clear fx)
  refine ml_loadN Sd0 Sd0 (row_of g2 (by simpa using r0)) ?_
  refine stepR0 ?_
  refine ml_storeA (id := σ.size + 1) (off := 0) (vs := [.int .i64 (dv L 0).1, .int .i64 (dv L 0).2]) Sd0 Sd0 Sd0 p22 rfl (by simp) rfl fun σ2 t2 => ?_
  have hsz2 : σ2.size = σ.size + 2 := t2.size
  have e2 : Ext σ σ2 := t2.ext ((Ext.push _ _).trans (Ext.push _ _)) (by omega)
  have c0 : σ2.get σ.size = .cells 0 [.int .i64 0, .int .i64 0] := t2.cells p21 (by omega)
  have c1 : σ2.get (σ.size + 1) = .cells 0 [.int .i64 (dv L 0).1, .int .i64 (dv L 0).2] := t2.self
  clear g1 g2 t2
  have g1 := e2.cells h3
  have g2 := e2.cells h7
  have n1 : (L.length : Int) - 1 = ((L.length - 1 : Nat) : Int) := by omega
  have rl := dues_row (L ++ R) (L.length - 1) (by simp; omega)
  rw [getD_left (by omega)] at rl
  (have fx := And.intro g1 n1; refine stepR ?_; clear fx)
  refine mld_loadN Sd0 Sd0 (row_of g2 rl) ?_
  (have fx := And.intro g1 n1; refine stepR ?_; clear fx)
  have hne2 : hid ≠ id := fun e => by rw [e, g2] at g1; cases g1
  have l1 := H.lt_of_cells h3
  have l2 := H.lt_of_cells h7
  have sp := dues_spl (L ++ R) 0 (dv L (L.length - 1)) (by simp; omega)
  rw [List.set_append_left _ _ hne] at sp
  refine mld_storeA (id := id) (off := 0) (vs := [.int .i64 (dv L (L.length - 1)).1, .int .i64 (dv L (L.length - 1)).2]) Sd0 Sd0 Sd0 g2 rfl (by rw [dues_len]; simp; omega) rfl fun σ3 t3 => ?_
  have e3 : Ext σ0 σ3 := t3.ext (h1.trans e2) h6
  have g3 := t3.cells g1 hne2
  have g4 : σ3.get id = .cells 2 (dues (L.set 0 (dv L (L.length - 1)) ++ R)) := by rw [t3.self, ← sp]
  have c3 := t3.cells c0 (by omega)
  have c4 := t3.cells c1 (by omega)
  (have fx := And.intro g3 n1; refine stepR ?_; clear fx)
  refine ml_op Sd0 (o_slc_hi (q := ((L.length - 1 : Nat) : Int)) (k := .i64) Sd0 Sd0 (by omega) (by omega) g4) ?_
  (have fx := And.intro g3 n1; refine stepR ?_; clear fx)
  refine ml_storeA (id := hid) (off := 0) (vs := [.slice (some ⟨id, 0, none⟩) (L.length - 1) (L.length + R.length)]) Sd0 Sd0 Sd0 g3 rfl (by simp) rfl fun σ4 t4 => ?_
  have hsplit : L.set 0 (dv L (L.length - 1)) = (L.set 0 (dv L (L.length - 1))).take (L.length - 1) ++ (L.set 0 (dv L (L.length - 1))).drop (L.length - 1) := (List.take_append_drop _ _).symm
  have hlen1 : ((L.set 0 (dv L (L.length - 1))).take (L.length - 1)).length = L.length - 1 := by simp
  have hlen2 : ((L.set 0 (dv L (L.length - 1))).drop (L.length - 1)).length = 1 := by simp; omega
  have hh : HeapAt σ0 hid ((L.set 0 (dv L (L.length - 1))).take (L.length - 1)) σ4 := by
    refine ⟨t4.ext e3 h2, h2, _, t4.self, .inr ⟨id, (L.set 0 (dv L (L.length - 1))).drop (L.length - 1) ++ R, ?_, h6, ?_⟩⟩
    · rw [hlen1, List.length_append, hlen2, show L.length - 1 + (1 + R.length) = L.length + R.length by omega]
    · rw [← List.append_assoc, ← hsplit]; exact t4.cells g4 (Ne.symm hne2)
  have c5 := t4.cells c3 (by omega)
  have c6 := t4.cells c4 (by omega)
  have hk : Keep3 hid σ σ4 := by
    refine ⟨by rw [t4.size, t3.size]; exact e2.size, fun j a b c => ?_, fun j ⟨n, m, x⟩ => ?_⟩
    · have hj := e2.get j (H.lt_of_live a)
      rw [t4.other j b, t3.other j (fun e => by subst e; exact c ⟨_, _, h3⟩), hj]
    · rw [t4.self] at x
      simp [spl] at x
      obtain ⟨rfl, _⟩ := x
      exact ⟨_, _, h3⟩
  refine stepR0 ?_
  refine ml_call Sd0 Sd0 (hsink_c3 hh (by omega)) ?_
  rintro _ σ5 ⟨hh5, hk5⟩
  have c7 : σ5.get σ.size = .cells 0 [.int .i64 0, .int .i64 0] := by rw [hk5.get _ (by rw [c5]; simp) (by omega) (hh.notbuf (by rw [c5]; simp))]; exact c5
  have c8 : σ5.get (σ.size + 1) = .cells 0 [.int .i64 (dv L 0).1, .int .i64 (dv L 0).2] := by rw [hk5.get _ (by rw [c6]; simp) (by omega) (hh.notbuf (by rw [c6]; simp))]; exact c6
  (have fx := c8; refine stepR ?_; clear fx)
  refine ml_storeA (id := σ.size) (off := 0) (vs := [.int .i64 (dv L 0).1, .int .i64 (dv L 0).2]) Sd0 Sd0 Sd0 c7 rfl (by simp) rfl fun σ6 t6 => ?_
  refine stepR0 ?_
  refine finC1 (vs := [.int .i64 (dv L 0).1, .int .i64 (dv L 0).2]) Sd0 (row_of t6.self rfl) ⟨Sd0, ?_, ?_⟩
  · obtain ⟨a1, a2, w, a3, a4⟩ := hh5
    refine ⟨t6.ext a1 h1.size, a2, w, t6.cells a3 (by omega), ?_⟩
    rcases a4 with a4 | ⟨id', R', a5, a6, a7⟩
    · exact .inl a4
    · exact .inr ⟨id', R', a5, a6, t6.cells a7 (fun e => by rw [e, c7] at a7; cases a7)⟩
  · have hk6 := hk.trans hk5
    exact ⟨by rw [t6.size]; exact hk6.size, fun j a b c => by rw [t6.other j (by have := H.lt_of_live a; omega)]; exact hk6.get j a b c, fun j ⟨n, m, x⟩ => hk6.buf j ⟨n, m, by rw [← t6.other hid (by omega)]; exact x⟩⟩
theorem hPop_c {σ0 σ : H} {hid : Nat} {L : List Due} (h : HeapAt σ0 hid L σ) (hL : L.length ≤ 100000) (hne : 0 < L.length) :
    MCalls E Tryd.prog 41 [.pointer (some ⟨hid, 0, none⟩)] σ (fun v τ => v = .tuple #[dueV (dv L 0), .bool true] ∧ HeapAt σ0 hid (popL L) τ ∧ Keep2 hid σ τ) :=
  (hPop_c3 h hL hne).mono fun _ _ ⟨a, b, c⟩ => ⟨a, b, c.two h⟩
end Go.Proofs.YtcjogomiiinkfaaDoor
