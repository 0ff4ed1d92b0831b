/- heap.Sorted. -/
import Derived.Test.YtcjogomiiinkfaaDoorHeapD
import Derived.Test.YtcjogomiiinkfaaDoorHeapE
namespace Go.Proofs.YtcjogomiiinkfaaDoor
open Go.Mini
open Go.Proofs.YtcjogomiiinkfaaDoor.Code
set_option linter.unusedVariables false
set_option linter.unusedSimpArgs false
set_option linter.ambiguousOpen false
attribute [local irreducible] mx ml mld mstep MCalls Ex.thn Ex.inb
variable {E : World → Prop}

theorem HeapAt.buflt {σ0 τ : H} {hid i : Nat} {L : List Due} (h : HeapAt σ0 hid L τ) (hb : IsBuf τ hid i) : i < τ.size := by
  rcases Classical.em (∀ cs, τ.get i ≠ .cells 2 cs) with x | x
  · exact absurd hb (h.notbuf x)
  · exact Classical.byContradiction fun hge => x fun cs e => hge (H.lt_of_cells e)
theorem HeapAt.keepI {σ0 τ τ' : H} {hid : Nat} {L : List Due} {oo : Option Nat} (h : HeapAt σ0 hid L τ) (hs : τ.size ≤ τ'.size) (hk : ∀ i, i < τ.size → oo ≠ some i → τ'.get i = τ.get i) (ho : ∀ id, oo = some id → σ0.size ≤ id ∧ id ≠ hid ∧ ¬ IsBuf τ hid id) :
    HeapAt σ0 hid L τ' ∧ ∀ i, IsBuf τ' hid i → IsBuf τ hid i := by
  have hh := hk hid h.lt (fun e => (ho hid e).2.1 rfl)
  obtain ⟨h1, h2, v, h3, h4⟩ := h
  refine ⟨⟨⟨Nat.le_trans h1.size hs, fun i hi => ?_⟩, h2, v, by rw [hh]; exact h3, ?_⟩, fun i ⟨n, m, x⟩ => ⟨n, m, by rw [← hh]; exact x⟩⟩
  · have := h1.size
    rw [hk i (by omega) (fun e => by have := (ho i e).1; omega), h1.get i hi]
  · rcases h4 with h4 | ⟨id, R, rfl, h6, h7⟩
    · exact .inl h4
    · exact .inr ⟨id, R, rfl, h6, by rw [hk id (H.lt_of_cells h7) (fun e => (ho id e).2.2 ⟨_, _, h3⟩)]; exact h7⟩
theorem HeapAt.setX {σ0 τ τ' : H} {hid i : Nat} {L : List Due} {cs cs' : List Value} (h : HeapAt σ0 hid L τ) (hs : SetTo τ i (.cells 0 cs') τ') (hg : τ.get i = .cells 0 cs) (hi : σ0.size ≤ i) (hne : i ≠ hid) : HeapAt σ0 hid L τ' ∧ ∀ j, IsBuf τ' hid j → IsBuf τ hid j := by
  have hh := hs.other hid (Ne.symm hne)
  obtain ⟨h1, h2, v, h3, h4⟩ := h
  refine ⟨⟨hs.ext h1 hi, h2, v, by rw [hh]; exact h3, ?_⟩, fun i ⟨n, m, x⟩ => ⟨n, m, by rw [← hh]; exact x⟩⟩
  rcases h4 with h4 | ⟨id, R, rfl, h6, h7⟩
  · exact .inl h4
  · exact .inr ⟨id, R, rfl, h6, hs.cells h7 (fun e => by rw [e, hg] at h7; cases h7)⟩
/-- Where Sorted stands when items are taken out. -/
structure SS (σ0 : H) (hid x8 : Nat) (ov : Value) (oo : Option Nat) (x : Due) (L acc : List Due) (τ : H) : Prop where
  heap : HeapAt σ0 hid L τ
  ok : HeapOK L
  x : τ.get x8 = .cells 0 [.int .i64 x.1, .int .i64 x.2]
  own : Own τ 2 ov oo (dues acc)
  lo : ∀ id, oo = some id → σ0.size ≤ id ∧ ¬ IsBuf τ hid id
  ne : x8 ≠ hid ∧ σ0.size ≤ x8
theorem own2_get {τ : H} {ov : Value} {oo : Option Nat} {l : List Due} (h : Own τ 2 ov oo (dues l)) : (ov = .slice none 0 0 ∧ oo = none ∧ l = []) ∨ ∃ id, ov = .slice (some ⟨id, 0, none⟩) l.length l.length ∧ oo = some id ∧ τ.get id = .cells 2 (dues l) := by
  generalize hd : dues l = d at h
  cases h with
  | nil => cases l with
    | nil => exact .inl ⟨rfl, rfl, rfl⟩
    | cons p l => simp [dues] at hd
  | @full id n _ h hl =>
    subst hd
    have := dues_len l
    obtain rfl : n = l.length := by omega
    exact .inr ⟨id, rfl, rfl, h⟩
theorem len_own {τ : H} {ts : Fr} {x : Opd} {ov : Value} {oo : Option Nat} {l : List Due} (h : Own τ 2 ov oo (dues l)) (hx : mev ts x = ov) : mop ts τ (.len false x) = some (.int .i64 l.length, τ) := by
  rcases own2_get h with ⟨rfl, _, rfl⟩ | ⟨id, rfl, _, _⟩ <;> simp [mop, hx]

set_option maxHeartbeats 2000000 in
theorem hSorted_c {σ : H} {lv : Value} {lo : Option Nat} {l : List Due} (hl : Own σ 2 lv lo (dues l)) (hn : l.length ≤ 1000) :
    MCalls E Tryd.prog 44 [lv] σ (fun v τ => ∃ oo out, Ext σ τ ∧ Own τ 2 v oo (dues out) ∧ out.Perm l ∧ out.Pairwise le) := by
  refine mcalls_of fn44 (by simp) ?_
  unfold c44 r44
  refine stepR0 ?_
  refine ml_call Sd0 Sd0 (hNew_c σ) ?_
  rintro _ τ ⟨hid, rfl, hh, e1⟩
  have hhlo := hh.lo
  refine stepR0 ?_
  refine ml_op Sd0 (len_own (hl.of_ext e1) Sd0) ?_
  refine stepR0 ?_
  refine mx_loop (fun n ts τ => ∃ i L, n = l.length - i ∧ i ≤ l.length ∧ HeapAt σ hid L τ ∧ HeapOK L ∧ L.Perm (l.take i) ∧ ts 3 = .pointer (some ⟨hid, 0, none⟩) ∧ ts 4 = .func (.func 40) #[.pointer (some ⟨hid, 0, none⟩)] #[] ∧ ts 13 = lv ∧ ts 14 = .int .i64 l.length ∧ ts 15 = .int .i64 ((i : Nat) : Int)) l.length ?_ ?_
  · exact ⟨0, [], rfl, by omega, hh, fun j _ hj => absurd hj (Nat.not_lt_zero _), by simp, Sd0, Sd0, Sd0, Sd0, Sd0⟩
  clear hh e1 τ
  rintro n ts τ ⟨i, L, rfl, hi, hh, ok, pm, t3, t4, t13, t14, t15⟩
  have hLl : L.length = i := by have := pm.length_eq; rw [List.length_take] at this; omega
  rcases Nat.lt_or_ge i l.length with hil | hig
  · have hil' : ((i : Nat) : Int) < (l.length : Int) := by omega
    rcases own2_get (hl.of_ext hh.ext) with ⟨_, _, rfl⟩ | ⟨id, rfl, _, hg⟩
    · simp at hil
    have hrow := dues_row l i hil
    have hdl := dues_len l
    (have fx := And.intro t13 (And.intro t14 (And.intro t15 hil')); refine stepR ?_; clear fx)
    refine ml_loadN Sd0 Sd0 (row_of hg hrow) ?_
    generalize hx : l.getD i (0, 0) = x
    refine stepR0 ?_
    refine ml_init (vs := [.int .i64 x.1, .int .i64 x.2]) Sd0 Sd0 Sd0 rfl rfl rfl fun τ2 e2 g2 => ?_
    (have fx := And.intro t4 g2; refine stepR ?_; clear fx)
    refine ml_callv Sd0 Sd0 Sd0 (hPush_c (hh.of_ext e2) x (by omega)) ?_
    rintro _ τ3 ⟨hh3, _⟩
    obtain ⟨ok3, pm3⟩ := push_ok ok x
    have htk : l.take (i + 1) = l.take i ++ [x] := by
      rw [List.take_add_one, List.getElem?_eq_getElem hil]
      rw [List.getD_eq_getElem?_getD, List.getElem?_eq_getElem hil] at hx
      simp at hx; simp [hx]
    (have fx := t15; refine stepR ?_; clear fx)
    exact ⟨_, by omega, i + 1, _, rfl, hil, hh3, ok3, by rw [htk]; exact pm3.trans (pm.append_right _), (have fx := t3; Sd), (have fx := t4; Sd), (have fx := t13; Sd), (have fx := t14; Sd), Sd0⟩
  · obtain rfl : i = l.length := by omega
    rw [List.take_length] at pm
    have hnl : ¬ (l.length : Int) < (l.length : Int) := by omega
    (have fx := And.intro t14 (And.intro t15 (And.intro hnl t3)); refine stepR ?_; clear fx)
    let I : Nat → Fr → H → Prop := fun n ts τ => ts 3 = .pointer (some ⟨hid, 0, none⟩) ∧ ∃ x8 ov oo acc, ts 7 = ov ∧ ts 8 = .pointer (some ⟨x8, 0, none⟩) ∧
      ((ts 9 = .bool false ∧ Ext σ τ ∧ Own τ 2 ov oo (dues acc) ∧ acc.Perm l ∧ acc.Pairwise le) ∨
       (∃ x L, ts 9 = .bool true ∧ n = L.length + 1 ∧ SS σ hid x8 ov oo x L acc τ ∧ (acc ++ x :: L).Perm l ∧ (acc ++ [x]).Pairwise le ∧ ∀ y ∈ L, le x y ∧ ∀ a ∈ acc, le a y))
    -- an item is taken out, and put into the variable
    have pop : ∀ {L : List Due} {τ : H} (h : HeapAt σ hid L τ), HeapOK L → L.length ≤ 1000 → MCalls E Tryd.prog 41 [.pointer (some ⟨hid, 0, none⟩)] τ (fun v τ' => (L = [] ∧ v = .tuple #[dueV (0, 0), .bool false] ∧ Ext τ τ') ∨ (∃ x L', v = .tuple #[dueV x, .bool true] ∧ (x :: L').Perm L ∧ HeapOK L' ∧ (∀ y ∈ L', le x y) ∧ HeapAt σ hid L' τ' ∧ Keep3 hid τ τ')) := by
      intro L τ h ok hl
      rcases Nat.eq_zero_or_pos L.length with h0 | hpos
      · obtain rfl := List.eq_nil_of_length_eq_zero h0
        exact (hPop_nil h).mono fun v τ' ⟨a, b⟩ => .inl ⟨rfl, a, b⟩
      · refine (hPop_c3 h (by omega) hpos).mono fun v τ' ⟨a, b, c⟩ => ?_
        obtain ⟨ok5, pm5⟩ : HeapOK (popL L) ∧ (dv L 0 :: popL L).Perm L := pop_ok ok hpos
        exact .inr ⟨_, _, a, pm5, ok5, fun y hy => least_mem ok (pm5.mem_iff.1 (List.mem_cons_of_mem _ hy)), b, c⟩
    refine ml_mid (fun ts τ => ∃ n, I n ts τ) ?_ ?_
    · refine ml_call Sd0 (have fx := t3; Sd) (pop hh ok (by omega)) ?_
      intro v τ1 hv
      rcases hv with ⟨rfl, rfl, e2⟩ | ⟨x, L', rfl, pm1, ok1, hle, hh1, k1⟩
      · refine stepR0 ?_
        refine ml_init (vs := [.int .i64 0, .int .i64 0]) Sd0 Sd0 Sd0 rfl rfl rfl fun τ2 e3 g2 => ?_
        refine stepR0 ?_
        exact ⟨0, (have fx := t3; Sd), τ1.size, .slice none 0 0, none, [], Sd0, Sd0, .inl ⟨Sd0, hh.ext.trans (e2.trans e3), .nil, pm, by simp⟩⟩
      · refine stepR0 ?_
        refine ml_init (vs := [.int .i64 x.1, .int .i64 x.2]) Sd0 Sd0 Sd0 rfl rfl rfl fun τ2 e3 g2 => ?_
        refine stepR0 ?_
        have hlt := hh1.lt
        have hsz := hh1.ext.size
        exact ⟨L'.length + 1, (have fx := t3; Sd), τ1.size, .slice none 0 0, none, [], Sd0, Sd0, .inr ⟨x, L', Sd0, rfl, ⟨hh1.of_ext e3, ok1, g2, .nil, (fun _ h => nomatch h), by omega, hsz⟩, by rw [List.nil_append]; exact pm1.trans pm, by simp, fun y hy => ⟨hle y hy, by simp⟩⟩⟩
    clear t3 t4 t13 t14 t15 hh ok pm hLl hig hi hnl L ts τ
    rintro ts τ ⟨n0, hI⟩
    refine stepR0 ?_
    refine mx_loop I n0 ⟨(by first | with_reducible rfl | (simp only [go_sem, reduceIte, Nat.reduceEqDiff, reduceCtorEq, Nat.reduceAdd, Nat.reduceLeDiff, Int.reduceNeg, Int.reduceToNat, Int.reduceBEq, Int.reduceBNe, Int.reduceLT, Int.reduceLE, Int.reduceAdd, Int.reduceSub, hI.1]; done) | (simp only [go_sem, reduceIte, Nat.reduceEqDiff, reduceCtorEq, Nat.reduceAdd, Nat.reduceLeDiff, Int.reduceNeg, Int.reduceToNat, Int.reduceBEq, Int.reduceBNe, Int.reduceLT, Int.reduceLE, Int.reduceAdd, Int.reduceSub, hI.1]; with_reducible rfl) | (simp only [go_sem, reduceIte, Nat.reduceEqDiff, reduceCtorEq, Nat.reduceAdd, Nat.reduceLeDiff, Int.reduceNeg, Int.reduceToNat, Int.reduceBEq, Int.reduceBNe, Int.reduceLT, Int.reduceLE, Int.reduceAdd, Int.reduceSub, hI.1]; (try simp (disch := omega) only [i64wrap, u64wrap, u8wrap, u32wrap, i32wrap]); first | with_reducible rfl | done | (refine congrArg (Value.int _) ?_; omega)) | (simp only [go_sem, reduceIte, Nat.reduceEqDiff, reduceCtorEq, Nat.reduceAdd, Nat.reduceLeDiff, Int.reduceNeg, Int.reduceToNat, Int.reduceBEq, Int.reduceBNe, Int.reduceLT, Int.reduceLE, Int.reduceAdd, Int.reduceSub, hI.1]; rfl)), hI.2⟩ ?_
    clear hI
    rintro n ts τ ⟨t3, x8, ov, oo, acc, t7, t8, ⟨t9, e1, own, pm, pw⟩ | ⟨x, L, t9, rfl, ⟨hh, ok, gx, own, hlo, hne⟩, pm, pw, hle⟩⟩
    · (have fx := And.intro t7 t9; refine stepR ?_; clear fx)
      have ht7 : ov = ts 7 := t7.symm
      refine fin1 ⟨oo, acc, e1, ?_, pm, pw⟩
      simp only [go_sem, reduceIte, Nat.reduceEqDiff, reduceCtorEq, Nat.reduceAdd, Nat.reduceLeDiff, Int.reduceNeg, Int.reduceToNat, Int.reduceBEq, Int.reduceBNe, Int.reduceLT, Int.reduceLE, Int.reduceAdd, Int.reduceSub, t7]
      exact own
    · have hal : acc.length + L.length + 1 = l.length := by have := pm.length_eq; simp at this; omega
      have hdl := dues_len acc
      (have fx := And.intro t7 (And.intro t8 (And.intro t9 gx)); refine stepR ?_; clear fx)
      refine ml_app1 (cs := dues acc) (vs := [.int .i64 x.1, .int .i64 x.2]) (oid := oo) Sd0 (have fx := t7; Sd) Sd0 (own.of_ext (Ext.push _ _)) (H.get_push_self _ _) rfl (by omega) (by rw [List.all_append, dues_one]; rfl) (by omega) (by simp only [appMax]; omega) ?_
      intro v' τ1 own1 s1 k1
      have ep : Ext τ (τ.push (.cells 2 [.int .i64 x.1, .int .i64 x.2])) := Ext.push _ _
      generalize τ.push (.cells 2 [.int .i64 x.1, .int .i64 x.2]) = τp at own1 s1 k1 ep
      have hhp := hh.of_ext ep
      have hbp : ∀ i, IsBuf τp hid i → IsBuf τ hid i := fun i ⟨n, m, y⟩ => ⟨n, m, by rw [← ep.get hid hh.lt]; exact y⟩
      have hoo : ∀ id, oo = some id → σ.size ≤ id ∧ id ≠ hid ∧ ¬ IsBuf τp hid id := fun id e => by
        refine ⟨(hlo id e).1, fun e2 => ?_, fun y => (hlo id e).2 (hbp id y)⟩
        rcases own2_get own with ⟨_, rfl, _⟩ | ⟨id2, _, rfl, hg⟩
        · cases e
        · cases e
          obtain ⟨_, _, v, h3, _⟩ := hh
          rw [e2, h3] at hg; cases hg
      obtain ⟨hh1, hb1⟩ := hhp.keepI (by omega) k1 hoo
      have gx1 : τ1.get x8 = .cells 0 [.int .i64 x.1, .int .i64 x.2] := by
        have gxp := ep.cells gx
        rw [k1 x8 (H.lt_of_cells gxp) (fun e => ?_)]
        · exact gxp
        · rcases own2_get own with ⟨_, rfl, _⟩ | ⟨id2, _, rfl, hg⟩
          · cases e
          · cases e; rw [gx] at hg; cases hg
      have hnb : ¬ IsBuf τ1 hid τp.size := fun y => by have := hhp.buflt (hb1 _ y); omega
      have hpne : τp.size ≠ hid := by have := hhp.lt; omega
      have hda : dues acc ++ [.int .i64 x.1, .int .i64 x.2] = dues (acc ++ [x]) := by rw [dues_app]; rfl
      rw [hda] at own1
      have hlop : σ.size ≤ τp.size := hhp.ext.size
      generalize τp.size = oid at own1 hnb hpne hlop
      clear hoo hbp hhp ep k1 s1 own gx hh hlo hne
      (have fx := And.intro t8 gx1; refine stepR ?_; clear fx)
      refine ml_init (vs := [.int .i64 x.1, .int .i64 x.2]) Sd0 Sd0 Sd0 rfl rfl rfl fun τ2 e2 g2 => ?_
      have hh2 := hh1.of_ext e2
      have hx8 : τ1.size ≠ hid := by have := hh1.lt; omega
      have hx8s : σ.size ≤ τ1.size := hh1.ext.size
      have hnb2 : ¬ IsBuf τ2 hid oid := fun ⟨n, m, y⟩ => hnb ⟨n, m, by rw [← e2.get hid hh1.lt]; exact y⟩
      have own2 := own1.of_ext e2
      generalize τ1.size = x9 at g2 hx8 hx8s ⊢
      clear hh1 own1 hnb gx1 hb1 e2 t8 τ1
      (have fx := t3; refine stepR ?_; clear fx)
      refine ml_call Sd0 (have fx := t3; Sd) (pop hh2 ok (by omega)) ?_
      intro v τ3 hv
      have og : τ2.get oid = .cells 2 (dues (acc ++ [x])) := by
        rcases own2_get own2 with ⟨_, h, _⟩ | ⟨id2, _, h, hg⟩
        · cases h
        · cases h; exact hg
      rcases hv with ⟨rfl, rfl, e3⟩ | ⟨x', L', rfl, pm1, ok1, hle1, hh3, k3⟩
      · refine stepR0 ?_
        refine ml_storeA (id := x9) (off := 0) (vs := [.int .i64 0, .int .i64 0]) Sd0 Sd0 Sd0 (e3.cells g2) rfl (by simp) rfl fun τ4 s4 => ?_
        refine stepR0 ?_
        refine ⟨0, by omega, (have fx := t3; Sd), x9, v', some oid, acc ++ [x], Sd0, Sd0, .inl ⟨Sd0, s4.ext (hh2.ext.trans e3) hx8s, ?_, pm, pw⟩⟩
        refine (own2.of_ext e3).ext fun id hi => s4.other id (fun e => ?_)
        cases hi; rw [← e] at g2; rw [og] at g2; cases g2
      · refine stepR0 ?_
        have og3 : τ3.get oid = .cells 2 (dues (acc ++ [x])) := by rw [k3.get oid (by rw [og]; simp) hpne hnb2]; exact og
        have g3 : τ3.get x9 = .cells 0 [.int .i64 x.1, .int .i64 x.2] := by rw [k3.get x9 (by rw [g2]; simp) hx8 (hh2.notbuf (by rw [g2]; simp))]; exact g2
        have hnb3 : ¬ IsBuf τ3 hid oid := fun y => hnb2 (k3.buf _ y)
        refine ml_storeA (id := x9) (off := 0) (vs := [.int .i64 x'.1, .int .i64 x'.2]) Sd0 Sd0 Sd0 g3 rfl (by simp) rfl fun τ4 s4 => ?_
        obtain ⟨hh4, hb4⟩ := hh3.setX s4 g3 hx8s hx8
        have own4 : Own τ4 2 v' (some oid) (dues (acc ++ [x])) := by
          refine own2.ext fun id hi => ?_
          cases hi
          rw [s4.other oid (fun e => by rw [e, g3] at og3; cases og3), og3, og]
        have hx'L : x' ∈ L := pm1.mem_iff.1 (List.mem_cons_self ..)
        have hsub : ∀ y ∈ L', y ∈ L := fun y hy => pm1.mem_iff.1 (List.mem_cons_of_mem _ hy)
        have hacc : ∀ y ∈ L, ∀ a ∈ acc ++ [x], le a y := fun y hy a ha => by
          rcases List.mem_append.1 ha with h | h
          · exact (hle y hy).2 a h
          · simp at h; subst h; exact (hle y hy).1
        have hLl : L'.length + 1 = L.length := by have := pm1.length_eq; simpa using this
        refine stepR0 ?_
        refine ⟨L'.length + 1, by omega, (have fx := t3; Sd), x9, v', some oid, acc ++ [x], Sd0, Sd0, .inr ⟨x', L', Sd0, rfl, ⟨hh4, ok1, s4.self, own4, fun id hi => ?_, hx8, hx8s⟩, ?_, ?_, fun y hy => ⟨hle1 y hy, hacc y (hsub y hy)⟩⟩⟩
        · cases hi; exact ⟨hlop, fun y => hnb3 (hb4 _ y)⟩
        · rw [List.append_assoc]
          exact (List.Perm.append_left acc (List.Perm.cons x pm1)).trans pm
        · rw [List.pairwise_append]
          exact ⟨pw, by simp, fun a ha b hb => by simp at hb; subst hb; exact hacc _ hx'L a ha⟩
end Go.Proofs.YtcjogomiiinkfaaDoor
