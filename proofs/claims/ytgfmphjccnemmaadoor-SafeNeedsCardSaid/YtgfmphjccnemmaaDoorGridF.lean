import Derived.Test.YtgfmphjccnemmaaDoorGridE
namespace Go.Proofs.YtgfmphjccnemmaaDoor
open Go.Mini
open Go.Proofs.YtgfmphjccnemmaaDoor.Code
set_option linter.unusedVariables false
set_option linter.unusedSimpArgs false
set_option linter.ambiguousOpen false
attribute [local irreducible] mx ml mld mstep MCalls Ex.thn Ex.inb

theorem o_mlook {ts : Fr} {σ : H} {x k : Opd} {r c : Nat} {n : Int} {met : List Int} (hx : mev ts x = .map (some r)) (hk : mev ts k = .int .i64 n) (hg : σ.get r = .map (setE met) c) :
    mop ts σ (.mlook .int false (.bool false) x k) = some (.bool (decide (n ∈ met)), σ) := by
  simp only [mop, hx, hk, hg, KD.has, if_true]
  by_cases h : n ∈ met
  · obtain ⟨j, hj⟩ := look_in n met 0 h
    simp [hj, h]
  · simp [look_out n met 0 h, h]
theorem o_mupd {ts : Fr} {σ : H} {x k v : Opd} {r c : Nat} {n : Int} {met : List Int} (hx : mev ts x = .map (some r)) (hk : mev ts k = .int .i64 n) (hv : mev ts v = .bool true) (hg : σ.get r = .map (setE met) c) (hn : n ∉ met) :
    mop ts σ (.mupd .int x k v) = some (undef, σ.set r (.map (setE (met ++ [n])) (c + 1))) := by
  simp only [mop, hx, hk, hv, hg, KD.has, if_true, look_out n met 0 hn, setE_app]

structure RH (σ0 : H) (av : Option Nat) (b0 m : Nat) (mv : List Value) (v : Value) (met q : List Int) (τ : H) : Prop where
  ext : Ext σ0 τ
  lb : σ0.size ≤ b0
  lm : σ0.size ≤ m
  gb : τ.get b0 = .cells 0 mv
  gm : ∃ c, τ.get m = .map (setE met) c
  tl : Tl τ σ0.size av v q
theorem RH.of_ext {σ0 τ τ' : H} {av : Option Nat} {b0 m : Nat} {mv : List Value} {v : Value} {met q : List Int} (h : RH σ0 av b0 m mv v met q τ) (e : Ext τ τ') : RH σ0 av b0 m mv v met q τ' := by
  obtain ⟨h1, h2, h3, h4, ⟨c, h5⟩, h6⟩ := h
  exact ⟨h1.trans e, h2, h3, e.cells h4, ⟨c, e.live h5 (by simp)⟩, h6.keep fun i cs hi => e.get i (H.lt_of_cells hi)⟩

theorem RH.insert {σ0 τ : H} {av : Option Nat} {b0 m c : Nat} {mv : List Value} {v : Value} {met q : List Int} {n : Int} (h : RH σ0 av b0 m mv v met q τ) (hg : τ.get m = .map (setE met) c) (hn : n ∉ met) :
    RH σ0 av b0 m mv v (met ++ [n]) q (τ.set m (.map (setE (met ++ [n])) (c + 1))) := by
  obtain ⟨h1, h2, h3, h4, h5, h6⟩ := h
  refine ⟨h1.set' h3 _, h2, h3, ?_, ⟨c + 1, H.get_set_self (H.lt_of_live (by rw [hg]; simp))⟩, h6.keep fun i cs hi => H.get_set_ne (fun e => by subst e; rw [hg] at hi; cases hi)⟩
  rw [H.get_set_ne (fun e => by subst e; rw [hg] at h4; cases h4)]; exact h4
structure RP (W : Int) (S : ByteArray) (a : Int) (met q ex : List Int) : Prop where
  nd : met.Nodup
  op : ∀ x ∈ met, opn S x = true
  re : ∀ x ∈ met, Reach W S a x
  sub : ∀ x ∈ q, x ∈ met
  here : a ∈ met
  cl : ∀ x ∈ met, x ∉ q → x ∉ ex → ∀ y ∈ nearL W S x, y ∈ met
theorem RP.add {W : Int} {S : ByteArray} {a n : Int} {met q ex : List Int} (h : RP W S a met q ex) (hn : n ∉ met) (ho : opn S n = true) (hr : Reach W S a n) : RP W S a (met ++ [n]) (q ++ [n]) ex := by
  refine ⟨?_, fun x hx => ?_, fun x hx => ?_, fun x hx => ?_, List.mem_append_left _ h.here, fun x hx hq he y hy => ?_⟩
  · rw [List.nodup_append]
    exact ⟨h.nd, by simp, fun a ha b hb => by simp at hb; subst hb; exact fun e => hn (e ▸ ha)⟩
  · rcases List.mem_append.1 hx with hx | hx
    · exact h.op x hx
    · simp at hx; rw [hx]; exact ho
  · rcases List.mem_append.1 hx with hx | hx
    · exact h.re x hx
    · simp at hx; rw [hx]; exact hr
  · rcases List.mem_append.1 hx with hx | hx
    · exact List.mem_append_left _ (h.sub x hx)
    · exact List.mem_append_right _ hx
  · have hqx : x ∉ q := fun e => hq (List.mem_append_left _ e)
    have hxn : x ∈ met := by
      rcases List.mem_append.1 hx with hx | hx
      · exact hx
      · exact absurd (List.mem_append_right _ hx) hq
    exact List.mem_append_left _ (h.cl x hxn hqx he y hy)
theorem RP.len {W : Int} {S : ByteArray} {a : Int} {met q ex : List Int} (h : RP W S a met q ex) : met.length ≤ S.size := nodup_len h.nd fun x hx => opn_lt (h.op x hx)

set_option maxHeartbeats 2000000 in
theorem reached_c (W Hh : Int) (S : ByteArray) (a : Int) (σ : H) (hW : 1 ≤ W) (hW2 : W ≤ 1000) (hS : S.size ≤ 1000) (ha : opn S a = true) :
    MCalls Tryd.prog 46 [mapV W Hh S, .int .i64 a] σ (fun v τ => Ext σ τ ∧ ∃ met : List Int, met.Nodup ∧ (∀ x, x ∈ met ↔ Reach W S a x) ∧ v = .int .i64 met.length) := by
  refine mcalls_of fn46 (by simp) ?_
  unfold c46 r46 mapV
  refine stepR0 ?_
  refine ml_op Sd0 (o_mupd (met := []) (n := a) (c := 0) Sd0 Sd0 Sd0 (H.get_push_self _ _) (by simp)) ?_
  refine stepR0 ?_
  generalize hτ : H.push (H.set _ _ _) _ = τ
  have hτs : τ.size = σ.size + 3 := by rw [← hτ]; simp
  have r0 : RH σ none σ.size (σ.size + 1) (mapC W Hh S) (.slice (some ⟨σ.size + 2, 0, none⟩) 1 1) [a] [a] τ := by
    subst hτ
    refine ⟨?_, by omega, by omega, ?_, ⟨1, ?_⟩, σ.size + 2, 0, [.int .i64 a], rfl, ⟨by omega, by simp⟩, ?_, rfl⟩
    · exact ((Ext.trans (Ext.push _ _) (Ext.push _ _)).set' (by simp) _).trans (Ext.push _ _)
    · rw [H.get_push_ne (by simp only [H.size_push, H.size_set]; omega), H.get_set_ne (by omega), H.get_push_ne (by simp), H.get_push_self]; rfl
    · rw [H.get_push_ne (by simp), H.get_set_self (by simp)]
    · exact H.get_push_self (H.set _ _ _) _
  have p0 : RP W S a [a] [a] [] := ⟨by simp, fun x hx => by simp at hx; rw [hx]; exact ha, fun x hx => by simp at hx; rw [hx]; exact .here, fun x hx => hx, by simp, fun x hx hq => absurd hx hq⟩
  refine mx_loop (fun n ts τ => ∃ met q v, ts 2 = .pointer (some ⟨σ.size, 0, none⟩) ∧ ts 5 = .map (some (σ.size + 1)) ∧ ts 6 = v ∧ RH σ none σ.size (σ.size + 1) (mapC W Hh S) v met q τ ∧ RP W S a met q [] ∧ n = 2 * (S.size - met.length) + q.length ∧ n ≤ 2 * S.size) (2 * (S.size - 1) + 1)
    ⟨[a], [a], _, Sd0, Sd0, Sd0, r0, p0, rfl, by have := opn_lt ha; omega⟩ ?_
  clear hτ hτs r0 p0
  rintro n ts τ ⟨met, q, v, h2, h5, h6, rh, rp, hn, hnS⟩
  obtain ⟨id, off, cs, rfl, hid, hg, hrow⟩ := rh.tl
  cases q with
  | nil =>
    obtain ⟨c, hm⟩ := rh.gm
    (have fx := And.intro h6 (And.intro h5 hm); refine stepR ?_; clear fx)
    refine fin1 ⟨rh.ext, met, rp.nd, fun y => ⟨rp.re y, fun hr => ?_⟩, (by first | with_reducible rfl | (simp only [go_sem, reduceIte, Nat.reduceEqDiff, reduceCtorEq, Nat.reduceAdd, Nat.reduceLeDiff, Int.reduceNeg, Int.reduceToNat, Int.reduceBEq, Int.reduceBNe, Int.reduceLT, Int.reduceLE, Int.reduceAdd, Int.reduceSub, setE, List.length_map]; done) | (simp only [go_sem, reduceIte, Nat.reduceEqDiff, reduceCtorEq, Nat.reduceAdd, Nat.reduceLeDiff, Int.reduceNeg, Int.reduceToNat, Int.reduceBEq, Int.reduceBNe, Int.reduceLT, Int.reduceLE, Int.reduceAdd, Int.reduceSub, setE, List.length_map]; with_reducible rfl) | (simp only [go_sem, reduceIte, Nat.reduceEqDiff, reduceCtorEq, Nat.reduceAdd, Nat.reduceLeDiff, Int.reduceNeg, Int.reduceToNat, Int.reduceBEq, Int.reduceBNe, Int.reduceLT, Int.reduceLE, Int.reduceAdd, Int.reduceSub, setE, List.length_map]; (try simp (disch := omega) only [i64wrap, u64wrap, u8wrap, u32wrap, i32wrap]); first | with_reducible rfl | done | (refine congrArg (Value.int _) ?_; omega)) | (simp only [go_sem, reduceIte, Nat.reduceEqDiff, reduceCtorEq, Nat.reduceAdd, Nat.reduceLeDiff, Int.reduceNeg, Int.reduceToNat, Int.reduceBEq, Int.reduceBNe, Int.reduceLT, Int.reduceLE, Int.reduceAdd, Int.reduceSub, setE, List.length_map]; rfl))⟩
    induction hr with
    | here => exact rp.here
    | step _ hn ih => exact rp.cl _ ih (by simp) (by simp) _ hn
  | cons x q =>
    obtain ⟨hx0, hrow'⟩ := rowL_cons (v := .int .i64 x) (vs := ints q) hrow
    have hxo := rp.op x (rp.sub x (by simp))
    have hxl := opn_lt hxo
    simp only [List.length_cons] at h6 hn
    have gb := rh.gb
    (have fx := And.intro h6 (And.intro h5 (And.intro hg hx0)); refine stepR ?_; clear fx)
    refine ml_op Sd0 (o_slc_lo (q := 1) (k := .i64) (len := q.length + 1) (have fx := h6; Sd) Sd0 (by omega) (by omega) hg) ?_
    (have fx := And.intro h2 gb; refine stepR ?_; clear fx)
    refine ml_call (have fx := And.intro h2 gb; Sd) Sd0 (near_c W Hh S x τ hW hW2 (by omega) (by omega)) ?_
    rintro nv τ1 ⟨e1, oid, own, hoid⟩
    have hidlt := H.lt_of_cells hg
    have rh1 : RH σ oid σ.size (σ.size + 1) (mapC W Hh S) (.slice (some ⟨id, off + 1, none⟩) q.length q.length) met q τ1 := by
      refine RH.of_ext ⟨rh.ext, rh.lb, rh.lm, rh.gb, rh.gm, id, off + 1, cs, rfl, ⟨hid.1, fun e => ?_⟩, hg, hrow'⟩ e1
      have := hoid id e.symm; omega
    have rp1 : RP W S a met q [x] := ⟨rp.nd, rp.op, rp.re, fun y hy => rp.sub y (by simp [hy]), rp.here, fun y hy hq he z hz => rp.cl y hy (by simp at he; simp [hq, he]) (by simp) z hz⟩
    have hxr := rp.re x (rp.sub x (by simp))
    have hlall : ∀ y ∈ nearL W S x, opn S y = true ∧ Reach W S a y := fun y hy => ⟨near_opn hy, .step hxr hy⟩
    have hln : (nearL W S x).length ≤ 4 := by
      unfold nearL
      refine Nat.le_trans (nadd_len _ _ _ _) (Nat.succ_le_succ (Nat.le_trans (nadd_len _ _ _ _) (Nat.succ_le_succ (Nat.le_trans (nadd_len _ _ _ _) (Nat.succ_le_succ (nadd_len _ _ _ _))))))
    have hclose : ∀ {met q}, RP W S a met q [x] → (∀ y ∈ nearL W S x, y ∈ met) → RP W S a met q [] := fun h hy => ⟨h.nd, h.op, h.re, h.sub, h.here, fun z hz hq _ u hu => by
      by_cases e : z = x
      · subst e; exact hy u hu
      · exact h.cl z hz hq (by simp [e]) u hu⟩
    generalize nearL W S x = l at own hlall hln hclose
    refine ml_op Sd0 (o_lenI Sd0 own) ?_
    refine stepR0 ?_
    have hlen1 := rp.len
    refine mx_loop (fun n2 ts τ => ∃ met q v i, ts 2 = .pointer (some ⟨σ.size, 0, none⟩) ∧ ts 5 = .map (some (σ.size + 1)) ∧ ts 6 = v ∧ ts 25 = nv ∧ ts 26 = .int .i64 l.length ∧ ts 27 = .int .i64 ((i : Nat) : Int) ∧ i ≤ l.length ∧ Own τ 1 nv oid (ints l) ∧
      RH σ oid σ.size (σ.size + 1) (mapC W Hh S) v met q τ ∧ RP W S a met q [x] ∧ (∀ y ∈ l.take i, y ∈ met) ∧ n2 = l.length - i ∧ 2 * (S.size - met.length) + q.length < n) l.length ?_ ?_
    · exact ⟨met, q, _, 0, (have fx := h2; Sd), (have fx := h5; Sd), Sd0, Sd0, Sd0, Sd0, by omega, own, rh1, rp1, by simp, by omega, by omega⟩
    clear rh rp hg hrow hx0 hrow' gb own rh1 rp1 hlen1 h2 h5 h6 hn e1
    rintro n2 ts τ ⟨met, q, v, i, h2, h5, h6, h25, h26, h27, hi, own, rh, rp, htk, hn2, hn⟩
    have hlen1 := rp.len
    rcases Nat.lt_or_ge i l.length with hlt | hge
    · (have fx := And.intro h27 h26; refine stepR ?_; clear fx)
      refine ml_iaI (q := (i : Int)) Sd0 (have fx := h25; Sd) own (have fx := h27; Sd) (by omega) (by omega) fun pid pcs hpg hpc => ?_
      rw [Int.toNat_natCast] at hpc ⊢
      generalize hy : l.getD i 0 = y at hpc
      have hyl : y ∈ l := by rw [← hy, List.getD_eq_getElem?_getD, List.getElem?_eq_getElem hlt]; exact List.getElem_mem _
      obtain ⟨c, gm⟩ := rh.gm
      (have fx := And.intro hpg (And.intro hpc h5); refine stepR ?_; clear fx)
      refine ml_op Sd0 (o_mlook (have fx := h5; Sd) Sd0 gm) ?_
      have htk' : l.take (i + 1) = l.take i ++ [y] := by rw [List.take_add_one, ← hy, List.getD_eq_getElem?_getD, List.getElem?_eq_getElem hlt]; rfl
      by_cases hm : y ∈ met
      · (have fx := And.intro hm h27; refine stepR ?_; clear fx)
        refine ⟨l.length - (i + 1), by omega, met, q, v, i + 1, (have fx := h2; Sd), (have fx := h5; Sd), (have fx := h6; Sd), (have fx := h25; Sd), (have fx := h26; Sd), Sd0, by omega, own, rh, rp, fun z hz => ?_, rfl, hn⟩
        · rw [htk'] at hz
          rcases List.mem_append.1 hz with hz | hz
          · exact htk z hz
          · simp at hz; rw [hz]; exact hm
      · (have fx := And.intro hm h5; refine stepR ?_; clear fx)
        refine ml_op Sd0 (o_mupd (n := y) (have fx := h5; Sd) Sd0 Sd0 gm hm) ?_
        have rh2 := rh.insert gm hm
        have own2 : Own (τ.set (σ.size + 1) (.map (setE (met ++ [y])) (c + 1))) 1 nv oid (ints l) := own.ext fun j hj => H.get_set_ne (fun e => by
          subst hj
          have := own.cells; rw [e, gm] at this; obtain ⟨_, h⟩ := this; cases h)
        generalize hτ2 : τ.set (σ.size + 1) (.map (setE (met ++ [y])) (c + 1)) = τ2 at rh2 own2
        (have fx := h6; refine stepR ?_; clear fx)
        have rp2 := rp.add hm (hlall y hyl).1 (hlall y hyl).2
        have hlen2 := rp2.len
        simp only [List.length_append, List.length_cons, List.length_nil] at hlen2
        have rh3 := rh2.of_ext (Ext.push τ2 (.cells 1 [.int .i64 y]))
        have own3 := own2.of_ext (Ext.push τ2 (.cells 1 [.int .i64 y]))
        have hlo := rh2.ext.size
        refine ml_appTl Sd0 Sd0 Sd0 rh3.tl (by simp only [H.size_push]; omega) (fun e => ?_) (H.get_push_self _ _) (by omega) (by simp only [appMax]; omega) ?_
        · have := own3; rw [← e] at this; have := this.lt; omega
        intro qid v' τ4 hq1 hq0 ⟨qcs, hq2⟩ htl hsz hget
        obtain ⟨c2, gm2⟩ := rh3.gm
        have k1 : ∀ i o, (τ2.push (.cells 1 [.int .i64 y])).get i = o → o ≠ .dead → (∀ cs, o ≠ .cells 1 cs) → τ4.get i = o := fun i o h1 h2 h3 => by
          rw [hget i (H.lt_of_live (by rw [h1]; exact h2)) (fun e => by subst e; rw [h1] at hq2; exact h3 _ hq2), h1]
        have rh4 : RH σ oid σ.size (σ.size + 1) (mapC W Hh S) v' (met ++ [y]) (q ++ [y]) τ4 := by
          refine ⟨⟨by simp only [H.size_push] at hsz; omega, fun i hi => ?_⟩, rh3.lb, rh3.lm, k1 _ _ rh3.gb (by simp) (by simp), ⟨c2, k1 _ _ gm2 (by simp) (by simp)⟩, htl⟩
          rw [hget i (by simp only [H.size_push]; omega) (by omega)]; exact rh3.ext.get i hi
        have own4 : Own τ4 1 nv oid (ints l) := own3.ext fun j hj => by
          subst hj; exact hget j own3.lt (fun e => hq1 (by rw [e]))
        (have fx := h27; refine stepR ?_; clear fx)
        refine ⟨l.length - (i + 1), by omega, met ++ [y], q ++ [y], v', i + 1, (have fx := h2; Sd), (have fx := h5; Sd), Sd0, (have fx := h25; Sd), (have fx := h26; Sd), Sd0, by omega, own4, rh4, rp2, fun z hz => ?_, rfl, ?_⟩
        · rw [htk'] at hz
          rcases List.mem_append.1 hz with hz | hz
          · exact List.mem_append_left _ (htk z hz)
          · exact List.mem_append_right _ hz
        · simp only [List.length_append, List.length_cons, List.length_nil]; omega
    · (have fx := And.intro h27 h26; refine stepR ?_; clear fx)
      have htk2 : ∀ y ∈ l, y ∈ met := fun y hy => htk y (by rw [List.take_of_length_le hge]; exact hy)
      exact ⟨_, hn, met, q, v, (have fx := h2; Sd), (have fx := h5; Sd), (have fx := h6; Sd), ⟨rh.ext, rh.lb, rh.lm, rh.gb, rh.gm, rh.tl.free⟩, hclose rp htk2, rfl, by omega⟩
end Go.Proofs.YtgfmphjccnemmaaDoor
