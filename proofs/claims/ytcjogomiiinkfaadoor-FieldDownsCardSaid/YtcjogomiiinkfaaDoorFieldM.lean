/- FieldDowns. -/
import Derived.Test.YtcjogomiiinkfaaDoorFieldL
import Derived.Test.YtcjogomiiinkfaaDoorRouteG
namespace Go.Proofs.YtcjogomiiinkfaaDoor
open Go.Mini
open Go.Proofs.YtcjogomiiinkfaaDoor.Code
set_option linter.unusedVariables false
set_option linter.unusedSimpArgs false
set_option linter.ambiguousOpen false
attribute [local irreducible] mx ml mld mstep MCalls Ex.thn Ex.inb
variable {E : World → Prop}

theorem wayR_len {W Hh : Int} {S : ByteArray} {f : List Int} {n : Nat} {c : Int} {out : List Int} (h : WayR W Hh S f n c out) : out.length ≤ n := by
  induction h with
  | stop _ => simp
  | full => simp
  | step _ _ ih => simp only [List.length_cons]; omega
theorem wayR_nil {W Hh : Int} {S : ByteArray} {f : List Int} {n : Nat} {c : Int} {l out : List Int} (hd : DownR W Hh S f c l) (h : WayR W Hh S f n c out) (hn : n ≠ 0) : (out = [] ∧ l = []) ∨ (0 < out.length ∧ 0 < l.length) := by
  cases h with
  | stop h => exact .inl ⟨rfl, hd.uniq h⟩
  | full => exact absurd rfl hn
  | step h _ =>
    obtain rfl := hd.uniq h
    exact .inr ⟨Nat.succ_pos _, Nat.succ_pos _⟩
theorem wayR_at {W Hh : Int} {S : ByteArray} {f : List Int} {n i : Nat} {c : Int} {out : List Int} (hi : i < out.length) (h : WayR W Hh S f n c (out.drop i)) : ∃ l m, n = m + 1 ∧ DownR W Hh S f c (out.getD i 0 :: l) ∧ WayR W Hh S f m (out.getD i 0) (out.drop (i + 1)) := by
  have hge : out.getD i 0 = out[i] := by rw [List.getD_eq_getElem?_getD, List.getElem?_eq_getElem hi]; rfl
  rw [List.drop_eq_getElem_cons hi, ← hge] at h
  cases h with
  | step h1 h2 => exact ⟨_, _, rfl, h1, h2⟩

set_option maxHeartbeats 8000000 in
theorem fieldDowns_c (W Hh : Int) (S : ByteArray) {σ : H} {fv : Value} {f : List Int} (hr : Rd σ fv (ints f)) (c : Int) :
    MCalls E Tryd.prog 7 [mapV W Hh S, fv, .int .i64 c] σ (fun v τ => v = .bool true) := by
  refine mcalls_of fn7 (by simp) ?_
  unfold c7 r7 mapV
  refine stepR0 ?_
  refine ml_call Sd0 Sd0 (fAwake_c _) ?_
  rintro _ τ ⟨rfl, e1⟩
  have g1 := e1.cells (H.get_push_self σ _)
  have e1' := (Ext.push _ _).trans e1
  have r1 := hr.of_ext e1'
  by_cases hS : 200 < S.size
  · have hS' : (200 : Int) < (S.size : Int) := by omega
    (have fx := And.intro g1 hS'; refine stepR ?_; clear fx)
    refine ml_call Sd0 Sd0 (fAwake_c _) ?_
    rintro _ τ2 ⟨rfl, e2⟩
    refine stepR0 ?_
    exact fin1 Sd0
  have hS' : ¬ (200 : Int) < (S.size : Int) := by omega
  (have fx := And.intro g1 hS'; refine stepR ?_; clear fx)
  refine ml_len Sd0 r1 Sd0 ?_
  rw [ints_len]
  by_cases hl : 200 < f.length
  · have hl' : (200 : Int) < (f.length : Int) := by omega
    (have fx := hl'; refine stepR ?_; clear fx)
    refine ml_call Sd0 Sd0 (fAwake_c _) ?_
    rintro _ τ2 ⟨rfl, e2⟩
    refine stepR0 ?_
    exact fin1 Sd0
  have hl' : ¬ (200 : Int) < (f.length : Int) := by omega
  (have fx := And.intro g1 hl'; refine stepR ?_; clear fx)
  refine ml_call Sd0 Sd0 (gOf_c W Hh S τ) ?_
  rintro _ τ2 ⟨rfl, e2⟩
  have r2 := r1.of_ext e2
  have g2 := e2.cells g1
  refine stepR0 ?_
  refine ml_call Sd0 Sd0 (fDown_c W Hh S r2 c) ?_
  rintro lv τ3 ⟨l, hlo, hld⟩
  have r3 := r2.of_ext hlo.1
  have g3 := hlo.1.cells g2
  (have fx := g3; refine stepR ?_; clear fx)
  refine ml_call Sd0 Sd0 (gOf_c W Hh S τ3) ?_
  rintro _ τ4 ⟨rfl, e4⟩
  have r4 := r3.of_ext e4
  refine stepR0 ?_
  refine ml_call Sd0 Sd0 (fWay_c W Hh S r4 c) ?_
  rintro wv τ5 ⟨out, how, hway⟩
  have g5 := how.1.cells (e4.cells g3)
  have r5 := r4.of_ext how.1
  have rl5 := (hlo.rd.of_ext e4).of_ext how.1
  (have fx := g5; refine stepR ?_; clear fx)
  refine ml_call Sd0 Sd0 (rRight_c W Hh S τ5) ?_
  rintro _ τ6 ⟨rfl, e6⟩
  have g6 := e6.cells g5
  have r6 := r5.of_ext e6
  have rl6 := rl5.of_ext e6
  have ro6 := how.rd.of_ext e6
  cases hg : gr W Hh S
  · have hd : downOK W Hh S f c = false := by unfold downOK; rw [hg]; simp
    obtain rfl := way_none hd hway
    obtain rfl : l = [] := by unfold DownR at hld; rw [if_neg (by rw [hd]; simp)] at hld; exact hld
    refine stepR0 ?_
    refine ml_len Sd0 rl6 Sd0 ?_
    rw [ints_len, List.length_nil]
    refine stepR0 ?_
    refine ml_len Sd0 ro6 Sd0 ?_
    rw [ints_len, List.length_nil]
    refine stepR0 ?_
    exact fin1 Sd0
  (have fx := g6; refine stepR ?_; clear fx)
  refine ml_call Sd0 Sd0 (rDown_c W Hh S r6 c hg) ?_
  rintro dv τ7 ⟨l2, hd2, hdd2⟩
  obtain rfl := hld.uniq hdd2
  have g7 := hd2.1.cells g6
  have r7 := r6.of_ext hd2.1
  have rl7 := rl6.of_ext hd2.1
  have ro7 := ro6.of_ext hd2.1
  refine stepR0 ?_
  refine ml_call Sd0 Sd0 (lInts_c rl7 hd2.rd (by have := hld.len; omega)) ?_
  rintro _ τ8 ⟨rfl, rfl⟩
  rw [if_pos rfl]
  have hw64 := wayR_len hway
  have h64 : ¬ (64 : Int) < (out.length : Int) := by omega
  refine stepR0 ?_
  refine ml_len Sd0 ro7 Sd0 ?_
  rw [ints_len]
  (have fx := h64; refine stepR ?_; clear fx)
  refine ml_len (have fx := h64; Sd) ro7 (have fx := h64; Sd) ?_
  rw [ints_len]
  (have fx := h64; refine stepR ?_; clear fx)
  refine ml_len (have fx := h64; Sd) rl7 (have fx := h64; Sd) ?_
  rw [ints_len]
  have hx : ((out.length : Int) == 0) = ((l.length : Int) == 0) := by
    rcases wayR_nil hld hway (by omega) with ⟨rfl, rfl⟩ | ⟨h1, h2⟩
    · rfl
    · rw [beq_eq_false_iff_ne.2 (show (out.length : Int) ≠ 0 by omega), beq_eq_false_iff_ne.2 (show (l.length : Int) ≠ 0 by omega)]
  generalize hxb : ((l.length : Int) == 0) = b at hx
  (have fx := And.intro h64 (And.intro hx hxb); refine stepR ?_; clear fx)
  clear hxb hx hlo hd2
  refine mx_loop (fun n ts τ => ∃ i c', n = out.length - i ∧ i ≤ out.length ∧ Ext τ8 τ ∧ ts 1 = fv ∧ ts 2 = .int .i64 c' ∧ ts 3 = .pointer (some ⟨σ.size, 0, none⟩) ∧ ts 8 = wv ∧ ts 9 = .int .i64 ((i : Nat) : Int) ∧ ∃ m, WayR W Hh S f m c' (out.drop i)) out.length ?_ ?_
  · exact ⟨0, c, rfl, by omega, Ext.refl _, Sd0, Sd0, Sd0, Sd0, Sd0, 64, hway⟩
  rintro n ts τ ⟨i, c', rfl, hi, e, t1, t2, t3, t8, t9, m, hw⟩
  have ro := ro7.of_ext e
  have r := r7.of_ext e
  have g := e.cells g7
  (have fx := And.intro t9 t8; refine stepR ?_; clear fx)
  refine ml_len Sd0 ro (have fx := t8; Sd) ?_
  rw [ints_len]
  rcases Nat.lt_or_ge i out.length with hil | hig
  rotate_left
  · obtain rfl : i = out.length := by omega
    have hil' : ¬ (out.length : Int) < (out.length : Int) := by omega
    (have fx := hil'; refine stepR ?_; clear fx)
    exact fin1 Sd0
  have hil' : ((i : Nat) : Int) < (out.length : Int) := by omega
  obtain ⟨l', m', rfl, hd', hw'⟩ := wayR_at hil hw
  have ai := ints_at hil
  generalize out.getD i 0 = d at hd' hw' ai
  (have fx := And.intro hil' (And.intro t1 (And.intro t2 (And.intro t3 g))); refine stepR ?_; clear fx)
  refine ml_call (have fx := hil'; Sd) (have fx := And.intro t1 (And.intro t2 hil'); Sd) (rDown_c W Hh S r c' hg) ?_
  rintro dv τ9 ⟨l3, hd3, hdd3⟩
  obtain rfl := hd'.uniq hdd3
  have rd3 := hd3.rd
  have ro9 := ro.of_ext hd3.1
  refine stepR0 ?_
  refine mld_len Sd0 rd3 Sd0 ?_
  rw [ints_len]
  have hlen0 : (((d :: l').length : Int) == 0) = false := by rw [beq_eq_false_iff_ne]; simp only [List.length_cons]; omega
  generalize ((d :: l').length : Int) = LL at hlen0
  (have fx := hlen0; refine stepR ?_; clear fx)
  refine mld_getS (q := 0) (e := .int .i64 d) (have fx := hlen0; Sd) rd3 (have fx := hlen0; Sd) (have fx := hlen0; Sd) (by omega) rfl (fun p => (have fx := hlen0; Sd)) fun p => ?_
  (have fx := And.intro hlen0 (And.intro t8 t9); refine stepR ?_; clear fx)
  refine mld_getS (have fx := hlen0; Sd) ro9 (have fx := And.intro t8 hlen0; Sd) (have fx := And.intro t9 hlen0; Sd) (by omega) (by rw [Int.toNat_natCast]; exact ai) (fun p => (have fx := hlen0; Sd)) fun p => ?_
  have hdd : (d != d) = false := by simp
  (have fx := And.intro hlen0 (And.intro hdd (And.intro t8 t9)); refine stepR ?_; clear fx)
  refine ml_getS ro9 (have fx := And.intro t8 hlen0; Sd) (have fx := And.intro t9 hlen0; Sd) (by omega) (by rw [Int.toNat_natCast]; exact ai) fun p => ?_
  (have fx := t9; refine stepR ?_; clear fx)
  exact ⟨_, by omega, i + 1, d, rfl, hil, e.trans hd3.1, (have fx := t1; Sd), Sd0, (have fx := t3; Sd), (have fx := t8; Sd), Sd0, m', hw'⟩
end Go.Proofs.YtcjogomiiinkfaaDoor
