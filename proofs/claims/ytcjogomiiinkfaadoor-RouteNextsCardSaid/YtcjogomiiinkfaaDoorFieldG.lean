/- field.Way, and where it leads. -/
import Derived.Test.YtcjogomiiinkfaaDoorFieldF
import Derived.Test.YtcjogomiiinkfaaDoorFieldE
namespace Go.Proofs.YtcjogomiiinkfaaDoor
open Go.Mini
open Go.Proofs.YtcjogomiiinkfaaDoor.Code
set_option linter.unusedVariables false
set_option linter.unusedSimpArgs false
set_option linter.ambiguousOpen false
attribute [local irreducible] mx ml mld mstep MCalls Ex.thn Ex.inb
variable {E : World → Prop}

/-- A way down, of so many cells at most. -/
inductive WayR (W Hh : Int) (S : ByteArray) (f : List Int) : Nat → Int → List Int → Prop where
  | stop {n : Nat} {c : Int} (h : DownR W Hh S f c []) : WayR W Hh S f n c []
  | full {c : Int} : WayR W Hh S f 0 c []
  | step {n : Nat} {c d : Int} {l out : List Int} (h : DownR W Hh S f c (d :: l)) (t : WayR W Hh S f n d out) : WayR W Hh S f (n + 1) c (d :: out)
theorem WayR.snoc {W Hh : Int} {S : ByteArray} {f : List Int} {n : Nat} {c : Int} {acc : List Int} {c' : Int} {rest : List Int} : True := trivial

set_option maxHeartbeats 2000000 in
theorem fWay_c (W Hh : Int) (S : ByteArray) {σ : H} {fv : Value} {f : List Int} (hr : Rd σ fv (ints f)) (c : Int) :
    MCalls E Tryd.prog 22 [mapV W Hh S, fv, .int .i64 c] σ (fun v τ => ∃ out, Out σ τ 1 v (ints out) ∧ WayR W Hh S f 64 c out) := by
  refine mcalls_of fn22 (by simp) ?_
  unfold c22 r22 mapV
  refine stepR0 ?_
  generalize hτ : H.push _ _ = τ
  have e1 : Ext σ τ := hτ ▸ Ext.push _ _
  have g1 : τ.get σ.size = .cells 0 [.int .i64 W, .int .i64 Hh, .string S] := by rw [← hτ]; exact H.get_push_self _ _
  have r1 := hr.of_ext e1
  clear hτ
  (have fx := g1; refine stepR ?_; clear fx)
  refine ml_call Sd0 Sd0 (fDown_c W Hh S r1 c) ?_
  rintro lv τ2 ⟨l, out2, hd⟩
  refine stepR0 ?_
  refine mx_loop (fun n ts τ' => ∃ acc ov c' lv l, n = 64 - acc.length ∧ acc.length ≤ 64 ∧ ts 1 = fv ∧ ts 2 = .int .i64 c' ∧ ts 3 = .pointer (some ⟨σ.size, 0, none⟩) ∧ ts 7 = ov ∧ ts 8 = lv ∧ Out τ τ' 1 ov (ints acc) ∧ Rd τ' lv (ints l) ∧ DownR W Hh S f c' l ∧ (∀ rest, WayR W Hh S f (64 - acc.length) c' rest → WayR W Hh S f 64 c (acc ++ rest))) 64 ?_ ?_
  · exact ⟨[], .slice none 0 0, c, lv, l, rfl, by simp, Sd0, Sd0, Sd0, Sd0, Sd0, ⟨out2.1, none, .nil, fun _ h => nomatch h⟩, out2.rd, hd, fun rest h => h⟩
  clear hd out2
  rintro n ts τ' ⟨acc, ov, c', lv', l', rfl, ha, t1, t2, t3, t7, t8, out, rl, hd, hw⟩
  (have fx := t8; refine stepR ?_; clear fx)
  refine ml_len Sd0 rl (have fx := t8; Sd) ?_
  rw [ints_len]
  cases l' with
  | nil =>
    rw [List.length_nil]
    (have fx := t7; refine stepR ?_; clear fx)
    refine fin1 ⟨acc, ?_, ?_⟩
    · simp only [go_sem, reduceIte, Nat.reduceEqDiff, reduceCtorEq, Nat.reduceAdd, Nat.reduceLeDiff, Int.reduceNeg, Int.reduceToNat, Int.reduceBEq, Int.reduceBNe, Int.reduceLT, Int.reduceLE, Int.reduceAdd, Int.reduceSub, t7]
      obtain ⟨e5, o5, own5, h5⟩ := out
      exact ⟨e1.trans e5, o5, own5, fun id hi => Nat.le_trans e1.size (h5 id hi)⟩
    · have := hw [] (.stop hd); rwa [List.append_nil] at this
  | cons d l' =>
    have hm0 : 0 < (d :: l').length := Nat.succ_pos _
    generalize (d :: l').length = m at hm0 ⊢
    have hl0 : ¬ ((m : Int) = 0) := by omega
    have hl1 : (0 : Int) < (m : Int) := by omega
    (have fx := And.intro hl0 (And.intro hl1 t7); refine stepR ?_; clear fx)
    refine ml_len (have fx := And.intro hl0 hl1; Sd) out.rd (have fx := t7; Sd) ?_
    rw [ints_len]
    by_cases h64 : acc.length < 64
    · have h64' : (acc.length : Int) < 64 := by omega
      (have fx := And.intro hl0 (And.intro hl1 (And.intro h64' t8)); refine stepR ?_; clear fx)
      refine ml_getS (q := 0) (e := .int .i64 d) rl (have fx := t8; Sd) Sd0 (by omega) rfl fun p => ?_
      (have fx := t7; refine stepR ?_; clear fx)
      refine ml_appG (cs := ints acc) (vs := [.int .i64 d]) Sd0 (have fx := t7; Sd) Sd0 (out.of_ext (Ext.push _ _)) (H.get_push_self _ _) rfl (by omega) (by rw [List.all_append, ints_one]; rfl) (by omega) (by rw [ints_len]; simp only [appMax]; omega) ?_
      intro ov' τ3 out3
      have hia : ints acc ++ [.int .i64 d] = ints (acc ++ [d]) := by simp [ints]
      rw [hia] at out3
      have g3 := out3.1.cells g1
      have r3 := r1.of_ext out3.1
      (have fx := And.intro t3 (And.intro g3 t1); refine stepR ?_; clear fx)
      refine ml_call Sd0 Sd0 (fDown_c W Hh S r3 d) ?_
      rintro lv2 τ4 ⟨l2, out4, hd2⟩
      refine stepR0 ?_
      have hal : (acc ++ [d]).length = acc.length + 1 := by simp
      refine ⟨_, ?_, acc ++ [d], ov', d, lv2, l2, rfl, by omega, (have fx := t1; Sd), Sd0, (have fx := t3; Sd), Sd0, Sd0, out3.of_ext out4.1, out4.rd, hd2, fun rest hrest => ?_⟩
      · omega
      · have e : 64 - acc.length = (64 - (acc ++ [d]).length) + 1 := by omega
        have := hw (d :: rest) (by rw [e]; exact .step hd hrest)
        rw [List.append_assoc]; exact this
    · have h64' : ¬ (acc.length : Int) < 64 := by omega
      (have fx := And.intro hl0 (And.intro hl1 (And.intro h64' t7)); refine stepR ?_; clear fx)
      refine fin1 ⟨acc, ?_, ?_⟩
      · simp only [go_sem, reduceIte, Nat.reduceEqDiff, reduceCtorEq, Nat.reduceAdd, Nat.reduceLeDiff, Int.reduceNeg, Int.reduceToNat, Int.reduceBEq, Int.reduceBNe, Int.reduceLT, Int.reduceLE, Int.reduceAdd, Int.reduceSub, t7]
        obtain ⟨e5, o5, own5, h5⟩ := out
        exact ⟨e1.trans e5, o5, own5, fun id hi => Nat.le_trans e1.size (h5 id hi)⟩
      · have e : 64 - acc.length = 0 := by omega
        rw [e] at hw
        have := hw [] .full; rwa [List.append_nil] at this

/-! ## Where a way of a field leads -/
inductive PathTo (W : Int) (S : ByteArray) : Int → List Int → Int → Prop where
  | nil (x : Int) : PathTo W S x [] x
  | cons {x h y : Int} {out : List Int} (hn : h ∈ nearL W S x) (t : PathTo W S h out y) : PathTo W S x (h :: out) y
section
variable {W Hh : Int} {S : ByteArray} {src : List Int} {st : Int} {f : List Int}
theorem cst_at (hc : Cst W S src st f) {x : Int} (hx : opn S x = true) : CostOK W S src st x (f.getD x.toNat 0) := by
  have hl := opn_lt hx
  have := hc.2 x.toNat (by omega)
  rwa [Int.toNat_of_nonneg hl.1] at this
theorem dnI_mem {c : Int} {p : Due} : p ∈ dnI W S f c ↔ p.2 ∈ nearL W S c ∧ p.1 = f.getD p.2.toNat 0 ∧ 0 ≤ p.1 ∧ p.1 < f.getD c.toNat 0 := by
  unfold dnI
  rw [List.mem_map]
  constructor
  · rintro ⟨n, hn, rfl⟩
    have := List.mem_filter.1 hn
    rw [Bool.and_eq_true, decide_eq_true_eq, decide_eq_true_eq] at this
    exact ⟨this.1, rfl, this.2.1, this.2.2⟩
  · rintro ⟨h1, h2, h3, h4⟩
    refine ⟨p.2, List.mem_filter.2 ⟨h1, ?_⟩, by rw [← h2]⟩
    rw [Bool.and_eq_true, decide_eq_true_eq, decide_eq_true_eq, ← h2]
    exact ⟨h3, h4⟩
theorem DownL.mem {c : Int} {out : List Int} (h : DownL W S f c out) {n : Int} : n ∈ out ↔ n ∈ nearL W S c ∧ 0 ≤ f.getD n.toNat 0 ∧ f.getD n.toNat 0 < f.getD c.toNat 0 := by
  obtain ⟨l, pm, _, rfl⟩ := h
  rw [List.mem_map]
  constructor
  · rintro ⟨p, hp, rfl⟩
    obtain ⟨h1, h2, h3, h4⟩ := dnI_mem.1 (pm.mem_iff.1 hp)
    rw [← h2]; exact ⟨h1, h3, h4⟩
  · rintro ⟨h1, h2, h3⟩
    exact ⟨(f.getD n.toNat 0, n), pm.mem_iff.2 (dnI_mem.2 ⟨h1, rfl, h2, h3⟩), rfl⟩
/-- So far from a source: a way of so many cells. -/
theorem way_ok (hg : gr W Hh S = true) (hc : Cst W S src st f) (hst : 1 ≤ st) : ∀ {d n : Nat} {x : Int} {out : List Int}, d ≤ n → Wk W S src d x → (∀ j, Wk W S src j x → d ≤ j) → WayR W Hh S f n x out → out.length = d ∧ ∃ y ∈ src, PathTo W S x out y := by
  intro d
  have cost : ∀ {k : Nat} {x : Int}, Wk W S src k x → (∀ j, Wk W S src j x → k ≤ j) → f.getD x.toNat 0 = st * k := fun {k x} h hm => by
    rcases cst_at hc h.opn with ⟨_, h2⟩ | ⟨k2, h2, h3, h4⟩
    · exact absurd h (h2 k)
    · rw [h4, Nat.le_antisymm (hm _ h2) (h3 _ h)]
  have ok : ∀ {k : Nat} {x : Int}, Wk W S src k x → (∀ j, Wk W S src j x → k ≤ j) → downOK W Hh S f x = true := fun {k x} h hm => by
    unfold downOK
    have : 0 ≤ f.getD x.toNat 0 := by rw [cost h hm]; exact Int.mul_nonneg (by omega) (by omega)
    rw [hc.1, hg, h.opn, decide_eq_true rfl, decide_eq_true this]; rfl
  induction d with
  | zero =>
    intro n x out _ hw hm hway
    have hempty : ∀ l, DownR W Hh S f x l → l = [] := fun l h => by
      unfold DownR at h
      rw [if_pos (ok hw hm)] at h
      cases l with
      | nil => rfl
      | cons a l =>
        obtain ⟨_, h2, h3⟩ := h.mem.1 (List.mem_cons_self (a := a) (l := l))
        rw [cost hw hm] at h3
        have h0 : st * ((0 : Nat) : Int) = 0 := by rw [Int.natCast_zero, Int.mul_zero]
        omega
    have hs : x ∈ src := by cases hw with | src h _ => exact h
    cases hway with
    | stop _ => exact ⟨rfl, x, hs, .nil x⟩
    | full => exact ⟨rfl, x, hs, .nil x⟩
    | step h _ => cases hempty _ h
  | succ d ih =>
    intro n x out hn hw hm hway
    have hpos : ∀ l, DownR W Hh S f x l → (∃ a t, l = a :: t) ∧ ∀ a ∈ l, a ∈ nearL W S x ∧ Wk W S src d a ∧ ∀ j, Wk W S src j a → d ≤ j := fun l h => by
      unfold DownR at h
      rw [if_pos (ok hw hm)] at h
      have step : ∀ a ∈ nearL W S x, ∀ j, Wk W S src j a → d ≤ j := fun a ha j hj => by
        have hxa := near_symm (gr_size hg).1 hw.opn ha
        have := hm (j + 1) (.step hj hxa)
        omega
      have hex : ∃ y, y ∈ nearL W S x ∧ Wk W S src d y := by
        cases hw with
        | step hy hx => exact ⟨_, near_symm (gr_size hg).1 hy.opn hx, hy⟩
      obtain ⟨y, hy, hyw⟩ := hex
      have hyc := cost hyw (step y hy)
      have hxc := cost hw hm
      have hlt : st * (d : Int) < st * ((d + 1 : Nat) : Int) := Int.mul_lt_mul_of_pos_left (by omega) (by omega)
      have hyin : y ∈ l := h.mem.2 ⟨hy, by rw [hyc]; exact Int.mul_nonneg (by omega) (by omega), by rw [hyc, hxc]; exact hlt⟩
      refine ⟨?_, fun a ha => ?_⟩
      · cases l with
        | nil => cases hyin
        | cons a t => exact ⟨a, t, rfl⟩
      · obtain ⟨h1, h2, h3⟩ := h.mem.1 ha
        refine ⟨h1, ?_, step a h1⟩
        have hao := near_opn h1
        rcases cst_at hc hao with ⟨h4, _⟩ | ⟨e, h4, h5, h6⟩
        · omega
        · rw [h6, hxc] at h3
          have h7 : (e : Int) < ((d + 1 : Nat) : Int) := Int.lt_of_mul_lt_mul_left h3 (by omega)
          have h8 := step a h1 e h4
          obtain rfl : e = d := by omega
          exact h4
    cases hway with
    | stop h => obtain ⟨⟨a, t, e⟩, _⟩ := hpos _ h; cases e
    | full => omega
    | @step n _ a l out h t =>
      obtain ⟨h1, h2, h3⟩ := (hpos _ h).2 a (List.mem_cons_self ..)
      obtain ⟨h4, y, hy, hp⟩ := ih (by omega) h2 h3 t
      exact ⟨by simp [h4], y, hy, .cons h1 hp⟩
theorem way_none {x : Int} {n : Nat} {out : List Int} (h : downOK W Hh S f x = false) (hw : WayR W Hh S f n x out) : out = [] := by
  cases hw with
  | stop _ => rfl
  | full => rfl
  | step h2 _ => unfold DownR at h2; rw [if_neg (by rw [h]; simp)] at h2; cases h2
end
end Go.Proofs.YtcjogomiiinkfaaDoor
