import Derived.Test.YtgfmphjccnemmaaDoorCode
import Derived.Test.YtgfmphjccnemmaaDoorBase3
import Derived.Test.YtgfmphjccnemmaaDoorFieldB
import Derived.Test.YtgfmphjccnemmaaDoorGridH
import Derived.Test.YtgfmphjccnemmaaDoorRefD
namespace Go.Proofs.YtgfmphjccnemmaaDoor
open Go.Mini
open Go.Proofs.YtgfmphjccnemmaaDoor.Code
set_option linter.unusedVariables false
set_option linter.unusedSimpArgs false
set_option linter.ambiguousOpen false
attribute [local irreducible] mx ml mld mstep MCalls Ex.thn Ex.inb

/-! ## Bytes -/
theorem b8 (a : Nat) (h : a < 256) : (BitVec.ofInt 8 (a : Int)).toNat = a := by
  rw [BitVec.ofInt_natCast, BitVec.toNat_ofNat]; exact Nat.mod_eq_of_lt h
theorem and8 (a b : Nat) (ha : a < 256) (hb : b < 256) : (BitVec.ofInt 8 (a : Int) &&& BitVec.ofInt 8 (b : Int)).toNat = a &&& b := by
  rw [BitVec.toNat_and, b8 a ha, b8 b hb]
theorem or8 (a b : Nat) (ha : a < 256) (hb : b < 256) : (BitVec.ofInt 8 (a : Int) ||| BitVec.ofInt 8 (b : Int)).toNat = a ||| b := by
  rw [BitVec.toNat_or, b8 a ha, b8 b hb]
theorem andNot8 (a b : Nat) (ha : a < 256) (hb : b < 256) : (BitVec.ofInt 8 (a : Int) &&& ~~~BitVec.ofInt 8 (b : Int)).toNat = a &&& (255 - b) := by
  rw [BitVec.toNat_and, BitVec.toNat_not, b8 a ha, b8 b hb]
theorem pow8 {k : Nat} (h : k < 8) : 2 ^ k < 256 := by
  have := Nat.pow_lt_pow_right (a := 2) (by omega) h
  omega

/-! ## Cells that are off -/
structure Offs where
  l : List Nat
  len : l.length = 8
  lt : ∀ b ∈ l, b < 256
def offC (o : List Nat) : List Value := o.map fun (b : Nat) => .int .u8 (b : Int)
def offV (o : List Nat) : Value := .agg (offC o).toArray
attribute [go_sem] offV
theorem offC_len (o : List Nat) : (offC o).length = o.length := by simp [offC]
theorem offC_get {o : List Nat} {i : Nat} (h : i < o.length) : (offC o)[i]? = some (.int .u8 (o.getD i 0 : Nat)) := by
  unfold offC; rw [List.getElem?_map, List.getElem?_eq_getElem h, List.getD_eq_getElem?_getD, List.getElem?_eq_getElem h]; rfl
theorem offC_one (o : List Nat) : (offC o).all one = true := by unfold offC; rw [List.all_map, List.all_eq_true]; intro _ _; rfl
theorem getD_lt {o : List Nat} (h : ∀ b ∈ o, b < 256) (i : Nat) : o.getD i 0 < 256 := by
  rw [List.getD_eq_getElem?_getD]
  cases e : o[i]? with
  | none => simp
  | some b => exact h b (List.mem_of_getElem? e)
def isOff (o : List Nat) (c : Nat) : Bool := (o.getD (c / 8) 0).testBit (c % 8)
def turn (o : List Nat) (c : Int) (is : Bool) : List Nat :=
  if 0 ≤ c ∧ c < 64 then o.set (c.toNat / 8) (if is then o.getD (c.toNat / 8) 0 ||| 2 ^ (c.toNat % 8) else o.getD (c.toNat / 8) 0 &&& (255 - 2 ^ (c.toNat % 8))) else o

theorem and_bit (a k : Nat) : (((a &&& 2 ^ k : Nat) : Int) != 0) = a.testBit k := by
  rw [Bool.eq_iff_iff, bne_iff_ne]
  have hb : (a &&& 2 ^ k).testBit k = a.testBit k := by rw [Nat.testBit_and, Nat.testBit_two_pow]; simp
  cases h : a.testBit k
  · have : a &&& 2 ^ k = 0 := by
      apply Nat.eq_of_testBit_eq
      intro i
      rw [Nat.testBit_and, Nat.testBit_two_pow, Nat.zero_testBit]
      by_cases e : k = i
      · subst e; simp [h]
      · simp [e]
    rw [this]; simp
  · have : a &&& 2 ^ k ≠ 0 := fun e => by rw [e, Nat.zero_testBit, h] at hb; cases hb
    simp; omega
theorem bit_c (c : Nat) (σ : H) : MCalls Tryd.prog 39 [.int .i64 c] σ (fun v τ => v = .int .u8 ((2 ^ (c % 8) : Nat) : Int) ∧ τ = σ) := by
  refine mcalls_of fn39 (by simp) ?_
  unfold c39 r39
  have h8 : (c : Int).tmod 8 = ((c % 8 : Nat) : Int) := by rw [Int.ofNat_tmod]; rfl
  have hb : ((c % 8 : Nat) : Int) ≥ 0 := by omega
  (have fx := And.intro h8 hb; refine stepR ?_; clear fx)
  refine fin1 ⟨?_, rfl⟩
  simp only [go_sem, reduceIte, Nat.reduceEqDiff, reduceCtorEq, Nat.reduceAdd, Nat.reduceLeDiff, Int.reduceNeg, Int.reduceToNat, Int.reduceBEq, Int.reduceBNe, Int.reduceLT, Int.reduceLE, Int.reduceAdd, Int.reduceSub, h8, hb]
  have hlt : c % 8 < 8 := Nat.mod_lt _ (by omega)
  generalize c % 8 = r at hlt
  have : r = 0 ∨ r = 1 ∨ r = 2 ∨ r = 3 ∨ r = 4 ∨ r = 5 ∨ r = 6 ∨ r = 7 := by omega
  rcases this with rfl | rfl | rfl | rfl | rfl | rfl | rfl | rfl <;> rfl

theorem on1_c {σ : H} {id : Nat} {o : List Nat} (hl : o.length = 8) (ho : ∀ b ∈ o, b < 256) (hg : σ.get id = .cells 0 (offC o)) (c : Nat) (hc : c < 64) :
    MCalls Tryd.prog 38 [.int .i64 c, .pointer (some ⟨id, 0, none⟩)] σ (fun v τ => v = .bool (isOff o c) ∧ τ = σ) := by
  refine mcalls_of fn38 (by simp) ?_
  unfold c38 r38
  have h8 : IntKind.i64.wrap ((c : Int).tdiv 8) = ((c / 8 : Nat) : Int) := by
    have : (c : Int).tdiv 8 = ((c / 8 : Nat) : Int) := by rw [Int.ofNat_tdiv]; rfl
    rw [this]; exact i64wrap (by omega) (by omega)
  (have fx := h8; refine stepR ?_; clear fx)
  refine mld_load1 Sd0 (have fx := h8; Sd) (cell_of (off := c / 8) hg (offC_get (by omega))) ?_
  (have fx := h8; refine stepR ?_; clear fx)
  refine mld_call Sd0 Sd0 (bit_c c σ) (fun _ _ h => by rw [h.2]; exact .refl _) ?_
  rintro _ _ ⟨rfl, rfl⟩
  have hlt : c % 8 < 8 := Nat.mod_lt _ (by omega)
  have ha := and8 (o.getD (c / 8) 0) (2 ^ (c % 8)) (getD_lt ho _) (pow8 hlt)
  (have fx := ha; refine stepR ?_; clear fx)
  refine fin1 ⟨?_, rfl⟩
  simp only [go_sem, reduceIte, Nat.reduceEqDiff, reduceCtorEq, Nat.reduceAdd, Nat.reduceLeDiff, Int.reduceNeg, Int.reduceToNat, Int.reduceBEq, Int.reduceBNe, Int.reduceLT, Int.reduceLE, Int.reduceAdd, Int.reduceSub, ha]
  rw [Value.bool.injEq, isOff]
  exact (congrArg (fun z : Nat => ((z : Int) != 0)) ha).trans (and_bit _ _)

theorem off_c {σ : H} {o : List Nat} (hl : o.length = 8) (ho : ∀ b ∈ o, b < 256) (c : Nat) (hc : c < 64) :
    MCalls Tryd.prog 23 [offV o, .int .i64 c] σ (fun v τ => v = .bool (isOff o c) ∧ Ext σ τ) := by
  refine mcalls_of fn23 (by simp) ?_
  unfold c23 r23 offV
  have h8 : IntKind.i64.wrap ((c : Int).tdiv 8) = ((c / 8 : Nat) : Int) := by
    have : (c : Int).tdiv 8 = ((c / 8 : Nat) : Int) := by rw [Int.ofNat_tdiv]; rfl
    rw [this]; exact i64wrap (by omega) (by omega)
  have hm : (c : Int).tmod 8 = ((c % 8 : Nat) : Int) := by rw [Int.ofNat_tmod]; rfl
  refine stepR0 ?_
  generalize hτ : H.push _ _ = τ
  have e1 : Ext σ τ := hτ ▸ Ext.push _ _
  have g1 : τ.get σ.size = .cells 0 (offC o) := hτ ▸ H.get_push_self _ _
  (have fx := h8; refine stepR ?_; clear fx)
  refine ml_load1 Sd0 (have fx := h8; Sd) (cell_of (off := c / 8) g1 (offC_get (by omega))) ?_
  have hb := getD_lt ho (c / 8)
  unfold isOff
  generalize o.getD (c / 8) 0 = b at hb
  have hlt : c % 8 < 8 := Nat.mod_lt _ (by omega)
  refine stepR0 ?_
  refine mx_loop (fun n ts τ' => ∃ i, n = c % 8 - i ∧ i ≤ c % 8 ∧ τ' = τ ∧ ts 1 = .int .i64 c ∧ ts 5 = .int .u8 ((b / 2 ^ i : Nat) : Int) ∧ ts 6 = .int .i64 ((i : Nat) : Int)) (c % 8) ?_ ?_
  · exact ⟨0, rfl, Nat.zero_le _, rfl, Sd0, (by first | with_reducible rfl | (simp only [go_sem, reduceIte, Nat.reduceEqDiff, reduceCtorEq, Nat.reduceAdd, Nat.reduceLeDiff, Int.reduceNeg, Int.reduceToNat, Int.reduceBEq, Int.reduceBNe, Int.reduceLT, Int.reduceLE, Int.reduceAdd, Int.reduceSub, Nat.pow_zero, Nat.div_one]; done) | (simp only [go_sem, reduceIte, Nat.reduceEqDiff, reduceCtorEq, Nat.reduceAdd, Nat.reduceLeDiff, Int.reduceNeg, Int.reduceToNat, Int.reduceBEq, Int.reduceBNe, Int.reduceLT, Int.reduceLE, Int.reduceAdd, Int.reduceSub, Nat.pow_zero, Nat.div_one]; with_reducible rfl) | (simp only [go_sem, reduceIte, Nat.reduceEqDiff, reduceCtorEq, Nat.reduceAdd, Nat.reduceLeDiff, Int.reduceNeg, Int.reduceToNat, Int.reduceBEq, Int.reduceBNe, Int.reduceLT, Int.reduceLE, Int.reduceAdd, Int.reduceSub, Nat.pow_zero, Nat.div_one]; (try simp (disch := omega) only [i64wrap, u64wrap, u8wrap, u32wrap, i32wrap]); first | with_reducible rfl | done | (refine congrArg (Value.int _) ?_; omega)) | (simp only [go_sem, reduceIte, Nat.reduceEqDiff, reduceCtorEq, Nat.reduceAdd, Nat.reduceLeDiff, Int.reduceNeg, Int.reduceToNat, Int.reduceBEq, Int.reduceBNe, Int.reduceLT, Int.reduceLE, Int.reduceAdd, Int.reduceSub, Nat.pow_zero, Nat.div_one]; rfl)), Sd0⟩
  rintro n ts _ ⟨i, rfl, hi, rfl, t1, t5, t6⟩
  have hdb : b / 2 ^ i ≤ b := Nat.div_le_self _ _
  rcases Nat.lt_or_ge i (c % 8) with hlt2 | hge
  · have hd : ((b / 2 ^ i : Nat) : Int).tdiv 2 = ((b / 2 ^ (i + 1) : Nat) : Int) := by
      rw [Nat.pow_succ, ← Nat.div_div_eq_div_mul, show (2 : Int) = ((2 : Nat) : Int) from rfl, ← Int.ofNat_tdiv]
    have hdb2 : b / 2 ^ (i + 1) ≤ b := Nat.div_le_self _ _
    have hw : IntKind.u8.wrap ((b / 2 ^ (i + 1) : Nat) : Int) = ((b / 2 ^ (i + 1) : Nat) : Int) := by
      generalize b / 2 ^ (i + 1) = q at hdb2; exact u8wrap (by omega) (by omega)
    (have fx := And.intro t1 (And.intro t5 (And.intro t6 (And.intro hm hd))); refine stepR ?_; clear fx)
    exact ⟨_, by omega, i + 1, rfl, hlt2, rfl, (have fx := t1; Sd), (have fx := And.intro hd hw; Sd), Sd0⟩
  · have : i = c % 8 := by omega
    subst this
    have hr : ((b / 2 ^ (c % 8) : Nat) : Int).tmod 2 = ((b / 2 ^ (c % 8) % 2 : Nat) : Int) := by rw [Int.ofNat_tmod]; rfl
    (have fx := And.intro t1 (And.intro t5 (And.intro t6 (And.intro hm hr))); refine stepR ?_; clear fx)
    refine fin1 ⟨?_, e1⟩
    simp only [go_sem, reduceIte, Nat.reduceEqDiff, reduceCtorEq, Nat.reduceAdd, Nat.reduceLeDiff, Int.reduceNeg, Int.reduceToNat, Int.reduceBEq, Int.reduceBNe, Int.reduceLT, Int.reduceLE, Int.reduceAdd, Int.reduceSub, hr, t5]
    rw [Value.bool.injEq, Nat.testBit_eq_decide_div_mod_eq, Bool.eq_iff_iff, beq_iff_eq, decide_eq_true_eq]
    omega

theorem turn_len (o : List Nat) (c : Int) (is : Bool) : (turn o c is).length = o.length := by unfold turn; split <;> simp
theorem turn_lt {o : List Nat} (ho : ∀ b ∈ o, b < 256) (c : Int) (is : Bool) : ∀ b ∈ turn o c is, b < 256 := by
  intro b hb
  unfold turn at hb
  split at hb
  · rcases List.mem_or_eq_of_mem_set hb with h | h
    · exact ho b h
    · subst h
      have h1 := getD_lt ho (c.toNat / 8)
      have h2 := pow8 (k := c.toNat % 8) (Nat.mod_lt _ (by omega))
      split
      · exact Nat.or_lt_two_pow (n := 8) h1 h2
      · have : o.getD (c.toNat / 8) 0 &&& (255 - 2 ^ (c.toNat % 8)) ≤ o.getD (c.toNat / 8) 0 := Nat.and_le_left
        omega
  · exact ho b hb
theorem rowC {cs : List Value} {n : Nat} (h : cs.length = n) : rowL cs 0 n = some cs := rowAll h

theorem turn_c {σ : H} {o : List Nat} (hl : o.length = 8) (ho : ∀ b ∈ o, b < 256) (c : Int) (is : Bool) :
    MCalls Tryd.prog 22 [offV o, .int .i64 c, .bool is] σ (fun v τ => v = offV (turn o c is) ∧ Ext σ τ) := by
  refine mcalls_of fn22 (by simp) ?_
  unfold c22 r22 offV
  have hcl : (offC o).length = 8 := by rw [offC_len]; exact hl
  refine stepR0 ?_
  generalize hτ : H.push _ _ = τ
  have g1 : τ.get σ.size = .cells 0 (offC o) := by rw [← hτ, H.get_push_ne (by simp), H.get_push_self]
  have g2 : ∃ z, τ.get (σ.size + 1) = .cells 0 z ∧ z.length = 8 := ⟨_, by rw [← hτ]; exact H.get_push_self (σ.push _) _, rfl⟩
  have e1 : Ext σ τ := hτ ▸ (Ext.push _ _).trans (Ext.push _ _)
  clear hτ
  obtain ⟨z, g2, hz⟩ := g2
  -- the end
  have fin : ∀ {τ' : H} {o' : List Nat} {ts : Fr}, Ext σ τ' → τ'.get σ.size = .cells 0 (offC o') → o'.length = 8 → τ'.get (σ.size + 1) = .cells 0 z → ts 3 = .pointer (some ⟨σ.size, 0, none⟩) → ts 6 = .pointer (some ⟨σ.size + 1, 0, none⟩) →
      ∀ {d : Nat} {K : Fr → H → Prop}, d ≠ 6 → d ≠ 3 → (∀ ts τ'', ts 6 = .pointer (some ⟨σ.size + 1, 0, none⟩) → τ''.get (σ.size + 1) = .cells 0 (offC o') → Ext σ τ'' → K ts τ'') → ml Tryd.prog [⟨some d, .loadN 8 (.t 3), none⟩, ⟨none, .store 8 (.t 6) (.t d), none⟩] K ts τ' := by
    intro τ' o' ts e g h8 g' t3 t6 d K hd6 hd3 hK
    have hd6' : 6 ≠ d := Ne.symm hd6
    refine ml_loadN rfl (have fx := t3; Sd) (row_of g (rowC (by rw [offC_len]; exact h8))) ?_
    refine ml_storeA (id := σ.size + 1) (off := 0) (vs := offC o') rfl ?_ ?_ g' (by rw [offC_len]; exact h8) (by omega) (offC_one _) fun τ2 t2 => ?_
    · simp only [mev, updO, upd, hd6', if_false, t6]
    · simp only [mev, updO, upd_same, Value.cells]
    · have hs : spl z 0 (offC o') = offC o' := spl_all (by rw [offC_len, h8, hz])
      rw [hs] at t2
      refine ml_nil (hK _ _ ?_ t2.self (t2.ext e (by omega)))
      simp only [updO, upd, hd6', if_false, t6]
  by_cases hc : 0 ≤ c ∧ c < 64
  · obtain ⟨h0, h1⟩ := hc
    obtain ⟨n, rfl⟩ := Int.eq_ofNat_of_zero_le h0
    have hn : n < 64 := by omega
    have hn0 : ¬ ((n : Int) < 0) := by omega
    have hn1 : ¬ ((64 : Int) ≤ (n : Int)) := by omega
    have h8 : IntKind.i64.wrap ((n : Int).tdiv 8) = ((n / 8 : Nat) : Int) := by
      have : (n : Int).tdiv 8 = ((n / 8 : Nat) : Int) := by rw [Int.ofNat_tdiv]; rfl
      rw [this]; exact i64wrap (by omega) (by omega)
    have hlt : n % 8 < 8 := Nat.mod_lt _ (by omega)
    have hget := offC_get (o := o) (i := n / 8) (by omega)
    have hb := getD_lt ho (n / 8)
    have htl := turn_len o n is
    have hturn : turn o n is = o.set (n / 8) (if is then o.getD (n / 8) 0 ||| 2 ^ (n % 8) else o.getD (n / 8) 0 &&& (255 - 2 ^ (n % 8))) := by
      unfold turn; rw [if_pos ⟨by omega, by omega⟩, Int.toNat_natCast]
    generalize o.getD (n / 8) 0 = b at hget hb hturn
    cases is
    · have hop := andNot8 b (2 ^ (n % 8)) hb (pow8 hlt)
      (have fx := And.intro hn0 (And.intro hn1 h8); refine stepR ?_; clear fx)
      refine mld_load1 Sd0 (have fx := h8; Sd) (cell_of (off := n / 8) g1 hget) ?_
      (have fx := h8; refine stepR ?_; clear fx)
      refine mld_call Sd0 Sd0 (bit_c n τ) (fun _ _ h => by rw [h.2]; exact .refl _) ?_
      rintro _ τ ⟨rfl, rfl⟩
      (have fx := And.intro hop h8; refine stepR ?_; clear fx)
      refine mld_storeA (id := σ.size) (off := n / 8) (vs := [.int .u8 ((b &&& (255 - 2 ^ (n % 8)) : Nat) : Int)]) Sd0 (have fx := h8; Sd) (by simp only [go_sem, reduceIte, Nat.reduceEqDiff, reduceCtorEq, Nat.reduceAdd, Nat.reduceLeDiff, Int.reduceNeg, Int.reduceToNat, Int.reduceBEq, Int.reduceBNe, Int.reduceLT, Int.reduceLE, Int.reduceAdd, Int.reduceSub]; exact congrArg (fun z : Nat => #[Value.int .u8 (z : Int)]) hop) g1 rfl (by omega) rfl fun τ2 t2 => ?_
      have hset : spl (offC o) (n / 8) [.int .u8 ((b &&& (255 - 2 ^ (n % 8)) : Nat) : Int)] = offC (turn o n false) := by
        rw [spl_one, hturn]; unfold offC; rw [List.map_set]; rfl
      rw [hset] at t2
      refine stepR0 ?_
      refine fin (t2.ext e1 (Nat.le_refl _)) t2.self (by omega) (t2.cells g2 (by omega)) Sd0 Sd0 (by omega) (by omega) fun ts τ3 t6 g3 e3 => ?_
      refine stepR0 ?_
      exact finC t6 (row_of g3 (rowC (by rw [offC_len]; omega))) ⟨rfl, e3⟩
    · have hop := or8 b (2 ^ (n % 8)) hb (pow8 hlt)
      (have fx := And.intro hn0 (And.intro hn1 h8); refine stepR ?_; clear fx)
      refine mld_load1 Sd0 (have fx := h8; Sd) (cell_of (off := n / 8) g1 hget) ?_
      (have fx := h8; refine stepR ?_; clear fx)
      refine mld_call Sd0 Sd0 (bit_c n τ) (fun _ _ h => by rw [h.2]; exact .refl _) ?_
      rintro _ τ ⟨rfl, rfl⟩
      (have fx := And.intro hop h8; refine stepR ?_; clear fx)
      refine mld_storeA (id := σ.size) (off := n / 8) (vs := [.int .u8 ((b ||| 2 ^ (n % 8) : Nat) : Int)]) Sd0 (have fx := h8; Sd) (by simp only [go_sem, reduceIte, Nat.reduceEqDiff, reduceCtorEq, Nat.reduceAdd, Nat.reduceLeDiff, Int.reduceNeg, Int.reduceToNat, Int.reduceBEq, Int.reduceBNe, Int.reduceLT, Int.reduceLE, Int.reduceAdd, Int.reduceSub]; exact congrArg (fun z : Nat => #[Value.int .u8 (z : Int)]) hop) g1 rfl (by omega) rfl fun τ2 t2 => ?_
      have hset : spl (offC o) (n / 8) [.int .u8 ((b ||| 2 ^ (n % 8) : Nat) : Int)] = offC (turn o n true) := by
        rw [spl_one, hturn]; unfold offC; rw [List.map_set]; rfl
      rw [hset] at t2
      refine stepR0 ?_
      refine fin (t2.ext e1 (Nat.le_refl _)) t2.self (by omega) (t2.cells g2 (by omega)) Sd0 Sd0 (by omega) (by omega) fun ts τ3 t6 g3 e3 => ?_
      refine stepR0 ?_
      exact finC t6 (row_of g3 (rowC (by rw [offC_len]; omega))) ⟨rfl, e3⟩
  · have hturn : turn o c is = o := by unfold turn; rw [if_neg hc]
    rw [hturn]
    refine ml_mid (fun ts τ' => τ' = τ ∧ ts 15 = .bool true ∧ ts 3 = .pointer (some ⟨σ.size, 0, none⟩) ∧ ts 6 = .pointer (some ⟨σ.size + 1, 0, none⟩)) ?_ ?_
    · by_cases h0 : c < 0
      · (have fx := h0; refine stepR ?_; clear fx)
        exact ⟨rfl, (have fx := h0; Sd), Sd0, Sd0⟩
      · have h1 : 64 ≤ c := by omega
        (have fx := And.intro h0 h1; refine stepR ?_; clear fx)
        exact ⟨rfl, (have fx := And.intro h0 h1; Sd), Sd0, Sd0⟩
    · rintro ts _ ⟨rfl, t15, t3, t6⟩
      (have fx := t15; refine stepR ?_; clear fx)
      refine fin e1 g1 hl g2 t3 t6 (by omega) (by omega) fun ts τ3 t6 g3 e3 => ?_
      refine stepR0 ?_
      exact finC t6 (row_of g3 (rowC (by rw [offC_len]; omega))) ⟨rfl, e3⟩
end Go.Proofs.YtgfmphjccnemmaaDoor
namespace Go.Proofs.YtgfmphjccnemmaaDoor
open Go.Mini
open Go.Proofs.YtgfmphjccnemmaaDoor.Code
set_option linter.unusedVariables false
set_option linter.unusedSimpArgs false
set_option linter.ambiguousOpen false
attribute [local irreducible] mx ml mld mstep MCalls Ex.thn Ex.inb

/-- All but one object is as it was. -/
def KeepBut (oid : Option Nat) (σ τ : H) : Prop := σ.size ≤ τ.size ∧ ∀ j, j < σ.size → oid ≠ some j → τ.get j = σ.get j
theorem KeepBut.of_ext {oid : Option Nat} {σ τ : H} (e : Ext σ τ) : KeepBut oid σ τ := ⟨e.size, fun j hj _ => e.get j hj⟩
theorem KeepBut.trans {oid : Option Nat} {a b c : H} (h : KeepBut oid a b) (k : KeepBut oid b c) : KeepBut oid a c :=
  ⟨Nat.le_trans h.1 k.1, fun j hj hn => (k.2 j (Nat.lt_of_lt_of_le hj h.1) hn).trans (h.2 j hj hn)⟩
theorem KeepBut.set {σ σ' τ : H} {id : Nat} {o : MObj} (h : KeepBut (some id) σ σ') (s : SetTo σ' id o τ) : KeepBut (some id) σ τ :=
  ⟨by rw [s.size]; exact h.1, fun j hj hn => by rw [s.other j (fun e => hn (by rw [e]))]; exact h.2 j hj hn⟩
theorem KeepBut.ext {σ0 σ τ : H} {oid : Option Nat} (e : Ext σ0 σ) (h : KeepBut oid σ τ) (hid : ∀ i, oid = some i → σ0.size ≤ i) : Ext σ0 τ :=
  ⟨Nat.le_trans e.size h.1, fun i hi => by rw [h.2 i (Nat.lt_of_lt_of_le hi e.size) (fun x => by have := hid i x; omega)]; exact e.get i hi⟩
theorem ints_getD {l : List Int} {i : Nat} (hi : i < l.length) : (ints l)[i]? = some (.int .i64 (l.getD i 0)) := by
  unfold ints; rw [List.getElem?_map, List.getElem?_eq_getElem hi, List.getD_eq_getElem?_getD, List.getElem?_eq_getElem hi]; rfl
theorem take_succ_getD {l : List Int} {j : Nat} (hj : j < l.length) : l.take (j + 1) = l.take j ++ [l.getD j 0] := by
  rw [List.take_add_one, List.getElem?_eq_getElem hj, List.getD_eq_getElem?_getD, List.getElem?_eq_getElem hj]; rfl

theorem _root_.Go.Mini.Own.inv {σ : H} {sz : Nat} {v : Value} {oid : Option Nat} {cs : List Value} (h : Own σ sz v oid cs) : (v = .slice none 0 0 ∧ oid = none ∧ cs = []) ∨ ∃ id n, v = .slice (some ⟨id, 0, none⟩) n n ∧ oid = some id ∧ σ.get id = .cells sz cs ∧ cs.length = n * sz := by
  cases h with
  | nil => exact .inl ⟨rfl, rfl, rfl⟩
  | full h hl => exact .inr ⟨_, _, rfl, rfl, h, hl⟩
theorem slIndexFunc_c {σ : H} {v fv : Value} {l : List Int} {p : Int → Bool} {g : FuncId} {caps : Array Value} (hr : Rd σ v (ints l)) (hf : fv = .func (.func g) #[] caps)
    (hl : l.length ≤ 1000000) (hp : ∀ x ∈ l, ∀ τ, Ext σ τ → MCalls Tryd.prog g ([.int .i64 x] ++ caps.toList) τ (fun r τ' => r = .bool (p x) ∧ Ext τ τ')) :
    MCalls Tryd.prog 56 [v, fv] σ (fun r τ => Ext σ τ ∧ ((r = .int .i64 (-1) ∧ ∀ x ∈ l, p x = false) ∨ ∃ i : Nat, i < l.length ∧ r = .int .i64 i ∧ p (l.getD i 0) = true ∧ ∀ x ∈ l.take i, p x = false)) := by
  subst hf
  refine mcalls_of fn56 (by simp) ?_
  unfold c56 r56
  have hsz : (ints l).length = l.length := ints_len _
  refine stepR0 ?_
  refine ml_len Sd0 hr Sd0 ?_
  (have fx := hsz; refine stepR ?_; clear fx)
  refine mx_loop (fun n ts τ => ∃ i : Nat, n = l.length - i ∧ i ≤ l.length ∧ Ext σ τ ∧ (∀ x ∈ l.take i, p x = false) ∧ ts 0 = v ∧ ts 1 = .func (.func g) #[] caps ∧ ts 7 = .int .i64 l.length ∧ ts 8 = .int .i64 ((i : Nat) : Int)) l.length ?_ ?_
  · exact ⟨0, rfl, Nat.zero_le _, .refl _, by simp, Sd0, Sd0, Sd0, Sd0⟩
  rintro n ts τ ⟨i, rfl, hi, e, hall, t0, t1, t7, t8⟩
  rcases Nat.lt_or_ge i l.length with hlt | hge
  · have hm : l.getD i 0 ∈ l := by rw [List.getD_eq_getElem?_getD, List.getElem?_eq_getElem hlt]; exact List.getElem_mem hlt
    (have fx := And.intro t0 (And.intro t1 (And.intro t7 t8)); refine stepR ?_; clear fx)
    refine ml_getS (hr.of_ext e) (have fx := t0; Sd) (have fx := t8; Sd) (by omega) (by rw [Int.toNat_natCast]; exact ints_getD hlt) fun q => ?_
    refine ml_callv Sd0 (have fx := t1; Sd) Sd0 (hp _ hm τ e) ?_
    rintro _ τ2 ⟨rfl, e2⟩
    cases hx : p (l.getD i 0)
    · (have fx := t8; refine stepR ?_; clear fx)
      refine ⟨_, ?_, i + 1, rfl, hlt, e.trans e2, ?_, (have fx := t0; Sd), (have fx := t1; Sd), (have fx := t7; Sd), Sd0⟩
      · omega
      · intro x hx2
        rw [take_succ_getD hlt, List.mem_append] at hx2
        rcases hx2 with h | h
        · exact hall x h
        · rw [List.mem_singleton] at h; subst h; exact hx
    · (have fx := t8; refine stepR ?_; clear fx)
      exact fin1 ⟨e.trans e2, .inr ⟨i, hlt, Sd0, hx, hall⟩⟩
  · have : i = l.length := by omega
    subst this
    rw [List.take_length] at hall
    (have fx := And.intro t0 (And.intro t1 (And.intro t7 t8)); refine stepR ?_; clear fx)
    exact fin1 ⟨e, .inl ⟨Sd0, hall⟩⟩

theorem repZ1 (z : Value) : ∀ n : Nat, repZ [z] n = List.replicate n z
  | 0 => rfl
  | n + 1 => by simp only [repZ, repZ1 z n, List.replicate_succ, List.cons_append, List.nil_append]
theorem _root_.Go.Mini.o_clr {ts : Fr} {σ : H} {x : Opd} {z : Value} {id off len cap sz : Nat} {cs : List Value} (hx : mev ts x = .slice (some ⟨id, off, none⟩) len cap) (hl : len ≠ 0) (hg : σ.get id = .cells sz cs) (hb : off + len ≤ cs.length) (hz : one z = true) :
    mop ts σ (.clr [z] x) = some (undef, σ.set id (.cells sz (spl cs off (List.replicate len z)))) := by
  simp only [mop, hx, hl, if_false, repZ1, putRow, hg, List.length_replicate]
  rw [if_pos ⟨hb, by rw [List.all_replicate]; simp [hz]⟩]; rfl
theorem spl_take : ∀ (vs cs : List Value) (k m : Nat), m ≤ k → (spl cs k vs).take m = cs.take m
  | [], cs, k, m, h => rfl
  | v :: vs, cs, k, m, h => by
    rw [spl, spl_take vs _ (k + 1) m (by omega)]
    exact List.take_set_of_le h

set_option maxHeartbeats 1000000 in
theorem deleteFunc_c {σ : H} {v fv : Value} {oid : Option Nat} {l : List Int} {p : Int → Bool} {g : FuncId} {caps : Array Value} (hr : Own σ 1 v oid (ints l)) (hf : fv = .func (.func g) #[] caps)
    (hl : l.length ≤ 1000000) (hp : ∀ x ∈ l, ∀ τ, KeepBut oid σ τ → MCalls Tryd.prog g ([.int .i64 x] ++ caps.toList) τ (fun r τ' => r = .bool (p x) ∧ Ext τ τ')) :
    MCalls Tryd.prog 37 [v, fv] σ (fun r τ => Rd τ r (ints (l.filter fun x => !p x)) ∧ KeepBut oid σ τ) := by
  subst hf
  refine mcalls_of fn37 (by simp) ?_
  unfold c37 r37
  have hsz : (ints l).length = l.length := ints_len _
  refine stepR0 ?_
  refine ml_call Sd0 Sd0 (slIndexFunc_c hr.rd rfl hl fun x hx τ e => hp x hx τ (.of_ext e)) ?_
  rintro _ τ ⟨e1, ⟨rfl, hall⟩ | ⟨i, hi, rfl, hpi, hall⟩⟩
  · refine stepR0 ?_
    refine fin1 ⟨?_, .of_ext e1⟩
    simp only [go_sem, reduceIte, Nat.reduceEqDiff, reduceCtorEq, Nat.reduceAdd, Nat.reduceLeDiff, Int.reduceNeg, Int.reduceToNat, Int.reduceBEq, Int.reduceBNe, Int.reduceLT, Int.reduceLE, Int.reduceAdd, Int.reduceSub]
    rw [List.filter_eq_self.2 (fun x hx => by rw [hall x hx]; rfl)]
    exact (hr.of_ext e1).rd
  · rcases hr.inv with ⟨_, _, h0⟩ | ⟨id, n, rfl, rfl, hg, hn⟩
    · rw [h0] at hsz; simp at hsz; omega
    have hln : l.length = n := by rw [← hsz]; omega
    subst hln
    have hne : ((i : Int) == -1) = false := by simp
    (have fx := hne; refine stepR ?_; clear fx)
    have hf0 : (l.take (i + 1)).filter (fun x => !p x) = l.take i := by
      rw [take_succ_getD hi, List.filter_append, List.filter_eq_self.2 (fun x hx => by rw [hall x hx]; rfl)]
      simp only [List.filter_cons, hpi, Bool.not_true, Bool.false_eq_true, if_false, List.filter_nil, List.append_nil]
    refine mx_loop (fun n ts τ => ∃ (j : Nat) (arr F : List Int), n = l.length - j ∧ j ≤ l.length ∧ F = (l.take j).filter (fun x => !p x) ∧ F.length < j ∧ arr.length = l.length ∧ arr.take F.length = F ∧ arr.drop j = l.drop j ∧
      τ.get id = .cells 1 (ints arr) ∧ KeepBut (some id) σ τ ∧ ts 0 = .slice (some ⟨id, 0, none⟩) l.length l.length ∧ ts 1 = .func (.func g) #[] caps ∧ ts 5 = .int .i64 ((F.length : Nat) : Int) ∧ ts 6 = .int .i64 ((j : Nat) : Int)) (l.length - (i + 1)) ?_ ?_
    · have hti : (l.take i).length = i := by rw [List.length_take]; omega
      refine ⟨i + 1, l, l.take i, rfl, hi, hf0.symm, by omega, rfl, by rw [hti], rfl, e1.cells hg, .of_ext e1, Sd0, Sd0, (have fx := hti; Sd), Sd0⟩
    rintro n ts τ ⟨j, arr, F, rfl, hj, hF, hFj, ha, hat, had, g1, kb, t0, t1, t5, t6⟩
    rcases Nat.lt_or_ge j l.length with hlt | hge
    · have hm : l.getD j 0 ∈ l := by rw [List.getD_eq_getElem?_getD, List.getElem?_eq_getElem hlt]; exact List.getElem_mem hlt
      have haj : arr.getD j 0 = l.getD j 0 := by
        have : (arr.drop j)[0]? = (l.drop j)[0]? := by rw [had]
        rw [List.getElem?_drop, List.getElem?_drop] at this
        rw [List.getD_eq_getElem?_getD, List.getD_eq_getElem?_getD]; simpa using congrArg (·.getD 0) this
      have hd1 : arr.drop (j + 1) = l.drop (j + 1) := by rw [← List.drop_drop, ← List.drop_drop, had]
      (have fx := And.intro t0 (And.intro t1 (And.intro t5 t6)); refine stepR ?_; clear fx)
      refine ml_load1 (v := .int .i64 (l.getD j 0)) Sd0 Sd0 (cell_of (off := j) g1 (by rw [← haj]; exact ints_getD (by omega))) ?_
      (have fx := t1; refine stepR ?_; clear fx)
      refine ml_callv Sd0 Sd0 Sd0 (hp _ hm τ kb) ?_
      rintro _ τ2 ⟨rfl, e2⟩
      have kb2 := kb.trans (.of_ext e2)
      have hFs : (l.take (j + 1)).filter (fun x => !p x) = if p (l.getD j 0) then F else F ++ [l.getD j 0] := by
        rw [take_succ_getD hlt, List.filter_append, ← hF]
        cases h : p (l.getD j 0) <;> simp only [List.filter_cons, h, Bool.not_true, Bool.not_false, if_true, Bool.false_eq_true, if_false, List.filter_nil, List.append_nil]
      cases hx : p (l.getD j 0)
      · rw [hx, if_neg (by simp)] at hFs
        (have fx := And.intro t0 t5; refine stepR ?_; clear fx)
        refine ml_storeA (off := F.length) (vs := [.int .i64 (l.getD j 0)]) Sd0 Sd0 Sd0 (e2.cells g1) rfl (by rw [ints_len]; omega) rfl fun τ3 t3 => ?_
        have hse : (ints arr).set F.length (.int .i64 (l.getD j 0)) = ints (arr.set F.length (l.getD j 0)) := by unfold ints; rw [List.map_set]
        rw [spl_one, hse] at t3
        have hap : (arr.set F.length (l.getD j 0)).take (F ++ [l.getD j 0]).length = F ++ [l.getD j 0] := by
          rw [List.length_append, List.length_cons, List.length_nil, Nat.zero_add, List.take_add_one, List.take_set_of_le (Nat.le_refl _), hat, List.getElem?_set_self (by omega)]; rfl
        (have fx := And.intro t5 t6; refine stepR ?_; clear fx)
        refine ⟨_, ?_, j + 1, _, F ++ [l.getD j 0], rfl, hlt, hFs.symm, by simp; omega, by simp [ha], hap, ?_, t3.self, kb2.set t3, (have fx := t0; Sd), (have fx := t1; Sd), (by first | with_reducible rfl | (simp only [go_sem, reduceIte, Nat.reduceEqDiff, reduceCtorEq, Nat.reduceAdd, Nat.reduceLeDiff, Int.reduceNeg, Int.reduceToNat, Int.reduceBEq, Int.reduceBNe, Int.reduceLT, Int.reduceLE, Int.reduceAdd, Int.reduceSub, List.length_append]; done) | (simp only [go_sem, reduceIte, Nat.reduceEqDiff, reduceCtorEq, Nat.reduceAdd, Nat.reduceLeDiff, Int.reduceNeg, Int.reduceToNat, Int.reduceBEq, Int.reduceBNe, Int.reduceLT, Int.reduceLE, Int.reduceAdd, Int.reduceSub, List.length_append]; with_reducible rfl) | (simp only [go_sem, reduceIte, Nat.reduceEqDiff, reduceCtorEq, Nat.reduceAdd, Nat.reduceLeDiff, Int.reduceNeg, Int.reduceToNat, Int.reduceBEq, Int.reduceBNe, Int.reduceLT, Int.reduceLE, Int.reduceAdd, Int.reduceSub, List.length_append]; (try simp (disch := omega) only [i64wrap, u64wrap, u8wrap, u32wrap, i32wrap]); first | with_reducible rfl | done | (refine congrArg (Value.int _) ?_; omega)) | (simp only [go_sem, reduceIte, Nat.reduceEqDiff, reduceCtorEq, Nat.reduceAdd, Nat.reduceLeDiff, Int.reduceNeg, Int.reduceToNat, Int.reduceBEq, Int.reduceBNe, Int.reduceLT, Int.reduceLE, Int.reduceAdd, Int.reduceSub, List.length_append]; rfl)), Sd0⟩
        · omega
        · rw [List.drop_set_of_lt (by omega), hd1]
      · rw [hx, if_pos rfl] at hFs
        (have fx := And.intro t5 t6; refine stepR ?_; clear fx)
        refine ⟨_, ?_, j + 1, arr, F, rfl, hlt, hFs.symm, by omega, ha, hat, hd1, e2.cells g1, kb2, (have fx := t0; Sd), (have fx := t1; Sd), (have fx := t5; Sd), Sd0⟩
        · omega
    · have : j = l.length := by omega
      subst this
      rw [List.take_length] at hF
      (have fx := And.intro t0 (And.intro t1 (And.intro t5 t6)); refine stepR ?_; clear fx)
      refine ml_op Sd0 (o_slc_lo Sd0 (have fx := t5; Sd) (by omega) (by omega) g1) ?_
      refine ml_op Sd0 (o_clr (len := l.length - F.length) (off := F.length) Sd0 (by omega) g1 (by rw [ints_len]; omega) rfl) ?_
      (have fx := And.intro t0 t5; refine stepR ?_; clear fx)
      refine ml_op Sd0 (o_slc_hi Sd0 (have fx := t5; Sd) (by omega) (by omega) (H.get_set_self (H.lt_of_cells g1))) ?_
      refine stepR0 ?_
      refine fin1 ⟨?_, kb.set (.mk' (H.lt_of_cells g1))⟩
      rw [← hF]
      simp only [go_sem, reduceIte, Nat.reduceEqDiff, reduceCtorEq, Nat.reduceAdd, Nat.reduceLeDiff, Int.reduceNeg, Int.reduceToNat, Int.reduceBEq, Int.reduceBNe, Int.reduceLT, Int.reduceLE, Int.reduceAdd, Int.reduceSub]
      have hrow : (τ.set id (.cells 1 (spl (ints arr) F.length (List.replicate (l.length - F.length) (.int .i64 0))))).row id 0 (ints F).length = some (ints F) := by
        refine row_of (H.get_set_self (H.lt_of_cells g1)) ?_
        rw [rowL_some _ _ _ (by rw [ints_len, spl_length, ints_len]; omega), List.drop_zero, ints_len, spl_take _ _ _ _ (Nat.le_refl _)]
        congr 1
        unfold ints
        rw [← List.map_take, hat]
      have := Rd.mk (cap := l.length) hrow
      rwa [ints_len] at this
end Go.Proofs.YtgfmphjccnemmaaDoor
namespace Go.Proofs.YtgfmphjccnemmaaDoor
open Go.Mini
open Go.Proofs.YtgfmphjccnemmaaDoor.Code
set_option linter.unusedVariables false
set_option linter.unusedSimpArgs false
set_option linter.ambiguousOpen false
attribute [local irreducible] mx ml mld mstep MCalls Ex.thn Ex.inb

/-- The chargers that are on. -/
def onL (S : ByteArray) (o : List Nat) (b : Bool) : List Int := (gkind S 67 b).filter fun x => !isOff o x.toNat
theorem gkind_mem {S : ByteArray} {k : UInt8} {b : Bool} {x : Int} : x ∈ gkind S k b ↔ b = true ∧ ∃ i : Nat, x = i ∧ i < S.size ∧ S.data.toList.getD i 0 = k := by
  unfold gkind
  cases b
  · simp
  · simp only [if_true, List.mem_map, List.mem_filter, List.mem_range, beq_iff_eq, true_and]
    constructor
    · rintro ⟨i, ⟨h1, h2⟩, rfl⟩; exact ⟨i, rfl, h1, h2⟩
    · rintro ⟨i, rfl, h1, h2⟩; exact ⟨i, ⟨h1, h2⟩, rfl⟩

theorem on_c {σ : H} (W Hh : Int) (S : ByteArray) {o : List Nat} (hl : o.length = 8) (ho : ∀ b ∈ o, b < 256) :
    MCalls Tryd.prog 18 [mapV W Hh S, offV o] σ (fun v τ => Rd τ v (ints (onL S o (gr W Hh S))) ∧ Ext σ τ) := by
  refine mcalls_of fn18 (by simp) ?_
  unfold c18 r18 mapV offV
  refine stepR0 ?_
  generalize hτ : H.push _ _ = τ
  have g1 : τ.get σ.size = .cells 0 [.int .i64 W, .int .i64 Hh, .string S] := by rw [← hτ, H.get_push_ne (by simp), H.get_push_self]
  have g2 : τ.get (σ.size + 1) = .cells 0 (offC o) := by rw [← hτ]; exact H.get_push_self (σ.push _) _
  have e1 : Ext σ τ := hτ ▸ (Ext.push _ _).trans (Ext.push _ _)
  have hlt := H.lt_of_cells g2
  clear hτ
  (have fx := g1; refine stepR ?_; clear fx)
  refine ml_call Sd0 Sd0 (gkind_c W Hh S 67 τ) ?_
  rintro kv τ2 ⟨e2, oid, own, hid⟩
  refine stepR0 ?_
  refine ml_call Sd0 Sd0 (deleteFunc_c (p := fun x => isOff o x.toNat) own rfl ?_ ?_) ?_
  · unfold gkind
    cases hg : gr W Hh S
    · simp
    · have := gkindN_len S 67 S.size
      have := gr_size hg
      simp only [gkindN] at *; simp only [if_true]; omega
  · intro x hx τ3 kb
    obtain ⟨hg, i, rfl, hi, _⟩ := gkind_mem.1 hx
    have := gr_size hg
    have g3 : τ3.get (σ.size + 1) = .cells 0 (offC o) := by
      rw [kb.2 _ (by have := e2.size; omega) (fun e => by have := hid _ e; omega)]; exact e2.cells g2
    rw [Int.toNat_natCast]
    exact (on1_c hl ho g3 i (by omega)).mono fun v τ' h => ⟨h.1, by rw [h.2]; exact .refl _⟩
  rintro v τ3 ⟨rd, kb⟩
  refine stepR0 ?_
  refine fin1 ⟨?_, kb.ext (e1.trans e2) fun i hi => by have := hid i hi; have := e1.size; omega⟩
  simp only [go_sem, reduceIte, Nat.reduceEqDiff, reduceCtorEq, Nat.reduceAdd, Nat.reduceLeDiff, Int.reduceNeg, Int.reduceToNat, Int.reduceBEq, Int.reduceBNe, Int.reduceLT, Int.reduceLE, Int.reduceAdd, Int.reduceSub]
  exact rd

/-! ## What is needed -/
noncomputable def dist (W : Int) (S : ByteArray) (src : List Int) (x : Int) : Option Nat :=
  @dite _ (∃ k, Wk W S src k x) (Classical.propDecidable _) (fun h => some (Classical.choose (show ∃ k, Wk W S src k x ∧ ∀ j, Wk W S src j x → k ≤ j from by
    obtain ⟨k, hk⟩ := h
    induction k using Nat.strongRecOn with
    | ind k ih =>
      by_cases hc : ∃ j, j < k ∧ Wk W S src j x
      · obtain ⟨j, hj, hw⟩ := hc; exact ih j hj hw
      · exact ⟨k, hk, fun j hj => Nat.le_of_not_lt fun hlt => hc ⟨j, hlt, hj⟩⟩))) (fun _ => none)
theorem dist_spec (W : Int) (S : ByteArray) (src : List Int) (x : Int) : (dist W S src x = none ∧ ∀ k, ¬ Wk W S src k x) ∨ ∃ k, dist W S src x = some k ∧ Wk W S src k x ∧ ∀ j, Wk W S src j x → k ≤ j := by
  unfold dist
  by_cases h : ∃ k, Wk W S src k x
  · rw [dif_pos h]
    exact .inr ⟨_, rfl, Classical.choose_spec (_ : ∃ k, Wk W S src k x ∧ ∀ j, Wk W S src j x → k ≤ j)⟩
  · rw [dif_neg h]
    exact .inl ⟨rfl, fun k hk => h ⟨k, hk⟩⟩
theorem dist_eq {W : Int} {S : ByteArray} {src : List Int} {x : Int} {k : Nat} (h : Wk W S src k x) (hm : ∀ j, Wk W S src j x → k ≤ j) : dist W S src x = some k := by
  rcases dist_spec W S src x with ⟨_, h2⟩ | ⟨k', h1, h2, h3⟩
  · exact absurd h (h2 k)
  · rw [h1, Nat.le_antisymm (h3 _ h) (hm _ h2)]
theorem dist_none {W : Int} {S : ByteArray} {src : List Int} {x : Int} (h : ∀ k, ¬ Wk W S src k x) : dist W S src x = none := by
  rcases dist_spec W S src x with ⟨h1, _⟩ | ⟨k', h1, h2, h3⟩
  · exact h1
  · exact absurd h2 (h k')
def costV (step : Int) : Option Nat → Int
  | none => -1
  | some k => step * k
theorem CostOK.eq {W : Int} {S : ByteArray} {src : List Int} {step x c : Int} (h : CostOK W S src step x c) : c = costV step (dist W S src x) := by
  rcases h with ⟨rfl, h⟩ | ⟨k, h1, h2, rfl⟩
  · rw [dist_none h]; rfl
  · rw [dist_eq h1 h2]; rfl
theorem Cst.get {W : Int} {S : ByteArray} {src : List Int} {step : Int} {out : List Int} (h : Cst W S src step out) {i : Nat} (hi : i < S.size) : out.getD i 0 = costV step (dist W S src i) := (h.2 i hi).eq
theorem costV_nonneg {step : Int} (h : 0 ≤ step) {d : Option Nat} : 0 ≤ costV step d ↔ d.isSome = true := by
  cases d with
  | none => simp [costV]
  | some k => simp only [costV, Option.isSome_some, iff_true]; exact Int.mul_nonneg h (by omega)

noncomputable def needO (W Hh : Int) (S : ByteArray) (on : List Int) (step c : Int) : Option Int :=
  if costOK W Hh S on step && opn S c then (dist W S on c).map (fun (k : Nat) => step * (k : Int)) else none
theorem costOK_iff {W Hh : Int} {S : ByteArray} {srcs : List Int} {step : Int} : costOK W Hh S srcs step = true ↔ gr W Hh S = true ∧ 1 ≤ step ∧ step ≤ 100 ∧ srcs.length ≤ 64 := by
  simp only [costOK, Bool.and_eq_true, decide_eq_true_eq, and_assoc]

theorem need_c {σ : H} (W Hh : Int) (S : ByteArray) {ov : Value} {on : List Int} (hr : Rd σ ov (ints on)) (c step : Int) :
    MCalls Tryd.prog 19 [mapV W Hh S, ov, .int .i64 c, .int .i64 step] σ (fun v τ => v = .tuple #[.int .i64 ((needO W Hh S on step c).getD 0), .bool (needO W Hh S on step c).isSome] ∧ Ext σ τ) := by
  refine mcalls_of fn19 (by simp) ?_
  unfold c19 r19 mapV
  refine stepR0 ?_
  generalize hτ : H.push _ _ = τ
  have g1 : τ.get σ.size = .cells 0 [.int .i64 W, .int .i64 Hh, .string S] := by rw [← hτ]; exact H.get_push_self _ _
  have e1 : Ext σ τ := hτ ▸ Ext.push _ _
  clear hτ
  (have fx := g1; refine stepR ?_; clear fx)
  refine ml_call Sd0 Sd0 (costs_c W Hh S on step ov τ (hr.of_ext e1)) ?_
  intro v τ2 h2
  unfold costR at h2
  unfold needO
  cases hok : costOK W Hh S on step
  · rw [if_neg (by rw [hok]; simp)] at h2
    obtain ⟨ev, rfl, ⟨id, rfl, _⟩, e2⟩ := h2
    refine stepR0 ?_
    refine fin2 (And.intro ?_ (e1.trans e2))
    simp only [go_sem, reduceIte, Nat.reduceEqDiff, reduceCtorEq, Nat.reduceAdd, Nat.reduceLeDiff, Int.reduceNeg, Int.reduceToNat, Int.reduceBEq, Int.reduceBNe, Int.reduceLT, Int.reduceLE, Int.reduceAdd, Int.reduceSub, Bool.false_and]
    try rfl
  rw [if_pos hok] at h2
  obtain ⟨vo, out, rfl, hc, e2, oid, own, _⟩ := h2
  have hall := costOK_iff.1 hok
  have g2 := e2.cells g1
  (have fx := g2; refine stepR ?_; clear fx)
  refine ml_call Sd0 Sd0 (gopen_c W Hh S c τ2) ?_
  rintro _ τ3 ⟨rfl, e3⟩
  rw [hall.1]
  have e13 := e1.trans (e2.trans e3)
  cases hop : opn S c
  · refine stepR0 ?_
    refine fin2 (And.intro ?_ (e13))
    simp only [go_sem, reduceIte, Nat.reduceEqDiff, reduceCtorEq, Nat.reduceAdd, Nat.reduceLeDiff, Int.reduceNeg, Int.reduceToNat, Int.reduceBEq, Int.reduceBNe, Int.reduceLT, Int.reduceLE, Int.reduceAdd, Int.reduceSub, Bool.and_false]
    try rfl
  have hcl := opn_lt hop
  have hci : ((c.toNat : Nat) : Int) = c := Int.toNat_of_nonneg hcl.1
  have hct : c.toNat < S.size := by omega
  have hget := hc.get hct
  rw [hci] at hget
  have rd := (own.of_ext e3).rd
  have hge := ints_getD (l := out) (i := c.toNat) (by rw [hc.1]; exact hct)
  rw [hget] at hge
  have hnn := costV_nonneg (step := step) (by omega) (d := dist W S on c)
  refine stepR0 ?_
  refine ml_getSg Sd0 rd Sd0 Sd0 hcl.1 hge (fun p => Sd0) fun p => ?_
  cases hd : dist W S on c with
  | none =>
    rw [hd] at hge
    have h0 : costV step none < 0 := by simp [costV]
    (have fx := h0; refine stepR ?_; clear fx)
    refine fin2 (And.intro ?_ (e13))
    simp only [go_sem, reduceIte, Nat.reduceEqDiff, reduceCtorEq, Nat.reduceAdd, Nat.reduceLeDiff, Int.reduceNeg, Int.reduceToNat, Int.reduceBEq, Int.reduceBNe, Int.reduceLT, Int.reduceLE, Int.reduceAdd, Int.reduceSub, Bool.and_self, Option.map_none]
    try rfl
  | some k =>
    rw [hd] at hge hnn
    have h0 : ¬ costV step (some k) < 0 := by have := hnn.2 rfl; omega
    (have fx := h0; refine stepR ?_; clear fx)
    refine ml_getS rd Sd0 Sd0 hcl.1 hge fun p2 => ?_
    refine stepR0 ?_
    refine fin2 (And.intro ?_ (e13))
    simp only [go_sem, reduceIte, Nat.reduceEqDiff, reduceCtorEq, Nat.reduceAdd, Nat.reduceLeDiff, Int.reduceNeg, Int.reduceToNat, Int.reduceBEq, Int.reduceBNe, Int.reduceLT, Int.reduceLE, Int.reduceAdd, Int.reduceSub, Bool.and_self, Option.map_some, costV]
    try rfl

noncomputable def safeB (W Hh : Int) (S : ByteArray) (on : List Int) (step c charge : Int) : Bool := (needO W Hh S on step c).any fun n => decide (n ≤ charge)
theorem safe_c {σ : H} (W Hh : Int) (S : ByteArray) {ov : Value} {on : List Int} (hr : Rd σ ov (ints on)) (c charge step : Int) :
    MCalls Tryd.prog 20 [mapV W Hh S, ov, .int .i64 c, .int .i64 charge, .int .i64 step] σ (fun v τ => v = .bool (safeB W Hh S on step c charge) ∧ Ext σ τ) := by
  refine mcalls_of fn20 (by simp) ?_
  unfold c20 r20 mapV
  refine stepR0 ?_
  generalize hτ : H.push _ _ = τ
  have g1 : τ.get σ.size = .cells 0 [.int .i64 W, .int .i64 Hh, .string S] := by rw [← hτ]; exact H.get_push_self _ _
  have e1 : Ext σ τ := hτ ▸ Ext.push _ _
  clear hτ
  (have fx := g1; refine stepR ?_; clear fx)
  refine ml_call Sd0 Sd0 (need_c W Hh S (hr.of_ext e1) c step) ?_
  rintro _ τ2 ⟨rfl, e2⟩
  unfold safeB
  cases hn : needO W Hh S on step c with
  | none =>
    refine stepR0 ?_
    refine fin1 ⟨?_, e1.trans e2⟩
    simp only [go_sem, reduceIte, Nat.reduceEqDiff, reduceCtorEq, Nat.reduceAdd, Nat.reduceLeDiff, Int.reduceNeg, Int.reduceToNat, Int.reduceBEq, Int.reduceBNe, Int.reduceLT, Int.reduceLE, Int.reduceAdd, Int.reduceSub, Option.isSome_none]
    try rfl
  | some n =>
    refine stepR0 ?_
    refine fin1 ⟨?_, e1.trans e2⟩
    simp only [go_sem, reduceIte, Nat.reduceEqDiff, reduceCtorEq, Nat.reduceAdd, Nat.reduceLeDiff, Int.reduceNeg, Int.reduceToNat, Int.reduceBEq, Int.reduceBNe, Int.reduceLT, Int.reduceLE, Int.reduceAdd, Int.reduceSub, Option.isSome_some]
    try rfl

/-- slices.Index, slices.Contains. -/
theorem slIndex_c {σ : H} {v : Value} {l : List Int} (hr : Rd σ v (ints l)) (hl : l.length ≤ 1000000) (x : Int) :
    MCalls Tryd.prog 61 [v, .int .i64 x] σ (fun r τ => τ = σ ∧ ((r = .int .i64 (-1) ∧ x ∉ l) ∨ ∃ i : Nat, i < l.length ∧ r = .int .i64 i ∧ x ∈ l)) := by
  refine mcalls_of fn61 (by simp) ?_
  unfold c61 r61
  have hsz : (ints l).length = l.length := ints_len _
  refine stepR0 ?_
  refine ml_len Sd0 hr Sd0 ?_
  (have fx := hsz; refine stepR ?_; clear fx)
  refine mx_loop (fun n ts τ => ∃ i : Nat, n = l.length - i ∧ i ≤ l.length ∧ τ = σ ∧ x ∉ l.take i ∧ ts 0 = v ∧ ts 1 = .int .i64 x ∧ ts 7 = .int .i64 l.length ∧ ts 8 = .int .i64 ((i : Nat) : Int)) l.length ?_ ?_
  · exact ⟨0, rfl, Nat.zero_le _, rfl, by simp, Sd0, Sd0, Sd0, Sd0⟩
  rintro n ts τ ⟨i, rfl, hi, rfl, hall, t0, t1, t7, t8⟩
  rcases Nat.lt_or_ge i l.length with hlt | hge
  · have hm : l.getD i 0 ∈ l := by rw [List.getD_eq_getElem?_getD, List.getElem?_eq_getElem hlt]; exact List.getElem_mem hlt
    (have fx := And.intro t0 (And.intro t1 (And.intro t7 t8)); refine stepR ?_; clear fx)
    refine ml_getS hr (have fx := t0; Sd) (have fx := t8; Sd) (by omega) (by rw [Int.toNat_natCast]; exact ints_getD hlt) fun q => ?_
    by_cases hx : x = l.getD i 0
    · have hx2 : (x == l.getD i 0) = true := by simpa using hx
      (have fx := And.intro t1 (And.intro hx2 t8); refine stepR ?_; clear fx)
      exact fin1 ⟨rfl, .inr ⟨i, hlt, Sd0, by rw [hx]; exact hm⟩⟩
    · have hx2 : (x == l.getD i 0) = false := by simpa using hx
      (have fx := And.intro t1 (And.intro hx2 t8); refine stepR ?_; clear fx)
      refine ⟨_, ?_, i + 1, rfl, hlt, rfl, ?_, (have fx := t0; Sd), (have fx := t1; Sd), (have fx := t7; Sd), Sd0⟩
      · omega
      · rw [take_succ_getD hlt, List.mem_append, List.mem_singleton]
        rintro (h | h)
        · exact hall h
        · exact hx h
  · have : i = l.length := by omega
    subst this
    rw [List.take_length] at hall
    (have fx := And.intro t0 (And.intro t1 (And.intro t7 t8)); refine stepR ?_; clear fx)
    exact fin1 ⟨rfl, .inl ⟨Sd0, hall⟩⟩
theorem contains_c {σ : H} {v : Value} {l : List Int} (hr : Rd σ v (ints l)) (hl : l.length ≤ 1000000) (x : Int) :
    MCalls Tryd.prog 42 [v, .int .i64 x] σ (fun r τ => r = .bool (decide (x ∈ l)) ∧ τ = σ) := by
  refine mcalls_of fn42 (by simp) ?_
  unfold c42 r42
  refine stepR0 ?_
  refine ml_call Sd0 Sd0 (slIndex_c hr hl x) ?_
  rintro _ τ ⟨rfl, ⟨rfl, h⟩ | ⟨i, hi, rfl, h⟩⟩
  · refine stepR0 ?_
    refine fin1 ⟨?_, rfl⟩
    simp only [go_sem, reduceIte, Nat.reduceEqDiff, reduceCtorEq, Nat.reduceAdd, Nat.reduceLeDiff, Int.reduceNeg, Int.reduceToNat, Int.reduceBEq, Int.reduceBNe, Int.reduceLT, Int.reduceLE, Int.reduceAdd, Int.reduceSub, h]
  · have h0 : (0 : Int) ≤ (i : Int) := by omega
    (have fx := h0; refine stepR ?_; clear fx)
    refine fin1 ⟨?_, rfl⟩
    simp only [go_sem, reduceIte, Nat.reduceEqDiff, reduceCtorEq, Nat.reduceAdd, Nat.reduceLeDiff, Int.reduceNeg, Int.reduceToNat, Int.reduceBEq, Int.reduceBNe, Int.reduceLT, Int.reduceLE, Int.reduceAdd, Int.reduceSub, h, h0]

noncomputable def mayB (W Hh : Int) (S : ByteArray) (on : List Int) (step c to charge : Int) : Bool :=
  decide (to ∈ gnear W Hh S c (gr W Hh S)) && decide (step ≤ charge) && safeB W Hh S on step to (charge - step)
theorem safeB_ok {W Hh : Int} {S : ByteArray} {on : List Int} {step c charge : Int} (h : safeB W Hh S on step c charge = true) : 1 ≤ step ∧ step ≤ 100 := by
  unfold safeB needO at h
  split at h
  · rename_i h1
    simp only [Bool.and_eq_true] at h1
    have := costOK_iff.1 h1.1
    exact ⟨this.2.1, this.2.2.1⟩
  · simp at h
theorem gnear_len (W Hh : Int) (S : ByteArray) (c : Int) (b : Bool) : (gnear W Hh S c b).length ≤ 4 := by
  unfold gnear; split
  · exact nearL_len W S c
  · simp
theorem may_c {σ : H} (W Hh : Int) (S : ByteArray) {ov : Value} {on : List Int} (hr : Rd σ ov (ints on)) (c to charge step : Int) (h1 : -9223372036854775808 ≤ charge) (h2 : charge ≤ 9223372036854775807) (h3 : -9223372036854775808 ≤ step) (h4 : step ≤ 9223372036854775807) :
    MCalls Tryd.prog 25 [mapV W Hh S, ov, .int .i64 c, .int .i64 to, .int .i64 charge, .int .i64 step] σ (fun v τ => v = .bool (mayB W Hh S on step c to charge) ∧ Ext σ τ) := by
  refine mcalls_of fn25 (by simp) ?_
  unfold c25 r25 mapV
  refine stepR0 ?_
  generalize hτ : H.push _ _ = τ
  have g1 : τ.get σ.size = .cells 0 [.int .i64 W, .int .i64 Hh, .string S] := by rw [← hτ]; exact H.get_push_self _ _
  have e1 : Ext σ τ := hτ ▸ Ext.push _ _
  clear hτ
  (have fx := g1; refine stepR ?_; clear fx)
  refine ml_call Sd0 Sd0 (gnear_c W Hh S c τ) ?_
  rintro nv τ2 ⟨e2, no, nown, _⟩
  refine stepR0 ?_
  refine ml_call Sd0 Sd0 (contains_c nown.rd (by have := gnear_len W Hh S c (gr W Hh S); omega) to) ?_
  rintro _ τ2 ⟨rfl, rfl⟩
  have g2 := e2.cells g1
  unfold mayB
  by_cases hin : to ∈ gnear W Hh S c (gr W Hh S)
  · by_cases hs : step ≤ charge
    · (have fx := And.intro hin (And.intro hs g2); refine stepR ?_; clear fx)
      refine ml_call (have fx := And.intro hin hs; Sd) Sd0 (safe_c W Hh S (hr.of_ext (e1.trans e2)) to (IntKind.i64.wrap (charge - step)) step) ?_
      rintro _ τ3 ⟨rfl, e3⟩
      (have fx := And.intro hin hs; refine stepR ?_; clear fx)
      refine fin1 ⟨?_, e1.trans (e2.trans e3)⟩
      simp only [go_sem, reduceIte, Nat.reduceEqDiff, reduceCtorEq, Nat.reduceAdd, Nat.reduceLeDiff, Int.reduceNeg, Int.reduceToNat, Int.reduceBEq, Int.reduceBNe, Int.reduceLT, Int.reduceLE, Int.reduceAdd, Int.reduceSub, hin, hs, Bool.true_and]
      rw [Value.bool.injEq]
      by_cases hw : 1 ≤ step ∧ step ≤ 100
      · rw [i64wrap (by omega) (by omega)]
      · have a1 : safeB W Hh S on step to (IntKind.i64.wrap (charge - step)) = false := by
          rw [← Bool.not_eq_true]; exact fun h => hw (safeB_ok h)
        have a2 : safeB W Hh S on step to (charge - step) = false := by
          rw [← Bool.not_eq_true]; exact fun h => hw (safeB_ok h)
        rw [a1, a2]
    · (have fx := And.intro hin hs; refine stepR ?_; clear fx)
      refine fin1 ⟨?_, e1.trans e2⟩
      simp only [go_sem, reduceIte, Nat.reduceEqDiff, reduceCtorEq, Nat.reduceAdd, Nat.reduceLeDiff, Int.reduceNeg, Int.reduceToNat, Int.reduceBEq, Int.reduceBNe, Int.reduceLT, Int.reduceLE, Int.reduceAdd, Int.reduceSub, hin, hs, Bool.and_false, Bool.false_and]
  · (have fx := hin; refine stepR ?_; clear fx)
    refine fin1 ⟨?_, e1.trans e2⟩
    simp only [go_sem, reduceIte, Nat.reduceEqDiff, reduceCtorEq, Nat.reduceAdd, Nat.reduceLeDiff, Int.reduceNeg, Int.reduceToNat, Int.reduceBEq, Int.reduceBNe, Int.reduceLT, Int.reduceLE, Int.reduceAdd, Int.reduceSub, hin, Bool.false_and]
end Go.Proofs.YtgfmphjccnemmaaDoor
namespace Go.Proofs.YtgfmphjccnemmaaDoor
open Go.Mini
open Go.Proofs.YtgfmphjccnemmaaDoor.Code
set_option linter.unusedVariables false
set_option linter.unusedSimpArgs false
set_option linter.ambiguousOpen false
attribute [local irreducible] mx ml mld mstep MCalls Ex.thn Ex.inb

theorem gOf_c (W Hh : Int) (S : ByteArray) (σ : H) : MCalls Tryd.prog 17 [mapV W Hh S] σ (fun v τ => v = mapV W Hh S ∧ Ext σ τ) := by
  refine mcalls_of fn17 (by simp) ?_
  unfold c17 r17 mapV
  refine stepR0 ?_
  generalize hτ : H.push σ _ = τ
  have gm : τ.get σ.size = .cells 0 (mapC W Hh S) := by rw [← hτ]; exact H.get_push_self _ _
  have e1 : Ext σ τ := hτ ▸ Ext.push _ _
  have e2 := Ext.push τ (.cells 0 [.int .i64 0, .int .i64 0, .string ⟨#[]⟩])
  have g2 := e2.cells gm
  have hs : σ.size + 1 = τ.size := by rw [← hτ]; rfl
  clear hτ
  (have fx := g2; refine stepR ?_; clear fx)
  refine ml_init (vs := mapC W Hh S) Sd0 (have fx := hs; Sd) Sd0 rfl rfl rfl fun τ3 e3 g3 => ?_
  refine stepR0 ?_
  refine finC (id := τ.size) (vs := mapC W Hh S) (have fx := hs; Sd) (row_of g3 rfl) ⟨rfl, e1.trans e3⟩

/-! ## The document's example -/
def exS : ByteArray := ⟨#[46, 67]⟩
theorem ex_near : nearL 2 exS 1 = [0] := by decide +kernel
theorem ex_opn : ∀ x, opn exS x = true → x = 0 ∨ x = 1 := fun x h => by have := opn_lt h; have : exS.size = 2 := rfl; omega
theorem ex_gr : gr 2 1 exS = true := by
  rw [gr_iff]
  have h1 : Lib.indexByte exS.data.toList 67 = 1 := by decide +kernel
  refine ⟨by decide +kernel, by rw [h1]; omega, fun x hx => ?_⟩
  rw [h1]
  rcases ex_opn x hx with rfl | rfl
  · exact .step .here (by rw [ex_near]; simp)
  · exact .here
theorem ex_dist (src : List Int) (h : src = [1]) : dist 2 exS src 0 = some 1 := by
  subst h
  refine dist_eq (.step (y := 1) (.src (by simp) (by decide +kernel)) (by rw [ex_near]; simp)) fun j hj => ?_
  cases hj with
  | src h => simp at h
  | step _ _ => omega
theorem ex_on : onL exS (List.replicate 8 0) true = [1] := by decide +kernel
theorem ex_need : needO 2 1 exS (onL exS (List.replicate 8 0) (gr 2 1 exS)) 2 0 = some 2 := by
  rw [ex_gr, ex_on]
  unfold needO costOK
  rw [ex_gr, ex_dist _ rfl]
  have : opn exS 0 = true := by decide +kernel
  rw [this]; rfl

theorem sAwake_c (σ : H) : MCalls Tryd.prog 15 [] σ (fun v τ => v = .bool true ∧ Ext σ τ) := by
  refine mcalls_of fn15 (by simp) ?_
  unfold c15 r15
  refine stepR0 ?_
  refine ml_init (vs := mapC 2 1 exS) Sd0 Sd0 Sd0 rfl rfl rfl fun τ e1 g1 => ?_
  (have fx := g1; refine stepR ?_; clear fx)
  refine mld_call Sd0 Sd0 (on_c (σ := τ) 2 1 exS (o := List.replicate 8 0) rfl (by simp)) (fun _ _ h => h.2) ?_
  rintro ov τ2 ⟨rd, e2⟩
  refine stepR0 ?_
  refine mld_callW Sd0 Sd0 (need_c 2 1 exS rd 0 2) ?_
  rw [ex_need]
  rintro _ τ3 ⟨rfl, e3⟩
  refine stepR0 ?_
  exact fin1 ⟨Sd0, e1.trans (e2.trans e3)⟩
end Go.Proofs.YtgfmphjccnemmaaDoor
