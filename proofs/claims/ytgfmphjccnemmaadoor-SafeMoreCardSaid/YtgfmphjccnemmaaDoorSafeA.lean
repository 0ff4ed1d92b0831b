import Derived.Test.YtgfmphjccnemmaaDoorCode
import Derived.Test.YtgfmphjccnemmaaDoorBase3
namespace Go.Proofs.YtgfmphjccnemmaaDoor
open Go.Mini
open Go.Proofs.YtgfmphjccnemmaaDoor.Code
set_option linter.unusedVariables false
set_option linter.unusedSimpArgs false
set_option linter.ambiguousOpen false
attribute [local irreducible] mx ml mld mstep MCalls Ex.thn Ex.inb

/-! ## Bytes -/
theorem b8 (a : Nat) (h : a < 256) : (BitVec.ofInt 8 (a : Int)).toNat = a := by
  rw [BitVec.ofInt_natCast, BitVec.toNat_ofNat]; exact Nat.mod_eq_of_lt h
theorem and8 (a b : Nat) (ha : a < 256) (hb : b < 256) : (BitVec.ofInt 8 (a : Int) &&& BitVec.ofInt 8 (b : Int)).toNat = a &&& b := by
  rw [BitVec.toNat_and, b8 a ha, b8 b hb]
theorem or8 (a b : Nat) (ha : a < 256) (hb : b < 256) : (BitVec.ofInt 8 (a : Int) ||| BitVec.ofInt 8 (b : Int)).toNat = a ||| b := by
  rw [BitVec.toNat_or, b8 a ha, b8 b hb]
theorem andNot8 (a b : Nat) (ha : a < 256) (hb : b < 256) : (BitVec.ofInt 8 (a : Int) &&& ~~~BitVec.ofInt 8 (b : Int)).toNat = a &&& (255 - b) := by
  rw [BitVec.toNat_and, BitVec.toNat_not, b8 a ha, b8 b hb]
theorem pow8 {k : Nat} (h : k < 8) : 2 ^ k < 256 := by
  have := Nat.pow_lt_pow_right (a := 2) (by omega) h
  omega

/-! ## Cells that are off -/
structure Offs where
  l : List Nat
  len : l.length = 8
  lt : ∀ b ∈ l, b < 256
def offC (o : List Nat) : List Value := o.map fun (b : Nat) => .int .u8 (b : Int)
def offV (o : List Nat) : Value := .agg (offC o).toArray
attribute [go_sem] offV
theorem offC_len (o : List Nat) : (offC o).length = o.length := by simp [offC]
theorem offC_get {o : List Nat} {i : Nat} (h : i < o.length) : (offC o)[i]? = some (.int .u8 (o.getD i 0 : Nat)) := by
  unfold offC; rw [List.getElem?_map, List.getElem?_eq_getElem h, List.getD_eq_getElem?_getD, List.getElem?_eq_getElem h]; rfl
theorem offC_one (o : List Nat) : (offC o).all one = true := by unfold offC; rw [List.all_map, List.all_eq_true]; intro _ _; rfl
theorem getD_lt {o : List Nat} (h : ∀ b ∈ o, b < 256) (i : Nat) : o.getD i 0 < 256 := by
  rw [List.getD_eq_getElem?_getD]
  cases e : o[i]? with
  | none => simp
  | some b => exact h b (List.mem_of_getElem? e)
def isOff (o : List Nat) (c : Nat) : Bool := (o.getD (c / 8) 0).testBit (c % 8)
def turn (o : List Nat) (c : Int) (is : Bool) : List Nat :=
  if 0 ≤ c ∧ c < 64 then o.set (c.toNat / 8) (if is then o.getD (c.toNat / 8) 0 ||| 2 ^ (c.toNat % 8) else o.getD (c.toNat / 8) 0 &&& (255 - 2 ^ (c.toNat % 8))) else o

theorem and_bit (a k : Nat) : (((a &&& 2 ^ k : Nat) : Int) != 0) = a.testBit k := by
  rw [Bool.eq_iff_iff, bne_iff_ne]
  have hb : (a &&& 2 ^ k).testBit k = a.testBit k := by rw [Nat.testBit_and, Nat.testBit_two_pow]; simp
  cases h : a.testBit k
  · have : a &&& 2 ^ k = 0 := by
      apply Nat.eq_of_testBit_eq
      intro i
      rw [Nat.testBit_and, Nat.testBit_two_pow, Nat.zero_testBit]
      by_cases e : k = i
      · subst e; simp [h]
      · simp [e]
    rw [this]; simp
  · have : a &&& 2 ^ k ≠ 0 := fun e => by rw [e, Nat.zero_testBit, h] at hb; cases hb
    simp; omega
theorem bit_c (c : Nat) (σ : H) : MCalls Tryd.prog 39 [.int .i64 c] σ (fun v τ => v = .int .u8 ((2 ^ (c % 8) : Nat) : Int) ∧ τ = σ) := by
  refine mcalls_of fn39 (by simp) ?_
  unfold c39 r39
  have h8 : (c : Int).tmod 8 = ((c % 8 : Nat) : Int) := by rw [Int.ofNat_tmod]; rfl
  have hb : ((c % 8 : Nat) : Int) ≥ 0 := by omega
  (have fx := And.intro h8 hb; refine stepR ?_; clear fx)
  refine fin1 ⟨?_, rfl⟩
  simp only [go_sem, reduceIte, Nat.reduceEqDiff, reduceCtorEq, Nat.reduceAdd, Nat.reduceLeDiff, Int.reduceNeg, Int.reduceToNat, Int.reduceBEq, Int.reduceBNe, Int.reduceLT, Int.reduceLE, Int.reduceAdd, Int.reduceSub, h8, hb]
  have hlt : c % 8 < 8 := Nat.mod_lt _ (by omega)
  generalize c % 8 = r at hlt
  have : r = 0 ∨ r = 1 ∨ r = 2 ∨ r = 3 ∨ r = 4 ∨ r = 5 ∨ r = 6 ∨ r = 7 := by omega
  rcases this with rfl | rfl | rfl | rfl | rfl | rfl | rfl | rfl <;> rfl

theorem on1_c {σ : H} {id : Nat} {o : List Nat} (hl : o.length = 8) (ho : ∀ b ∈ o, b < 256) (hg : σ.get id = .cells 0 (offC o)) (c : Nat) (hc : c < 64) :
    MCalls Tryd.prog 38 [.int .i64 c, .pointer (some ⟨id, 0, none⟩)] σ (fun v τ => v = .bool (isOff o c) ∧ τ = σ) := by
  refine mcalls_of fn38 (by simp) ?_
  unfold c38 r38
  have h8 : IntKind.i64.wrap ((c : Int).tdiv 8) = ((c / 8 : Nat) : Int) := by
    have : (c : Int).tdiv 8 = ((c / 8 : Nat) : Int) := by rw [Int.ofNat_tdiv]; rfl
    rw [this]; exact i64wrap (by omega) (by omega)
  (have fx := h8; refine stepR ?_; clear fx)
  refine mld_load1 Sd0 (have fx := h8; Sd) (cell_of (off := c / 8) hg (offC_get (by omega))) ?_
  (have fx := h8; refine stepR ?_; clear fx)
  refine mld_call Sd0 Sd0 (bit_c c σ) (fun _ _ h => by rw [h.2]; exact .refl _) ?_
  rintro _ _ ⟨rfl, rfl⟩
  have hlt : c % 8 < 8 := Nat.mod_lt _ (by omega)
  have ha := and8 (o.getD (c / 8) 0) (2 ^ (c % 8)) (getD_lt ho _) (pow8 hlt)
  (have fx := ha; refine stepR ?_; clear fx)
  refine fin1 ⟨?_, rfl⟩
  simp only [go_sem, reduceIte, Nat.reduceEqDiff, reduceCtorEq, Nat.reduceAdd, Nat.reduceLeDiff, Int.reduceNeg, Int.reduceToNat, Int.reduceBEq, Int.reduceBNe, Int.reduceLT, Int.reduceLE, Int.reduceAdd, Int.reduceSub, ha]
  rw [Value.bool.injEq, isOff]
  exact (congrArg (fun z : Nat => ((z : Int) != 0)) ha).trans (and_bit _ _)

theorem off_c {σ : H} {o : List Nat} (hl : o.length = 8) (ho : ∀ b ∈ o, b < 256) (c : Nat) (hc : c < 64) :
    MCalls Tryd.prog 23 [offV o, .int .i64 c] σ (fun v τ => v = .bool (isOff o c) ∧ Ext σ τ) := by
  refine mcalls_of fn23 (by simp) ?_
  unfold c23 r23 offV
  have h8 : IntKind.i64.wrap ((c : Int).tdiv 8) = ((c / 8 : Nat) : Int) := by
    have : (c : Int).tdiv 8 = ((c / 8 : Nat) : Int) := by rw [Int.ofNat_tdiv]; rfl
    rw [this]; exact i64wrap (by omega) (by omega)
  have hm : (c : Int).tmod 8 = ((c % 8 : Nat) : Int) := by rw [Int.ofNat_tmod]; rfl
  refine stepR0 ?_
  generalize hτ : H.push _ _ = τ
  have e1 : Ext σ τ := hτ ▸ Ext.push _ _
  have g1 : τ.get σ.size = .cells 0 (offC o) := hτ ▸ H.get_push_self _ _
  (have fx := h8; refine stepR ?_; clear fx)
  refine ml_load1 Sd0 (have fx := h8; Sd) (cell_of (off := c / 8) g1 (offC_get (by omega))) ?_
  have hb := getD_lt ho (c / 8)
  unfold isOff
  generalize o.getD (c / 8) 0 = b at hb
  have hlt : c % 8 < 8 := Nat.mod_lt _ (by omega)
  refine stepR0 ?_
  refine mx_loop (fun n ts τ' => ∃ i, n = c % 8 - i ∧ i ≤ c % 8 ∧ τ' = τ ∧ ts 1 = .int .i64 c ∧ ts 5 = .int .u8 ((b / 2 ^ i : Nat) : Int) ∧ ts 6 = .int .i64 ((i : Nat) : Int)) (c % 8) ?_ ?_
  · exact ⟨0, rfl, Nat.zero_le _, rfl, Sd0, (by first | with_reducible rfl | (simp only [go_sem, reduceIte, Nat.reduceEqDiff, reduceCtorEq, Nat.reduceAdd, Nat.reduceLeDiff, Int.reduceNeg, Int.reduceToNat, Int.reduceBEq, Int.reduceBNe, Int.reduceLT, Int.reduceLE, Int.reduceAdd, Int.reduceSub, Nat.pow_zero, Nat.div_one]; done) | (simp only [go_sem, reduceIte, Nat.reduceEqDiff, reduceCtorEq, Nat.reduceAdd, Nat.reduceLeDiff, Int.reduceNeg, Int.reduceToNat, Int.reduceBEq, Int.reduceBNe, Int.reduceLT, Int.reduceLE, Int.reduceAdd, Int.reduceSub, Nat.pow_zero, Nat.div_one]; with_reducible rfl) | (simp only [go_sem, reduceIte, Nat.reduceEqDiff, reduceCtorEq, Nat.reduceAdd, Nat.reduceLeDiff, Int.reduceNeg, Int.reduceToNat, Int.reduceBEq, Int.reduceBNe, Int.reduceLT, Int.reduceLE, Int.reduceAdd, Int.reduceSub, Nat.pow_zero, Nat.div_one]; (try simp (disch := omega) only [i64wrap, u64wrap, u8wrap, u32wrap, i32wrap]); first | with_reducible rfl | done | (refine congrArg (Value.int _) ?_; omega)) | (simp only [go_sem, reduceIte, Nat.reduceEqDiff, reduceCtorEq, Nat.reduceAdd, Nat.reduceLeDiff, Int.reduceNeg, Int.reduceToNat, Int.reduceBEq, Int.reduceBNe, Int.reduceLT, Int.reduceLE, Int.reduceAdd, Int.reduceSub, Nat.pow_zero, Nat.div_one]; rfl)), Sd0⟩
  rintro n ts _ ⟨i, rfl, hi, rfl, t1, t5, t6⟩
  have hdb : b / 2 ^ i ≤ b := Nat.div_le_self _ _
  rcases Nat.lt_or_ge i (c % 8) with hlt2 | hge
  · have hd : ((b / 2 ^ i : Nat) : Int).tdiv 2 = ((b / 2 ^ (i + 1) : Nat) : Int) := by
      rw [Nat.pow_succ, ← Nat.div_div_eq_div_mul, show (2 : Int) = ((2 : Nat) : Int) from rfl, ← Int.ofNat_tdiv]
    have hdb2 : b / 2 ^ (i + 1) ≤ b := Nat.div_le_self _ _
    have hw : IntKind.u8.wrap ((b / 2 ^ (i + 1) : Nat) : Int) = ((b / 2 ^ (i + 1) : Nat) : Int) := by
      generalize b / 2 ^ (i + 1) = q at hdb2; exact u8wrap (by omega) (by omega)
    (have fx := And.intro t1 (And.intro t5 (And.intro t6 (And.intro hm hd))); refine stepR ?_; clear fx)
    exact ⟨_, by omega, i + 1, rfl, hlt2, rfl, (have fx := t1; Sd), (have fx := And.intro hd hw; Sd), Sd0⟩
  · have : i = c % 8 := by omega
    subst this
    have hr : ((b / 2 ^ (c % 8) : Nat) : Int).tmod 2 = ((b / 2 ^ (c % 8) % 2 : Nat) : Int) := by rw [Int.ofNat_tmod]; rfl
    (have fx := And.intro t1 (And.intro t5 (And.intro t6 (And.intro hm hr))); refine stepR ?_; clear fx)
    refine fin1 ⟨?_, e1⟩
    simp only [go_sem, reduceIte, Nat.reduceEqDiff, reduceCtorEq, Nat.reduceAdd, Nat.reduceLeDiff, Int.reduceNeg, Int.reduceToNat, Int.reduceBEq, Int.reduceBNe, Int.reduceLT, Int.reduceLE, Int.reduceAdd, Int.reduceSub, hr, t5]
    rw [Value.bool.injEq, Nat.testBit_eq_decide_div_mod_eq, Bool.eq_iff_iff, beq_iff_eq, decide_eq_true_eq]
    omega

theorem turn_len (o : List Nat) (c : Int) (is : Bool) : (turn o c is).length = o.length := by unfold turn; split <;> simp
theorem turn_lt {o : List Nat} (ho : ∀ b ∈ o, b < 256) (c : Int) (is : Bool) : ∀ b ∈ turn o c is, b < 256 := by
  intro b hb
  unfold turn at hb
  split at hb
  · rcases List.mem_or_eq_of_mem_set hb with h | h
    · exact ho b h
    · subst h
      have h1 := getD_lt ho (c.toNat / 8)
      have h2 := pow8 (k := c.toNat % 8) (Nat.mod_lt _ (by omega))
      split
      · exact Nat.or_lt_two_pow (n := 8) h1 h2
      · have : o.getD (c.toNat / 8) 0 &&& (255 - 2 ^ (c.toNat % 8)) ≤ o.getD (c.toNat / 8) 0 := Nat.and_le_left
        omega
  · exact ho b hb
theorem rowC {cs : List Value} {n : Nat} (h : cs.length = n) : rowL cs 0 n = some cs := rowAll h

theorem turn_c {σ : H} {o : List Nat} (hl : o.length = 8) (ho : ∀ b ∈ o, b < 256) (c : Int) (is : Bool) :
    MCalls Tryd.prog 22 [offV o, .int .i64 c, .bool is] σ (fun v τ => v = offV (turn o c is) ∧ Ext σ τ) := by
  refine mcalls_of fn22 (by simp) ?_
  unfold c22 r22 offV
  have hcl : (offC o).length = 8 := by rw [offC_len]; exact hl
  refine stepR0 ?_
  generalize hτ : H.push _ _ = τ
  have g1 : τ.get σ.size = .cells 0 (offC o) := by rw [← hτ, H.get_push_ne (by simp), H.get_push_self]
  have g2 : ∃ z, τ.get (σ.size + 1) = .cells 0 z ∧ z.length = 8 := ⟨_, by rw [← hτ]; exact H.get_push_self (σ.push _) _, rfl⟩
  have e1 : Ext σ τ := hτ ▸ (Ext.push _ _).trans (Ext.push _ _)
  clear hτ
  obtain ⟨z, g2, hz⟩ := g2
  -- the end
  have fin : ∀ {τ' : H} {o' : List Nat} {ts : Fr}, Ext σ τ' → τ'.get σ.size = .cells 0 (offC o') → o'.length = 8 → τ'.get (σ.size + 1) = .cells 0 z → ts 3 = .pointer (some ⟨σ.size, 0, none⟩) → ts 6 = .pointer (some ⟨σ.size + 1, 0, none⟩) →
      ∀ {d : Nat} {K : Fr → H → Prop}, d ≠ 6 → d ≠ 3 → (∀ ts τ'', ts 6 = .pointer (some ⟨σ.size + 1, 0, none⟩) → τ''.get (σ.size + 1) = .cells 0 (offC o') → Ext σ τ'' → K ts τ'') → ml Tryd.prog [⟨some d, .loadN 8 (.t 3), none⟩, ⟨none, .store 8 (.t 6) (.t d), none⟩] K ts τ' := by
    intro τ' o' ts e g h8 g' t3 t6 d K hd6 hd3 hK
    have hd6' : 6 ≠ d := Ne.symm hd6
    refine ml_loadN rfl (have fx := t3; Sd) (row_of g (rowC (by rw [offC_len]; exact h8))) ?_
    refine ml_storeA (id := σ.size + 1) (off := 0) (vs := offC o') rfl ?_ ?_ g' (by rw [offC_len]; exact h8) (by omega) (offC_one _) fun τ2 t2 => ?_
    · simp only [mev, updO, upd, hd6', if_false, t6]
    · simp only [mev, updO, upd_same, Value.cells]
    · have hs : spl z 0 (offC o') = offC o' := spl_all (by rw [offC_len, h8, hz])
      rw [hs] at t2
      refine ml_nil (hK _ _ ?_ t2.self (t2.ext e (by omega)))
      simp only [updO, upd, hd6', if_false, t6]
  by_cases hc : 0 ≤ c ∧ c < 64
  · obtain ⟨h0, h1⟩ := hc
    obtain ⟨n, rfl⟩ := Int.eq_ofNat_of_zero_le h0
    have hn : n < 64 := by omega
    have hn0 : ¬ ((n : Int) < 0) := by omega
    have hn1 : ¬ ((64 : Int) ≤ (n : Int)) := by omega
    have h8 : IntKind.i64.wrap ((n : Int).tdiv 8) = ((n / 8 : Nat) : Int) := by
      have : (n : Int).tdiv 8 = ((n / 8 : Nat) : Int) := by rw [Int.ofNat_tdiv]; rfl
      rw [this]; exact i64wrap (by omega) (by omega)
    have hlt : n % 8 < 8 := Nat.mod_lt _ (by omega)
    have hget := offC_get (o := o) (i := n / 8) (by omega)
    have hb := getD_lt ho (n / 8)
    have htl := turn_len o n is
    have hturn : turn o n is = o.set (n / 8) (if is then o.getD (n / 8) 0 ||| 2 ^ (n % 8) else o.getD (n / 8) 0 &&& (255 - 2 ^ (n % 8))) := by
      unfold turn; rw [if_pos ⟨by omega, by omega⟩, Int.toNat_natCast]
    generalize o.getD (n / 8) 0 = b at hget hb hturn
    cases is
    · have hop := andNot8 b (2 ^ (n % 8)) hb (pow8 hlt)
      (have fx := And.intro hn0 (And.intro hn1 h8); refine stepR ?_; clear fx)
      refine mld_load1 Sd0 (have fx := h8; Sd) (cell_of (off := n / 8) g1 hget) ?_
      (have fx := h8; refine stepR ?_; clear fx)
      refine mld_call Sd0 Sd0 (bit_c n τ) (fun _ _ h => by rw [h.2]; exact .refl _) ?_
      rintro _ τ ⟨rfl, rfl⟩
      (have fx := And.intro hop h8; refine stepR ?_; clear fx)
      refine mld_storeA (id := σ.size) (off := n / 8) (vs := [.int .u8 ((b &&& (255 - 2 ^ (n % 8)) : Nat) : Int)]) Sd0 (have fx := h8; Sd) (by simp only [go_sem, reduceIte, Nat.reduceEqDiff, reduceCtorEq, Nat.reduceAdd, Nat.reduceLeDiff, Int.reduceNeg, Int.reduceToNat, Int.reduceBEq, Int.reduceBNe, Int.reduceLT, Int.reduceLE, Int.reduceAdd, Int.reduceSub]; exact congrArg (fun z : Nat => #[Value.int .u8 (z : Int)]) hop) g1 rfl (by omega) rfl fun τ2 t2 => ?_
      have hset : spl (offC o) (n / 8) [.int .u8 ((b &&& (255 - 2 ^ (n % 8)) : Nat) : Int)] = offC (turn o n false) := by
        rw [spl_one, hturn]; unfold offC; rw [List.map_set]; rfl
      rw [hset] at t2
      refine stepR0 ?_
      refine fin (t2.ext e1 (Nat.le_refl _)) t2.self (by omega) (t2.cells g2 (by omega)) Sd0 Sd0 (by omega) (by omega) fun ts τ3 t6 g3 e3 => ?_
      refine stepR0 ?_
      exact finC t6 (row_of g3 (rowC (by rw [offC_len]; omega))) ⟨rfl, e3⟩
    · have hop := or8 b (2 ^ (n % 8)) hb (pow8 hlt)
      (have fx := And.intro hn0 (And.intro hn1 h8); refine stepR ?_; clear fx)
      refine mld_load1 Sd0 (have fx := h8; Sd) (cell_of (off := n / 8) g1 hget) ?_
      (have fx := h8; refine stepR ?_; clear fx)
      refine mld_call Sd0 Sd0 (bit_c n τ) (fun _ _ h => by rw [h.2]; exact .refl _) ?_
      rintro _ τ ⟨rfl, rfl⟩
      (have fx := And.intro hop h8; refine stepR ?_; clear fx)
      refine mld_storeA (id := σ.size) (off := n / 8) (vs := [.int .u8 ((b ||| 2 ^ (n % 8) : Nat) : Int)]) Sd0 (have fx := h8; Sd) (by simp only [go_sem, reduceIte, Nat.reduceEqDiff, reduceCtorEq, Nat.reduceAdd, Nat.reduceLeDiff, Int.reduceNeg, Int.reduceToNat, Int.reduceBEq, Int.reduceBNe, Int.reduceLT, Int.reduceLE, Int.reduceAdd, Int.reduceSub]; exact congrArg (fun z : Nat => #[Value.int .u8 (z : Int)]) hop) g1 rfl (by omega) rfl fun τ2 t2 => ?_
      have hset : spl (offC o) (n / 8) [.int .u8 ((b ||| 2 ^ (n % 8) : Nat) : Int)] = offC (turn o n true) := by
        rw [spl_one, hturn]; unfold offC; rw [List.map_set]; rfl
      rw [hset] at t2
      refine stepR0 ?_
      refine fin (t2.ext e1 (Nat.le_refl _)) t2.self (by omega) (t2.cells g2 (by omega)) Sd0 Sd0 (by omega) (by omega) fun ts τ3 t6 g3 e3 => ?_
      refine stepR0 ?_
      exact finC t6 (row_of g3 (rowC (by rw [offC_len]; omega))) ⟨rfl, e3⟩
  · have hturn : turn o c is = o := by unfold turn; rw [if_neg hc]
    rw [hturn]
    refine ml_mid (fun ts τ' => τ' = τ ∧ ts 15 = .bool true ∧ ts 3 = .pointer (some ⟨σ.size, 0, none⟩) ∧ ts 6 = .pointer (some ⟨σ.size + 1, 0, none⟩)) ?_ ?_
    · by_cases h0 : c < 0
      · (have fx := h0; refine stepR ?_; clear fx)
        exact ⟨rfl, (have fx := h0; Sd), Sd0, Sd0⟩
      · have h1 : 64 ≤ c := by omega
        (have fx := And.intro h0 h1; refine stepR ?_; clear fx)
        exact ⟨rfl, (have fx := And.intro h0 h1; Sd), Sd0, Sd0⟩
    · rintro ts _ ⟨rfl, t15, t3, t6⟩
      (have fx := t15; refine stepR ?_; clear fx)
      refine fin e1 g1 hl g2 t3 t6 (by omega) (by omega) fun ts τ3 t6 g3 e3 => ?_
      refine stepR0 ?_
      exact finC t6 (row_of g3 (rowC (by rw [offC_len]; omega))) ⟨rfl, e3⟩
end Go.Proofs.YtgfmphjccnemmaaDoor
