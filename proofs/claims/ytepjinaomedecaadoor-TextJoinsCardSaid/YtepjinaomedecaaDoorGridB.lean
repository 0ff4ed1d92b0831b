import Derived.Test.YtepjinaomedecaaDoorCode
import Derived.Test.YtepjinaomedecaaDoorBase4
import Derived.Test.YtepjinaomedecaaDoorIdxFunc
import Derived.Test.YtepjinaomedecaaDoorShelf
namespace Go.Proofs.YtepjinaomedecaaDoor
open Go.Mini
open Go.Proofs.YtepjinaomedecaaDoor.Code
set_option linter.unusedVariables false
set_option linter.unusedSimpArgs false
set_option linter.ambiguousOpen false
attribute [local irreducible] mx ml mld mstep MCalls Ex.thn Ex.inb
variable {E : World → Prop}

def bAt (S : ByteArray) (c : Int) : UInt8 := S.data.toList.getD c.toNat 0
def opn (S : ByteArray) (c : Int) : Bool := decide (0 ≤ c) && decide (c < S.size) && (bAt S c != 35)
def mapC (W Hh : Int) (S : ByteArray) : List Value := [.int .i64 W, .int .i64 Hh, .string S]
def mapV (W Hh : Int) (S : ByteArray) : Value := .agg #[.int .i64 W, .int .i64 Hh, .string S]
attribute [go_sem] mapC mapV

set_option maxHeartbeats 400000 in
theorem open_c (W Hh : Int) (S : ByteArray) (c : Int) (σ : H) : MCalls E Tryd.prog 51 [mapV W Hh S, .int .i64 c] σ (fun v τ => v = .bool (opn S c) ∧ Ext σ τ) := by
  refine mcalls_of fn51 (by simp) ?_
  unfold c51 r51 mapV
  by_cases h0 : 0 ≤ c
  · by_cases h1 : c < S.size
    · (have fx := And.intro h0 h1; refine stepR ?_; clear fx)
      refine fin1 ⟨?_, Ext.push _ _⟩
      have := u8ne (S.data.toList.getD c.toNat 0) 35 (by omega)
      simp only [go_sem, reduceIte, Nat.reduceEqDiff, reduceCtorEq, Nat.reduceAdd, Nat.reduceLeDiff, Int.reduceNeg, Int.reduceToNat, Int.reduceBEq, Int.reduceBNe, Int.reduceLT, Int.reduceLE, Int.reduceAdd, Int.reduceSub, opn, h0, h1, bAt]
      try simpa using this
    · (have fx := And.intro h0 h1; refine stepR ?_; clear fx)
      refine fin1 ⟨?_, Ext.push _ _⟩
      simp only [go_sem, reduceIte, Nat.reduceEqDiff, reduceCtorEq, Nat.reduceAdd, Nat.reduceLeDiff, Int.reduceNeg, Int.reduceToNat, Int.reduceBEq, Int.reduceBNe, Int.reduceLT, Int.reduceLE, Int.reduceAdd, Int.reduceSub, opn, h0, h1, bAt]
      try simp
  · (have fx := h0; refine stepR ?_; clear fx)
    refine fin1 ⟨?_, Ext.push _ _⟩
    simp only [go_sem, reduceIte, Nat.reduceEqDiff, reduceCtorEq, Nat.reduceAdd, Nat.reduceLeDiff, Int.reduceNeg, Int.reduceToNat, Int.reduceBEq, Int.reduceBNe, Int.reduceLT, Int.reduceLE, Int.reduceAdd, Int.reduceSub, opn, h0, bAt]
    try simp

structure NS (σ0 : H) (mid oc : Nat) (mv : List Value) (l : List Int) (τ : H) : Prop where
  ext : Ext σ0 τ
  hm : σ0.size ≤ mid
  ho : σ0.size ≤ oc
  ne : mid ≠ oc
  gm : τ.get mid = .cells 0 mv
  go : ∃ sl ow, τ.get oc = .cells 0 [sl] ∧ Own τ 1 sl ow (ints l) ∧ ∀ id, ow = some id → σ0.size ≤ id ∧ id ≠ mid ∧ id ≠ oc

set_option maxHeartbeats 400000 in
theorem near1_c {σ0 σ : H} {mid oc : Nat} {W Hh : Int} {S : ByteArray} {l : List Int} (n : Int) (is : Bool) (hl : l.length < appMax) (h : NS σ0 mid oc (mapC W Hh S) l σ) :
    MCalls E Tryd.prog 91 [.int .i64 n, .bool is, .pointer (some ⟨mid, 0, none⟩), .pointer (some ⟨oc, 0, none⟩)] σ
      (fun v τ => NS σ0 mid oc (mapC W Hh S) (if is && opn S n then l ++ [n] else l) τ) := by
  obtain ⟨he, hm, ho, hne, gm, sl, ow, go, own, hid⟩ := h
  refine mcalls_of fn91 (by simp) ?_
  unfold c91 r91
  cases is
  · refine stepR0 ?_
    exact fin0n ⟨he, hm, ho, hne, gm, sl, ow, go, own, hid⟩
  · (have fx := gm; refine stepR ?_; clear fx)
    refine ml_call Sd0 Sd0 (open_c W Hh S n σ) ?_
    rintro _ τ ⟨rfl, e1⟩
    have go1 := e1.cells go
    have gm1 := e1.cells gm
    have own1 := own.of_ext e1
    cases hop : opn S n
    · (have fx := gm; refine stepR ?_; clear fx)
      exact fin0n ⟨he.trans e1, hm, ho, hne, gm1, sl, ow, go1, own1, hid⟩
    · (have fx := And.intro gm go1; refine stepR ?_; clear fx)
      refine ml_appI Sd0 Sd0 Sd0 (own1.of_ext (Ext.push _ _)) (H.get_push_self _ _) (by omega) hl ?_
      intro v' τ' o2 s2 k2
      have hoc := H.lt_of_cells go1
      have hmc := H.lt_of_cells gm1
      have hoo : ow ≠ some oc := fun e => (hid _ e).2.2 rfl
      have hom : ow ≠ some mid := fun e => (hid _ e).2.1 rfl
      have goc : τ'.get oc = .cells 0 [sl] := by rw [k2 oc (by simp; omega) hoo, H.get_push_lt hoc]; exact go1
      have gmc : τ'.get mid = .cells 0 (mapC W Hh S) := by rw [k2 mid (by simp; omega) hom, H.get_push_lt hmc]; exact gm1
      refine ml_store1 Sd0 Sd0 rfl o2.cells1 o2.one1 goc (by simp) ?_
      refine stepR0 ?_
      have hs0 := he.size
      have hs1 := e1.size
      simp only [H.size_push] at s2 o2 k2
      refine fin0n ⟨Ext.set' ⟨by omega, fun i hi => ?_⟩ ho _, hm, ho, hne, ?_, v', some (τ.size + 1), ?_, ?_, ?_⟩
      · rw [k2 i (by omega) (fun e => by have := (hid _ e).1; omega), H.get_push_lt (by omega), e1.get i (by omega), he.get i hi]
      · rw [H.get_set_ne hne]; exact gmc
      · rw [H.get_set_self (by omega)]; rfl
      · exact o2.ext fun i hi => H.get_set_ne (by injection hi; omega)
      · intro id hi; injection hi; omega

def nadd (S : ByteArray) (n : Int) (is : Bool) (l : List Int) : List Int := if is && opn S n then l ++ [n] else l
theorem nadd_len (S : ByteArray) (n : Int) (is : Bool) (l : List Int) : (nadd S n is l).length ≤ l.length + 1 := by
  unfold nadd; split <;> simp
def nearL (W : Int) (S : ByteArray) (c : Int) : List Int :=
  nadd S (c + W) true (nadd S (c + 1) (decide (c.tmod W < W - 1)) (nadd S (c - 1) (decide (c.tmod W > 0)) (nadd S (c - W) true [])))

set_option maxHeartbeats 1000000 in
theorem near_c (W Hh : Int) (S : ByteArray) (c : Int) (σ : H) (hW : 1 ≤ W) (hW2 : W ≤ 1000) (hc : 0 ≤ c) (hc2 : c ≤ 1000) :
    MCalls E Tryd.prog 67 [mapV W Hh S, .int .i64 c] σ (fun v τ => Out σ τ 1 v (ints (nearL W S c))) := by
  refine mcalls_of fn67 (by simp) ?_
  unfold c67 r67 mapV
  have hlt : σ.size ≠ σ.size + 1 := by omega
  refine stepR0 ?_
  generalize hτ : ((σ.push _).push _) = τ
  have g1 : τ.get σ.size = .cells 0 [.int .i64 W, .int .i64 Hh, .string S] := by rw [← hτ, H.get_push_ne (by simp), H.get_push_self]
  have n0 : NS σ σ.size (σ.size + 1) (mapC W Hh S) [] τ := by
    subst hτ
    exact ⟨(Ext.push _ _).trans (Ext.push _ _), by omega, by omega, by omega, g1, .slice none 0 0, none, by simpa using H.get_push_self (σ.push _) _, .nil, fun id h => nomatch h⟩
  have w0 : W ≠ 0 := by omega
  have lim : ∀ {l : List Int} (k : Nat), l.length ≤ k → k ≤ 100 → l.length < appMax := fun k h1 h2 => by simp only [appMax]; omega
  have hrem1 : c.tmod W < W := Int.tmod_lt_of_pos _ (by omega)
  have hrem0 : 0 ≤ c.tmod W := Int.tmod_nonneg _ hc
  (have fx := g1; refine stepR ?_; clear fx)
  refine ml_callv Sd0 Sd0 Sd0 (near1_c (W := W) (Hh := Hh) (S := S) (l := []) (c - W) true (lim 0 (by simp) (by omega)) n0) ?_
  intro _ τ1 n1
  rw [← nadd] at n1
  have g2 := n1.gm
  have l1 := nadd_len S (c - W) true []
  (have fx := g2; refine stepR ?_; clear fx)
  refine ml_callv Sd0 Sd0 Sd0 (near1_c (c - 1) (decide (c.tmod W > 0)) (lim 1 (by simpa using l1) (by omega)) n1) ?_
  intro _ τ2 n2
  rw [← nadd] at n2
  have g3 := n2.gm
  have l2 := nadd_len S (c - 1) (decide (c.tmod W > 0)) (nadd S (c - W) true [])
  (have fx := g3; refine stepR ?_; clear fx)
  refine ml_callv Sd0 Sd0 Sd0 (near1_c (c + 1) (decide (c.tmod W < W - 1)) (lim 2 (by simp at l1; omega) (by omega)) n2) ?_
  intro _ τ3 n3
  rw [← nadd] at n3
  have g4 := n3.gm
  have l3 := nadd_len S (c + 1) (decide (c.tmod W < W - 1)) (nadd S (c - 1) (decide (c.tmod W > 0)) (nadd S (c - W) true []))
  (have fx := g4; refine stepR ?_; clear fx)
  refine ml_callv Sd0 Sd0 Sd0 (near1_c (c + W) true (lim 3 (by simp at l1; omega) (by omega)) n3) ?_
  intro _ τ4 n4
  rw [← nadd] at n4
  obtain ⟨he, _, _, _, gm, sl, ow, go, own, hid⟩ := n4
  (have fx := go; refine stepR ?_; clear fx)
  refine fin1 ?_
  simp only [go_sem, reduceIte, Nat.reduceEqDiff, reduceCtorEq, Nat.reduceAdd, Nat.reduceLeDiff, Int.reduceNeg, Int.reduceToNat, Int.reduceBEq, Int.reduceBNe, Int.reduceLT, Int.reduceLE, Int.reduceAdd, Int.reduceSub]
  exact ⟨he, ow, own, fun id hi => (hid id hi).1⟩
end Go.Proofs.YtepjinaomedecaaDoor
namespace Go.Proofs.YtepjinaomedecaaDoor
open Go.Mini
open Go.Proofs.YtepjinaomedecaaDoor.Code
set_option linter.unusedVariables false
set_option linter.unusedSimpArgs false
set_option linter.ambiguousOpen false
attribute [local irreducible] mx ml mld mstep MCalls Ex.thn Ex.inb
variable {E : World → Prop}

/-- The signs. -/
def sign (b : UInt8) : Bool := b == 35 || b == 46 || b == 67 || b == 80

theorem sized1_c (n : Int) (σ : H) : MCalls E Tryd.prog 61 [.int .i64 n] σ (fun v τ => v = .bool (decide (1 ≤ n) && decide (n ≤ 8)) ∧ τ = σ) := by
  refine mcalls_of fn61 (by simp) ?_
  unfold c61 r61
  by_cases h0 : 1 ≤ n
  · (have fx := h0; refine stepR ?_; clear fx)
    refine fin1 ⟨?_, rfl⟩
    simp only [go_sem, reduceIte, Nat.reduceEqDiff, reduceCtorEq, Nat.reduceAdd, Nat.reduceLeDiff, Int.reduceNeg, Int.reduceToNat, Int.reduceBEq, Int.reduceBNe, Int.reduceLT, Int.reduceLE, Int.reduceAdd, Int.reduceSub, h0, Bool.true_and]
  · (have fx := h0; refine stepR ?_; clear fx)
    refine fin1 ⟨?_, rfl⟩
    simp only [go_sem, reduceIte, Nat.reduceEqDiff, reduceCtorEq, Nat.reduceAdd, Nat.reduceLeDiff, Int.reduceNeg, Int.reduceToNat, Int.reduceBEq, Int.reduceBNe, Int.reduceLT, Int.reduceLE, Int.reduceAdd, Int.reduceSub, h0, Bool.false_and]

theorem sized2_c (b : UInt8) (hb : sign b = true) (σ : H) : MCalls E Tryd.prog 64 [.int .i32 b.toNat] σ (fun v τ => v = .bool false) := by
  refine mcalls_of fn64 (by simp) ?_
  unfold c64 r64
  have hlt : b.toNat < 128 := by
    simp only [sign, Bool.or_eq_true, beq_iff_eq] at hb
    rcases hb with ((rfl | rfl) | rfl) | rfl <;> decide
  have hc : MCalls E Tryd.prog 65 [.string ⟨#[35, 46, 67, 80]⟩, .int .i32 b.toNat] σ (fun v τ => v = .bool true ∧ τ = σ) := by
    refine mcalls_same 0 0 (by kernel_rfl) rfl rfl fun w => (Tryd.strings_ContainsRune_ascii _ _ w (by omega) (by omega)).mono fun e w' ⟨he, hw⟩ => ⟨?_, hw⟩
    rw [he]
    simp only [sign, Bool.or_eq_true, beq_iff_eq] at hb
    rcases hb with ((rfl | rfl) | rfl) | rfl <;> rfl
  refine stepR0 ?_
  refine ml_call Sd0 Sd0 hc ?_
  rintro _ _ ⟨rfl, rfl⟩
  refine stepR0 ?_
  refine fin1 ?_
  simp only [go_sem, reduceIte, Nat.reduceEqDiff, reduceCtorEq, Nat.reduceAdd, Nat.reduceLeDiff, Int.reduceNeg, Int.reduceToNat, Int.reduceBEq, Int.reduceBNe, Int.reduceLT, Int.reduceLE, Int.reduceAdd, Int.reduceSub]

theorem asciiContains_c (id : Nat) (b : UInt8) (v : Bool) (cs : List Value) (σ : H) (hg : σ.get id = .cells 0 cs) (hv : cs[b.toNat]? = some (.bool v)) :
    MCalls E Tryd.prog 97 [.pointer (some ⟨id, 0, none⟩), .int .u8 b.toNat] σ (fun v' τ => v' = .bool v ∧ τ = σ) := by
  refine mcalls_of fn97 (by simp) ?_
  unfold c97 r97
  have hb := b.toNat_lt
  (have fx := And.intro hg hv; refine stepR ?_; clear fx)
  refine fin1 ⟨?_, rfl⟩
  simp only [go_sem, reduceIte, Nat.reduceEqDiff, reduceCtorEq, Nat.reduceAdd, Nat.reduceLeDiff, Int.reduceNeg, Int.reduceToNat, Int.reduceBEq, Int.reduceBNe, Int.reduceLT, Int.reduceLE, Int.reduceAdd, Int.reduceSub]

/-! ## strings.Trim with the signs -/
/-- The set lies at an object. -/
def SetAt (σ : H) (id : Nat) : Prop := ∃ cs, σ.get id = .cells 0 cs ∧ ∀ b : UInt8, cs[b.toNat]? = some (.bool (sign b))

theorem trimRight_c (s : ByteArray) (id : Nat) (σ : H) (hlen : s.size ≤ 1000000) (hs : SetAt σ id) : MCalls E Tryd.prog 83 [.string s, .pointer (some ⟨id, 0, none⟩)] σ
    (fun v τ => τ = σ ∧ ∃ k, v = .string (s.extract 0 k) ∧ k ≤ s.size ∧ (∀ j, k ≤ j → j < s.size → sign (s.data.toList.getD j 0) = true) ∧ (k = 0 ∨ sign (s.data.toList.getD (k - 1) 0) = false)) := by
  obtain ⟨cs, hg, hv⟩ := hs
  refine mcalls_of fn83 (by simp) ?_
  unfold c83 r83
  refine stepR0 ?_
  refine mx_loop (fun n ts σ' => σ' = σ ∧ ts 0 = .string (s.extract 0 n) ∧ ts 1 = .pointer (some ⟨id, 0, none⟩) ∧ n ≤ s.size ∧ ∀ j, n ≤ j → j < s.size → sign (s.data.toList.getD j 0) = true) s.size ?_ ?_
  · refine ⟨rfl, ?_, ?_, Nat.le_refl _, fun j h1 h2 => by omega⟩
    · simp only [go_sem, reduceIte, Nat.reduceEqDiff, reduceCtorEq, Nat.reduceAdd, Nat.reduceLeDiff, Int.reduceNeg, Int.reduceToNat, Int.reduceBEq, Int.reduceBNe, Int.reduceLT, Int.reduceLE, Int.reduceAdd, Int.reduceSub]
      simp
    · simp only [go_sem, reduceIte, Nat.reduceEqDiff, reduceCtorEq, Nat.reduceAdd, Nat.reduceLeDiff, Int.reduceNeg, Int.reduceToNat, Int.reduceBEq, Int.reduceBNe, Int.reduceLT, Int.reduceLE, Int.reduceAdd, Int.reduceSub]
  rintro n ts _ ⟨rfl, h0, h1, hn, hall⟩
  have hsz : (s.extract 0 n).size = n := by simp; omega
  by_cases hz : n = 0
  · subst hz
    (have fx := And.intro h0 (And.intro h1 hsz); refine stepR ?_; clear fx)
    refine fin1 ⟨rfl, 0, ?_, by omega, fun j a b => hall j a b, .inl rfl⟩
    simp only [go_sem, reduceIte, Nat.reduceEqDiff, reduceCtorEq, Nat.reduceAdd, Nat.reduceLeDiff, Int.reduceNeg, Int.reduceToNat, Int.reduceBEq, Int.reduceBNe, Int.reduceLT, Int.reduceLE, Int.reduceAdd, Int.reduceSub, h0]
  · (have fx := And.intro h0 (And.intro h1 hsz); refine stepR ?_; clear fx)
    have hb : (s.extract 0 n).data.toList.getD ((n : Int) - 1).toNat 0 = s.data.toList.getD (n - 1) 0 := by
      rw [ext_getD _ _ _ _ (by omega)]; congr 1; omega
    rw [hb]
    refine ml_call (have fx := h1; Sd) (have fx := h1; Sd) (asciiContains_c id _ _ cs _ hg (hv _)) ?_
    rintro _ _ ⟨rfl, rfl⟩
    cases hsg : sign (s.data.toList.getD (n - 1) 0)
    · (have fx := And.intro h0 (And.intro h1 hsz); refine stepR ?_; clear fx)
      refine fin1 ⟨rfl, n, ?_, by omega, fun j a b => hall j a b, .inr hsg⟩
      simp only [go_sem, reduceIte, Nat.reduceEqDiff, reduceCtorEq, Nat.reduceAdd, Nat.reduceLeDiff, Int.reduceNeg, Int.reduceToNat, Int.reduceBEq, Int.reduceBNe, Int.reduceLT, Int.reduceLE, Int.reduceAdd, Int.reduceSub, h0]
    · (have fx := And.intro h0 (And.intro h1 hsz); refine stepR ?_; clear fx)
      refine ml_op Sd0 (o_slcS_hi (q := (n : Int) - 1) (k := .i64) Sd0 Sd0 (by omega) (by omega)) ?_
      (have fx := And.intro h0 (And.intro h1 hsz); refine stepR ?_; clear fx)
      refine ⟨n - 1, by omega, rfl, ?_, (have fx := h1; Sd), by omega, fun j a b => ?_⟩
      · simp only [go_sem, reduceIte, Nat.reduceEqDiff, reduceCtorEq, Nat.reduceAdd, Nat.reduceLeDiff, Int.reduceNeg, Int.reduceToNat, Int.reduceBEq, Int.reduceBNe, Int.reduceLT, Int.reduceLE, Int.reduceAdd, Int.reduceSub]
        rw [ext_ext _ _ _ _ _ (by omega)]
        congr 2; omega
      · rcases Nat.eq_or_lt_of_le a with e | e
        · rw [← e]; exact hsg
        · exact hall j (by omega) b
end Go.Proofs.YtepjinaomedecaaDoor
