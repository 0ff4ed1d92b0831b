import Derived.Lib.IndexLaws
import Derived.Test.YtepjinaomedecaaDoorGridD
import Derived.Test.YtepjinaomedecaaDoorGridF
import Derived.Test.YtepjinaomedecaaDoorBase4
namespace Go.Proofs.YtepjinaomedecaaDoor
open Go.Mini
open Go.Proofs.YtepjinaomedecaaDoor.Code
set_option linter.unusedVariables false
set_option linter.unusedSimpArgs false
set_option linter.ambiguousOpen false
attribute [local irreducible] mx ml mld mstep MCalls Ex.thn Ex.inb
variable {E : World → Prop}

theorem sub_len : ∀ {l L : List Int}, l.Nodup → (∀ x ∈ l, x ∈ L) → l.length ≤ L.length
  | [], _, _, _ => Nat.zero_le _
  | x :: l, L, hd, hs => by
    have hx := hs x List.mem_cons_self
    have hd' := List.nodup_cons.1 hd
    have := sub_len (l := l) (L := L.erase x) hd'.2 (fun y hy => by
      have hne : y ≠ x := fun e => hd'.1 (e ▸ hy)
      exact (List.mem_erase_of_ne hne).2 (hs y (List.mem_cons_of_mem _ hy)))
    rw [List.length_erase_of_mem hx] at this
    have := List.length_pos_of_mem hx
    simp only [List.length_cons]; omega
theorem sub_all {l L : List Int} (hd : l.Nodup) (hs : ∀ x ∈ l, x ∈ L) (hl : L.length ≤ l.length) : ∀ x ∈ L, x ∈ l := fun x hx => by
  apply Classical.byContradiction
  intro hn
  have := sub_len (l := x :: l) (L := L) (List.nodup_cons.2 ⟨hn, hd⟩) (fun y hy => by
    cases hy with
    | head => exact hx
    | tail _ h => exact hs y h)
  simp only [List.length_cons] at this; omega
/-- The open cells. -/
def opens (S : ByteArray) : List Int := ((List.range S.size).filter fun i => opn S (i : Nat)).map Int.ofNat
theorem mem_opens {S : ByteArray} {x : Int} : x ∈ opens S ↔ opn S x = true := by
  unfold opens
  rw [List.mem_map]
  constructor
  · rintro ⟨i, hi, rfl⟩; exact (List.mem_filter.1 hi).2
  · intro h
    have := opn_lt h
    exact ⟨x.toNat, List.mem_filter.2 ⟨List.mem_range.2 (by omega), by rw [Int.toNat_of_nonneg this.1]; exact h⟩, Int.toNat_of_nonneg this.1⟩
theorem opens_nodup (S : ByteArray) : (opens S).Nodup := by
  unfold opens
  rw [List.nodup_iff_pairwise_ne, List.pairwise_map]
  refine ((List.nodup_iff_pairwise_ne.1 List.nodup_range).filter _).imp fun h e => h (Int.ofNat.inj e)
theorem list_range (l : List UInt8) : (List.range l.length).map (fun i => l.getD i 0) = l := by
  apply List.ext_getElem
  · simp
  · intro i h1 h2
    simp [List.getElem?_eq_getElem h2]
theorem opens_len (S : ByteArray) : (opens S).length + S.data.toList.count 35 = S.size := by
  unfold opens
  rw [List.length_map]
  have h1 : ((List.range S.size).filter fun i => opn S (i : Nat)) = (List.range S.data.toList.length).filter fun i => S.data.toList.getD i 0 != 35 := by
    have : S.data.toList.length = S.size := by simp
    rw [this]
    apply List.filter_congr
    intro i hi
    have hi := List.mem_range.1 hi
    simp [opn, bAt]; omega
  rw [h1, ← List.countP_eq_length_filter]
  have h2 := List.countP_map (p := fun b : UInt8 => b != 35) (f := fun i => S.data.toList.getD i 0) (l := List.range S.data.toList.length)
  rw [list_range] at h2
  have h3 := List.length_eq_countP_add_countP (fun b : UInt8 => b != 35) (l := S.data.toList)
  have h4 : S.data.toList.length = S.size := by simp
  have h5 : List.countP (fun a => !(a != 35)) S.data.toList = S.data.toList.count 35 := by
    rw [List.count]; congr 1; funext a; simp [bne]
  have h6 : List.countP (fun a => decide ¬(a != 35) = true) S.data.toList = S.data.toList.count 35 := by
    rw [List.count]; congr 1; funext a
    by_cases h : a = 35 <;> simp [h]
  have h7 : List.countP (fun i => S.data.toList.getD i 0 != 35) (List.range S.data.toList.length) = List.countP (fun b => b != 35) S.data.toList := h2.symm
  omega

/-- A right map: its size and signs are right, and from its first charger each open cell is reached. -/
def RightP (W Hh : Int) (S : ByteArray) : Prop := szd W Hh S = true ∧ 0 ≤ Lib.indexByte S.data.toList 67 ∧ ∀ x, opn S x = true → Reach W S (Lib.indexByte S.data.toList 67) x
noncomputable def gr (W Hh : Int) (S : ByteArray) : Bool := @decide (RightP W Hh S) (Classical.propDecidable _)
theorem gr_iff {W Hh : Int} {S : ByteArray} : gr W Hh S = true ↔ RightP W Hh S := by
  unfold gr; exact @decide_eq_true_iff _ (Classical.propDecidable _)

theorem right_c (W Hh : Int) (S : ByteArray) (σ : H) : MCalls E Tryd.prog 16 [mapV W Hh S] σ (fun v τ => v = .bool (gr W Hh S) ∧ Ext σ τ) := by
  refine mcalls_of fn16 (by simp) ?_
  unfold c16 r16 mapV
  refine stepR0 ?_
  refine ml_call Sd0 Sd0 (sized_c W Hh S _) ?_
  rintro _ τ ⟨rfl, e1⟩
  have g1 := e1.cells (H.get_push_self σ _)
  have e1' : Ext σ τ := (Ext.push _ _).trans e1
  cases hz : szd W Hh S
  · (have fx := hz; refine stepR ?_; clear fx)
    refine fin1 ⟨?_, e1'⟩
    have : gr W Hh S = false := by
      rw [← Bool.not_eq_true, gr_iff]; intro h; rw [h.1] at hz; cases hz
    simp only [go_sem, reduceIte, Nat.reduceEqDiff, reduceCtorEq, Nat.reduceAdd, Nat.reduceLeDiff, Int.reduceNeg, Int.reduceToNat, Int.reduceBEq, Int.reduceBNe, Int.reduceLT, Int.reduceLE, Int.reduceAdd, Int.reduceSub, this]
  obtain ⟨hW, hH, hS, hA⟩ := szd_spec hz
  have hWH := mul_le64 hW hH
  have hI : MCalls E Tryd.prog 39 [.string S, .string ⟨#[67]⟩] τ (fun v τ' => v = .int .i64 (Lib.indexByte S.data.toList 67) ∧ τ' = τ) :=
    mcalls_same 0 0 (by kernel_rfl) rfl rfl fun w => Tryd.strings_Index_one S 67 w
  (have fx := And.intro hz g1; refine stepR ?_; clear fx)
  refine ml_call Sd0 Sd0 hI ?_
  rintro _ τ ⟨rfl, rfl⟩
  (have fx := And.intro hz g1; refine stepR ?_; clear fx)
  have hge := Lib.indexByte_ge S.data.toList 67
  have hdef : gr W Hh S = true ↔ 0 ≤ Lib.indexByte S.data.toList 67 ∧ ∀ x, opn S x = true → Reach W S (Lib.indexByte S.data.toList 67) x := by
    rw [gr_iff]; exact ⟨fun h => h.2, fun h => ⟨hz, h⟩⟩
  have hio : 0 ≤ Lib.indexByte S.data.toList 67 → opn S (Lib.indexByte S.data.toList 67) = true := fun h => by
    obtain ⟨o, ho⟩ := Int.eq_ofNat_of_zero_le h
    have := (Lib.indexByte_some ho).1
    rw [ho]
    have hlt : o < S.size := by
      have := (List.getElem?_eq_some_iff.1 this).1
      simpa using this
    simp only [opn, bAt, Int.toNat_natCast, List.getD_eq_getElem?_getD, this, Option.getD_some]
    simp [hlt]
  generalize Lib.indexByte S.data.toList 67 = i at hge hdef hio
  rcases Int.lt_or_le i 0 with hneg | hpos
  · have hn0 : ¬ 0 ≤ i := by omega
    (have fx := And.intro hz (And.intro g1 hn0); refine stepR ?_; clear fx)
    refine fin1 ⟨?_, e1'⟩
    have : gr W Hh S = false := by
      rw [← Bool.not_eq_true, hdef]; intro h; omega
    simp only [go_sem, reduceIte, Nat.reduceEqDiff, reduceCtorEq, Nat.reduceAdd, Nat.reduceLeDiff, Int.reduceNeg, Int.reduceToNat, Int.reduceBEq, Int.reduceBNe, Int.reduceLT, Int.reduceLE, Int.reduceAdd, Int.reduceSub, this, hn0]
  · (have fx := And.intro hz (And.intro g1 hpos); refine stepR ?_; clear fx)
    refine mld_call (have fx := hpos; Sd) Sd0 (reached_c W Hh S i τ hW.1 (by omega) (by omega) (hio hpos)) (fun _ _ h => h.1) ?_
    rintro _ τ2 ⟨e2, met, hnd, hmem, rfl⟩
    have hC : MCalls E Tryd.prog 41 [.string S, .string ⟨#[35]⟩] τ2 (fun v τ' => v = .int .i64 (Lib.countByte S.data.toList 35) ∧ τ' = τ2) :=
      mcalls_same 0 0 (by kernel_rfl) rfl rfl fun w => Tryd.strings_Count_one S 35 w
    refine mld_call (have fx := hpos; Sd) Sd0 hC (fun _ _ h => by rw [h.2]; exact .refl _) ?_
    rintro _ _ ⟨rfl, rfl⟩
    have hcnt := opens_len S
    have hcl : Lib.countByte S.data.toList 35 ≤ S.size := by simp only [Lib.countByte]; omega
    have hsub : ∀ x ∈ met, x ∈ opens S := fun x hx => by
      rw [mem_opens]
      have := (hmem x).1 hx
      cases this with
      | here => exact hio hpos
      | step _ hn => exact near_opn hn
    have hml := sub_len hnd hsub
    (have fx := And.intro hz (And.intro g1 hpos); refine stepR ?_; clear fx)
    refine fin1 ⟨?_, e1'.trans e2⟩
    have : gr W Hh S = decide (met.length = S.size - Lib.countByte S.data.toList 35) := by
      rw [Bool.eq_iff_iff, hdef, decide_eq_true_eq]
      constructor
      · intro h
        have := sub_len (opens_nodup S) (L := met) (fun x hx => (hmem x).2 (h.2 x (mem_opens.1 hx)))
        simp only [Lib.countByte] at *; omega
      · intro h
        refine ⟨hpos, fun x hx => (hmem x).1 (sub_all hnd hsub ?_ x (mem_opens.2 hx))⟩
        simp only [Lib.countByte] at *; omega
    simp only [go_sem, reduceIte, Nat.reduceEqDiff, reduceCtorEq, Nat.reduceAdd, Nat.reduceLeDiff, Int.reduceNeg, Int.reduceToNat, Int.reduceBEq, Int.reduceBNe, Int.reduceLT, Int.reduceLE, Int.reduceAdd, Int.reduceSub, this]
    rw [Value.bool.injEq, Bool.eq_iff_iff, beq_iff_eq, decide_eq_true_eq]
    omega

theorem gopen_c (W Hh : Int) (S : ByteArray) (c : Int) (σ : H) : MCalls E Tryd.prog 30 [mapV W Hh S, .int .i64 c] σ (fun v τ => v = .bool (gr W Hh S && opn S c) ∧ Ext σ τ) := by
  refine mcalls_of fn30 (by simp) ?_
  unfold c30 r30 mapV
  refine stepR0 ?_
  refine ml_call Sd0 Sd0 (right_c W Hh S _) ?_
  rintro _ τ ⟨rfl, e1⟩
  have g1 := e1.cells (H.get_push_self σ _)
  have e1' : Ext σ τ := (Ext.push _ _).trans e1
  cases hz : gr W Hh S
  · refine stepR0 ?_
    refine fin1 ⟨?_, e1'⟩
    simp only [go_sem, reduceIte, Nat.reduceEqDiff, reduceCtorEq, Nat.reduceAdd, Nat.reduceLeDiff, Int.reduceNeg, Int.reduceToNat, Int.reduceBEq, Int.reduceBNe, Int.reduceLT, Int.reduceLE, Int.reduceAdd, Int.reduceSub, Bool.false_and]
  · (have fx := g1; refine stepR ?_; clear fx)
    refine ml_call Sd0 Sd0 (open_c W Hh S c _) ?_
    rintro _ τ2 ⟨rfl, e2⟩
    refine stepR0 ?_
    refine fin1 ⟨?_, e1'.trans e2⟩
    simp only [go_sem, reduceIte, Nat.reduceEqDiff, reduceCtorEq, Nat.reduceAdd, Nat.reduceLeDiff, Int.reduceNeg, Int.reduceToNat, Int.reduceBEq, Int.reduceBNe, Int.reduceLT, Int.reduceLE, Int.reduceAdd, Int.reduceSub, Bool.true_and]

theorem gr_size {W Hh : Int} {S : ByteArray} (h : gr W Hh S = true) : (1 ≤ W ∧ W ≤ 8) ∧ (1 ≤ Hh ∧ Hh ≤ 8) ∧ (S.size : Int) = W * Hh ∧ (1 ≤ S.size ∧ S.size ≤ 64) ∧ S.data.toList.all sign = true := by
  obtain ⟨h1, h2, h3, h4⟩ := szd_spec (gr_iff.1 h).1
  have := mul_le64 h1 h2
  exact ⟨h1, h2, h3, by omega, h4⟩

def gnear (W Hh : Int) (S : ByteArray) (c : Int) (b : Bool) : List Int := if b && opn S c then nearL W S c else []
theorem Out.nil {σ τ : H} (h : Ext σ τ) : Out σ τ 1 (.slice none 0 0) (ints []) := ⟨h, none, .nil, fun _ h => nomatch h⟩
end Go.Proofs.YtepjinaomedecaaDoor
namespace Go.Proofs.YtepjinaomedecaaDoor
open Go.Mini
open Go.Proofs.YtepjinaomedecaaDoor.Code
set_option linter.unusedVariables false
set_option linter.unusedSimpArgs false
set_option linter.ambiguousOpen false
attribute [local irreducible] mx ml mld mstep MCalls Ex.thn Ex.inb
section
variable {E : World → Prop} {P : Program} {ts : Fr} {σ τ σ0 : H} {v : Value} {K : Fr → H → Prop} {Q : MQ} {rest : List MI} {drest : List DI}
theorem _root_.Go.Mini.Out.of_ext {sz : Nat} {cs : List Value} (h : Out σ0 σ sz v cs) (e : Ext σ τ) : Out σ0 τ sz v cs := by
  obtain ⟨h1, oid, h2, h3⟩ := h
  exact ⟨h1.trans e, oid, h2.of_ext e, h3⟩
/-- One number more, to a slice of the call's own. -/
theorem ml_appOut {d : Option Nat} {g : Option (Nat × Bool)} {bytes : Nat} {xs xx : Opd} {l : List Int} {n : Int} {tid : Nat} (hw : wantM ts g = true) (hv : mev ts xs = v) (hx : mev ts xx = .slice (some ⟨tid, 0, none⟩) 1 1)
    (ho : Out σ0 σ 1 v (ints l)) (ht : σ.get tid = .cells 1 [.int .i64 n]) (hb : bytes ≤ 128) (hn : l.length < appMax)
    (h : ∀ v' τ, Out σ0 τ 1 v' (ints (l ++ [n])) → (∀ i o, σ.get i = o → o ≠ .dead → (∀ cs, o ≠ .cells 1 cs) → τ.get i = o) → ml E P rest K (updO ts d v') τ) :
    ml E P (⟨d, .app 1 bytes xs xx, g⟩ :: rest) K ts σ := by
  obtain ⟨e, oid, own, hid⟩ := ho
  refine ml_appI hw hv hx own ht hb hn fun v' τ o2 s2 k2 => h v' τ ⟨⟨by have := e.size; omega, fun i hi => ?_⟩, _, o2, fun id hi => ?_⟩ fun i o h1 h2 h3 => ?_
  · have := e.size
    rw [k2 i (by omega) (fun x => by have := hid i x; omega), e.get i hi]
  · injection hi with hi; have := e.size; omega
  · rw [k2 i (H.lt_of_live (by rw [h1]; exact h2)) (fun x => ?_), h1]
    subst x
    obtain ⟨cs, hc⟩ := own.cells
    exact h3 cs (by rw [← h1, hc])
end

def gkind (S : ByteArray) (kind : UInt8) (b : Bool) : List Int := if b then ((List.range S.size).filter fun i => S.data.toList.getD i 0 == kind).map Int.ofNat else []
def gkindN (S : ByteArray) (kind : UInt8) (n : Nat) : List Int := ((List.range n).filter fun i => S.data.toList.getD i 0 == kind).map Int.ofNat
theorem gkindN_succ (S : ByteArray) (kind : UInt8) (n : Nat) : gkindN S kind (n + 1) = if S.data.toList.getD n 0 == kind then gkindN S kind n ++ [(n : Int)] else gkindN S kind n := by
  unfold gkindN
  rw [List.range_succ, List.filter_append, List.map_append]
  by_cases h : (S.data.toList.getD n 0 == kind) = true
  · rw [if_pos h]; simp only [List.filter_cons, h, if_true, List.filter_nil, List.map_cons, List.map_nil]; rfl
  · rw [if_neg h]; simp only [List.filter_cons, Bool.not_eq_true] at h ⊢; rw [h]; simp
theorem gkindN_len (S : ByteArray) (kind : UInt8) (n : Nat) : (gkindN S kind n).length ≤ n := by
  unfold gkindN; rw [List.length_map]; exact Nat.le_trans (List.length_filter_le _ _) (by simp)

/-- The first charger. -/
theorem first_c (S : ByteArray) : (Lib.indexByte S.data.toList 67 = -1 ∧ ∀ k, k < S.size → S.data.toList.getD k 0 ≠ 67) ∨ ∃ o : Nat, Lib.indexByte S.data.toList 67 = o ∧ o < S.size ∧ S.data.toList.getD o 0 = 67 ∧ ∀ k, k < o → S.data.toList.getD k 0 ≠ 67 := by
  have hl : S.data.toList.length = S.size := by simp
  have hge := Lib.indexByte_ge S.data.toList 67
  have gd : ∀ k, k < S.size → S.data.toList[k]? = some (S.data.toList.getD k 0) := fun k hk => by
    rw [List.getD_eq_getElem?_getD, List.getElem?_eq_getElem (by omega)]; rfl
  by_cases h : Lib.indexByte S.data.toList 67 = -1
  · exact .inl ⟨h, fun k hk e => Lib.indexByte_none h k (by rw [gd k hk, e])⟩
  · obtain ⟨o, ho⟩ := Int.eq_ofNat_of_zero_le (show 0 ≤ Lib.indexByte S.data.toList 67 by omega)
    obtain ⟨h1, h2⟩ := Lib.indexByte_some ho
    have hlt := (List.getElem?_eq_some_iff.1 h1).1
    refine .inr ⟨o, ho, by omega, ?_, fun k hk e => h2 k hk (by rw [gd k (by omega), e])⟩
    rw [gd o (by omega)] at h1
    exact Option.some.inj h1

theorem gOf_c {E : World → Prop} (W Hh : Int) (S : ByteArray) (σ : H) : MCalls E Tryd.prog 13 [mapV W Hh S] σ (fun v τ => v = mapV W Hh S ∧ Ext σ τ) := by
  refine mcalls_of fn13 (by simp) ?_
  unfold c13 r13 mapV
  refine stepR0 ?_
  generalize hτ : H.push σ _ = τ
  have gm : τ.get σ.size = .cells 0 (mapC W Hh S) := by rw [← hτ]; exact H.get_push_self _ _
  have e1 : Ext σ τ := hτ ▸ Ext.push _ _
  have e2 := Ext.push τ (.cells 0 [.int .i64 0, .int .i64 0, .string ⟨#[]⟩])
  have g2 := e2.cells gm
  have hs : σ.size + 1 = τ.size := by rw [← hτ]; rfl
  clear hτ
  (have fx := g2; refine stepR ?_; clear fx)
  refine ml_init (vs := mapC W Hh S) Sd0 (have fx := hs; Sd) Sd0 rfl rfl rfl fun τ3 e3 g3 => ?_
  refine stepR0 ?_
  refine finC (id := τ.size) (vs := mapC W Hh S) (have fx := hs; Sd) (row_of g3 rfl) ⟨rfl, e1.trans e3⟩

/-! ## The document's example -/
end Go.Proofs.YtepjinaomedecaaDoor
