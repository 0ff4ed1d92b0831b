/- text.Lay. -/
import Derived.Test.YtepjinaomedecaaDoorTextC
import Derived.Test.YtepjinaomedecaaDoorGridL
namespace Go.Mini
section
variable {ts : Fr} {σ : H}
theorem o_load1c {x : Opd} {id off sz : Nat} {cs : List Value} {v : Value} (hx : mev ts x = .pointer (some ⟨id, off, none⟩)) (hg : σ.get id = .cells sz cs) (h : cs[off]? = some v) : mop ts σ (.load1 x) = some (v, σ) := by
  simp only [mop, hx, H.cell, hg, h, Option.map_some]
end
end Go.Mini
namespace Go.Proofs.YtepjinaomedecaaDoor
open Go.Mini
open Go.Proofs.YtepjinaomedecaaDoor.Code
set_option linter.unusedVariables false
set_option linter.unusedSimpArgs false
set_option linter.ambiguousOpen false
attribute [local irreducible] mx ml mld mstep MCalls Ex.thn Ex.inb
variable {E : World → Prop}

theorem decD_len : ∀ (k u : Nat), 1 ≤ k → u < 10 ^ k → (Lib.decDigits u).length ≤ k
  | 0, _, h, _ => by omega
  | 1, u, _, h => by rw [Lib.decDigits_one (by simpa using h)]; simp
  | k + 2, u, _, h => by
    by_cases h1 : u < 10
    · rw [Lib.decDigits_one h1]; simp
    · rw [Lib.decDigits, dif_neg h1, List.length_append]
      have := decD_len (k + 1) (u / 10) (by omega) (by rw [Nat.pow_succ] at h; omega)
      simp only [List.length_cons, List.length_nil]; omega
theorem itoa_len {n : Int} (h0 : -9223372036854775808 ≤ n) (h1 : n ≤ 9223372036854775807) : (Lib.itoa n).length ≤ 20 := by
  unfold Lib.itoa
  split
  · have := decD_len 19 n.natAbs (by omega) (by have : (10 : Nat) ^ 19 = 10000000000000000000 := by decide
                                                omega)
    simp only [List.length_cons]; omega
  · have := decD_len 19 n.toNat (by omega) (by have : (10 : Nat) ^ 19 = 10000000000000000000 := by decide
                                               omega)
    omega

theorem o_eqAct {ts : Fr} {σ : H} {x y : Opd} {neg : Bool} {nm nm' : ByteArray} {a b c a' b' c' : Int} (hx : mev ts x = actV nm a b c) (hy : mev ts y = actV nm' a' b' c') :
    ∃ e : Bool, mop ts σ (.eqA neg [.str, .int, .int, .int] x y) = some (.bool (if neg then !e else e), σ) ∧ (e = true ↔ nm = nm' ∧ a = a' ∧ b = b' ∧ c = c') := by
  have hs : (nm.toList == nm'.toList) = true ↔ nm = nm' := by
    rw [beq_iff_eq, toList_data, toList_data]
    exact ⟨fun h => ba_ext' h, fun h => by rw [h]⟩
  simp only [mop, hx, hy, actV, List.length_cons, List.length_nil, and_self, if_true, eqCells, eqCell]
  cases h1 : nm.toList == nm'.toList
  · refine ⟨false, rfl, fun h => (by cases h), fun ⟨h, _⟩ => ?_⟩
    rw [hs.2 h] at h1; cases h1
  cases h2 : a == a'
  · refine ⟨false, rfl, fun h => (by cases h), fun ⟨_, h, _⟩ => ?_⟩
    rw [beq_iff_eq.2 h] at h2; cases h2
  cases h3 : b == b'
  · refine ⟨false, rfl, fun h => (by cases h), fun ⟨_, _, h, _⟩ => ?_⟩
    rw [beq_iff_eq.2 h] at h3; cases h3
  cases h4 : c == c'
  · refine ⟨false, rfl, fun h => (by cases h), fun ⟨_, _, _, h⟩ => ?_⟩
    rw [beq_iff_eq.2 h] at h4; cases h4
  exact ⟨true, rfl, fun _ => ⟨hs.1 h1, eq_of_beq h2, eq_of_beq h3, eq_of_beq h4⟩, fun _ => rfl⟩
theorem o_eqActD {ts : Fr} {σ : H} {x y : Opd} {neg : Bool} {nm nm' : ByteArray} {a b c a' b' c' : Int} (hx : mev ts x = actV nm a b c) (hy : mev ts y = actV nm' a' b' c') :
    mop ts σ (.eqA neg [.str, .int, .int, .int] x y) = some (.bool (if neg then !decide (nm = nm' ∧ a = a' ∧ b = b' ∧ c = c') else decide (nm = nm' ∧ a = a' ∧ b = b' ∧ c = c')), σ) := by
  obtain ⟨e, h1, h2⟩ := o_eqAct (ts := ts) (σ := σ) (neg := neg) hx hy
  have : e = decide (nm = nm' ∧ a = a' ∧ b = b' ∧ c = c') := by
    cases e
    · rw [eq_comm, decide_eq_false_iff_not]; exact fun h => by cases h2.2 h
    · rw [eq_comm, decide_eq_true_eq]; exact h2.1 rfl
  rw [h1, this]
theorem act_at (nm : ByteArray) (a b c : Int) (ch : UInt8) : (actC nm a b c)[partOff ch]? = some (.int .i64 (valOf a b c ch)) := by
  unfold partOff valOf actC
  split
  · rfl
  · split <;> rfl
theorem joinW_snoc (w : List UInt8) (ws : List (List UInt8)) (x : List UInt8) : joinW w (ws ++ [x]) = joinW w ws ++ (32 :: x) := by simp [joinW]
theorem joinW_len (w : List UInt8) : ∀ (ws : List (List UInt8)) (k : Nat), (∀ x ∈ ws, x.length ≤ k) → (joinW w ws).length ≤ w.length + ws.length * (k + 1)
  | [], k, _ => by simp [joinW]
  | x :: ws, k, h => by
    have ih := joinW_len w ws k fun y hy => h y (by simp [hy])
    have hx := h x (by simp)
    have e : (joinW w (x :: ws)).length = (joinW w ws).length + (x.length + 1) := by simp [joinW]; omega
    rw [e, List.length_cons, Nat.add_mul, Nat.one_mul]; omega

/-- What text.Lay answers. -/
def layQ (nm : ByteArray) (a b c : Int) (σ : H) (v : Value) (τ : H) : Prop := Ext σ τ ∧
  ((∃ what, RightA nm a b c what ∧ v = .tuple #[.string ⟨(layL nm a b c what).toArray⟩, .nilIface]) ∨ ((∀ what, ¬ RightA nm a b c what) ∧ ∃ ev, v = .tuple #[.string ⟨#[]⟩, ev] ∧ TagE τ ev textB 1))
def I64 (n : Int) : Prop := -9223372036854775808 ≤ n ∧ n ≤ 9223372036854775807
theorem valOf_i64 {a b c : Int} (ha : I64 a) (hb : I64 b) (hc : I64 c) (ch : UInt8) : I64 (valOf a b c ch) := by
  unfold valOf; split
  · exact ha
  · split
    · exact hb
    · exact hc

set_option maxHeartbeats 4000000 in
theorem xLay_c (hE : ∀ w, E w → TextE w) (nm : ByteArray) (hnm : nm.size ≤ 1000) (a b c : Int) (ha : I64 a) (hb : I64 b) (hc : I64 c) (σ : H) : MCalls E Tryd.prog 21 [actV nm a b c] σ (layQ nm a b c σ) := by
  refine mcalls_of fn21 (by simp) ?_
  unfold c21 r21 actV
  refine stepR0 ?_
  have g0 : (σ.push (.cells 0 [.string nm, .int .i64 a, .int .i64 b, .int .i64 c])).get σ.size = .cells 0 (actC nm a b c) := H.get_push_self σ _
  have e0 := Ext.push σ (.cells 0 [.string nm, .int .i64 a, .int .i64 b, .int .i64 c])
  generalize σ.push (.cells 0 [.string nm, .int .i64 a, .int .i64 b, .int .i64 c]) = τ0 at g0 e0 ⊢
  have g0' : τ0.get σ.size = .cells 0 [.string nm, .int .i64 a, .int .i64 b, .int .i64 c] := g0
  (have fx := g0'; refine stepR ?_; clear fx)
  refine mld_call Sd0 Sd0 (needs_c τ0) (fun _ _ h => h.1) ?_
  rintro _ τ1 ⟨e1, rfl, cm, gm⟩
  refine mld_op Sd0 (o_mlookS1 (q := nm) (l := needT) Sd0 Sd0 gm) ?_
  have hnl : nm.data.toList.length = nm.size := Array.length_toList
  obtain ⟨W, hV, hW, hW3⟩ : ∃ W : List UInt8, lookV1 (.string ⟨#[]⟩) (lookS nm needT) = .string ⟨W.toArray⟩ ∧ (∀ what, needsL nm.data.toList = some what → W = what) ∧ W.length ≤ 3 := by
    rw [look_needs]
    cases hn : needsL nm.data.toList with
    | none => exact ⟨[], rfl, fun _ h => (by cases h), by simp⟩
    | some what =>
      refine ⟨what, rfl, fun _ h => Option.some.inj h, ?_⟩
      rcases (needs_what hn).1 with h | h | h | h <;> (rw [h]; decide)
  rw [hV]
  clear hV gm
  have g1 := e1.cells g0
  have eσ := e0.trans e1
  generalize hwb : (⟨W.toArray⟩ : ByteArray) = wb
  have hwbl : wb.data.toList = W := by rw [← hwb]
  have hwbs : wb.size = W.length := by rw [← hwb]; rfl
  clear hwb
  refine stepR0 ?_
  refine mx_loop (fun n ts τ => ∃ (i : Nat) (s : ByteArray), n = W.length - i ∧ i ≤ W.length ∧ Ext τ1 τ ∧ s.data.toList = joinW nm.data.toList ((W.take i).map fun ch => Lib.itoa (valOf a b c ch)) ∧
      ts 1 = .pointer (some ⟨σ.size, 0, none⟩) ∧ ts 4 = .string s ∧ ts 5 = .string wb ∧ ts 16 = .int .i64 (wb.size : Int) ∧ ts 17 = .int .i64 ((i : Nat) : Int)) W.length ?_ ?_
  · exact ⟨0, nm, rfl, by omega, Ext.refl _, by simp [joinW], Sd0, Sd0, Sd0, Sd0, Sd0⟩
  rintro n ts τ ⟨i, s, rfl, hi, e, hs, t1, t4, t5, t16, t17⟩
  have hslen : s.data.toList.length = s.size := Array.length_toList
  have hss : s.size ≤ 2000 := by
    have h1 := joinW_len nm.data.toList ((W.take i).map fun ch => Lib.itoa (valOf a b c ch)) 20 fun x hx => by
      obtain ⟨ch, _, rfl⟩ := List.mem_map.1 hx
      have := valOf_i64 ha hb hc ch
      exact itoa_len this.1 this.2
    rw [← hs, hslen, List.length_map, List.length_take, hnl] at h1
    have : min i W.length * (20 + 1) ≤ 3 * 21 := Nat.mul_le_mul (by omega) (Nat.le_refl _)
    omega
  rcases Nat.lt_or_ge i W.length with hil | hig
  · have hlt' : ((i : Nat) : Int) < (wb.size : Int) := by omega
    have hch : wb.data.toList.getD i 0 = W[i] := by
      rw [hwbl, List.getD_eq_getElem?_getD, List.getElem?_eq_getElem hil]; rfl
    have hv := valOf_i64 ha hb hc W[i]
    have gA := e.cells g1
    (have fx := And.intro t17 (And.intro t16 (And.intro hlt' (And.intro t4 (And.intro t5 (And.intro hch t1))))); refine stepR ?_; clear fx)
    refine ml_call (have fx := And.intro hch hlt'; Sd) (have fx := And.intro t1 (And.intro hch hlt'); Sd) (part_c σ.size W[i] τ) ?_
    rintro _ τ2 ⟨rfl, rfl⟩
    refine stepR0 ?_
    refine ml_op Sd0 (o_load1c Sd0 gA (act_at nm a b c W[i])) ?_
    refine ml_call Sd0 Sd0 (itoa_c hE _ hv.1 hv.2 τ2) ?_
    rintro _ τ3 ⟨rfl, rfl⟩
    have hil2 := itoa_len hv.1 hv.2
    generalize hI : (⟨(Lib.itoa (valOf a b c W[i])).toArray⟩ : ByteArray) = I
    have hIl : I.data.toList = Lib.itoa (valOf a b c W[i]) := by rw [← hI]
    have hIs : I.size ≤ 20 := by
      have : I.data.toList.length = I.size := Array.length_toList
      rw [← this, hIl]; exact hil2
    refine ml_op Sd0 (o_cat (a := ⟨#[32]⟩) (b := I) Sd0 Sd0 (by show 1 + I.size ≤ _; omega)) ?_
    refine ml_op Sd0 (o_cat (a := s) (b := (⟨#[32]⟩ : ByteArray) ++ I) (have fx := t4; Sd) Sd0 (by rw [ByteArray.size_append]; show s.size + (1 + I.size) ≤ _; omega)) ?_
    (have fx := t17; refine stepR ?_; clear fx)
    refine ⟨_, by omega, i + 1, s ++ ((⟨#[32]⟩ : ByteArray) ++ I), rfl, hil, e, ?_, (have fx := t1; Sd), Sd0, (have fx := t5; Sd), (have fx := t16; Sd), Sd0⟩
    rw [ByteArray.data_append, ByteArray.data_append, Array.toList_append, Array.toList_append, hs, hIl, List.take_add_one, List.getElem?_eq_getElem hil, List.map_append]
    simp only [Option.toList_some, List.map_cons, List.map_nil]
    rw [joinW_snoc]; rfl
  obtain rfl : i = W.length := by omega
  have hlt' : ¬ ((W.length : Nat) : Int) < (wb.size : Int) := by omega
  rw [List.take_length] at hs
  (have fx := And.intro t17 (And.intro t16 (And.intro hlt' t4)); refine stepR ?_; clear fx)
  refine ml_op Sd0 (o_cat (a := s) (b := ⟨#[10]⟩) (have fx := t4; Sd) Sd0 (by show s.size + 1 ≤ _; omega)) ?_
  have hTl : (s ++ ⟨#[10]⟩ : ByteArray).data.toList = joinW nm.data.toList (W.map fun ch => Lib.itoa (valOf a b c ch)) ++ [10] := by
    rw [ByteArray.data_append, Array.toList_append, hs]
  have hTs : (s ++ ⟨#[10]⟩ : ByteArray).size ≤ 100000 := by rw [ByteArray.size_append]; show s.size + 1 ≤ _; omega
  generalize (s ++ ⟨#[10]⟩ : ByteArray) = T at hTl hTs
  have hright : ∀ what, RightA nm a b c what → ReqOf T.data.toList nm a b c := fun what hr => by
    refine ⟨what, hr, ?_⟩
    rw [hTl, hW what hr.needs]
    unfold layL
    congr 2
    unfold wordsOf
    refine List.map_congr_left fun ch hch => ?_
    have := hr.val hch
    obtain ⟨m, hm⟩ := Int.eq_ofNat_of_zero_le this.1
    rw [hm, itoa_nat]; rfl
  have gA := e.cells g1
  have no : ∀ {nm' : ByteArray} {a' b' c' : Int}, ReqOf T.data.toList nm' a' b' c' → ¬ (nm' = nm ∧ a' = a ∧ b' = b ∧ c' = c) → ∀ what, ¬ RightA nm a b c what := fun h h2 what hr => h2 (req_uniq h (hright what hr))
  refine stepR0 ?_
  refine ml_call Sd0 Sd0 (read_c hE T hTs τ) ?_
  rintro _ τ2 ⟨e2, ⟨nm', a', b', c', rfl, hreq⟩ | ⟨ev, rfl, hev, hno⟩⟩
  · refine stepR0 ?_
    refine ml_init (vs := actC nm' a' b' c') Sd0 Sd0 Sd0 rfl rfl rfl fun τ3 e3 g3 => ?_
    have gA3 := e3.cells (e2.cells gA)
    have g3' : τ3.get τ2.size = .cells 0 [.string nm', .int .i64 a', .int .i64 b', .int .i64 c'] := g3
    have gA3' : τ3.get σ.size = .cells 0 [.string nm, .int .i64 a, .int .i64 b, .int .i64 c] := gA3
    (have fx := And.intro g3' (And.intro gA3' t1); refine stepR ?_; clear fx)
    refine ml_op Sd0 (o_eqActD (nm := nm') (a := a') (b := b') (c := c') (nm' := nm) (a' := a) (b' := b) (c' := c) Sd0 Sd0) ?_
    rcases Bool.eq_false_or_eq_true (decide (nm' = nm ∧ a' = a ∧ b' = b ∧ c' = c)) with he | he
    · rw [he]
      obtain ⟨rfl, rfl, rfl, rfl⟩ := of_decide_eq_true he
      obtain ⟨what, hra, hT⟩ := hreq
      refine stepR0 ?_
      refine fin2 ⟨((eσ.trans e).trans e2).trans e3, .inl ⟨what, hra, ?_⟩⟩
      rw [← (ba_list T _).2 hT]
      exact Sd0
    · rw [he]
      have hnr := no hreq (of_decide_eq_false he)
      refine stepR0 ?_
      refine ml_call Sd0 Sd0 (tag_c _ _ _) ?_
      rintro ev τ4 ⟨hev, e4⟩
      refine stepR0 ?_
      exact fin2 ⟨(((eσ.trans e).trans e2).trans e3).trans e4, .inr ⟨hnr, ev, Sd0, hev⟩⟩
  · have hnr : ∀ what, ¬ RightA nm a b c what := fun what hr => hno _ _ _ _ (hright what hr)
    obtain ⟨id, rfl, hid⟩ := hev
    refine stepR0 ?_
    refine ml_init (vs := actC ⟨#[]⟩ 0 0 0) Sd0 Sd0 Sd0 rfl rfl rfl fun τ3 e3 g3 => ?_
    refine stepR0 ?_
    refine ml_call Sd0 Sd0 (tag_c _ _ _) ?_
    rintro ev τ4 ⟨hev, e4⟩
    refine stepR0 ?_
    exact fin2 ⟨(((eσ.trans e).trans e2).trans e3).trans e4, .inr ⟨hnr, ev, Sd0, hev⟩⟩
end Go.Proofs.YtepjinaomedecaaDoor
