/- TextBack. -/
import Derived.Test.YtepjinaomedecaaDoorTextH
namespace Go.Proofs.YtepjinaomedecaaDoor
open Go.Mini
open Go.Proofs.YtepjinaomedecaaDoor.Code
set_option linter.unusedVariables false
set_option linter.unusedSimpArgs false
set_option linter.ambiguousOpen false
attribute [local irreducible] mx ml mld mstep MCalls Ex.thn Ex.inb
variable {E : World → Prop}

set_option maxHeartbeats 4000000 in
theorem rALay_c (nm : ByteArray) (a b c : Int) {what : List UInt8} (hr : RightA nm a b c what) (σ : H) : MCalls E Tryd.prog 25 [actV nm a b c] σ (fun v τ => Ext σ τ ∧ v = .string ⟨(layL nm a b c what).toArray⟩) := by
  have hn := hr.needs
  obtain ⟨_, _, _, hns⟩ := hr.i64
  refine mcalls_of fn25 (by simp) ?_
  unfold c25 r25 actV
  refine stepR0 ?_
  have g0 := H.get_push_self σ (.cells 0 [.string nm, .int .i64 a, .int .i64 b, .int .i64 c])
  have e0 := Ext.push σ (.cells 0 [.string nm, .int .i64 a, .int .i64 b, .int .i64 c])
  (have fx := g0; refine stepR ?_; clear fx)
  refine ml_call Sd0 Sd0 (rNeeds_c nm _) ?_
  rintro _ τ2 ⟨rfl, e2⟩
  rw [hn, Option.getD_some]
  have g2 := e2.cells g0
  generalize hwb : (⟨what.toArray⟩ : ByteArray) = wb
  have hwbl : wb.data.toList = what := by rw [← hwb]
  have hwbs : wb.size = what.length := by rw [← hwb]; rfl
  have hw3 : what.length ≤ 3 := by
    rcases (needs_what hn).1 with h | h | h | h <;> (rw [h]; decide)
  clear hwb
  (have fx := g2; refine stepR ?_; clear fx)
  refine ml_init (vs := [.int .i64 a, .int .i64 b, .int .i64 c]) Sd0 Sd0 Sd0 rfl rfl rfl fun τ3 e3 g3 => ?_
  have eσ := (e0.trans e2).trans e3
  generalize τ2.size = xid at g3 ⊢
  refine stepR0 ?_
  refine mx_loop (fun n ts τ => ∃ (i : Nat) (s : ByteArray), n = what.length - i ∧ i ≤ what.length ∧ Ext τ3 τ ∧ s.data.toList = joinW nm.data.toList (wordsOf (what.take i) a b c) ∧ s.size ≤ 1000 + i * 4 ∧
      ts 3 = .string s ∧ ts 4 = .string wb ∧ ts 5 = .pointer (some ⟨xid, 0, none⟩) ∧ ts 6 = .int .i64 ((i : Nat) : Int)) what.length ?_ ?_
  · exact ⟨0, nm, rfl, by omega, Ext.refl _, by simp [joinW, wordsOf], by omega, Sd0, Sd0, Sd0, Sd0⟩
  rintro n ts τ ⟨i, s, rfl, hi, e, hs, hss, t3, t4, t5, t6⟩
  rcases Nat.lt_or_ge i what.length with hil | hig
  · have hil' : ((i : Nat) : Int) < (wb.size : Int) := by omega
    have hch : wb.data.toList.getD i 0 = what[i] := by
      rw [hwbl, List.getD_eq_getElem?_getD, List.getElem?_eq_getElem hil]; rfl
    have hmem : what[i] ∈ what := List.getElem_mem hil
    have hv := hr.val hmem
    have htk : wordsOf (what.take (i + 1)) a b c = wordsOf (what.take i) a b c ++ [Lib.decDigits (valOf a b c what[i]).toNat] := by
      unfold wordsOf
      rw [List.take_add_one, List.getElem?_eq_getElem hil, List.map_append]; rfl
    obtain ⟨k, hk3, hsub, hget⟩ : ∃ k : Nat, k < 3 ∧ ((what[i].toNat : Int) - 97 = (k : Int)) ∧ ([.int .i64 a, .int .i64 b, .int .i64 c] : List Value)[k]? = some (.int .i64 (valOf a b c what[i])) := by
      have hcs : what[i] = 97 ∨ what[i] = 98 ∨ what[i] = 99 := by
        have hw := (needs_what hn).1
        revert hmem
        generalize what[i] = ch
        intro hmem
        rcases hw with h | h | h | h <;> rw [h] at hmem <;> simp only [List.mem_cons, List.not_mem_nil, or_false] at hmem
        · exact hmem
        · exact .inr (.inl hmem)
        · exact hmem.imp id .inl
      rcases hcs with h | h | h <;> rw [h]
      · exact ⟨0, by omega, by decide, rfl⟩
      · exact ⟨1, by omega, by decide, rfl⟩
      · exact ⟨2, by omega, by decide, rfl⟩
    have h256 : what[i].toNat < 256 := UInt8.toNat_lt _
    have gx := e.cells g3
    generalize what[i] = ch at hch hv htk hsub hget h256
    generalize valOf a b c ch = v at hv htk hget
    obtain ⟨m, rfl⟩ := Int.eq_ofNat_of_zero_le hv.1
    (have fx := And.intro t6 (And.intro t4 (And.intro hil' t3)); refine stepR ?_; clear fx)
    refine ml_op Sd0 (o_cat (a := s) (b := ⟨#[32]⟩) (have fx := t3; Sd) Sd0 (by show s.size + 1 ≤ _; omega)) ?_
    (have fx := And.intro t4 (And.intro t6 (And.intro hch (And.intro hsub (And.intro t5 (And.intro gx hget))))); refine stepR ?_; clear fx)
    refine ml_call (have fx := hch; Sd) (have fx := hch; Sd) (rDecN_c m (by omega) τ) ?_
    rintro _ τ4 ⟨rfl, e4⟩
    have hdl := dec_len (n := m) (by omega)
    have hD : (⟨(Lib.decDigits m).toArray⟩ : ByteArray).size = (Lib.decDigits m).length := rfl
    have hss2 : (s ++ ⟨#[32]⟩ : ByteArray).size = s.size + 1 := by rw [ByteArray.size_append]; rfl
    refine ml_op Sd0 (o_cat (a := s ++ ⟨#[32]⟩) (b := ⟨(Lib.decDigits m).toArray⟩) (have fx := hch; Sd) (have fx := hch; Sd) (by omega)) ?_
    (have fx := t6; refine stepR ?_; clear fx)
    refine ⟨_, by omega, i + 1, s ++ ⟨#[32]⟩ ++ ⟨(Lib.decDigits m).toArray⟩, rfl, hil, e.trans e4, ?_, by rw [ByteArray.size_append]; omega, Sd0, (have fx := t4; Sd), (have fx := t5; Sd), Sd0⟩
    rw [ByteArray.data_append, ByteArray.data_append, Array.toList_append, Array.toList_append, hs, htk, joinW_snoc]
    simp
  obtain rfl : i = what.length := by omega
  have hil' : ¬ ((what.length : Nat) : Int) < (wb.size : Int) := by omega
  rw [List.take_length] at hs
  (have fx := And.intro t6 (And.intro t4 (And.intro hil' t3)); refine stepR ?_; clear fx)
  refine ml_op Sd0 (o_cat (a := s) (b := ⟨#[10]⟩) (have fx := t3; Sd) Sd0 (by show s.size + 1 ≤ _; omega)) ?_
  have hfin : (s ++ ⟨#[10]⟩ : ByteArray) = ⟨(layL nm a b c what).toArray⟩ := by
    apply ba_ext'
    rw [ByteArray.data_append, Array.toList_append, hs]; rfl
  rw [hfin]
  refine stepR0 ?_
  exact fin1 ⟨eσ.trans e, Sd0⟩

set_option maxHeartbeats 4000000 in
theorem textBack_c (hE : ∀ w, E w → TextE w) (nm : ByteArray) (a b c : Int) (ia : I64 a) (ib : I64 b) (ic : I64 c) {σ : H} :
    MCalls E Tryd.prog 5 [actV nm a b c] σ (fun v τ => v = .bool true) := by
  refine mcalls_of fn5 (by simp) ?_
  unfold c5 r5 actV
  refine stepR0 ?_
  have gA := H.get_push_self σ (.cells 0 [.string nm, .int .i64 a, .int .i64 b, .int .i64 c])
  generalize σ.push (.cells 0 [.string nm, .int .i64 a, .int .i64 b, .int .i64 c]) = τ0 at gA ⊢
  refine ml_call Sd0 Sd0 (xAwake_c hE _) ?_
  rintro _ τ ⟨rfl, e1⟩
  have gA1 := e1.cells gA
  by_cases hs : 50 < nm.size
  · have hs' : (50 : Int) < (nm.size : Int) := by omega
    (have fx := And.intro gA1 hs'; refine stepR ?_; clear fx)
    refine ml_call (have fx := hs'; Sd) (have fx := hs'; Sd) (xAwake_c hE _) ?_
    rintro _ τ2 ⟨rfl, e2⟩
    (have fx := hs'; refine stepR ?_; clear fx)
    exact fin1 (have fx := hs'; Sd)
  have hs' : ¬ (50 : Int) < (nm.size : Int) := by omega
  (have fx := And.intro gA1 hs'; refine stepR ?_; clear fx)
  refine ml_call (have fx := hs'; Sd) (have fx := hs'; Sd) (aOf_c nm a b c τ) ?_
  rintro _ τ2 ⟨rfl, e2⟩
  refine stepR0 ?_
  refine ml_call Sd0 Sd0 (xLay_c hE nm (by omega) a b c ia ib ic τ2) ?_
  intro v τ3 hlay
  obtain ⟨T, ev, num, rfl, e3, hnum, hT⟩ := lay_num hE hlay
  have gA3 := e3.cells (e2.cells gA1)
  (have fx := gA3; refine stepR ?_; clear fx)
  refine ml_call Sd0 Sd0 (rARight_c nm a b c τ3) ?_
  rintro _ τ4 ⟨e4, r, rfl, hr⟩
  have gA4 := e4.cells gA3
  cases r
  · have hn : ∀ what, ¬ RightA nm a b c what := fun what h => by cases hr.2 ⟨what, h⟩
    rcases hT with ⟨_, what, h, _⟩ | ⟨rfl, rfl, _⟩
    · exact absurd h (hn what)
    refine stepR0 ?_
    refine ml_call Sd0 Sd0 (hnum τ4 e4) ?_
    rintro _ τ5 ⟨rfl, e5⟩
    refine stepR0 ?_
    exact fin1 Sd0
  obtain ⟨what, hra⟩ := hr.1 rfl
  rcases hT with ⟨rfl, hT⟩ | ⟨_, _, hn⟩
  rotate_left
  · exact absurd hra (hn what)
  have hTs : T.size ≤ 100000 := by
    obtain ⟨w2, hr2, hl2⟩ := id hT
    have h1 : T.data.toList.length = T.size := Array.length_toList
    have h2 := joinW_len nm.data.toList (wordsOf w2 a b c) 3 fun x hx => by
      obtain ⟨ch, hch, rfl⟩ := List.mem_map.1 hx
      have := hr2.val hch
      exact dec_len (by omega)
    have h3 := congrArg List.length hl2
    unfold layL at h3
    rw [h1, List.length_append] at h3
    have h4 : nm.data.toList.length = nm.size := Array.length_toList
    have h5 : (wordsOf w2 a b c).length ≤ 3 := by
      unfold wordsOf; rw [List.length_map]
      rcases (needs_what hr2.needs).1 with h | h | h | h <;> (rw [h]; decide)
    have h6 : (wordsOf w2 a b c).length * (3 + 1) ≤ 3 * 4 := Nat.mul_le_mul h5 (Nat.le_refl _)
    simp only [List.length_cons, List.length_nil] at h3
    omega
  refine stepR0 ?_
  refine ml_call Sd0 Sd0 (read_c hE T hTs τ4) ?_
  rintro _ τ5 ⟨e5, ⟨nm', a', b', c', rfl, hreq⟩ | ⟨_, _, _, hno⟩⟩
  rotate_left
  · exact absurd hT (hno _ _ _ _)
  obtain ⟨rfl, rfl, rfl, rfl⟩ := req_uniq hT hreq
  have gA5 := e5.cells gA4
  refine stepR0 ?_
  refine ml_init (vs := actC nm a b c) Sd0 Sd0 Sd0 rfl rfl rfl fun τ6 e6 g6 => ?_
  have gA6 := e6.cells gA5
  have g6' : τ6.get τ5.size = .cells 0 [.string nm, .int .i64 a, .int .i64 b, .int .i64 c] := g6
  generalize τ5.size = xid at g6' ⊢
  clear g6
  refine stepR0 ?_
  refine mld_callW Sd0 Sd0 (hnum τ6 ((e4.trans e5).trans e6)) ?_
  rintro _ τ7 ⟨rfl, e7⟩
  have gA7 := e7.cells gA6
  have g7 := e7.cells g6'
  (have fx := gA7; refine stepR ?_; clear fx)
  refine mld_callW Sd0 Sd0 (rALay_c nm a b c hra τ7) ?_
  rintro _ τ8 ⟨e8, rfl⟩
  have hTT : (T.toList == (⟨(layL nm a b c what).toArray⟩ : ByteArray).toList) = true := by
    obtain ⟨w2, hr2, hl2⟩ := id hT
    have := hr2.needs
    rw [hra.needs] at this
    obtain rfl := Option.some.inj this
    rw [beq_iff_eq, toList_data, toList_data, hl2]
  (have fx := hTT; refine stepR ?_; clear fx)
  refine mld_callW (have fx := hTT; Sd) (have fx := hTT; Sd) (tNumN τ8) ?_
  rintro _ τ9 ⟨rfl, e9⟩
  have gA9 := e9.cells (e8.cells gA7)
  have g9 := e9.cells (e8.cells g7)
  (have fx := And.intro hTT (And.intro gA9 g9); refine stepR ?_; clear fx)
  refine mld_call (have fx := hTT; Sd) (have fx := hTT; Sd) (aOf_c nm a b c τ9) (fun _ _ h => h.2) ?_
  rintro _ τ10 ⟨rfl, e10⟩
  refine mld_op (have fx := hTT; Sd) (o_eqActD (nm := nm) (a := a) (b := b) (c := c) (nm' := nm) (a' := a) (b' := b) (c' := c) (have fx := hTT; Sd) (have fx := hTT; Sd)) ?_
  rw [decide_eq_true (show nm = nm ∧ a = a ∧ b = b ∧ c = c from ⟨rfl, rfl, rfl, rfl⟩)]
  (have fx := hTT; refine stepR ?_; clear fx)
  exact fin1 (have fx := hTT; Sd)
end Go.Proofs.YtepjinaomedecaaDoor
