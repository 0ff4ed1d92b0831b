/- TextTells: commands are told in decimal, one a line. -/
import Derived.Test.YtepjinaomedecaaDoorTextH
import Derived.Test.YtepjinaomedecaaDoorRdG
namespace Go.Proofs.YtepjinaomedecaaDoor
open Go.Mini
open Go.Proofs.YtepjinaomedecaaDoor.Code
set_option linter.unusedVariables false
set_option linter.unusedSimpArgs false
set_option linter.ambiguousOpen false
attribute [local irreducible] mx ml mld mstep MCalls Ex.thn Ex.inb
variable {E : World → Prop}

def I64b (n : Int) : Prop := -9223372036854775808 ≤ n ∧ n ≤ 9223372036854775807
theorem itoa_min : Lib.itoa (-9223372036854775808) = [45, 57, 50, 50, 51, 51, 55, 50, 48, 51, 54, 56, 53, 52, 55, 55, 53, 56, 48, 56] := by
  simp [Lib.itoa, Lib.decDigits]
theorem itoa_str (n : Int) (h : I64b n) : ∃ I : ByteArray, (⟨(Lib.itoa n).toArray⟩ : ByteArray) = I ∧ I.data.toList = Lib.itoa n ∧ I.size ≤ 20 := by
  refine ⟨_, rfl, rfl, ?_⟩
  exact itoa_len h.1 h.2

set_option maxHeartbeats 1000000 in
theorem rDec_c (n : Int) (h : I64b n) (σ : H) : MCalls E Tryd.prog 26 [.int .i64 n] σ (fun v τ => v = .string ⟨(Lib.itoa n).toArray⟩ ∧ Ext σ τ) := by
  obtain ⟨h0, h1⟩ := h
  by_cases hn : n < 0
  · refine mcalls_of fn26 (by simp) ?_
    unfold c26 r26
    by_cases hm : n = -9223372036854775808
    · have hm' : (n == -9223372036854775808) = true := by simp [hm]
      (have fx := And.intro hn hm'; refine stepR ?_; clear fx)
      exact fin1 ⟨by rw [hm, itoa_min]; exact Sd0, Ext.refl _⟩
    · have hm' : (n == -9223372036854775808) = false := by simp [hm]
      obtain ⟨k, hk⟩ := Int.eq_ofNat_of_zero_le (show 0 ≤ -n by omega)
      have hk : 0 - n = (k : Int) := by omega
      (have fx := And.intro hn (And.intro hm' hk); refine stepR ?_; clear fx)
      refine ml_call Sd0 Sd0 (rDecN_c k (by omega) _) ?_
      rintro _ τ ⟨rfl, e⟩
      have hl := decD_len 20 k (by omega) (by omega)
      refine ml_op Sd0 (o_cat (a := ⟨#[45]⟩) (b := ⟨(Lib.decDigits k).toArray⟩) Sd0 Sd0 (by show 1 + (Lib.decDigits k).length ≤ _; omega)) ?_
      have hs : ((⟨#[45]⟩ : ByteArray) ++ ⟨(Lib.decDigits k).toArray⟩) = ⟨(Lib.itoa n).toArray⟩ := by
        apply ba_ext'
        rw [ByteArray.data_append, Array.toList_append]
        unfold Lib.itoa
        rw [if_pos hn, show n.natAbs = k by omega]; rfl
      rw [hs]
      refine stepR0 ?_
      exact fin1 ⟨Sd0, e⟩
  · obtain ⟨k, rfl⟩ := Int.eq_ofNat_of_zero_le (show 0 ≤ n by omega)
    have : Lib.itoa (k : Int) = Lib.decDigits k := by
      unfold Lib.itoa
      rw [if_neg hn]; rfl
    rw [this]
    exact rDecN_c k (by omega) σ

abbrev Cmd := Int × Int
def cmdC (p : Cmd) : List Value := [.int .i64 p.1, .int .i64 p.2]
attribute [go_sem] cmdC
def cmdT (p : Cmd) : List UInt8 := Lib.itoa p.1 ++ 32 :: (Lib.itoa p.2 ++ [10])
def tellT (l : List Cmd) : List UInt8 := l.flatMap cmdT
def CmdOK (p : Cmd) : Prop := I64b p.1 ∧ I64b p.2
theorem cmdT_len {p : Cmd} (h : CmdOK p) : (cmdT p).length ≤ 42 := by
  have h1 := itoa_len h.1.1 h.1.2
  have h2 := itoa_len h.2.1 h.2.2
  simp [cmdT]; omega
theorem tellT_snoc (l : List Cmd) (i : Nat) (hi : i < l.length) : tellT (l.take (i + 1)) = tellT (l.take i) ++ cmdT l[i] := by
  rw [List.take_add_one, List.getElem?_eq_getElem hi, tellT, List.flatMap_append]
  simp [tellT]
theorem tellT_len : ∀ {l : List Cmd}, (∀ p ∈ l, CmdOK p) → ∀ i, (tellT (l.take i)).length ≤ 42 * i
  | [], _, i => by simp [tellT]
  | p :: l, h, 0 => by simp [tellT]
  | p :: l, h, i + 1 => by
    have h1 := cmdT_len (h p (by simp))
    have h2 := tellT_len (l := l) (fun q hq => h q (by simp [hq])) i
    have : tellT ((p :: l).take (i + 1)) = cmdT p ++ tellT (l.take i) := by simp [tellT]
    rw [this, List.length_append]; omega

theorem Bld.lt {σ : H} {i : Nat} {oj : Option Nat} {l : List UInt8} (h : Bld σ i oj l) : ∀ j, oj = some j → j < σ.size := by
  intro j hj
  cases h with
  | fresh _ => cases hj
  | full hl hi hj2 hn => injection hj with hj; subst hj; exact H.lt_of_live (by rw [hj2]; simp)
set_option maxHeartbeats 2000000 in
theorem xTell_c (hE : ∀ w, E w → TextE w) {sv : Value} {ps : List Cmd} (hok : ∀ p ∈ ps, CmdOK p) (h60 : ps.length ≤ 60) {σ : H} (hr : RdN σ 2 sv (ps.map cmdC)) : MCalls E Tryd.prog 27 [sv] σ (fun v τ => v = .string ⟨(tellT ps).toArray⟩) := by
  obtain ⟨p, cap, rfl, hp⟩ := hr.len
  rw [List.length_map]
  refine mcalls_of fn27 (by simp) ?_
  unfold c27 r27
  refine stepR0 ?_
  refine mx_loop (fun n ts τ => ∃ i oj, n = ps.length - i ∧ i ≤ ps.length ∧ Ext σ τ ∧ σ.size < τ.size ∧ Bld τ σ.size oj (tellT (ps.take i)) ∧ (∀ j, oj = some j → σ.size < j) ∧ ts 3 = .pointer (some ⟨σ.size, 0, none⟩) ∧ ts 6 = .slice p ps.length cap ∧ ts 7 = .int .i64 ((ps.length : Nat) : Int) ∧ ts 8 = .int .i64 ((i : Nat) : Int)) ps.length ?_ ?_
  · exact ⟨0, _, rfl, Nat.zero_le _, Ext.push _ _, by simp, .fresh (H.get_push_self _ _), fun j h => (by cases h), Sd0, Sd0, Sd0, Sd0⟩
  rintro _ ts τ ⟨i, oj, rfl, hi, e, hsz, hb, hoj, t3, t6, t7, t8⟩
  rcases Nat.lt_or_ge i ps.length with hil | hig
  · have hil' : ((i : Nat) : Int) < ((ps.length : Nat) : Int) := by omega
    obtain ⟨id, rfl, hrow, hrows⟩ := hp (fun h => by have := congrArg List.length h; simp at this; rw [this] at hil; simp at hil)
    have hrw := rowE e (hrows i (by rw [List.length_map]; exact hil))
    rw [List.getElem_map] at hrw
    have hpk := hok _ (List.getElem_mem hil)
    have hln := tellT_len hok i
    have hsn := tellT_snoc ps i hil
    have hcl := cmdT_len hpk
    generalize hq : ps[i] = q at hrw hpk hsn hcl
    obtain ⟨a, b⟩ := q
    (have fx := And.intro t6 (And.intro t7 (And.intro t8 hil')); refine stepR ?_; clear fx)
    refine ml_loadN (vs := cmdC (a, b)) Sd0 Sd0 hrw ?_
    refine stepR0 ?_
    refine ml_init (vs := cmdC (a, b)) Sd0 Sd0 Sd0 rfl rfl rfl fun τ2 e2 g2 => ?_
    have g2' : τ2.get τ.size = .cells 0 [.int .i64 a, .int .i64 b] := g2
    have hb2 : Bld τ2 σ.size oj (tellT (ps.take i)) := hb.of_eq (e2.get _ hsz) fun j hj => e2.get j (hb.lt j hj)
    have e2' := e.trans e2
    have hz2 := e2.size
    generalize τ.size = xid at g2' hsz hz2 ⊢
    (have fx := g2'; refine stepR ?_; clear fx)
    refine mld_call Sd0 Sd0 (itoa_c hE a hpk.1.1 hpk.1.2 τ2) (fun _ _ h => by rw [h.2]; exact Ext.refl _) ?_
    rintro _ τ3 ⟨rfl, rfl⟩
    obtain ⟨A, hA, hAl, hAs⟩ := itoa_str a hpk.1
    obtain ⟨C, hC, hCl, hCs⟩ := itoa_str b hpk.2
    rw [hA]
    refine mld_op Sd0 (o_cat (a := A) (b := ⟨#[32]⟩) Sd0 Sd0 (by show A.size + 1 ≤ _; omega)) ?_
    refine mld_callW Sd0 Sd0 (itoa_c hE b hpk.2.1 hpk.2.2 _) ?_
    rintro _ τ4 ⟨rfl, rfl⟩
    rw [hC]
    have z1 : (A ++ ⟨#[32]⟩ : ByteArray).size = A.size + 1 := ByteArray.size_append
    have l1 : (A ++ ⟨#[32]⟩ : ByteArray).data.toList = Lib.itoa a ++ [32] := by rw [ByteArray.data_append, Array.toList_append, hAl]
    generalize (A ++ ⟨#[32]⟩ : ByteArray) = A1 at z1 l1 ⊢
    refine mld_op Sd0 (o_cat (a := A1) (b := C) Sd0 Sd0 (by omega)) ?_
    have z2 : (A1 ++ C).size = A1.size + C.size := ByteArray.size_append
    have l2 : (A1 ++ C).data.toList = Lib.itoa a ++ [32] ++ Lib.itoa b := by rw [ByteArray.data_append, Array.toList_append, l1, hCl]
    generalize A1 ++ C = A2 at z2 l2 ⊢
    refine mld_op Sd0 (o_cat (a := A2) (b := ⟨#[10]⟩) Sd0 Sd0 (by show A2.size + 1 ≤ _; omega)) ?_
    have z3 : (A2 ++ ⟨#[10]⟩ : ByteArray).size = A2.size + 1 := ByteArray.size_append
    have l3 : (A2 ++ ⟨#[10]⟩ : ByteArray).data.toList = cmdT (a, b) := by rw [ByteArray.data_append, Array.toList_append, l2]; simp [cmdT]
    generalize (A2 ++ ⟨#[10]⟩ : ByteArray) = A3 at z3 l3 ⊢
    refine mld_callW Sd0 (have fx := t3; Sd) (bWrite_c hb2 A3 (by omega) (by omega)) ?_
    rintro _ τ5 ⟨rfl, oj', hb5, hs5, hj5, hk5⟩
    rw [l3, ← hsn] at hb5
    (have fx := t8; refine stepR ?_; clear fx)
    refine ⟨ps.length - (i + 1), by omega, i + 1, oj', rfl, by omega, ⟨by have := e2'.size; omega, fun k hk => ?_⟩, by omega, hb5, fun j hj => ?_, (have fx := t3; Sd), (have fx := t6; Sd), (have fx := t7; Sd), Sd0⟩
    · rw [hk5 k (by omega) (by omega) (fun e => by have := hoj k e; omega)]
      exact e2'.get k hk
    · rcases hj5 with h | h
      · exact hoj j (h ▸ hj)
      · rw [h] at hj; injection hj with hj; omega
  · obtain rfl : i = ps.length := by omega
    have hil' : ¬ ((ps.length : Nat) : Int) < ((ps.length : Nat) : Int) := by omega
    rw [List.take_length] at hb
    (have fx := And.intro t7 (And.intro t8 (And.intro hil' t3)); refine stepR ?_; clear fx)
    refine ml_call Sd0 (have fx := t3; Sd) (bString_c hb) ?_
    rintro _ τ2 ⟨rfl, _, _⟩
    refine stepR0 ?_
    exact fin1 Sd0

set_option maxHeartbeats 2000000 in
theorem textTells_c (hE : ∀ w, E w → TextE w) {sv : Value} {ps : List Cmd} (hok : ∀ p ∈ ps, CmdOK p) {σ : H} (hr : RdN σ 2 sv (ps.map cmdC)) : MCalls E Tryd.prog 8 [sv] σ (fun v τ => v = .bool true) := by
  obtain ⟨p, cap, rfl, hp⟩ := hr.len
  rw [List.length_map] at hr ⊢
  refine mcalls_of fn8 (by simp) ?_
  unfold c8 r8
  refine stepR0 ?_
  refine ml_call Sd0 Sd0 (xAwake_c hE _) ?_
  rintro _ τ ⟨rfl, e1⟩
  by_cases hs : 60 < ps.length
  · have hs' : (60 : Int) < ((ps.length : Nat) : Int) := by omega
    (have fx := hs'; refine stepR ?_; clear fx)
    refine ml_call (have fx := hs'; Sd) (have fx := hs'; Sd) (xAwake_c hE _) ?_
    rintro _ τ2 ⟨rfl, e2⟩
    (have fx := hs'; refine stepR ?_; clear fx)
    exact fin1 (have fx := hs'; Sd)
  have hs' : ¬ (60 : Int) < ((ps.length : Nat) : Int) := by omega
  (have fx := hs'; refine stepR ?_; clear fx)
  refine mx_loop (fun n ts τ => ∃ i s, n = ps.length - i ∧ i ≤ ps.length ∧ Ext σ τ ∧ s.data.toList = tellT (ps.take i) ∧ ts 0 = .slice p ps.length cap ∧ ts 3 = .string s ∧ ts 4 = .int .i64 ((i : Nat) : Int)) ps.length ?_ ?_
  · exact ⟨0, ⟨#[]⟩, rfl, Nat.zero_le _, e1, rfl, Sd0, Sd0, Sd0⟩
  rintro _ ts τ2 ⟨i, s, rfl, hi, e, hsl, t0, t3, t4⟩
  rcases Nat.lt_or_ge i ps.length with hil | hig
  · have hil' : ((i : Nat) : Int) < ((ps.length : Nat) : Int) := by omega
    obtain ⟨id, rfl, hrow, hrows⟩ := hp (fun h => by have := congrArg List.length h; simp at this; rw [this] at hil; simp at hil)
    have hrw := rowE e (hrows i (by rw [List.length_map]; exact hil))
    rw [List.getElem_map] at hrw
    have hpk := hok _ (List.getElem_mem hil)
    have hln := tellT_len hok i
    have hsn := tellT_snoc ps i hil
    have hcl := cmdT_len hpk
    have hsz : s.size ≤ 42 * i := by rw [← hsl, ba_len] at hln; exact hln
    generalize hq : ps[i] = q at hrw hpk hsn hcl
    obtain ⟨a, b⟩ := q
    have hc0 := row_cell hrw (q := 0) (by omega)
    have hc1 := row_cell hrw (q := 1) (by omega)
    (have fx := And.intro t0 (And.intro t3 (And.intro t4 hil')); refine stepR ?_; clear fx)
    refine mld_op Sd0 (o_load1 (v := .int .i64 a) Sd0 hc0) ?_
    (have fx := And.intro t0 (And.intro t3 (And.intro t4 hil')); refine stepR ?_; clear fx)
    refine mld_op Sd0 (o_load1 (v := .int .i64 b) Sd0 hc1) ?_
    refine mld_call Sd0 Sd0 (rDec_c a hpk.1 τ2) (fun _ _ h => h.2) ?_
    rintro _ τ3 ⟨rfl, e3⟩
    obtain ⟨A, hA, hAl, hAs⟩ := itoa_str a hpk.1
    obtain ⟨C, hC, hCl, hCs⟩ := itoa_str b hpk.2
    rw [hA]
    refine mld_op Sd0 (o_cat (a := s) (b := A) (have fx := t3; Sd) Sd0 (by omega)) ?_
    have z0 : (s ++ A).size = s.size + A.size := ByteArray.size_append
    have l0 : (s ++ A).data.toList = tellT (ps.take i) ++ Lib.itoa a := by rw [ByteArray.data_append, Array.toList_append, hAl, hsl]
    generalize s ++ A = A0 at z0 l0 ⊢
    refine mld_op Sd0 (o_cat (a := A0) (b := ⟨#[32]⟩) Sd0 Sd0 (by show A0.size + 1 ≤ _; omega)) ?_
    refine mld_callW Sd0 Sd0 (rDec_c b hpk.2 _) ?_
    rintro _ τ4 ⟨rfl, e4⟩
    rw [hC]
    have z1 : (A0 ++ ⟨#[32]⟩ : ByteArray).size = A0.size + 1 := ByteArray.size_append
    have l1 : (A0 ++ ⟨#[32]⟩ : ByteArray).data.toList = tellT (ps.take i) ++ Lib.itoa a ++ [32] := by rw [ByteArray.data_append, Array.toList_append, l0]
    generalize (A0 ++ ⟨#[32]⟩ : ByteArray) = A1 at z1 l1 ⊢
    refine mld_op Sd0 (o_cat (a := A1) (b := C) Sd0 Sd0 (by omega)) ?_
    have z2 : (A1 ++ C).size = A1.size + C.size := ByteArray.size_append
    have l2 : (A1 ++ C).data.toList = tellT (ps.take i) ++ Lib.itoa a ++ [32] ++ Lib.itoa b := by rw [ByteArray.data_append, Array.toList_append, l1, hCl]
    generalize A1 ++ C = A2 at z2 l2 ⊢
    refine mld_op Sd0 (o_cat (a := A2) (b := ⟨#[10]⟩) Sd0 Sd0 (by show A2.size + 1 ≤ _; omega)) ?_
    have l3 : (A2 ++ ⟨#[10]⟩ : ByteArray).data.toList = tellT (ps.take (i + 1)) := by rw [ByteArray.data_append, Array.toList_append, l2, hsn]; simp [cmdT]
    generalize (A2 ++ ⟨#[10]⟩ : ByteArray) = A3 at l3 ⊢
    (have fx := t4; refine stepR ?_; clear fx)
    exact ⟨ps.length - (i + 1), by omega, i + 1, A3, rfl, by omega, (e.trans e3).trans e4, l3, (have fx := t0; Sd), Sd0, Sd0⟩
  · obtain rfl : i = ps.length := by omega
    have hil' : ¬ ((ps.length : Nat) : Int) < ((ps.length : Nat) : Int) := by omega
    rw [List.take_length] at hsl
    have hr2 := hr.of_ext e
    (have fx := And.intro t0 (And.intro t4 hil'); refine stepR ?_; clear fx)
    refine ml_call Sd0 (have fx := t0; Sd) (xTell_c hE hok (by omega) hr2) ?_
    rintro _ τ3 rfl
    have hb : ((⟨(tellT ps).toArray⟩ : ByteArray).toList == s.toList) = true := by
      rw [beq_iff_eq, toList_data, toList_data, hsl]
    (have fx := And.intro t3 hb; refine stepR ?_; clear fx)
    exact fin1 (have fx := hb; Sd)
end Go.Proofs.YtepjinaomedecaaDoor
