/- TextJoins: requests' texts, one behind the other, are read as the acts of both. -/
import Derived.Test.YtepjinaomedecaaDoorTextK
import Derived.Test.YtepjinaomedecaaDoorAppN
namespace Go.Proofs.YtepjinaomedecaaDoor
open Go.Mini
open Go.Proofs.YtepjinaomedecaaDoor.Code
set_option linter.unusedVariables false
set_option linter.unusedSimpArgs false
set_option linter.ambiguousOpen false
attribute [local irreducible] mx ml mld mstep MCalls Ex.thn Ex.inb
variable {E : World → Prop}

def acC (p : Act4) : List Value := actC p.1 p.2.1 p.2.2.1 p.2.2.2
def ActOK (p : Act4) : Prop := I64 p.2.1 ∧ I64 p.2.2.1 ∧ I64 p.2.2.2
theorem acC_flat (l : List Act4) : (l.map acC).flatten = actsC l := by rw [actsC, List.flatMap_def]; rfl
def smallA (l : List Act4) : Bool := decide (l.length ≤ 60) && l.all fun p => decide (p.1.size ≤ 50)

set_option maxHeartbeats 1000000 in
theorem rSmall_c {sv : Value} {al : List Act4} {σ : H} (hr : RdN σ 4 sv (al.map acC)) : MCalls E Tryd.prog 29 [sv] σ (fun v τ => τ = σ ∧ v = .int .i64 (if smallA al then 1 else 0)) := by
  obtain ⟨p, cap, rfl, hp⟩ := hr.len
  rw [List.length_map]
  refine mcalls_of fn29 (by simp) ?_
  unfold c29 r29
  by_cases h60 : 60 < al.length
  · have h60' : (60 : Int) < ((al.length : Nat) : Int) := by omega
    have hs : smallA al = false := by simp [smallA]; omega
    (have fx := h60'; refine stepR ?_; clear fx)
    rw [hs]
    exact fin1 ⟨rfl, Sd0⟩
  have h60' : ¬ (60 : Int) < ((al.length : Nat) : Int) := by omega
  (have fx := h60'; refine stepR ?_; clear fx)
  refine mx_loop (fun n ts τ => ∃ i, n = al.length - i ∧ i ≤ al.length ∧ τ = σ ∧ (∀ q ∈ al.take i, q.1.size ≤ 50) ∧ ts 0 = .slice p al.length cap ∧ ts 3 = .int .i64 ((i : Nat) : Int)) al.length ?_ ?_
  · exact ⟨0, rfl, Nat.zero_le _, rfl, by simp, Sd0, Sd0⟩
  rintro _ ts τ ⟨i, rfl, hi, rfl, hq, t0, t3⟩
  rcases Nat.lt_or_ge i al.length with hil | hig
  · have hil' : ((i : Nat) : Int) < ((al.length : Nat) : Int) := by omega
    obtain ⟨id, rfl, hrow, hrows⟩ := hp (fun h => by have := congrArg List.length h; simp at this; rw [this] at hil; simp at hil)
    have hrw := hrows i (by rw [List.length_map]; exact hil)
    rw [List.getElem_map] at hrw
    have hc0 := row_cell hrw (q := 0) (by omega)
    (have fx := And.intro t0 (And.intro t3 hil'); refine stepR ?_; clear fx)
    refine ml_load1 (v := .string (al[i]).1) Sd0 Sd0 hc0 ?_
    by_cases h50 : 50 < (al[i]).1.size
    · have h50' : (50 : Int) < ((al[i]).1.size : Int) := by omega
      have hs : smallA al = false := by
        unfold smallA
        rw [Bool.and_eq_false_iff]
        right
        rw [List.all_eq_false]
        exact ⟨al[i], List.getElem_mem hil, by simp; omega⟩
      (have fx := h50'; refine stepR ?_; clear fx)
      rw [hs]
      exact fin1 ⟨rfl, Sd0⟩
    · have h50' : ¬ (50 : Int) < ((al[i]).1.size : Int) := by omega
      (have fx := And.intro h50' t3; refine stepR ?_; clear fx)
      refine ⟨al.length - (i + 1), by omega, i + 1, rfl, by omega, rfl, fun q hm => ?_, (have fx := t0; Sd), Sd0⟩
      rw [List.take_add_one, List.getElem?_eq_getElem hil] at hm
      rcases List.mem_append.1 hm with hm | hm
      · exact hq q hm
      · simp at hm; subst hm; omega
  · obtain rfl : i = al.length := by omega
    have hil' : ¬ ((al.length : Nat) : Int) < ((al.length : Nat) : Int) := by omega
    have hs : smallA al = true := by
      unfold smallA
      rw [List.take_length] at hq
      rw [Bool.and_eq_true, List.all_eq_true]
      exact ⟨by simp; omega, fun q hm => by simpa using hq q hm⟩
    (have fx := And.intro t0 (And.intro t3 hil'); refine stepR ?_; clear fx)
    rw [hs]
    exact fin1 ⟨rfl, Sd0⟩
theorem small_of {l : List Act4} (h : smallA l = true) : l.length ≤ 60 ∧ ∀ q ∈ l, q.1.size ≤ 50 := by
  unfold smallA at h
  rw [Bool.and_eq_true, List.all_eq_true] at h
  exact ⟨by simpa using h.1, fun q hq => by simpa using h.2 q hq⟩

theorem needs_no10 {nm what : List UInt8} (h : needsL nm = some what) : (10 : UInt8) ∉ nm := by
  unfold needsL at h
  repeat' split at h
  all_goals cases h
  all_goals (rename_i e; subst e; decide)
theorem req_row {T : List UInt8} {p : Act4} (h : ReqA T p) : ∃ row, T = row ++ [10] ∧ (10 : UInt8) ∉ row ∧ T.length ≤ 20 := by
  obtain ⟨what, hr, rfl⟩ := h
  obtain ⟨hw, _, hn5⟩ := needs_what hr.needs
  have hn10 := needs_no10 hr.needs
  have hwl : what.length ≤ 3 := by rcases hw with rfl | rfl | rfl | rfl <;> simp
  have hv : ∀ ch ∈ what, (10 : UInt8) ∉ Lib.decDigits (valOf p.2.1 p.2.2.1 p.2.2.2 ch).toNat ∧ (Lib.decDigits (valOf p.2.1 p.2.2.1 p.2.2.2 ch).toNat).length ≤ 3 := fun ch hc => by
    have := hr.val hc
    exact ⟨(dec_no (by omega)).2, dec_len (by omega)⟩
  refine ⟨joinW p.1.data.toList (wordsOf what p.2.1 p.2.2.1 p.2.2.2), rfl, ?_, ?_⟩
  · unfold joinW wordsOf
    intro hm
    rcases List.mem_append.1 hm with hm | hm
    · exact hn10 hm
    · obtain ⟨x, hx, hm⟩ := List.mem_flatMap.1 hm
      obtain ⟨ch, hc, rfl⟩ := List.mem_map.1 hx
      rcases List.mem_cons.1 hm with h | h
      · cases h
      · exact (hv ch hc).1 h
  · have hlen : ∀ l : List UInt8, (∀ ch ∈ l, ch ∈ what) → ((l.map fun ch => Lib.decDigits (valOf p.2.1 p.2.2.1 p.2.2.2 ch).toNat).flatMap fun x => 32 :: x).length ≤ 4 * l.length := by
      intro l
      induction l with
      | nil => simp
      | cons ch l ih =>
        intro h
        have h1 := (hv ch (h ch (by simp))).2
        have h2 := ih fun c hc => h c (by simp [hc])
        simp only [List.map_cons, List.flatMap_cons, List.length_append, List.length_cons]; omega
    have := hlen what fun _ h => h
    unfold layL joinW wordsOf
    rw [List.length_append, List.length_append, List.length_singleton]; omega
theorem lns_more {s T : List UInt8} {dn : List (List UInt8)} {p : Act4} (h : ∀ rest, lns (s ++ rest) = dn ++ lns rest) (hT : ReqA T p) : ∀ rest, lns (s ++ T ++ rest) = dn ++ [T] ++ lns rest := by
  obtain ⟨row, rfl, h10, _⟩ := req_row hT
  intro rest
  rw [show s ++ (row ++ [10]) ++ rest = s ++ (row ++ 10 :: rest) by simp, h, lns_row _ h10]
  simp

set_option maxHeartbeats 4000000 in
theorem textJoins_c (hE : ∀ w, E w → TextE w) {sa sb : Value} {al bl : List Act4} (oka : ∀ p ∈ al, ActOK p) (okb : ∀ p ∈ bl, ActOK p) {σ : H} (ra : RdN σ 4 sa (al.map acC)) (rb : RdN σ 4 sb (bl.map acC)) : MCalls E Tryd.prog 10 [sa, sb] σ (fun v τ => v = .bool true) := by
  refine mcalls_of fn10 (by simp) ?_
  unfold c10 r10
  refine stepR0 ?_
  refine ml_call Sd0 Sd0 (xAwake_c hE _) ?_
  rintro _ τ ⟨rfl, e1⟩
  have ra1 := ra.of_ext e1
  have rb1 := rb.of_ext e1
  refine stepR0 ?_
  refine ml_call Sd0 Sd0 (rSmall_c ra1) ?_
  rintro _ τ ⟨rfl, rfl⟩
  cases hsa : smallA al with
  | false =>
    simp only [Bool.false_eq_true, if_false]
    refine stepR0 ?_
    refine ml_call Sd0 Sd0 (xAwake_c hE _) ?_
    rintro _ τ2 ⟨rfl, e2⟩
    refine stepR0 ?_
    exact fin1 Sd0
  | true =>
  simp only [if_true]
  refine stepR0 ?_
  refine ml_call Sd0 Sd0 (rSmall_c rb1) ?_
  rintro _ τ ⟨rfl, rfl⟩
  cases hsb : smallA bl with
  | false =>
    simp only [Bool.false_eq_true, if_false]
    refine stepR0 ?_
    refine ml_call Sd0 Sd0 (xAwake_c hE _) ?_
    rintro _ τ2 ⟨rfl, e2⟩
    refine stepR0 ?_
    exact fin1 Sd0
  | true =>
  simp only [if_true]
  obtain ⟨ha60, ha50⟩ := small_of hsa
  obtain ⟨hb60, hb50⟩ := small_of hsb
  have e28 := Ext.push τ (.cells 4 [])
  have own0 : Own (τ.push (.cells 4 [])) 4 (.slice (some ⟨τ.size, 0, none⟩) 0 0) (some τ.size) [] := .full (n := 0) (H.get_push_self _ _) rfl
  have fa := acC_flat al
  have fb := acC_flat bl
  have la := actsC_len al
  have lb := actsC_len bl
  refine stepR0 ?_
  refine ml_appN Sd0 Sd0 Sd0 own0 (ra1.of_ext e28) (by omega) (by rw [fa]; exact actsC_one al) (by omega) (by rw [fa, la]; simp only [appMax, List.length_nil]; omega) fun v1 τ1 j1 own1 hj1 hs1 hk1 => ?_
  rw [fa, List.nil_append] at own1
  have hsz1 : (τ.push (.cells 4 [])).size = τ.size + 1 := H.size_push _ _
  have e01 : Ext τ τ1 := ⟨by omega, fun k hk => by rw [hk1 k (by omega) (fun e => by injection e with e; omega), H.get_push_lt hk]⟩
  have hj1' : ∀ j, j1 = some j → τ.size ≤ j := fun j hj => by
    rcases hj1 with h | h <;> (rw [h] at hj; injection hj with hj; omega)
  refine stepR0 ?_
  refine ml_appN Sd0 Sd0 Sd0 own1 (rb1.of_ext e01) (by omega) (by rw [fb, List.all_append, actsC_one, actsC_one]; rfl) (by omega) (by rw [fb, la, lb]; simp only [appMax]; omega) fun v2 τ2 j2 own2 hj2 hs2 hk2 => ?_
  rw [fb, show actsC al ++ actsC bl = actsC (al ++ bl) by simp [actsC]] at own2
  have e02 : Ext τ τ2 := ⟨by have := e01.size; omega, fun k hk => by rw [hk2 k (by have := e01.size; omega) (fun e => by have := hj1' _ e; omega)]; exact e01.get k hk⟩
  have hall : (al ++ bl).length ≤ 120 := by rw [List.length_append]; omega
  have hok : ∀ p ∈ al ++ bl, ActOK p ∧ p.1.size ≤ 50 := fun p hp => by
    rcases List.mem_append.1 hp with h | h
    · exact ⟨oka p h, ha50 p h⟩
    · exact ⟨okb p h, hb50 p h⟩
  obtain ⟨p2, rfl, hp2⟩ := own4 own2
  generalize al ++ bl = xl at *
  clear ra1 rb1 ra rb own0 own1 hk1 hk2 hj2 hj1 hj1' la lb fa fb e01 e28 hs1 hsz1 hs2
  refine stepR0 ?_
  refine mx_loop (fun n ts' τ' => ∃ i s dn wl wv oj, n = xl.length - i ∧ i ≤ xl.length ∧ (∀ rest, lns (s.data.toList ++ rest) = dn ++ lns rest) ∧ Reads dn wl ∧ wl.length ≤ i ∧ s.size ≤ 20 * i ∧ Ext τ2 τ' ∧ Own τ' 4 wv oj (actsC wl) ∧ (∀ j, oj = some j → τ2.size ≤ j) ∧
    ts' 5 = .string s ∧ ts' 6 = wv ∧ ts' 7 = .slice p2 xl.length xl.length ∧ ts' 8 = .int .i64 ((i : Nat) : Int)) xl.length ?_ ?_
  · exact ⟨0, ⟨#[]⟩, [], [], _, _, rfl, Nat.zero_le _, fun rest => rfl, .nil, Nat.le_refl _, Nat.le_refl _, Ext.refl _, .nil, fun j h => (by cases h), Sd0, Sd0, Sd0, Sd0⟩
  rintro _ ts τ3 ⟨i, s, dn, wl, wv, oj, rfl, hi, hln, hrd, hwl, hsz, e3, own, hoj, t5, t6, t7, t8⟩
  rcases Nat.lt_or_ge i xl.length with hil | hig
  · have hil' : ((i : Nat) : Int) < ((xl.length : Nat) : Int) := by omega
    obtain ⟨id, rfl, hg⟩ := hp2 (fun e => by rw [e] at hil; simp at hil)
    have hrw := row4 (e3.cells hg) hil
    obtain ⟨⟨ia, ib, ic⟩, hnm⟩ := hok _ (List.getElem_mem hil)
    generalize hq : xl[i] = q at hrw ia ib ic hnm
    obtain ⟨nm, a, b, c⟩ := q
    dsimp only at hrw ia ib ic hnm
    (have fx := And.intro t7 (And.intro t8 hil'); refine stepR ?_; clear fx)
    refine ml_loadN (vs := actC nm a b c) Sd0 Sd0 hrw ?_
    refine ml_call Sd0 Sd0 (aOf_c nm a b c τ3) ?_
    rintro _ τ4 ⟨rfl, e4⟩
    refine ml_call Sd0 Sd0 (xLay_c hE nm (by omega) a b c ia ib ic τ4) ?_
    intro v τ5 hlay
    obtain ⟨T, ev, num, rfl, e5, hnum, hT⟩ := lay_num hE hlay
    refine stepR0 ?_
    refine ml_call Sd0 Sd0 (hnum τ5 (Ext.refl _)) ?_
    rintro _ τ6 ⟨rfl, e6⟩
    have e36 := (e4.trans e5).trans e6
    have e26 := e3.trans e36
    have own6 := own.of_ext e36
    rcases hT with ⟨rfl, hreq⟩ | ⟨rfl, _, hno⟩
    · obtain ⟨row, _, _, hT20⟩ := req_row (p := (nm, a, b, c)) hreq
      have hTs : T.size ≤ 20 := by rw [ba_len] at hT20; exact hT20
      (have fx := t5; refine stepR ?_; clear fx)
      refine ml_op Sd0 (o_cat (a := s) (b := T) Sd0 Sd0 (by omega)) ?_
      have z0 : (s ++ T).size = s.size + T.size := ByteArray.size_append
      have hln2 := lns_more (p := (nm, a, b, c)) hln hreq
      have l0 : (s ++ T).data.toList = s.data.toList ++ T.data.toList := by rw [ByteArray.data_append, Array.toList_append]
      rw [← l0] at hln2
      generalize s ++ T = s2 at z0 hln2 ⊢
      (have fx := And.intro t6 (And.intro t7 t8); refine stepR ?_; clear fx)
      refine ml_loadN (vs := actC nm a b c) Sd0 Sd0 (rowE e36 hrw) ?_
      refine ml_call Sd0 Sd0 (aOf_c nm a b c τ6) ?_
      rintro _ τ7 ⟨rfl, e7⟩
      have e27 := e26.trans e7
      have own7 := (own6.of_ext e7).of_ext (Ext.push τ7 (.cells 4 (actC nm a b c)))
      have gl : (τ7.push (.cells 4 (actC nm a b c))).get τ7.size = .cells 4 (actC nm a b c) := H.get_push_self _ _
      have hone : (actsC wl ++ actC nm a b c).all one = true := by rw [List.all_append, actsC_one]; rfl
      have hlen := actsC_len wl
      refine stepR0 ?_
      refine ml_appM (k := 1) (vs := actC nm a b c) Sd0 Sd0 Sd0 own7 gl rfl (by omega) (by omega) hone (by omega) (by rw [hlen]; simp only [appMax]; omega) fun v' τ8 own8 hs8 hk8 => ?_
      rw [show actsC wl ++ actC nm a b c = actsC (wl ++ [((nm, a, b, c) : Act4)]) from actsC_snoc wl (nm, a, b, c)] at own8
      have hps : (τ7.push (.cells 4 [.string nm, .int .i64 a, .int .i64 b, .int .i64 c])).size = τ7.size + 1 := H.size_push _ _
      have hps' : (τ7.push (.cells 4 (actC nm a b c))).size = τ7.size + 1 := H.size_push _ _
      have hz7 := e27.size
      (have fx := t8; refine stepR ?_; clear fx)
      refine ⟨xl.length - (i + 1), by omega, i + 1, s2, dn ++ [T.data.toList], wl ++ [((nm, a, b, c) : Act4)], v', _, rfl, by omega, hln2, hrd.snoc hreq, by simp; omega, by omega, ?_, own8, ?_, Sd0, Sd0, (have fx := t7; Sd), Sd0⟩
      · refine ⟨by omega, fun k hk => ?_⟩
        rw [hk8 k (by omega) (fun e => by have := hoj k e; omega), H.get_push_lt (by omega)]
        exact e27.get k hk
      · intro j hj
        injection hj with hj; omega
    · (have fx := t8; refine stepR ?_; clear fx)
      exact ⟨xl.length - (i + 1), by omega, i + 1, s, dn, wl, wv, oj, rfl, by omega, hln, hrd, by omega, by omega, e26, own6, hoj, (have fx := t5; Sd), (have fx := t6; Sd), (have fx := t7; Sd), Sd0⟩
  · obtain rfl : i = xl.length := by omega
    have hil' : ¬ ((xl.length : Nat) : Int) < ((xl.length : Nat) : Int) := by omega
    have hl0 := hln []
    rw [List.append_nil, show lns [] = [] from rfl, List.append_nil] at hl0
    rw [← hl0] at hrd
    (have fx := And.intro t7 (And.intro t8 (And.intro hil' t5)); refine stepR ?_; clear fx)
    refine ml_call Sd0 (have fx := t5; Sd) (xAll_c hE s (by omega) τ3) ?_
    intro v τ4 hq
    obtain ⟨e4, lv, nn, ev, num, rfl, al'⟩ := alls_of hE (by omega) hq
    clear hq
    obtain ⟨rfl, rfl, oj', own'⟩ := al'.good wl hrd
    obtain ⟨p, rfl, hp⟩ := own4 (own.of_ext e4)
    obtain ⟨p', rfl, hp'⟩ := own4 own'
    refine stepR0 ?_
    refine mx_loop (fun n ts' τ' => ∃ i, n = wl.length - i ∧ i ≤ wl.length ∧ τ' = τ4 ∧ ts' 11 = .slice p' wl.length wl.length ∧ ts' 12 = .int .i64 0 ∧ ts' 13 = ev ∧ ts' 6 = .slice p wl.length wl.length ∧ ts' 14 = .int .i64 ((i : Nat) : Int)) wl.length ?_ ?_
    · exact ⟨0, rfl, Nat.zero_le _, rfl, Sd0, Sd0, Sd0, (have fx := t6; Sd), Sd0⟩
    clear t5 t6 t7 t8 ts
    rintro _ ts1 τ5 ⟨i, rfl, hi, rfl, t3, t4, t5, t8, t12⟩
    rcases Nat.lt_or_ge i wl.length with hil | hig
    · have hil' : ((i : Nat) : Int) < ((wl.length : Nat) : Int) := by omega
      have hwl' : wl ≠ [] := fun e => by rw [e] at hil; simp at hil
      obtain ⟨id, rfl, hg⟩ := hp hwl'
      obtain ⟨id', rfl, hg'⟩ := hp' hwl'
      have hnn : (((wl.length : Nat) : Int) != ((wl.length : Nat) : Int)) = false := by simp
      (have fx := And.intro t3 (And.intro t8 (And.intro t12 (And.intro hil' hnn))); refine stepR ?_; clear fx)
      refine mld_loadN (vs := actC (wl[i]).1 (wl[i]).2.1 (wl[i]).2.2.1 (wl[i]).2.2.2) (have fx := hnn; Sd) (have fx := hnn; Sd) (row4 hg' hil) ?_
      (have fx := And.intro t3 (And.intro t8 (And.intro t12 (And.intro hil' hnn))); refine stepR ?_; clear fx)
      refine mld_loadN (vs := actC (wl[i]).1 (wl[i]).2.1 (wl[i]).2.2.1 (wl[i]).2.2.2) (have fx := hnn; Sd) (have fx := hnn; Sd) (row4 hg hil) ?_
      refine mld_op (have fx := hnn; Sd) (o_eqActD (nm := (wl[i]).1) (a := (wl[i]).2.1) (b := (wl[i]).2.2.1) (c := (wl[i]).2.2.2) (nm' := (wl[i]).1) (a' := (wl[i]).2.1) (b' := (wl[i]).2.2.1) (c' := (wl[i]).2.2.2) (have fx := hnn; Sd) (have fx := hnn; Sd)) ?_
      rw [decide_eq_true (show (wl[i]).1 = (wl[i]).1 ∧ (wl[i]).2.1 = (wl[i]).2.1 ∧ (wl[i]).2.2.1 = (wl[i]).2.2.1 ∧ (wl[i]).2.2.2 = (wl[i]).2.2.2 from ⟨rfl, rfl, rfl, rfl⟩)]
      (have fx := And.intro hnn t12; refine stepR ?_; clear fx)
      exact ⟨wl.length - (i + 1), by omega, i + 1, rfl, by omega, rfl, (have fx := t3; Sd), (have fx := t4; Sd), (have fx := t5; Sd), (have fx := t8; Sd), Sd0⟩
    · obtain rfl : i = wl.length := by omega
      have hil' : ¬ ((wl.length : Nat) : Int) < ((wl.length : Nat) : Int) := by omega
      have hnn : (((wl.length : Nat) : Int) == ((wl.length : Nat) : Int)) = true := by simp
      (have fx := And.intro t5 (And.intro t8 (And.intro t12 hil')); refine stepR ?_; clear fx)
      refine ml_call (have fx := t5; Sd) (have fx := t5; Sd) (al'.cnum _ (Ext.refl _)) ?_
      rintro _ τ6 ⟨rfl, e6⟩
      (have fx := And.intro t3 (And.intro t4 (And.intro t8 hnn)); refine stepR ?_; clear fx)
      exact fin1 (have fx := hnn; Sd)
end Go.Proofs.YtepjinaomedecaaDoor
