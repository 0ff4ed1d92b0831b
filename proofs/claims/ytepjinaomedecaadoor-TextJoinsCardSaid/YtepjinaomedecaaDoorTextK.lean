/- TextAll: a text's acts are its lines', one by one; the first line that is none is told. -/
import Derived.Test.YtepjinaomedecaaDoorTextJ
import Derived.Test.YtepjinaomedecaaDoorGridL
namespace Go.Proofs.YtepjinaomedecaaDoor
open Go.Mini
open Go.Proofs.YtepjinaomedecaaDoor.Code
set_option linter.unusedVariables false
set_option linter.unusedSimpArgs false
set_option linter.ambiguousOpen false
attribute [local irreducible] mx ml mld mstep MCalls MYield Ex.thn Ex.inb mxR Ex.thnR Ex.inbR
variable {E : World → Prop}

theorem first_bad {dn dn' l l' tl tl' a a'} (h1 : dn ++ l :: tl = dn' ++ l' :: tl') (r : Reads dn a) (r' : Reads dn' a') (hl : ∀ p, ¬ ReqA l p) (hl' : ∀ p, ¬ ReqA l' p) : dn.length = dn'.length := by
  rcases Nat.lt_trichotomy dn.length dn'.length with h | h | h
  · exfalso
    have h3 : (dn ++ l :: tl)[dn.length]? = some l := by simp
    rw [h1, List.getElem?_append_left h] at h3
    obtain ⟨p, hp⟩ := r'.mem l (List.mem_of_getElem? h3)
    exact hl p hp
  · exact h
  · exfalso
    have h3 : (dn' ++ l' :: tl')[dn'.length]? = some l' := by simp
    rw [← h1, List.getElem?_append_left h] at h3
    obtain ⟨p, hp⟩ := r.mem l' (List.mem_of_getElem? h3)
    exact hl' p hp
/-- What is known of text.All's answer. -/
structure Alls (E : World → Prop) (s : ByteArray) (τ0 : H) (lv : Value) (nn : Int) (ev : Value) (num : Int) : Prop where
  cnum : ∀ τ', Ext τ0 τ' → MCalls E Tryd.prog 14 [ev] τ' (fun r τ'' => r = .int .i64 num ∧ Ext τ' τ'')
  bad : ∀ dn a l tl, lns s.data.toList = dn ++ l :: tl → Reads dn a → (∀ p, ¬ ReqA l p) → num = 2 ∧ nn = ((dn.length + 1 : Nat) : Int) ∧ lv = .slice none 0 0
  good : ∀ wl, Reads (lns s.data.toList) wl → num = 0 ∧ nn = 0 ∧ ∃ oj, Own τ0 4 lv oj (actsC wl)
theorem alls_of (hE : ∀ w, E w → TextE w) {s : ByteArray} {σ τ : H} {v : Value} (hl : s.size ≤ 20000) (h : allQ σ s v τ) : Ext σ τ ∧ ∃ lv nn ev num, v = .tuple #[lv, .int .i64 nn, ev] ∧ Alls E s τ lv nn ev num := by
  obtain ⟨e, ⟨_, ac, ov, oj, rfl, hrd, hown, hoj⟩ | ⟨_, dn, a, l, tl, ev, rfl, hln, hrd, hno, hev⟩ | ⟨h, _⟩⟩ := h
  · refine ⟨e, ov, 0, .nilIface, 0, rfl, fun τ' _ => tNumN τ', fun dn a l tl h1 h2 h3 => ?_, fun wl h1 => ⟨rfl, rfl, oj, ?_⟩⟩
    · obtain ⟨p, hp⟩ := hrd.mem l (by rw [h1]; simp)
      exact absurd hp (h3 p)
    · rw [h1.uniq hrd]; exact hown
  · refine ⟨e, _, _, ev, 2, rfl, fun τ' e' => tNum_c (fun w h => (hE w h).et) (hev.of_ext e').chain, fun dn' a' l' tl' h1 h2 h3 => ⟨rfl, ?_, rfl⟩, fun wl h1 => ?_⟩
    · rw [first_bad (hln.symm.trans h1) hrd h2 hno h3]
    · obtain ⟨p, hp⟩ := h1.mem l (by rw [hln]; simp)
      exact absurd hp (hno p)
  · omega
theorem all_big (hE : ∀ w, E w → TextE w) {s : ByteArray} {σ τ : H} {v : Value} (hl : 20000 < s.size) (h : allQ σ s v τ) : ∃ ev, v = .tuple #[.slice none 0 0, .int .i64 0, ev] ∧ TagE τ ev textB 8 := by
  obtain ⟨e, ⟨h, _⟩ | ⟨h, _⟩ | ⟨_, ev, rfl, hev⟩⟩ := h
  · omega
  · omega
  · exact ⟨ev, rfl, hev⟩
/-- A slice of acts. -/
theorem own4 {σ : H} {v : Value} {oj : Option Nat} {wl : List Act4} (h : Own σ 4 v oj (actsC wl)) : ∃ p, v = .slice p wl.length wl.length ∧ (wl ≠ [] → ∃ id, p = some ⟨id, 0, none⟩ ∧ σ.get id = .cells 4 (actsC wl)) := by
  generalize hc : actsC wl = cs at h
  cases h with
  | nil =>
    have : wl = [] := by
      have := actsC_len wl
      rw [hc] at this
      exact List.length_eq_zero_iff.1 (by simp at this; omega)
    subst this
    exact ⟨none, rfl, fun h => absurd rfl h⟩
  | @full id n _ h hlen =>
    have : n = wl.length := by
      have := actsC_len wl
      rw [hc] at this; omega
    subst this
    exact ⟨_, rfl, fun _ => ⟨id, rfl, h⟩⟩
theorem acts_row : ∀ {wl : List Act4} {i : Nat} (h : i < wl.length), ((actsC wl).drop (i * 4)).take 4 = actC (wl[i]).1 (wl[i]).2.1 (wl[i]).2.2.1 (wl[i]).2.2.2
  | p :: wl, 0, _ => by simp [actsC, actC]
  | p :: wl, i + 1, h => by
    have h' : i < wl.length := by simpa using h
    have := acts_row h'
    rw [List.getElem_cons_succ, ← this, show (i + 1) * 4 = 4 + i * 4 by omega, ← List.drop_drop]
    rfl
theorem row4 {σ : H} {id : Nat} {wl : List Act4} {i : Nat} (hg : σ.get id = .cells 4 (actsC wl)) (h : i < wl.length) : σ.row id (i * 4) 4 = some (actC (wl[i]).1 (wl[i]).2.1 (wl[i]).2.2.1 (wl[i]).2.2.2) := by
  rw [← acts_row h]
  simp only [H.row, hg]
  exact rowL_some _ _ _ (by rw [actsC_len]; omega)

set_option maxHeartbeats 4000000 in
theorem textAll_c (hE : ∀ w, E w → TextE w) (s : ByteArray) {σ : H} : MCalls E Tryd.prog 9 [.string s] σ (fun v τ => v = .bool true) := by
  refine mcalls_of fn9 (by simp) ?_
  unfold c9 r9
  refine stepR0 ?_
  refine ml_call Sd0 Sd0 (xAwake_c hE _) ?_
  rintro _ τ ⟨rfl, e1⟩
  by_cases hs : 3000 < s.size
  · have hs' : (3000 : Int) < (s.size : Int) := by omega
    (have fx := hs'; refine stepR ?_; clear fx)
    refine ml_call (have fx := hs'; Sd) (have fx := hs'; Sd) (xAwake_c hE _) ?_
    rintro _ τ2 ⟨rfl, e2⟩
    (have fx := hs'; refine stepR ?_; clear fx)
    exact fin1 (have fx := hs'; Sd)
  have hs' : ¬ (3000 : Int) < (s.size : Int) := by omega
  (have fx := hs'; refine stepR ?_; clear fx)
  refine ml_call (have fx := hs'; Sd) (have fx := hs'; Sd) (xAll_c hE s (by omega) τ) ?_
  intro v τ0 hq
  obtain ⟨e0, lv, nn, ev, num, rfl, al⟩ := alls_of hE (by omega) hq
  clear hq
  refine stepR0 ?_
  refine mx_loop (fun n ts' τ' => ∃ i fr dn wl wv oj, n = s.size - i ∧ fr ≤ i ∧ i ≤ s.size ∧ (i < s.size ∨ fr = s.size) ∧ (10 : UInt8) ∉ (s.data.toList.drop fr).take (i - fr) ∧ lns s.data.toList = dn ++ lns (s.data.toList.drop fr) ∧ Reads dn wl ∧ dn.length ≤ fr ∧ Ext τ0 τ' ∧ Own τ' 4 wv oj (actsC wl) ∧ (∀ j, oj = some j → τ0.size ≤ j) ∧
    ts' 0 = .string s ∧ ts' 3 = lv ∧ ts' 4 = .int .i64 nn ∧ ts' 5 = ev ∧ ts' 6 = .int .i64 ((fr : Nat) : Int) ∧ ts' 7 = .int .i64 ((dn.length : Nat) : Int) ∧ ts' 8 = wv ∧ ts' 9 = .int .i64 ((i : Nat) : Int)) s.size ?_ ?_
  · exact ⟨0, 0, [], [], _, _, rfl, Nat.le_refl _, Nat.zero_le _, by omega, by simp, rfl, .nil, Nat.le_refl _, Ext.refl _, .nil, fun j h => (by cases h), Sd0, Sd0, Sd0, Sd0, Sd0, Sd0, Sd0, Sd0⟩
  rintro _ ts1 τ1 ⟨i, fr, dn, wl, wv, oj, rfl, hfi, his, hend, hno10, hln, hrd, hdf, eτ, own, hoj, t0, t3, t4, t5, t6, t7, t8, t9⟩
  rcases Nat.lt_or_ge i s.size with hlt | hge
  · have hlt' : ((i : Nat) : Int) < (s.size : Int) := by omega
    (have fx := And.intro t0 (And.intro t9 hlt'); refine stepR ?_; clear fx)
    have hbd : ∃ c : Bool, (c = true → i + 1 < s.size ∧ s.data.toList.getD i 0 ≠ 10) ∧ (c = false → lns (s.data.toList.drop fr) = (s.extract fr (i + 1)).data.toList :: lns (s.data.toList.drop (i + 1))) ∧
        ((((s.data.toList.getD i 0).toNat : Int) != 10) = true ∧ ((((i : Nat) : Int) < (s.size : Int) - 1) ∧ c = true ∨ ¬ (((i : Nat) : Int) < (s.size : Int) - 1) ∧ c = false) ∨ (((s.data.toList.getD i 0).toNat : Int) != 10) = false ∧ c = false) := by
      have hx : (s.extract fr (i + 1)).data.toList = (s.data.toList.drop fr).take (i - fr) ++ [s.data.toList.getD i 0] := by
        rw [ext_list, show i + 1 - fr = i - fr + 1 by omega, List.take_add_one]
        congr 1
        rw [List.getElem?_drop, show fr + (i - fr) = i by omega, List.getD_eq_getElem?_getD, List.getElem?_eq_getElem (by rw [ba_len]; exact hlt)]
        rfl
      have hsp : s.data.toList.drop fr = (s.data.toList.drop fr).take (i - fr) ++ s.data.toList.getD i 0 :: s.data.toList.drop (i + 1) := by
        conv => lhs; rw [← List.take_append_drop (i - fr) (s.data.toList.drop fr)]
        congr 1
        rw [List.drop_drop, show fr + (i - fr) = i by omega, List.drop_eq_getElem_cons (by rw [ba_len]; exact hlt), List.getD_eq_getElem?_getD, List.getElem?_eq_getElem (by rw [ba_len]; exact hlt)]
        rfl
      rw [hx]
      by_cases hb : s.data.toList.getD i 0 = 10
      · refine ⟨false, fun h => (by cases h), fun _ => ?_, .inr ⟨by rw [hb]; rfl, rfl⟩⟩
        rw [hb] at hsp ⊢
        conv => lhs; rw [hsp]
        exact lns_row _ hno10
      · have hb' : (((s.data.toList.getD i 0).toNat : Int) != 10) = true := by
          rw [bne_iff_ne]
          intro h
          apply hb
          have : (s.data.toList.getD i 0).toNat = 10 := by omega
          exact UInt8.toNat_inj.1 this
        by_cases hl : i + 1 < s.size
        · exact ⟨true, fun _ => ⟨hl, hb⟩, fun h => (by cases h), .inl ⟨hb', .inl ⟨by omega, rfl⟩⟩⟩
        · refine ⟨false, fun h => (by cases h), fun _ => ?_, .inl ⟨hb', .inr ⟨by omega, rfl⟩⟩⟩
          have hd : s.data.toList.drop (i + 1) = [] := List.drop_of_length_le (by rw [ba_len]; omega)
          rw [hd] at hsp ⊢
          conv => lhs; rw [hsp]
          rw [lns_last (by simp only [List.mem_append, List.mem_singleton, not_or]; exact ⟨hno10, fun h => hb h.symm⟩) (by simp)]
          rfl
    obtain ⟨c, hct, hcf, hcc⟩ := hbd
    refine ml_mid (fun ts' τ' => τ' = τ1 ∧ ts' 46 = .bool c ∧ ts' 0 = .string s ∧ ts' 3 = lv ∧ ts' 4 = .int .i64 nn ∧ ts' 5 = ev ∧ ts' 6 = .int .i64 ((fr : Nat) : Int) ∧ ts' 7 = .int .i64 ((dn.length : Nat) : Int) ∧ ts' 8 = wv ∧ ts' 9 = .int .i64 ((i : Nat) : Int)) ?_ ?_
    · rcases hcc with ⟨h1, ⟨h2, rfl⟩ | ⟨h2, rfl⟩⟩ | ⟨h1, rfl⟩
      · (have fx := And.intro h1 (And.intro h2 (And.intro t0 t9)); refine stepR ?_; clear fx)
        exact ⟨rfl, Sd0, (have fx := t0; Sd), (have fx := t3; Sd), (have fx := t4; Sd), (have fx := t5; Sd), (have fx := t6; Sd), (have fx := t7; Sd), (have fx := t8; Sd), (have fx := t9; Sd)⟩
      · (have fx := And.intro h1 (And.intro h2 (And.intro t0 t9)); refine stepR ?_; clear fx)
        exact ⟨rfl, Sd0, (have fx := t0; Sd), (have fx := t3; Sd), (have fx := t4; Sd), (have fx := t5; Sd), (have fx := t6; Sd), (have fx := t7; Sd), (have fx := t8; Sd), (have fx := t9; Sd)⟩
      · (have fx := And.intro h1 (And.intro t0 t9); refine stepR ?_; clear fx)
        exact ⟨rfl, (have fx := h1; Sd), (have fx := t0; Sd), (have fx := t3; Sd), (have fx := t4; Sd), (have fx := t5; Sd), (have fx := t6; Sd), (have fx := t7; Sd), (have fx := t8; Sd), (have fx := t9; Sd)⟩
    clear hcc t0 t3 t4 t5 t6 t7 t8 t9 ts1
    rintro ts1 _ ⟨rfl, t46, t0, t3, t4, t5, t6, t7, t8, t9⟩
    cases c with
    | true =>
      (have fx := And.intro t46 t9; refine stepR ?_; clear fx)
      obtain ⟨h1, h2⟩ := hct rfl
      refine ⟨s.size - (i + 1), by omega, i + 1, fr, dn, wl, wv, oj, rfl, by omega, by omega, .inl h1, ?_, hln, hrd, hdf, eτ, own, hoj, (have fx := t0; Sd), (have fx := t3; Sd), (have fx := t4; Sd), (have fx := t5; Sd), (have fx := t6; Sd), (have fx := t7; Sd), (have fx := t8; Sd), Sd0⟩
      rw [show i + 1 - fr = i - fr + 1 by omega, List.take_add_one, List.getElem?_drop, show fr + (i - fr) = i by omega, List.getElem?_eq_getElem (by rw [ba_len]; exact hlt)]
      rw [List.getD_eq_getElem?_getD, List.getElem?_eq_getElem (by rw [ba_len]; exact hlt)] at h2
      simp only [List.mem_append, not_or]
      exact ⟨hno10, fun h => h2 (List.mem_singleton.1 h).symm⟩
    | false =>
      (have fx := And.intro t46 (And.intro t0 (And.intro t6 (And.intro t7 t9))); refine stepR ?_; clear fx)
      refine ml_op Sd0 (o_slcS (p := ((fr : Nat) : Int)) (q := ((i : Nat) : Int) + 1) (k := .i64) (k' := .i64) Sd0 Sd0 Sd0 (by omega) (by omega) (by omega)) ?_
      rw [Int.toNat_natCast, show ((i : Int) + 1).toNat = i + 1 by omega]
      have hls : (s.extract fr (i + 1)).size ≤ s.size := by rw [ByteArray.size_extract]; omega
      have hln2 := hcf rfl
      generalize s.extract fr (i + 1) = line at hls hln2
      rw [hln2] at hln
      refine ml_call Sd0 Sd0 (read_c hE line (by omega) _) ?_
      rintro _ τ2 ⟨e2, ⟨nm, a, b, c, rfl, hreq⟩ | ⟨fv, rfl, hfv, hno⟩⟩
      · refine stepR0 ?_
        refine ml_init (vs := actC nm a b c) Sd0 Sd0 Sd0 rfl rfl rfl fun τ3 e3 g3 => ?_
        have hxsz : τ0.size ≤ τ2.size := (eτ.trans e2).size
        generalize τ2.size = xid at g3 hxsz ⊢
        have eτ3 := (eτ.trans e2).trans e3
        have own3 := (own.of_ext e2).of_ext e3
        clear e2 e3 eτ own τ2
        refine stepR0 ?_
        refine ml_call Sd0 Sd0 (tNumN τ3) ?_
        rintro _ τ4 ⟨rfl, e4⟩
        have gx : τ4.get xid = .cells 0 [.string nm, .int .i64 a, .int .i64 b, .int .i64 c] := e4.cells g3
        have own4' := own3.of_ext e4
        have eτ4 := eτ3.trans e4
        clear g3 own3 eτ3 e4 τ3
        have own5 := own4'.of_ext (Ext.push τ4 (.cells 4 (actC nm a b c)))
        have gl : (τ4.push (.cells 4 (actC nm a b c))).get τ4.size = .cells 4 (actC nm a b c) := H.get_push_self _ _
        have hone : (actsC wl ++ actC nm a b c).all one = true := by rw [List.all_append, actsC_one]; rfl
        have hlen := actsC_len wl
        have hrl := hrd.len
        (have fx := And.intro gx t8; refine stepR ?_; clear fx)
        refine ml_appM (k := 1) (vs := actC nm a b c) Sd0 Sd0 Sd0 own5 gl rfl (by omega) (by omega) hone (by omega) (by rw [hlen]; simp only [appMax]; omega) fun v' τ6 own6 hs6 hk6 => ?_
        rw [show actsC wl ++ actC nm a b c = actsC (wl ++ [((nm, a, b, c) : Act4)]) from actsC_snoc wl (nm, a, b, c)] at own6
        have hps : (τ4.push (.cells 4 [.string nm, .int .i64 a, .int .i64 b, .int .i64 c])).size = τ4.size + 1 := H.size_push _ _
        have hps' : (τ4.push (.cells 4 (actC nm a b c))).size = τ4.size + 1 := H.size_push _ _
        have hz4 := eτ4.size
        (have fx := t9; refine stepR ?_; clear fx)
        refine ⟨s.size - (i + 1), by omega, i + 1, i + 1, dn ++ [line.data.toList], wl ++ [((nm, a, b, c) : Act4)], v', _, rfl, by omega, by omega, by omega, by simp, ?_, hrd.snoc hreq, by simp; omega, ?_, own6, ?_, (have fx := t0; Sd), (have fx := t3; Sd), (have fx := t4; Sd), (have fx := t5; Sd), Sd0, (by first | with_reducible rfl | (simp only [go_sem, reduceIte, Nat.reduceEqDiff, reduceCtorEq, Nat.reduceAdd, Nat.reduceLeDiff, Int.reduceNeg, Int.reduceToNat, Int.reduceBEq, Int.reduceBNe, Int.reduceLT, Int.reduceLE, Int.reduceAdd, Int.reduceSub, t7, List.length_append, List.length_singleton]; done) | (simp only [go_sem, reduceIte, Nat.reduceEqDiff, reduceCtorEq, Nat.reduceAdd, Nat.reduceLeDiff, Int.reduceNeg, Int.reduceToNat, Int.reduceBEq, Int.reduceBNe, Int.reduceLT, Int.reduceLE, Int.reduceAdd, Int.reduceSub, t7, List.length_append, List.length_singleton]; with_reducible rfl) | (simp only [go_sem, reduceIte, Nat.reduceEqDiff, reduceCtorEq, Nat.reduceAdd, Nat.reduceLeDiff, Int.reduceNeg, Int.reduceToNat, Int.reduceBEq, Int.reduceBNe, Int.reduceLT, Int.reduceLE, Int.reduceAdd, Int.reduceSub, t7, List.length_append, List.length_singleton]; (try simp (disch := omega) only [i64wrap, u64wrap, u8wrap, u32wrap, i32wrap]); first | with_reducible rfl | done | (refine congrArg (Value.int _) ?_; omega)) | (simp only [go_sem, reduceIte, Nat.reduceEqDiff, reduceCtorEq, Nat.reduceAdd, Nat.reduceLeDiff, Int.reduceNeg, Int.reduceToNat, Int.reduceBEq, Int.reduceBNe, Int.reduceLT, Int.reduceLE, Int.reduceAdd, Int.reduceSub, t7, List.length_append, List.length_singleton]; rfl)), Sd0, Sd0⟩
        · rw [hln]; simp
        · refine ⟨by omega, fun k hk => ?_⟩
          rw [hk6 k (by omega) (fun e => by have := hoj k e; omega), H.get_push_lt (by omega)]
          exact eτ4.get k hk
        · intro j hj
          injection hj with hj; omega
      · obtain ⟨rfl, rfl, rfl⟩ := al.bad dn wl line.data.toList _ hln hrd (fun p hp => hno _ _ _ _ hp)
        refine stepR0 ?_
        refine ml_init (vs := actC ⟨#[]⟩ 0 0 0) Sd0 Sd0 Sd0 rfl rfl rfl fun τ3 e3 g3 => ?_
        have hfv3 := hfv.of_ext e3
        have eτ3 := (eτ.trans e2).trans e3
        refine stepR0 ?_
        refine ml_call Sd0 Sd0 (tNum_c (fun w h => (hE w h).et) hfv3.chain) ?_
        rintro _ τ4 ⟨rfl, e4⟩
        have hk7 : (((dn.length : Nat) : Int) + 1 == (((dn.length : Nat) : Int) + 1)) = true := by simp
        have eτ4 := eτ3.trans e4
        (have fx := t5; refine stepR ?_; clear fx)
        refine ml_call Sd0 (have fx := t5; Sd) (al.cnum τ4 eτ4) ?_
        rintro _ τ5 ⟨rfl, e5⟩
        rw [Int.natCast_add, show ((1 : Nat) : Int) = 1 from rfl] at t4
        (have fx := And.intro t3 (And.intro t4 (And.intro t7 hk7)); refine stepR ?_; clear fx)
        exact fin1 (have fx := hk7; Sd)
  · obtain rfl : i = s.size := by omega
    obtain rfl : fr = s.size := by omega
    rw [List.drop_of_length_le (by rw [ba_len]; exact Nat.le_refl _), show lns [] = [] from rfl, List.append_nil] at hln
    rw [← hln] at hrd
    have hlt' : ¬ ((s.size : Nat) : Int) < (s.size : Int) := by omega
    obtain ⟨rfl, rfl, oj', own'⟩ := al.good wl hrd
    obtain ⟨p, rfl, hp⟩ := own4 own
    obtain ⟨p', rfl, hp'⟩ := own4 (own'.of_ext eτ)
    (have fx := And.intro t0 (And.intro t9 hlt'); refine stepR ?_; clear fx)
    clear own own' hno10
    have hwb : wl.length ≤ 3000 := by
      have := hrd.len
      rw [hln] at this; omega
    refine mx_loop (fun n ts' τ' => ∃ i, n = wl.length - i ∧ i ≤ wl.length ∧ τ' = τ1 ∧ ts' 3 = .slice p' wl.length wl.length ∧ ts' 4 = .int .i64 0 ∧ ts' 5 = ev ∧ ts' 8 = .slice p wl.length wl.length ∧ ts' 12 = .int .i64 ((i : Nat) : Int)) wl.length ?_ ?_
    · exact ⟨0, rfl, Nat.zero_le _, rfl, (have fx := t3; Sd), (have fx := t4; Sd), (have fx := t5; Sd), (have fx := t8; Sd), Sd0⟩
    clear t0 t3 t4 t5 t6 t7 t8 t9 ts1
    rintro _ ts1 τ5 ⟨i, rfl, hi, rfl, t3, t4, t5, t8, t12⟩
    rcases Nat.lt_or_ge i wl.length with hil | hig
    · have hil' : ((i : Nat) : Int) < ((wl.length : Nat) : Int) := by omega
      have hwl : wl ≠ [] := fun e => by rw [e] at hil; simp at hil
      obtain ⟨id, rfl, hg⟩ := hp hwl
      obtain ⟨id', rfl, hg'⟩ := hp' hwl
      have hnn : (((wl.length : Nat) : Int) != ((wl.length : Nat) : Int)) = false := by simp
      (have fx := And.intro t3 (And.intro t8 (And.intro t12 (And.intro hil' hnn))); refine stepR ?_; clear fx)
      refine mld_loadN (vs := actC (wl[i]).1 (wl[i]).2.1 (wl[i]).2.2.1 (wl[i]).2.2.2) (have fx := hnn; Sd) (have fx := hnn; Sd) (row4 hg' hil) ?_
      (have fx := And.intro t3 (And.intro t8 (And.intro t12 (And.intro hil' hnn))); refine stepR ?_; clear fx)
      refine mld_loadN (vs := actC (wl[i]).1 (wl[i]).2.1 (wl[i]).2.2.1 (wl[i]).2.2.2) (have fx := hnn; Sd) (have fx := hnn; Sd) (row4 hg hil) ?_
      refine mld_op (have fx := hnn; Sd) (o_eqActD (nm := (wl[i]).1) (a := (wl[i]).2.1) (b := (wl[i]).2.2.1) (c := (wl[i]).2.2.2) (nm' := (wl[i]).1) (a' := (wl[i]).2.1) (b' := (wl[i]).2.2.1) (c' := (wl[i]).2.2.2) (have fx := hnn; Sd) (have fx := hnn; Sd)) ?_
      rw [decide_eq_true (show (wl[i]).1 = (wl[i]).1 ∧ (wl[i]).2.1 = (wl[i]).2.1 ∧ (wl[i]).2.2.1 = (wl[i]).2.2.1 ∧ (wl[i]).2.2.2 = (wl[i]).2.2.2 from ⟨rfl, rfl, rfl, rfl⟩)]
      (have fx := And.intro hnn t12; refine stepR ?_; clear fx)
      exact ⟨wl.length - (i + 1), by omega, i + 1, rfl, by omega, rfl, (have fx := t3; Sd), (have fx := t4; Sd), (have fx := t5; Sd), (have fx := t8; Sd), Sd0⟩
    · obtain rfl : i = wl.length := by omega
      have hil' : ¬ ((wl.length : Nat) : Int) < ((wl.length : Nat) : Int) := by omega
      generalize hN : (20001 : Int) = N
      have hN' : N = ((20001 : Nat) : Int) := hN.symm
      clear hN
      generalize hM : 20001 = M at hN'
      have hM' : 20000 < M ∧ M ≤ 100000 := by omega
      subst hN'
      clear hM
      (have fx := And.intro t3 (And.intro t8 (And.intro t12 hil')); refine stepR ?_; clear fx)
      refine ml_op Sd0 (o_mks1 Sd0 Sd0 (by omega) (by omega)) ?_
      rw [show List.replicate M (Value.int .u8 0) = bytesL (List.replicate M 0) by rw [bytesL, List.map_replicate]; rfl]
      have eP := Ext.push τ5 (.cells 1 (bytesL (List.replicate M 0)))
      have hr : (τ5.push (.cells 1 (bytesL (List.replicate M 0)))).row τ5.size 0 M = some (bytesL (List.replicate M 0)) := row_of (H.get_push_self _ _) (rowAll (by rw [bytesL, List.length_map, List.length_replicate]))
      have eτP := eτ.trans eP
      generalize τ5.push (.cells 1 (bytesL (List.replicate M 0))) = τ2 at *
      have hrz : (List.replicate M (0 : UInt8)).length = M := List.length_replicate
      generalize List.replicate M (0 : UInt8) = Z at *
      refine ml_op Sd0 (o_b2sR Sd0 hr) ?_
      have hZz : (⟨Z.toArray⟩ : ByteArray).size = M := hrz
      generalize (⟨Z.toArray⟩ : ByteArray) = B at *
      refine ml_call Sd0 Sd0 (xAll_c hE B (by omega) τ2) ?_
      intro v τ3 hq
      have e3 := hq.1
      obtain ⟨ev2, rfl, hev2⟩ := all_big hE (by omega) hq
      (have fx := And.intro t3 (And.intro t4 (And.intro t5 t8)); refine stepR ?_; clear fx)
      refine ml_call Sd0 Sd0 (al.cnum τ3 (eτP.trans e3)) ?_
      rintro _ τ4 ⟨rfl, e4⟩
      have hnn : (((wl.length : Nat) : Int) == ((wl.length : Nat) : Int)) = true := by simp
      (have fx := And.intro t3 (And.intro t4 (And.intro t5 (And.intro t8 hnn))); refine stepR ?_; clear fx)
      refine ml_call (have fx := hnn; Sd) (have fx := hnn; Sd) (tNum_c (fun w h => (hE w h).et) (hev2.of_ext e4).chain) ?_
      rintro _ τ5 ⟨rfl, e5⟩
      (have fx := hnn; refine stepR ?_; clear fx)
      exact fin1 (have fx := hnn; Sd)
end Go.Proofs.YtepjinaomedecaaDoor
