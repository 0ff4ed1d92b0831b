import Derived.Test.YtgfmphjccnemmaaDoorSafeH
namespace Go.Proofs.YtgfmphjccnemmaaDoor
open Go.Mini
open Go.Proofs.YtgfmphjccnemmaaDoor.Code
set_option linter.unusedVariables false
set_option linter.unusedSimpArgs false
set_option linter.ambiguousOpen false
attribute [local irreducible] mx ml mld mstep MCalls Ex.thn Ex.inb

/-- The first of the chargers that are on. -/
def onN (S : ByteArray) (o : List Nat) (n : Nat) : List Int := (gkindN S 67 n).filter fun x => !isOff o x.toNat
theorem onN_succ (S : ByteArray) (o : List Nat) (n : Nat) : onN S o (n + 1) = if S.data.toList.getD n 0 == 67 && !isOff o n then onN S o n ++ [(n : Int)] else onN S o n := by
  unfold onN
  rw [gkindN_succ]
  cases h : S.data.toList.getD n 0 == 67
  · simp
  · rw [if_pos rfl, List.filter_append]
    cases h2 : isOff o n <;> simp [h2]
theorem onN_len (S : ByteArray) (o : List Nat) (n : Nat) : (onN S o n).length ≤ n := Nat.le_trans (List.length_filter_le _ _) (gkindN_len S 67 n)
theorem onL_onN (S : ByteArray) (o : List Nat) : onL S o true = onN S o S.size := rfl

theorem rOn_c {σ : H} {W Hh : Int} {S : ByteArray} (hg : gr W Hh S = true) {o : List Nat} (hl : o.length = 8) (ho : ∀ b ∈ o, b < 256) :
    MCalls Tryd.prog 21 [mapV W Hh S, offV o] σ (fun v τ => Out σ τ 1 v (ints (onL S o true))) := by
  refine mcalls_of fn21 (by simp) ?_
  unfold c21 r21 mapV offV
  have hN := (gr_size hg).2.2.2.1
  refine stepR0 ?_
  generalize hτ : H.push (H.push _ _) _ = τ
  have gm : τ.get σ.size = .cells 0 (mapC W Hh S) := by rw [← hτ, H.get_push_ne (by simp), H.get_push_self]; rfl
  have go : τ.get (σ.size + 1) = .cells 0 (offC o) := by rw [← hτ]; exact H.get_push_self (σ.push _) _
  have e1 : Ext σ τ := hτ ▸ (Ext.push _ _).trans (Ext.push _ _)
  clear hτ
  generalize hio : σ.size + 1 = io at go
  generalize him : σ.size = im at gm
  refine mx_loop (fun n ts τ => ∃ (i : Nat) (v : Value), n = S.size - i ∧ i ≤ S.size ∧ Out σ τ 1 v (ints (onN S o i)) ∧ τ.get im = .cells 0 (mapC W Hh S) ∧ τ.get io = .cells 0 (offC o) ∧
    ts 2 = .pointer (some ⟨im, 0, none⟩) ∧ ts 3 = .pointer (some ⟨io, 0, none⟩) ∧ ts 5 = v ∧ ts 6 = .int .i64 ((i : Nat) : Int)) S.size ?_ ?_
  · exact ⟨0, .slice none 0 0, rfl, Nat.zero_le _, Out.nil e1, gm, go, (have fx := him; Sd), (have fx := And.intro him hio; Sd), Sd0, Sd0⟩
  clear gm go e1
  rintro n ts τ ⟨i, v, rfl, hi, out, gm, go, t2, t3, t5, t6⟩
  rcases Nat.lt_or_ge i S.size with hlt | hge
  · have hlen := onN_len S o i
    have hs := onN_succ S o i
    have hc : (((S.data.toList.getD i 0).toNat : Int) == 67) = (S.data.toList.getD i 0 == 67) := u8eq (S.data.toList.getD i 0) 67 (by omega)
    cases h67 : S.data.toList.getD i 0 == 67
    · rw [h67] at hc hs
      (have fx := And.intro t2 (And.intro t6 (And.intro gm hc)); refine stepR ?_; clear fx)
      exact ⟨_, by omega, i + 1, v, rfl, hlt, by rw [hs]; exact out, gm, go, (have fx := t2; Sd), (have fx := t3; Sd), (have fx := t5; Sd), Sd0⟩
    · rw [h67] at hc hs
      (have fx := And.intro t2 (And.intro t3 (And.intro t6 (And.intro gm hc))); refine stepR ?_; clear fx)
      refine ml_loadN (have fx := hc; Sd) (have fx := t3; Sd) (row_of go (rowC8 hl)) ?_
      (have fx := And.intro t6 hc; refine stepR ?_; clear fx)
      refine ml_call (have fx := hc; Sd) (have fx := t6; Sd) (off_c (σ := τ) hl ho i (by omega)) ?_
      rintro _ τ2 ⟨rfl, e2⟩
      have gm2 := e2.cells gm
      have go2 := e2.cells go
      cases hoff : isOff o i
      · rw [hoff] at hs
        (have fx := And.intro hc (And.intro t5 t6); refine stepR ?_; clear fx)
        refine ml_appOut Sd0 (have fx := t5; Sd) Sd0 ((out.of_ext e2).of_ext (Ext.push _ _)) (H.get_push_self _ _) (by omega) (by simp only [appMax]; omega) fun v' τ3 out3 keep => ?_
        have gm3 := keep im _ ((Ext.push _ _).cells gm2) (by simp) (by simp)
        have go3 := keep io _ ((Ext.push _ _).cells go2) (by simp) (by simp)
        (have fx := t6; refine stepR ?_; clear fx)
        exact ⟨_, by omega, i + 1, v', rfl, hlt, by rw [hs]; exact out3, gm3, go3, (have fx := t2; Sd), (have fx := t3; Sd), Sd0, Sd0⟩
      · rw [hoff] at hs
        (have fx := And.intro hc t6; refine stepR ?_; clear fx)
        exact ⟨_, by omega, i + 1, v, rfl, hlt, by rw [hs]; exact out.of_ext e2, gm2, go2, (have fx := t2; Sd), (have fx := t3; Sd), (have fx := t5; Sd), Sd0⟩
  · have : i = S.size := by omega
    subst this
    (have fx := And.intro t2 (And.intro t5 (And.intro t6 gm)); refine stepR ?_; clear fx)
    refine fin1 ?_
    simp only [go_sem, reduceIte, Nat.reduceEqDiff, reduceCtorEq, Nat.reduceAdd, Nat.reduceLeDiff, Int.reduceNeg, Int.reduceToNat, Int.reduceBEq, Int.reduceBNe, Int.reduceLT, Int.reduceLE, Int.reduceAdd, Int.reduceSub, t5]
    exact out

theorem isOff_turnZ {o : List Nat} (hl : o.length = 8) (c : Int) {i : Nat} (hi : i < 64) (is : Bool) : isOff (turn o c is) i = if (i : Int) = c then is else isOff o i := by
  by_cases hc : 0 ≤ c ∧ c < 64
  · obtain ⟨n, rfl⟩ := Int.eq_ofNat_of_zero_le hc.1
    rw [isOff_turn hl (by omega) hi]
    by_cases e : i = n
    · subst e; simp
    · rw [if_neg e, if_neg (show ¬ (i : Int) = (n : Int) by omega)]
  · unfold turn; rw [if_neg hc, if_neg (fun e => hc (by omega))]

set_option maxHeartbeats 4000000 in
theorem safeOns_c {σ : H} (W Hh : Int) (S : ByteArray) {o : List Nat} (hl : o.length = 8) (ho : ∀ b ∈ o, b < 256) (c : Int) (is : Bool) :
    MCalls Tryd.prog 4 [mapV W Hh S, offV o, .int .i64 c, .bool is] σ (fun v _ => v = .bool true) := by
  refine mcalls_of fn4 (by simp) ?_
  unfold c4 r4 mapV offV
  refine stepR0 ?_
  generalize hτ : H.push (H.push _ _) _ = τ
  have gm : τ.get σ.size = .cells 0 (mapC W Hh S) := by rw [← hτ, H.get_push_ne (by simp), H.get_push_self]; rfl
  have go : τ.get (σ.size + 1) = .cells 0 (offC o) := by rw [← hτ]; exact H.get_push_self (σ.push _) _
  clear hτ
  generalize σ.size + 1 = io at go
  generalize σ.size = im at gm
  refine ml_call Sd0 Sd0 (sAwake_c τ) ?_
  rintro _ τ1 ⟨rfl, e1⟩
  have gm1 := e1.cells gm
  have go1 := e1.cells go
  by_cases hbig : (200 : Int) < (S.size : Int)
  · (have fx := And.intro gm1 hbig; refine stepR ?_; clear fx)
    refine ml_call Sd0 Sd0 (sAwake_c τ1) ?_
    rintro _ τ3 ⟨rfl, e3⟩
    refine stepR0 ?_
    exact fin1 Sd0
  (have fx := And.intro gm1 hbig; refine stepR ?_; clear fx)
  refine mld_loadN (have fx := hbig; Sd) Sd0 (row_of go1 (rowC8 hl)) ?_
  refine mld_call (have fx := hbig; Sd) Sd0 (gOf_c W Hh S τ1) (fun _ _ h => h.2) ?_
  rintro _ τ2 ⟨rfl, e2⟩
  refine mld_callW (have fx := hbig; Sd) Sd0 (on_c (σ := τ2) W Hh S hl ho) ?_
  rintro v1 τ3 ⟨rd1, e3⟩
  have gm3 := (e2.trans e3).cells gm1
  have go3 := (e2.trans e3).cells go1
  (have fx := And.intro gm3 hbig; refine stepR ?_; clear fx)
  refine ml_call Sd0 Sd0 (rRight_c W Hh S τ3) ?_
  rintro _ τ4 ⟨rfl, e4⟩
  have gm4 := e4.cells gm3
  have go4 := e4.cells go3
  have rd4 := rd1.of_ext e4
  clear gm3 go3 gm1 go1 gm go rd1
  have hLb : (onL S o (gr W Hh S)).length ≤ 200 := by
    have h1 := List.length_filter_le (fun x => !isOff o x.toNat) (gkind S 67 (gr W Hh S))
    have h2 : (gkind S 67 (gr W Hh S)).length ≤ S.size := by
      unfold gkind; split
      · exact gkindN_len S 67 S.size
      · simp
    unfold onL; omega
  refine ml_nil (thn_nor ?_)
  refine mx_cut (fun ts τ => ∃ v2, Rd τ v1 (ints (onL S o (gr W Hh S))) ∧ Rd τ v2 (ints (onL S o (gr W Hh S))) ∧ τ.get io = .cells 0 (offC o) ∧ ts 2 = .int .i64 c ∧ ts 3 = .bool is ∧ ts 5 = .pointer (some ⟨io, 0, none⟩) ∧ ts 9 = v1 ∧ ts 10 = v2) ?_ ?_
  · cases hg : gr W Hh S
    · rw [hg] at rd4
      (have fx := hg; refine stepR ?_; clear fx)
      exact ⟨.slice none 0 0, rd4, by unfold onL gkind; exact .nil, go4, Sd0, Sd0, Sd0, Sd0, Sd0⟩
    · rw [hg] at rd4
      (have fx := And.intro hg gm4; refine stepR ?_; clear fx)
      refine ml_loadN Sd0 Sd0 (row_of go4 (rowC8 hl)) ?_
      refine ml_call Sd0 Sd0 (rOn_c hg hl ho) ?_
      intro v2 τ5 out
      refine stepR0 ?_
      exact ⟨v2, rd4.of_ext out.1, out.rd, out.1.cells go4, Sd0, Sd0, Sd0, Sd0, Sd0⟩
  clear rd4 go4 gm4
  generalize onL S o (gr W Hh S) = L at hLb
  rintro ts τ ⟨v2, rd1, rd2, go, t2, t3, t5, t9, t10⟩
  have hLn : (ints L).length = L.length := ints_len _
  have hnn : ((L.length : Int) != (L.length : Int)) = false := bne_self_eq_false _
  refine stepR0 ?_
  refine mx_loop (fun n ts τ => ∃ i : Nat, n = L.length - i ∧ i ≤ L.length ∧ Rd τ v1 (ints L) ∧ Rd τ v2 (ints L) ∧ τ.get io = .cells 0 (offC o) ∧
    ts 2 = .int .i64 c ∧ ts 3 = .bool is ∧ ts 5 = .pointer (some ⟨io, 0, none⟩) ∧ ts 9 = v1 ∧ ts 10 = v2 ∧ ts 11 = .int .i64 ((i : Nat) : Int)) L.length ?_ ?_
  · exact ⟨0, rfl, Nat.zero_le _, rd1, rd2, go, (have fx := t2; Sd), (have fx := t3; Sd), (have fx := t5; Sd), (have fx := t9; Sd), (have fx := t10; Sd), Sd0⟩
  clear rd1 rd2 go t2 t3 t5 t9 t10
  rintro n ts τ ⟨i, rfl, hi, rd1, rd2, go, t2, t3, t5, t9, t10, t11⟩
  (have fx := And.intro t10 t11; refine stepR ?_; clear fx)
  refine ml_len Sd0 rd2 (have fx := t10; Sd) ?_
  rcases Nat.lt_or_ge i L.length with hlt | hge
  · have hget : (ints L)[((i : Int)).toNat]? = some (.int .i64 (L.getD i 0)) := by rw [Int.toNat_natCast]; exact ints_at hlt
    generalize L.getD i 0 = x at hget
    have hxx : (x != x) = false := bne_self_eq_false _
    (have fx := And.intro hLn (And.intro t9 (And.intro t10 t11)); refine stepR ?_; clear fx)
    refine mld_len Sd0 rd1 (have fx := t9; Sd) ?_
    (have fx := t10; refine stepR ?_; clear fx)
    refine mld_len Sd0 rd2 (have fx := t10; Sd) ?_
    (have fx := And.intro hLn (And.intro hnn (And.intro t9 t11)); refine stepR ?_; clear fx)
    refine mld_getS (have fx := hnn; Sd) rd1 (have fx := t9; Sd) (have fx := t11; Sd) (by omega) hget (fun p => (have fx := hnn; Sd)) fun p => ?_
    (have fx := And.intro hnn (And.intro t10 t11); refine stepR ?_; clear fx)
    refine mld_getS (have fx := hnn; Sd) rd2 (have fx := t10; Sd) (have fx := t11; Sd) (by omega) hget (fun p => (have fx := hnn; Sd)) fun p2 => ?_
    (have fx := And.intro hnn (And.intro hxx t11); refine stepR ?_; clear fx)
    exact ⟨_, by omega, i + 1, rfl, hlt, rd1, rd2, go, (have fx := t2; Sd), (have fx := t3; Sd), (have fx := t5; Sd), (have fx := t9; Sd), (have fx := t10; Sd), Sd0⟩
  have : i = L.length := by omega
  subst this
  (have fx := And.intro hLn (And.intro t11 t5); refine stepR ?_; clear fx)
  refine ml_loadN Sd0 (have fx := t5; Sd) (row_of go (rowC8 hl)) ?_
  (have fx := And.intro t2 t3; refine stepR ?_; clear fx)
  refine ml_call Sd0 (have fx := And.intro t2 t3; Sd) (turn_c (σ := τ) hl ho c is) ?_
  rintro _ τ2 ⟨rfl, e2⟩
  have lT := (turn_len o c is).trans hl
  have hT := turn_lt ho c is
  have hoff : ∀ i, i < 64 → isOff (turn o c is) i = if (i : Int) = c then is else isOff o i := fun i hi => isOff_turnZ hl c hi is
  generalize turn o c is = T at lT hT hoff
  refine stepR0 ?_
  refine ml_init (vs := offC T) Sd0 Sd0 Sd0 (by rw [offC_len, lT]) rfl (offC_one _) fun τ3 e3 gT => ?_
  have e23 := e2.trans e3
  have go3 := e23.cells go
  have rd13 := rd1.of_ext e23
  have rd23 := rd2.of_ext e23
  generalize τ2.size = iT at gT
  refine stepR0 ?_
  refine mx_loop (fun n ts τ => ∃ i : Nat, n = 64 - i ∧ i ≤ 64 ∧ Rd τ v1 (ints L) ∧ Rd τ v2 (ints L) ∧ τ.get io = .cells 0 (offC o) ∧ τ.get iT = .cells 0 (offC T) ∧
    ts 2 = .int .i64 c ∧ ts 3 = .bool is ∧ ts 5 = .pointer (some ⟨io, 0, none⟩) ∧ ts 9 = v1 ∧ ts 10 = v2 ∧ ts 12 = .pointer (some ⟨iT, 0, none⟩) ∧ ts 13 = .int .i64 ((i : Nat) : Int)) 64 ?_ ?_
  · exact ⟨0, rfl, Nat.zero_le _, rd13, rd23, go3, gT, (have fx := t2; Sd), (have fx := t3; Sd), (have fx := t5; Sd), (have fx := t9; Sd), (have fx := t10; Sd), Sd0, Sd0⟩
  clear rd13 rd23 go3 gT rd1 rd2 go t2 t3 t5 t9 t10 t11
  rintro n ts τ ⟨i, rfl, hi, rd1, rd2, go, gT, t2, t3, t5, t9, t10, t12, t13⟩
  rcases Nat.lt_or_ge i 64 with hlt | hge
  · have ho1 := hoff i hlt
    by_cases hic : (i : Int) = c
    · have h1 : ((i : Int) == c) = true := by rw [hic]; exact beq_self_eq_true _
      have h2 : ((i : Int) != c) = false := by rw [hic]; exact bne_self_eq_false _
      rw [if_pos hic] at ho1
      (have fx := And.intro t2 (And.intro t12 (And.intro t13 h1)); refine stepR ?_; clear fx)
      refine mld_loadN (have fx := h1; Sd) (have fx := t12; Sd) (row_of gT (rowC8 lT)) ?_
      (have fx := And.intro t3 (And.intro t13 h1); refine stepR ?_; clear fx)
      refine mld_callW (have fx := h1; Sd) (have fx := t13; Sd) (off_c (σ := τ) lT hT i hlt) ?_
      rw [ho1]
      rintro _ τ4 ⟨rfl, e4⟩
      have hii : (is != is) = false := bne_self_eq_false _
      (have fx := And.intro h1 (And.intro h2 (And.intro hii (And.intro t2 t13))); refine stepR ?_; clear fx)
      exact ⟨_, by omega, i + 1, rfl, hlt, rd1.of_ext e4, rd2.of_ext e4, e4.cells go, e4.cells gT, (have fx := t2; Sd), (have fx := t3; Sd), (have fx := t5; Sd), (have fx := t9; Sd), (have fx := t10; Sd), (have fx := t12; Sd), Sd0⟩
    · have h1 : ((i : Int) == c) = false := beq_eq_false_iff_ne.2 hic
      have h2 : ((i : Int) != c) = true := by rw [bne, h1]; rfl
      rw [if_neg hic] at ho1
      (have fx := And.intro t2 (And.intro t12 (And.intro t13 (And.intro h1 h2))); refine stepR ?_; clear fx)
      refine mld_loadN (have fx := And.intro h1 h2; Sd) (have fx := t12; Sd) (row_of gT (rowC8 lT)) ?_
      (have fx := And.intro t5 (And.intro t13 (And.intro h1 h2)); refine stepR ?_; clear fx)
      refine mld_loadN (have fx := And.intro h1 h2; Sd) (have fx := t5; Sd) (row_of go (rowC8 hl)) ?_
      (have fx := And.intro t13 (And.intro h1 h2); refine stepR ?_; clear fx)
      refine mld_call (have fx := And.intro h1 h2; Sd) (have fx := t13; Sd) (off_c (σ := τ) lT hT i hlt) (fun _ _ h => h.2) ?_
      rw [ho1]
      rintro _ τ4 ⟨rfl, e4⟩
      refine mld_callW (have fx := And.intro h1 h2; Sd) (have fx := t13; Sd) (off_c (σ := τ4) hl ho i hlt) ?_
      rintro _ τ5 ⟨rfl, e5⟩
      have e45 := e4.trans e5
      have hii : (isOff o i != isOff o i) = false := bne_self_eq_false _
      (have fx := And.intro h1 (And.intro h2 (And.intro hii t13)); refine stepR ?_; clear fx)
      exact ⟨_, by omega, i + 1, rfl, hlt, rd1.of_ext e45, rd2.of_ext e45, e45.cells go, e45.cells gT, (have fx := t2; Sd), (have fx := t3; Sd), (have fx := t5; Sd), (have fx := t9; Sd), (have fx := t10; Sd), (have fx := t12; Sd), Sd0⟩
  · have : i = 64 := by omega
    subst this
    (have fx := And.intro t9 t13; refine stepR ?_; clear fx)
    refine ml_len Sd0 rd1 (have fx := t9; Sd) ?_
    (have fx := t10; refine stepR ?_; clear fx)
    refine ml_len Sd0 rd2 (have fx := t10; Sd) ?_
    have hee : ((L.length : Int) == (L.length : Int)) = true := beq_self_eq_true _
    (have fx := And.intro hLn hee; refine stepR ?_; clear fx)
    exact fin1 (have fx := hee; Sd)
end Go.Proofs.YtgfmphjccnemmaaDoor
