import Derived.Test.YtgfmphjccnemmaaDoorSafeL
namespace Go.Proofs.YtgfmphjccnemmaaDoor
open Go.Mini
open Go.Proofs.YtgfmphjccnemmaaDoor.Code
set_option linter.unusedVariables false
set_option linter.unusedSimpArgs false
set_option linter.ambiguousOpen false
attribute [local irreducible] mx ml mld mstep MCalls Ex.thn Ex.inb

/-! ## With more charge, with more chargers -/
theorem Wk.mono_src {W : Int} {S : ByteArray} {a b : List Int} (h : ∀ x ∈ a, x ∈ b) {k : Nat} {x : Int} (hw : Wk W S a k x) : Wk W S b k x := by
  induction hw with
  | src hx ho => exact .src (h _ hx) ho
  | step _ hn ih => exact .step ih hn
theorem onL_zero (S : ByteArray) (b : Bool) : onL S (List.replicate 8 0) b = gkind S 67 b := by
  unfold onL
  rw [List.filter_eq_self]
  intro x _
  have : ∀ c : Nat, isOff (List.replicate 8 0) c = false := fun c => by
    unfold isOff
    rw [List.getD_eq_getElem?_getD, List.getElem?_replicate]
    split <;> simp
  rw [this]; rfl
theorem onL_sub (S : ByteArray) (o : List Nat) (b : Bool) : ∀ x ∈ onL S o b, x ∈ onL S (List.replicate 8 0) b := fun x hx => by
  rw [onL_zero]; exact (List.mem_filter.1 hx).1
theorem onL_len (S : ByteArray) (o : List Nat) (b : Bool) : (onL S o b).length ≤ (onL S (List.replicate 8 0) b).length := by
  rw [onL_zero]; exact List.length_filter_le _ _
theorem onL_bound {W Hh : Int} {S : ByteArray} (hg : gr W Hh S = true) (o : List Nat) : (onL S o true).length ≤ 64 := by
  have h1 := List.length_filter_le (fun x => !isOff o x.toNat) (gkind S 67 true)
  have h2 := gkindN_len S 67 S.size
  have h3 := (gr_size hg).2.2.2.1
  have h4 : (gkind S 67 true).length ≤ S.size := h2
  unfold onL; omega
theorem need_more {W Hh : Int} {S : ByteArray} {a b : List Int} {step c : Int} (hb : b.length ≤ 64) (hs : ∀ x ∈ a, x ∈ b) {n : Int} (h : needO W Hh S a step c = some n) : ∃ m, needO W Hh S b step c = some m ∧ m ≤ n := by
  unfold needO at h ⊢
  split at h
  · rename_i h1
    simp only [Bool.and_eq_true] at h1
    obtain ⟨g1, g2, g3, g4⟩ := costOK_iff.1 h1.1
    have hok : costOK W Hh S b step = true := costOK_iff.2 ⟨g1, g2, g3, hb⟩
    rw [hok, h1.2]
    simp only [Bool.and_self, if_true]
    rcases dist_spec W S a c with ⟨h2, _⟩ | ⟨k, h2, h3, h4⟩
    · rw [h2] at h; cases h
    · rw [h2] at h
      simp only [Option.map_some, Option.some.injEq] at h
      rcases dist_spec W S b c with ⟨_, h5⟩ | ⟨m, h5, h6, h7⟩
      · exact absurd (h3.mono_src hs) (h5 k)
      · rw [h5]
        refine ⟨step * m, rfl, ?_⟩
        have := h7 k (h3.mono_src hs)
        rw [← h]; exact Int.mul_le_mul_of_nonneg_left (by omega) (by omega)
  · cases h
theorem safe_more {W Hh : Int} {S : ByteArray} {a : List Int} {step c x y : Int} (hxy : x ≤ y) (h : safeB W Hh S a step c x = true) : safeB W Hh S a step c y = true := by
  unfold safeB at *
  cases hn : needO W Hh S a step c with
  | none => rw [hn] at h; cases h
  | some n => rw [hn] at h; simp only [Option.any_some, decide_eq_true_eq] at h ⊢; omega
theorem safe_src {W Hh : Int} {S : ByteArray} {a b : List Int} {step c x : Int} (hb : b.length ≤ 64) (hs : ∀ x ∈ a, x ∈ b) (h : safeB W Hh S a step c x = true) : safeB W Hh S b step c x = true := by
  unfold safeB at *
  cases hn : needO W Hh S a step c with
  | none => rw [hn] at h; cases h
  | some n =>
    rw [hn] at h
    obtain ⟨m, h1, h2⟩ := need_more hb hs hn
    rw [h1]; simp only [Option.any_some, decide_eq_true_eq] at h ⊢; omega

theorem safeMore_c {σ : H} (W Hh : Int) (S : ByteArray) {o : List Nat} (hl : o.length = 8) (ho : ∀ b ∈ o, b < 256) (c charge more : Nat) (hc : c < 256) (hch : charge < 256) (hm : more < 256) :
    MCalls Tryd.prog 3 [mapV W Hh S, offV o, .int .u8 c, .int .u8 charge, .int .u8 more] σ (fun v _ => v = .bool true) := by
  refine mcalls_of fn3 (by simp) ?_
  unfold c3 r3 mapV offV
  refine stepR0 ?_
  generalize hτ : H.push (H.push _ _) _ = τ
  have gm : τ.get σ.size = .cells 0 (mapC W Hh S) := by rw [← hτ, H.get_push_ne (by simp), H.get_push_self]; rfl
  have go : τ.get (σ.size + 1) = .cells 0 (offC o) := by rw [← hτ]; exact H.get_push_self (σ.push _) _
  clear hτ
  generalize σ.size + 1 = io at go
  generalize σ.size = im at gm
  refine ml_call Sd0 Sd0 (sAwake_c τ) ?_
  rintro _ τ1 ⟨rfl, e1⟩
  have gm1 := e1.cells gm
  have go1 := e1.cells go
  (have fx := gm1; refine stepR ?_; clear fx)
  refine ml_call Sd0 Sd0 (rRight_c W Hh S τ1) ?_
  rintro _ τ2 ⟨rfl, e2⟩
  have gm2 := e2.cells gm1
  have go2 := e2.cells go1
  cases hg : gr W Hh S
  · refine stepR0 ?_
    refine ml_call Sd0 Sd0 (sAwake_c τ2) ?_
    rintro _ τ3 ⟨rfl, e3⟩
    refine stepR0 ?_
    exact fin1 Sd0
  have hS := gr_size hg
  (have fx := gm2; refine stepR ?_; clear fx)
  refine ml_call Sd0 Sd0 (gOf_c W Hh S τ2) ?_
  rintro _ τ3 ⟨rfl, e3⟩
  refine stepR0 ?_
  refine ml_init (vs := mapC W Hh S) Sd0 Sd0 Sd0 rfl rfl rfl fun τ4 e4 gx => ?_
  have e24 := e3.trans e4
  have gm4 := e24.cells gm2
  have go4 := e24.cells go2
  generalize τ3.size = ix at gx
  (have fx := gx; refine stepR ?_; clear fx)
  refine mld_loadN Sd0 Sd0 (row_of go4 (rowC (by rw [offC_len]; exact hl))) ?_
  (have fx := gx; refine stepR ?_; clear fx)
  refine mld_call Sd0 Sd0 (on_c (σ := τ4) W Hh S hl ho) (fun _ _ h => h.2) ?_
  rintro v1 τ5 ⟨rd1, e5⟩
  refine stepR0 ?_
  refine mld_callW Sd0 Sd0 (on_c (σ := τ5) W Hh S (o := List.replicate 8 0) rfl (by simp)) ?_
  rintro v2 τ6 ⟨rd2, e6⟩
  rw [hg] at rd1 rd2
  have hsub := onL_sub S o true
  have hlen := onL_len S o true
  have hb1 := onL_bound hg o
  have hb2 := onL_bound hg (List.replicate 8 0)
  generalize onL S o true = a at rd1 hsub hlen hb1
  generalize onL S (List.replicate 8 0) true = b at rd2 hsub hlen hb2
  have rd1' := rd1.of_ext e6
  have e46 := e5.trans e6
  have gm6 := e46.cells gm4
  have gx6 := e46.cells gx
  clear rd1 gx go4 gm4 go2 gm2 gm1 go1 gm go
  have hrem : (c : Int).tmod (S.size : Int) = ((c % S.size : Nat) : Int) := by rw [Int.ofNat_tmod]
  have hk : c % S.size < S.size := Nat.mod_lt _ (by omega)
  generalize c % S.size = k at hrem hk
  (have fx := gm6; refine stepR ?_; clear fx)
  (have fx := And.intro gx6 hrem; refine stepR ?_; clear fx)
  refine ml_call Sd0 (have fx := hrem; Sd) (need_c W Hh S rd1' k 2) ?_
  rintro _ τ7 ⟨rfl, e7⟩
  have gx7 := e7.cells gx6
  (have fx := And.intro gx7 hrem; refine stepR ?_; clear fx)
  refine ml_call Sd0 (have fx := hrem; Sd) (need_c W Hh S (rd2.of_ext e7) k 2) ?_
  rintro _ τ8 ⟨rfl, e8⟩
  have e68 := e7.trans e8
  have gx8 := e8.cells gx7
  have rdA := rd1'.of_ext e68
  have rdB := rd2.of_ext e68
  have hla : (ints a).length = a.length := ints_len _
  have hlb : (ints b).length = b.length := ints_len _
  have hgt : ¬ (b.length : Int) < (a.length : Int) := by omega
  refine ml_mid (fun ts τ => τ = τ8 ∧ ts 16 = .bool (needO W Hh S a 2 k).isSome ∧ ts 15 = .int .i64 ((needO W Hh S a 2 k).getD 0) ∧ ts 18 = .bool (needO W Hh S b 2 k).isSome ∧ ts 17 = .int .i64 ((needO W Hh S b 2 k).getD 0) ∧ ts 11 = .pointer (some ⟨ix, 0, none⟩) ∧ ts 12 = v1 ∧ ts 13 = v2 ∧ ts 14 = .int .i64 k ∧ ts 3 = .int .u8 charge ∧ ts 4 = .int .u8 more) ?_ ?_
  · refine stepR0 ?_
    exact ⟨rfl, Sd0, Sd0, Sd0, Sd0, Sd0, Sd0, Sd0, (have fx := hrem; Sd), Sd0, Sd0⟩
  rintro ts τ8 ⟨rfl, t16, t15, t18, t17, t11, t12, t13, t14, t3, t4⟩
  refine thn_nor ?_
  refine mx_seq ?_
  refine mx_seq ?_
  refine mx_ops ?_
  refine ml_mid (fun ts τ => τ = τ8 ∧ ts 71 = .bool false ∧ ts 11 = .pointer (some ⟨ix, 0, none⟩) ∧ ts 12 = v1 ∧ ts 13 = v2 ∧ ts 14 = .int .i64 k ∧ ts 3 = .int .u8 charge ∧ ts 4 = .int .u8 more) ?_ ?_
  · cases hN : needO W Hh S a 2 (k : Int) with
    | none =>
      rw [hN] at t16 t15
      (have fx := And.intro t16 (And.intro t15 (And.intro t18 t17)); refine stepR ?_; clear fx)
      refine ml_len Sd0 rdA (have fx := t12; Sd) ?_
      refine stepR0 ?_
      refine ml_len Sd0 rdB (have fx := t13; Sd) ?_
      (have fx := And.intro hla (And.intro hlb hgt); refine stepR ?_; clear fx)
      exact ⟨rfl, (have fx := And.intro hla (And.intro hlb hgt); Sd), (have fx := t11; Sd), (have fx := t12; Sd), (have fx := t13; Sd), (have fx := t14; Sd), (have fx := t3; Sd), (have fx := t4; Sd)⟩
    | some n =>
      obtain ⟨m, hM, hmn⟩ := need_more hb2 hsub hN
      have hnm : ¬ n < m := by omega
      rw [hN] at t16 t15
      rw [hM] at t18 t17
      (have fx := And.intro hnm (And.intro t16 (And.intro t15 (And.intro t18 t17))); refine stepR ?_; clear fx)
      refine ml_len (have fx := hnm; Sd) rdA (have fx := t12; Sd) ?_
      (have fx := hnm; refine stepR ?_; clear fx)
      refine ml_len (have fx := hnm; Sd) rdB (have fx := t13; Sd) ?_
      (have fx := And.intro hnm (And.intro hla (And.intro hlb hgt)); refine stepR ?_; clear fx)
      exact ⟨rfl, (have fx := And.intro hnm (And.intro hla (And.intro hlb hgt)); Sd), (have fx := t11; Sd), (have fx := t12; Sd), (have fx := t13; Sd), (have fx := t14; Sd), (have fx := t3; Sd), (have fx := t4; Sd)⟩
  rintro ts τ8 ⟨rfl, t71, t11, t12, t13, t14, t3, t4⟩
  (have fx := And.intro t71 (And.intro t11 (And.intro t12 (And.intro t14 (And.intro t3 gx8)))); refine stepR ?_; clear fx)
  refine ml_call Sd0 (have fx := And.intro t12 t14; Sd) (safe_c W Hh S rdA k charge 2) ?_
  rintro _ τ9 ⟨rfl, e9⟩
  have gx9 := e9.cells gx8
  cases hs : safeB W Hh S a 2 k charge
  · refine stepR0 ?_
    exact fin1 Sd0
  · have hs1 : safeB W Hh S a 2 k (charge + more : Int) = true := safe_more (by omega) hs
    have hs2 : safeB W Hh S b 2 k charge = true := safe_src hb2 hsub hs
    (have fx := And.intro t11 (And.intro t12 (And.intro t14 (And.intro t3 (And.intro t4 gx9)))); refine stepR ?_; clear fx)
    refine ml_call Sd0 (have fx := And.intro t12 t14; Sd) (safe_c W Hh S (rdA.of_ext e9) k (charge + more) 2) ?_
    rw [hs1]
    rintro _ τ10 ⟨rfl, e10⟩
    have gx10 := e10.cells gx9
    (have fx := And.intro t11 (And.intro t13 (And.intro t14 (And.intro t3 gx10))); refine stepR ?_; clear fx)
    refine ml_call Sd0 (have fx := And.intro t13 t14; Sd) (safe_c W Hh S (rdB.of_ext (e9.trans e10)) k charge 2) ?_
    rw [hs2]
    rintro _ τ11 ⟨rfl, e11⟩
    refine stepR0 ?_
    exact fin1 Sd0
end Go.Proofs.YtgfmphjccnemmaaDoor
