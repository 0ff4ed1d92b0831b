/- The document's Lay and Read. -/
import Derived.Test.YtepjinaomedecaaDoorGridL
import Derived.Test.YtepjinaomedecaaDoorRefD
namespace Go.Mini
section
variable {ts : Fr} {σ : H}
theorem o_mulN {x y : Opd} {a b q : Nat} (hx : mev ts x = .int .i64 (a : Int)) (hy : mev ts y = .int .i64 (b : Int)) (h : a * b = q) (hq : q ≤ 1000000000) : mop ts σ (.bin .mul x y) = some (.int .i64 ((q : Nat) : Int), σ) := by
  have e : (a : Int) * (b : Int) = ((q : Nat) : Int) := by rw [← h]; exact (Int.natCast_mul a b).symm
  simp only [mop, hx, hy, mbin, if_pos, Option.map_some, e]
  rw [i64wrap (by omega) (by omega)]
end
theorem ba_ext {a b : ByteArray} (h : a.data.toList = b.data.toList) : a = b := by cases a; cases b; congr 1; exact Array.ext' h
end Go.Mini
namespace Go.Proofs.YtepjinaomedecaaDoor
open Go.Mini
open Go.Proofs.YtepjinaomedecaaDoor.Code
set_option linter.unusedVariables false
set_option linter.unusedSimpArgs false
set_option linter.ambiguousOpen false
attribute [local irreducible] mx ml mld mstep MCalls Ex.thn Ex.inb
variable {E : World → Prop}

theorem layT_len (w : Nat) : ∀ (n : Nat) (l : List UInt8), (layT w n l).length ≤ n * (w + 1)
  | 0, _ => by simp [layT]
  | n + 1, l => by
    have := layT_len w n l
    simp only [layT, List.length_append, List.length_take, List.length_cons, List.length_nil]
    rw [Nat.add_mul, Nat.one_mul]; omega

set_option maxHeartbeats 1000000 in
theorem rLay_c (W Hh : Int) (S : ByteArray) (σ : H) (hg : gr W Hh S = true) : MCalls E Tryd.prog 18 [mapV W Hh S] σ (fun v τ => Ext σ τ ∧ v = .string ⟨(layT W.toNat Hh.toNat S.data.toList).toArray⟩) := by
  obtain ⟨hW, hH, hsz, hS, hall⟩ := gr_size hg
  obtain ⟨w, rfl⟩ := Int.eq_ofNat_of_zero_le (show 0 ≤ W by omega)
  obtain ⟨h, rfl⟩ := Int.eq_ofNat_of_zero_le (show 0 ≤ Hh by omega)
  have hsz' : S.size = h * w := by
    rw [Nat.mul_comm]; exact_mod_cast hsz
  have hlen : S.data.toList.length = S.size := Array.length_toList
  refine mcalls_of fn18 (by simp) ?_
  unfold c18 r18 mapV
  refine stepR0 ?_
  have g1 := H.get_push_self σ (.cells 0 [.int .i64 (w : Int), .int .i64 (h : Int), .string S])
  have e1 := Ext.push σ (.cells 0 [.int .i64 (w : Int), .int .i64 (h : Int), .string S])
  generalize H.push σ (.cells 0 [.int .i64 (w : Int), .int .i64 (h : Int), .string S]) = τ at g1 e1 ⊢
  refine mx_loop (fun n ts τ' => ∃ k, n = h - k ∧ k ≤ h ∧ τ' = τ ∧ ts 1 = .pointer (some ⟨σ.size, 0, none⟩) ∧ ts 3 = .string ⟨(layT w k S.data.toList).toArray⟩ ∧ ts 4 = .int .i64 ((k : Nat) : Int)) h ?_ ?_
  · exact ⟨0, rfl, by omega, rfl, Sd0, Sd0, Sd0⟩
  rintro n ts τ' ⟨k, rfl, hk, rfl, t1, t3, t4⟩
  rcases Nat.lt_or_ge k h with hkl | hkg
  rotate_left
  · obtain rfl : k = h := by omega
    have hkl' : ¬ ((k : Nat) : Int) < ((k : Nat) : Int) := by omega
    (have fx := And.intro t1 (And.intro t4 (And.intro g1 (And.intro hkl' t3))); refine stepR ?_; clear fx)
    exact fin1 ⟨e1, (have fx := t3; Sd)⟩
  have hkl' : ((k : Nat) : Int) < ((h : Nat) : Int) := by omega
  have hkw : (k + 1) * w ≤ S.size := by rw [hsz']; exact Nat.mul_le_mul_right _ hkl
  have hl8 := layT_len w k S.data.toList
  have hkb : k * (w + 1) ≤ 8 * 9 := Nat.mul_le_mul (by omega) (by omega)
  generalize hA : (⟨(layT w k S.data.toList).toArray⟩ : ByteArray) = A at t3
  have hAs : A.size = (layT w k S.data.toList).length := by rw [← hA]; rfl
  have hAl : A.data.toList = layT w k S.data.toList := by rw [← hA]
  have hq1 : (k + 1) * w = k * w + w := by rw [Nat.add_mul, Nat.one_mul]
  have hp1 : (k : Int) * (w : Int) = ((k * w : Nat) : Int) := (Int.natCast_mul k w).symm
  have hp2 : ((k : Int) + 1) * (w : Int) = (((k + 1) * w : Nat) : Int) := by rw [Int.natCast_mul]; rfl
  generalize hx1 : (k : Int) * (w : Int) = x1 at hp1
  generalize hx2 : ((k : Int) + 1) * (w : Int) = x2 at hp2
  (have fx := And.intro t1 (And.intro t4 (And.intro g1 (And.intro hkl' (And.intro t3 (And.intro hx1 hx2))))); refine stepR ?_; clear fx)
  refine ml_op Sd0 (o_slcS (p := x1) (q := x2) (k := .i64) (k' := .i64) Sd0 Sd0 Sd0 (by omega) (by omega) (by omega)) ?_
  rw [hp1, hp2]
  have hes : (S.extract ((k * w : Nat) : Int).toNat (((k + 1) * w : Nat) : Int).toNat).data.toList = (S.data.toList.drop (k * w)).take w := by
    rw [ext_list, Int.toNat_natCast, Int.toNat_natCast, show (k + 1) * w - k * w = w by omega]
  generalize (S.extract ((k * w : Nat) : Int).toNat (((k + 1) * w : Nat) : Int).toNat) = X at hes
  have hXs : X.size ≤ w := by
    have : X.size = X.data.toList.length := Array.length_toList.symm
    rw [this, hes, List.length_take]; omega
  refine ml_op Sd0 (o_cat (a := A) (b := X) (have fx := t3; Sd) Sd0 (by omega)) ?_
  refine ml_op Sd0 (o_cat (a := A ++ X) (b := ⟨#[10]⟩) Sd0 Sd0 (by rw [ByteArray.size_append]; show A.size + X.size + 1 ≤ _; omega)) ?_
  have hfin : (A ++ X ++ ⟨#[10]⟩ : ByteArray) = ⟨(layT w (k + 1) S.data.toList).toArray⟩ := by
    apply ba_ext
    rw [ByteArray.data_append, ByteArray.data_append, Array.toList_append, Array.toList_append, hAl, hes]
    simp [layT]
  rw [hfin]
  (have fx := t4; refine stepR ?_; clear fx)
  exact ⟨_, by omega, k + 1, rfl, hkl, rfl, (have fx := t1; Sd), Sd0, Sd0⟩

def readQ (σ : H) (s : ByteArray) (v : Value) (τ : H) : Prop :=
  Ext σ τ ∧ ((∃ W Hh S, v = .tuple #[mapV W Hh S, .bool true] ∧ Parsed s.data.toList W Hh S) ∨ (v = .tuple #[mapV 0 0 ⟨#[]⟩, .bool false] ∧ ∀ W Hh S, ¬ Parsed s.data.toList W Hh S))
/-- What the document's Read holds between two bytes. -/
structure RdS (σ : H) (s : ByteArray) (fr i : Nat) (rows : List (List UInt8)) (W : Int) (S : ByteArray) (τ : H) : Prop where
  ext : Ext σ τ
  z : τ.get σ.size = .cells 0 [.int .i64 0, .int .i64 0, .string ⟨#[]⟩]
  m : τ.get (σ.size + 1) = .cells 0 [.int .i64 W, .int .i64 (rows.length : Int), .string S]
  ps : PS0 s.data.toList (s.data.toList.drop fr) rows W S
  fi : fr ≤ i
  no : (10 : UInt8) ∉ (s.data.toList.drop fr).take (i - fr)

set_option maxHeartbeats 4000000 in
theorem rRead_c (s : ByteArray) (hl : s.size ≤ 1000000) (σ : H) : MCalls E Tryd.prog 19 [.string s] σ (readQ σ s) := by
  have hlen : s.data.toList.length = s.size := Array.length_toList
  refine mcalls_of fn19 (by simp) ?_
  unfold c19 r19
  refine stepR0 ?_
  have z0 : ((σ.push (.cells 0 [.int .i64 0, .int .i64 0, .string ⟨#[]⟩])).push (.cells 0 [.int .i64 0, .int .i64 0, .string ⟨#[]⟩])).get σ.size = .cells 0 [.int .i64 0, .int .i64 0, .string ⟨#[]⟩] := by
    rw [H.get_push_lt (by simp), H.get_push_self]
  have m0 : ((σ.push (.cells 0 [.int .i64 0, .int .i64 0, .string ⟨#[]⟩])).push (.cells 0 [.int .i64 0, .int .i64 0, .string ⟨#[]⟩])).get (σ.size + 1) = .cells 0 [.int .i64 0, .int .i64 0, .string ⟨#[]⟩] := H.get_push_self (σ.push (.cells 0 [.int .i64 0, .int .i64 0, .string ⟨#[]⟩])) _
  have e0 : Ext σ ((σ.push (.cells 0 [.int .i64 0, .int .i64 0, .string ⟨#[]⟩])).push (.cells 0 [.int .i64 0, .int .i64 0, .string ⟨#[]⟩])) := (Ext.push _ _).trans (Ext.push _ _)
  refine mx_loop (fun n ts τ => ∃ i fr rows W S, n = s.size - i ∧ i ≤ s.size ∧ RdS σ s fr i rows W S τ ∧ ts 0 = .string s ∧ ts 2 = .pointer (some ⟨σ.size, 0, none⟩) ∧ ts 3 = .bool false ∧ ts 4 = .pointer (some ⟨σ.size + 1, 0, none⟩) ∧
    ts 5 = .int .i64 ((fr : Nat) : Int) ∧ ts 6 = .int .i64 ((i : Nat) : Int)) s.size ?_ ?_
  · exact ⟨0, 0, [], 0, ⟨#[]⟩, rfl, by omega, ⟨e0, z0, m0, by rw [List.drop_zero]; exact PS0.start _, Nat.le_refl _, by simp⟩, Sd0, Sd0, Sd0, Sd0, Sd0, Sd0⟩
  clear z0 m0 e0
  rintro n ts τ ⟨i, fr, rows, W, S, rfl, hi, g, t0, t2, t3, t4, t5, t6⟩
  obtain ⟨ge, gz, gm, ps, fi, no⟩ := g
  have hrl : rows.length ≤ s.size := by
    have h1 := congrArg List.length ps.txt
    rw [List.length_append, hlen] at h1
    have : rows.length ≤ (flatR rows).length := by
      clear ps h1 gm
      induction rows with
      | nil => simp
      | cons r rows ih => rw [flatR_cons]; simp only [List.length_append, List.length_cons]; omega
    omega
  have hSl : S.size ≤ s.size := by
    have h1 := congrArg List.length ps.txt
    have h2 := congrArg List.length ps.cells
    rw [List.length_append, hlen] at h1
    have h3 : S.data.toList.length = S.size := Array.length_toList
    have : rows.flatten.length ≤ (flatR rows).length := by
      clear ps h1 h2 gm hrl
      induction rows with
      | nil => simp
      | cons r rows ih => rw [flatR_cons]; simp only [List.flatten_cons, List.length_append, List.length_cons]; omega
    omega
  have hW0 := ps.w0
  rcases Nat.lt_or_ge i s.size with hil | hig
  rotate_left
  · -- the end
    obtain rfl : i = s.size := by omega
    have hil' : ¬ (s.size : Int) < (s.size : Int) := by omega
    by_cases hfr : fr = s.size
    · have hd : s.data.toList.drop fr = [] := List.drop_eq_nil_of_le (by omega)
      rw [hd] at ps
      obtain ⟨d1, d2⟩ := ps.done
      have hb : (((fr : Nat) : Int) != (s.size : Int)) = false := by rw [hfr]; simp
      (have fx := And.intro t0 (And.intro t6 (And.intro hil' (And.intro t5 (And.intro hb (And.intro t4 gm))))); refine stepR ?_; clear fx)
      refine ml_call (have fx := hb; Sd) Sd0 (rRight_c W rows.length S τ) ?_
      rintro _ τ2 ⟨rfl, e2⟩
      have gz2 := e2.cells gz
      have gm2 := e2.cells gm
      cases hg : gr W rows.length S
      · (have fx := And.intro t0 (And.intro t6 (And.intro hil' (And.intro t5 (And.intro hb (And.intro t4 t2))))); refine stepR ?_; clear fx)
        refine ml_storeA (off := 0) (vs := [.int .i64 0, .int .i64 0, .string ⟨#[]⟩]) Sd0 (have fx := t2; Sd) Sd0 gz2 rfl (by simp) rfl fun τ3 s3 => ?_
        refine stepR0 ?_
        refine finC1 (id := σ.size) (vs := [.int .i64 0, .int .i64 0, .string ⟨#[]⟩]) (have fx := t2; Sd) (row_of s3.self rfl) ?_
        refine ⟨s3.ext (ge.trans e2) (Nat.le_refl _), .inr ⟨Sd0, fun W' H' S' hp => ?_⟩⟩
        rw [d2 hp] at hg; cases hg
      · (have fx := And.intro t0 (And.intro t6 (And.intro hil' (And.intro t5 (And.intro hb (And.intro t4 (And.intro gm2 t2)))))); refine stepR ?_; clear fx)
        refine ml_storeA (off := 0) (vs := [.int .i64 W, .int .i64 rows.length, .string S]) Sd0 (have fx := t2; Sd) Sd0 gz2 rfl (by simp) rfl fun τ3 s3 => ?_
        refine stepR0 ?_
        refine finC1 (id := σ.size) (vs := [.int .i64 W, .int .i64 rows.length, .string S]) (have fx := t2; Sd) (row_of s3.self rfl) ?_
        exact ⟨s3.ext (ge.trans e2) (Nat.le_refl _), .inl ⟨W, rows.length, S, Sd0, d1 hg⟩⟩
    · have hb : (((fr : Nat) : Int) != (s.size : Int)) = true := by simp; omega
      have hno : (10 : UInt8) ∉ s.data.toList.drop fr := by
        rw [List.take_of_length_le (by rw [List.length_drop]; omega)] at no; exact no
      have hne : s.data.toList.drop fr ≠ [] := fun e => by
        have := congrArg List.length e
        rw [List.length_drop, List.length_nil] at this; omega
      (have fx := And.intro t0 (And.intro t6 (And.intro hil' (And.intro t5 (And.intro hb t2)))); refine stepR ?_; clear fx)
      refine ml_storeA (off := 0) (vs := [.int .i64 0, .int .i64 0, .string ⟨#[]⟩]) Sd0 (have fx := t2; Sd) Sd0 gz rfl (by simp) rfl fun τ3 s3 => ?_
      refine stepR0 ?_
      refine finC1 (id := σ.size) (vs := [.int .i64 0, .int .i64 0, .string ⟨#[]⟩]) (have fx := t2; Sd) (row_of s3.self rfl) ?_
      exact ⟨s3.ext ge (Nat.le_refl _), .inr ⟨Sd0, fun W' H' S' => ps.open_ hne hno⟩⟩
  have hil' : ((i : Nat) : Int) < (s.size : Int) := by omega
  have hbi : s.data.toList[i]? = some (s.data.toList.getD i 0) := by rw [List.getD_eq_getElem?_getD, List.getElem?_eq_getElem (by omega)]; rfl
  have ub : ((((s.data.toList.getD i 0).toNat : Nat) : Int) != 10) = !(s.data.toList.getD i 0 == 10) := by
    have := u8eq (s.data.toList.getD i 0) 10 (by omega)
    simp only [bne]; exact congrArg (! ·) this
  have htk : (s.data.toList.drop fr).take (i + 1 - fr) = (s.data.toList.drop fr).take (i - fr) ++ [s.data.toList.getD i 0] := by
    rw [show i + 1 - fr = (i - fr) + 1 by omega, List.take_add_one, List.getElem?_drop, show fr + (i - fr) = i by omega, hbi]; rfl
  generalize hbv : s.data.toList.getD i 0 = bv at ub htk hbi
  cases hb : bv == 10
  · rw [hb] at ub
    (have fx := And.intro t0 (And.intro t6 (And.intro hil' (And.intro hbv ub))); refine stepR ?_; clear fx)
    refine ⟨_, by omega, i + 1, fr, rows, W, S, rfl, hil, ⟨ge, gz, gm, ps, by omega, ?_⟩, (have fx := t0; Sd), (have fx := t2; Sd), (have fx := t3; Sd), (have fx := t4; Sd), (have fx := t5; Sd), Sd0⟩
    rw [htk, List.mem_append, List.mem_singleton]
    rintro (h | h)
    · exact no h
    · rw [← h] at hb; cases hb
  rw [hb] at ub
  obtain rfl : bv = 10 := by simpa using hb
  generalize hrow : (s.data.toList.drop fr).take (i - fr) = row at no htk
  have hrl2 : row.length = i - fr := by rw [← hrow, List.length_take, List.length_drop]; omega
  have hsplit : s.data.toList.drop fr = row ++ 10 :: s.data.toList.drop (i + 1) := by
    have h1 := List.take_append_drop (i + 1 - fr) (s.data.toList.drop fr)
    rw [htk, List.drop_drop, show fr + (i + 1 - fr) = i + 1 by omega, List.append_assoc] at h1
    exact h1.symm
  have hsub : ((i : Nat) : Int) - ((fr : Nat) : Int) = ((row.length : Nat) : Int) := by omega
  (have fx := And.intro t0 (And.intro t6 (And.intro hil' (And.intro hbv ub))); refine stepR ?_; clear fx)
  refine ml_mid (fun ts2 τ2 => τ2 = τ ∧ ts2 0 = .string s ∧ ts2 2 = .pointer (some ⟨σ.size, 0, none⟩) ∧ ts2 3 = .bool false ∧ ts2 4 = .pointer (some ⟨σ.size + 1, 0, none⟩) ∧ ts2 5 = .int .i64 ((fr : Nat) : Int) ∧ ts2 6 = .int .i64 ((i : Nat) : Int) ∧
      ts2 27 = .bool (decide (0 < rows.length) && (((row.length : Nat) : Int) != W))) ?_ ?_
  · by_cases h0 : 0 < rows.length
    · have h0' : (0 : Int) < ((rows.length : Nat) : Int) := by omega
      have hd : decide (0 < rows.length) = true := decide_eq_true h0
      (have fx := And.intro t4 (And.intro gm (And.intro h0' (And.intro t6 (And.intro t5 hsub)))); refine stepR ?_; clear fx)
      exact ⟨rfl, (have fx := t0; Sd), (have fx := t2; Sd), (have fx := t3; Sd), (have fx := t4; Sd), (have fx := t5; Sd), (have fx := t6; Sd), (have fx := And.intro hd h0'; Sd)⟩
    · have h0' : ¬ (0 : Int) < ((rows.length : Nat) : Int) := by omega
      have hd : decide (0 < rows.length) = false := decide_eq_false h0
      (have fx := And.intro t4 (And.intro gm (And.intro h0' (And.intro t6 t5))); refine stepR ?_; clear fx)
      exact ⟨rfl, (have fx := t0; Sd), (have fx := t2; Sd), (have fx := t3; Sd), (have fx := t4; Sd), (have fx := t5; Sd), (have fx := t6; Sd), (have fx := And.intro hd h0'; Sd)⟩
  clear t0 t2 t3 t4 t5 t6 ts
  rintro ts τ2 ⟨rfl, t0, t2, t3, t4, t5, t6, t27⟩
  rcases Bool.eq_false_or_eq_true (decide (0 < rows.length) && (((row.length : Nat) : Int) != W)) with hbad | hbad
  · rw [hbad] at t27
    rw [Bool.and_eq_true, decide_eq_true_eq, bne_iff_ne] at hbad
    (have fx := t27; refine stepR ?_; clear fx)
    refine ml_storeA (off := 0) (vs := [.int .i64 0, .int .i64 0, .string ⟨#[]⟩]) Sd0 (have fx := t2; Sd) Sd0 gz rfl (by simp) rfl fun τ3 s3 => ?_
    refine stepR0 ?_
    refine finC1 (id := σ.size) (vs := [.int .i64 0, .int .i64 0, .string ⟨#[]⟩]) (have fx := t2; Sd) (row_of s3.self rfl) ?_
    exact ⟨s3.ext ge (Nat.le_refl _), .inr ⟨Sd0, fun W' H' S' => ps.bad hsplit no ⟨fun e => by rw [e] at hbad; simp at hbad, hbad.2⟩⟩⟩
  rw [hbad] at t27
  rw [Bool.and_eq_false_iff, decide_eq_false_iff_not, bne_eq_false_iff_eq] at hbad
  (have fx := And.intro t27 (And.intro t6 (And.intro t5 (And.intro t4 hsub))); refine stepR ?_; clear fx)
  refine ml_storeA (off := 0) (vs := [.int .i64 ((row.length : Nat) : Int)]) Sd0 Sd0 (have fx := hsub; Sd) gm rfl (by simp) rfl fun τ3 s3 => ?_
  have gm3 := s3.self
  (have fx := And.intro t4 gm3; refine stepR ?_; clear fx)
  refine ml_storeA (off := 1) (vs := [.int .i64 (((rows.length + 1 : Nat)) : Int)]) Sd0 Sd0 Sd0 gm3 rfl (by simp [spl]) rfl fun τ4 s4 => ?_
  have gm4 := s4.self
  (have fx := And.intro t4 (And.intro gm4 (And.intro t0 (And.intro t5 t6))); refine stepR ?_; clear fx)
  refine mld_op Sd0 (o_slcS (p := ((fr : Nat) : Int)) (q := ((i : Nat) : Int)) (k := .i64) (k' := .i64) (have fx := t0; Sd) (have fx := t5; Sd) (have fx := t6; Sd) (by omega) (by omega) (by omega)) ?_
  have hes : (s.extract ((fr : Nat) : Int).toNat ((i : Nat) : Int).toNat).data.toList = row := by
    rw [ext_list, Int.toNat_natCast, Int.toNat_natCast, hrow]
  generalize (s.extract ((fr : Nat) : Int).toNat ((i : Nat) : Int).toNat) = X at hes
  have hXs : X.size = row.length := by rw [← hes]; exact Array.length_toList.symm
  refine mld_op Sd0 (o_cat (a := S) (b := X) Sd0 Sd0 (by omega)) ?_
  (have fx := t4; refine stepR ?_; clear fx)
  refine mld_storeA (off := 2) (vs := [.string (S ++ X)]) Sd0 (have fx := t4; Sd) Sd0 gm4 rfl (by simp [spl]) rfl fun τ5 s5 => ?_
  have gm5 := s5.self
  have hS2 : (S ++ X).data.toList = S.data.toList ++ row := by rw [ByteArray.data_append, Array.toList_append, hes]
  have ps2 := ps.more hsplit no (hbad.imp (fun h => List.length_eq_zero_iff.1 (by omega)) id) hS2
  (have fx := t6; refine stepR ?_; clear fx)
  have hlen2 : ((rows.length + 1 : Nat) : Int) = (((rows ++ [row]).length : Nat) : Int) := by simp
  refine ⟨_, by omega, i + 1, i + 1, rows ++ [row], row.length, S ++ X, rfl, hil, ⟨s5.ext (s4.ext (s3.ext ge (by omega)) (by omega)) (by omega), ?_, ?_, ps2, Nat.le_refl _, by simp⟩, (have fx := t0; Sd), (have fx := t2; Sd), (have fx := t3; Sd), (have fx := t4; Sd), Sd0, Sd0⟩
  · rw [s5.other _ (by omega), s4.other _ (by omega), s3.other _ (by omega)]; exact gz
  · rw [gm5, ← hlen2]; rfl
end Go.Proofs.YtepjinaomedecaaDoor
