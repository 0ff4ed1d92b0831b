import Derived.Test.YtepjinaomedecaaDoorGridR
/- grid.Parse: the walk. -/
namespace Go.Proofs.YtepjinaomedecaaDoor
open Go.Mini
open Go.Proofs.YtepjinaomedecaaDoor.Code
set_option linter.unusedVariables false
set_option linter.unusedSimpArgs false
set_option linter.ambiguousOpen false
attribute [local irreducible] mx ml mld mstep MCalls MYield Ex.thn Ex.inb mxR Ex.thnR Ex.inbR
variable {E : World → Prop}

/-- Where grid.Parse stands between two rounds: its result's cells, its map, the rest of the text, the loop's two objects. -/
structure PG (σ : H) (rec : OR) (sv : ByteArray) (av bv mv : List Value) (τ : H) : Prop where
  ext : Ext σ τ
  sz : σ.size + 6 ≤ τ.size
  a : τ.get σ.size = .cells 0 av
  b : τ.get (σ.size + 1) = .cells 0 bv
  c : τ.get (σ.size + 2) = .cells 0 mv
  d : τ.get (σ.size + 3) = .cells 0 [.string sv]
  e : τ.get (σ.size + 4) = .oth defdR
  l : τ.get (σ.size + 5) = .oth rec
section
variable {σ τ τ' : H} {rec rec' : OR} {sv sv' : ByteArray} {av bv mv xv : List Value}
theorem PG.of_ext (h : PG σ rec sv av bv mv τ) (e : Ext τ τ') : PG σ rec sv av bv mv τ' :=
  ⟨h.ext.trans e, Nat.le_trans h.sz e.size, e.cells h.a, e.cells h.b, e.cells h.c, e.cells h.d, e.live h.e (by simp), e.live h.l (by simp)⟩
theorem PG.setA (h : PG σ rec sv av bv mv τ) (s : SetTo τ σ.size (.cells 0 xv) τ') : PG σ rec sv xv bv mv τ' :=
  ⟨s.ext h.ext (by omega), by rw [s.size]; exact h.sz, s.self, by rw [s.other _ (by omega)]; exact h.b, by rw [s.other _ (by omega)]; exact h.c, by rw [s.other _ (by omega)]; exact h.d, by rw [s.other _ (by omega)]; exact h.e, by rw [s.other _ (by omega)]; exact h.l⟩
theorem PG.setB (h : PG σ rec sv av bv mv τ) (s : SetTo τ (σ.size + 1) (.cells 0 xv) τ') : PG σ rec sv av xv mv τ' :=
  ⟨s.ext h.ext (by omega), by rw [s.size]; exact h.sz, by rw [s.other _ (by omega)]; exact h.a, s.self, by rw [s.other _ (by omega)]; exact h.c, by rw [s.other _ (by omega)]; exact h.d, by rw [s.other _ (by omega)]; exact h.e, by rw [s.other _ (by omega)]; exact h.l⟩
theorem PG.setC (h : PG σ rec sv av bv mv τ) (s : SetTo τ (σ.size + 2) (.cells 0 xv) τ') : PG σ rec sv av bv xv τ' :=
  ⟨s.ext h.ext (by omega), by rw [s.size]; exact h.sz, by rw [s.other _ (by omega)]; exact h.a, by rw [s.other _ (by omega)]; exact h.b, s.self, by rw [s.other _ (by omega)]; exact h.d, by rw [s.other _ (by omega)]; exact h.e, by rw [s.other _ (by omega)]; exact h.l⟩
theorem PG.setD (h : PG σ rec sv av bv mv τ) (s : SetTo τ (σ.size + 3) (.cells 0 [.string sv']) τ') : PG σ rec sv' av bv mv τ' :=
  ⟨s.ext h.ext (by omega), by rw [s.size]; exact h.sz, by rw [s.other _ (by omega)]; exact h.a, by rw [s.other _ (by omega)]; exact h.b, by rw [s.other _ (by omega)]; exact h.c, s.self, by rw [s.other _ (by omega)]; exact h.e, by rw [s.other _ (by omega)]; exact h.l⟩
theorem PG.setL (h : PG σ rec sv av bv mv τ) (s : SetTo τ (σ.size + 5) (.oth rec') τ') : PG σ rec' sv av bv mv τ' :=
  ⟨s.ext h.ext (by omega), by rw [s.size]; exact h.sz, by rw [s.other _ (by omega)]; exact h.a, by rw [s.other _ (by omega)]; exact h.b, by rw [s.other _ (by omega)]; exact h.c, by rw [s.other _ (by omega)]; exact h.d, by rw [s.other _ (by omega)]; exact h.e, s.self⟩
theorem PG.set_l (h : PG σ rec sv av bv mv τ) : PG σ rec' sv av bv mv (τ.set (σ.size + 5) (.oth rec')) := h.setL (.mk' (by have := h.sz; omega))
end
def zeroM : List Value := [.int .i64 0, .int .i64 0, .string ⟨#[]⟩]
/-- A line that is a row more. -/
def rowOK (line : ByteArray) (W : Int) (n : Nat) : Bool := endsNL line && !(decide (0 < n) && (((line.size - 1 : Nat) : Int) != W)) && !decide (n = 8)

/-- The parts of the small code's ranges over functions. -/
def _root_.Go.Mini.rngs : MR → List (MC × MC)
  | .rng _ _ _ _ ma mb => [(ma, mb)]
  | .seq a b => rngs a ++ rngs b
  | .cond _ a b => rngs a ++ rngs b
  | .block _ b => rngs b
  | .plain _ => []
def _root_.Go.Mini.rngMA (m : MR) (i : Nat) : MC := ((rngs m).getD i (.skip, .skip)).1
def _root_.Go.Mini.rngMB (m : MR) (i : Nat) : MC := ((rngs m).getD i (.skip, .skip)).2

set_option maxHeartbeats 2000000 in
theorem round_c {σ τ : H} {L : Nat} {ts : Fr} {ca cb : Code} {line sv S : ByteArray} {W : Int} {n : Nat}
    (hca : cC Tryd.prog 57 ca = some (rngMA m15 0)) (hcb : cC Tryd.prog 57 cb = some (rngMB m15 0))
    (h2 : ts 2 = .pointer (some ⟨σ.size, 0, none⟩)) (h3 : ts 3 = .pointer (some ⟨σ.size + 1, 0, none⟩)) (h4 : ts 4 = .pointer (some ⟨σ.size + 2, 0, none⟩)) (hl : line.size ≤ 1000000) (hS : S.size ≤ 1000000) (hn : n ≤ 8)
    (g : PG σ (loopR L 57 ts #[10] ca cb .ready none) sv zeroM [.nilIface] (mapC W n S) τ) : MYield E Tryd.prog L [.string line] τ (fun v τ' =>
      if rowOK line W n then v = .bool true ∧ PG σ (loopR L 57 ts #[10] ca cb .ready none) sv zeroM [.nilIface] (mapC ((line.size - 1 : Nat) : Int) ((n : Int) + 1) (S ++ line.extract 0 (line.size - 1))) τ'
      else v = .bool false ∧ ∃ ev, PG σ (loopR L 57 ts #[10] ca cb .done (some .ret)) sv zeroM [ev] (mapC W n S) τ' ∧ TagE τ' ev ⟨#[103, 114, 105, 100]⟩ 2) := by
  refine myield_of g.l hca hcb rfl (by simp) ?_
  unfold rngMA rngMB m15
  simp only [rngs, List.nil_append, List.append_nil, List.getD_cons_zero, putL]
  refine stepR0 ?_
  refine ⟨rfl, g.l, ?_⟩
  have g1 : PG σ (loopR L 57 ts #[10] ca cb .busy none) sv zeroM [.nilIface] (mapC W n S) (τ.set (σ.size + 5) (.oth (loopR L 57 ts #[10] ca cb .busy none))) := g.set_l
  generalize τ.set (σ.size + 5) (.oth (loopR L 57 ts #[10] ca cb .busy none)) = τ1 at g1
  clear g
  have gc := g1.c
  (have fx := And.intro h2 (And.intro h3 h4); refine stepR ?_; clear fx)
  refine ml_call Sd0 Sd0 (Cut_c line _ hl) ?_
  rintro _ τ2 ⟨rfl, rfl⟩
  have gc2 : τ2.get (σ.size + 2) = .cells 0 [.int .i64 W, .int .i64 n, .string S] := gc
  generalize hrow : (if endsNL line = true then line.extract 0 (line.size - 1) else line) = row
  have hrsz : row.size ≤ 1000000 := by rw [← hrow]; split <;> (try simp) <;> omega
  have hrs : endsNL line = true → (row.size : Int) = ((line.size - 1 : Nat) : Int) := fun h => by rw [← hrow, if_pos h]; simp
  refine stepR0 ?_
  refine ml_mid (fun ts' τ' => τ' = τ2 ∧ ts' 2 = .pointer (some ⟨σ.size, 0, none⟩) ∧ ts' 3 = .pointer (some ⟨σ.size + 1, 0, none⟩) ∧ ts' 4 = .pointer (some ⟨σ.size + 2, 0, none⟩) ∧ ts' 6 = .string row ∧ ts' 34 = .bool (!rowOK line W n)) ?_ ?_
  · unfold rowOK
    cases he : endsNL line
    · (have fx := And.intro h2 (And.intro h3 h4); refine stepR ?_; clear fx)
      exact ⟨rfl, (have fx := h2; Sd), (have fx := h3; Sd), (have fx := h4; Sd), Sd0, Sd0⟩
    · have hw := hrs he
      rw [← hw]
      by_cases h0 : n = 0
      · subst h0
        (have fx := And.intro h2 (And.intro h3 (And.intro h4 gc2)); refine stepR ?_; clear fx)
        exact ⟨rfl, (have fx := h2; Sd), (have fx := h3; Sd), (have fx := h4; Sd), Sd0, Sd0⟩
      · have h0' : (0 : Int) < (n : Int) := by omega
        have h0n : 0 < n := by omega
        by_cases h1 : (row.size : Int) = W
        · have h1' : ((row.size : Int) != W) = false := by rw [h1]; simp
          by_cases h8 : n = 8
          · have h8' : (((n : Nat) : Int) == 8) = true := by rw [h8]; rfl
            have h8n : decide (n = 8) = true := by simp [h8]
            (have fx := And.intro h2 (And.intro h3 (And.intro h4 (And.intro gc2 (And.intro h0' (And.intro h1' h8'))))); refine stepR ?_; clear fx)
            exact ⟨rfl, (have fx := h2; Sd), (have fx := h3; Sd), (have fx := h4; Sd), Sd0, (have fx := And.intro h0' (And.intro h1' (And.intro h8' (And.intro h0n h8n))); Sd)⟩
          · have h8' : (((n : Nat) : Int) == 8) = false := by rw [beq_eq_false_iff_ne]; omega
            have h8n : decide (n = 8) = false := by simp [h8]
            (have fx := And.intro h2 (And.intro h3 (And.intro h4 (And.intro gc2 (And.intro h0' (And.intro h1' h8'))))); refine stepR ?_; clear fx)
            exact ⟨rfl, (have fx := h2; Sd), (have fx := h3; Sd), (have fx := h4; Sd), Sd0, (have fx := And.intro h0' (And.intro h1' (And.intro h8' (And.intro h0n h8n))); Sd)⟩
        · have h1' : ((row.size : Int) != W) = true := by simp [h1]
          (have fx := And.intro h2 (And.intro h3 (And.intro h4 (And.intro gc2 (And.intro h0' h1')))); refine stepR ?_; clear fx)
          exact ⟨rfl, (have fx := h2; Sd), (have fx := h3; Sd), (have fx := h4; Sd), Sd0, (have fx := And.intro h0' (And.intro h1' h0n); Sd)⟩
  rintro ts' τ3 ⟨rfl, t2, t3, t4, t6, t34⟩
  cases hok : rowOK line W n
  · rw [hok] at t34
    (have fx := t34; refine stepR ?_; clear fx)
    refine ml_call Sd0 Sd0 (tag_c _ _ _) ?_
    rintro ev τ4 ⟨he, e2⟩
    have g2 := g1.of_ext e2
    refine ml_storeA (off := 0) (vs := zeroM) Sd0 (have fx := t2; Sd) Sd0 g2.a rfl (by simp [zeroM]) rfl fun τ5 s5 => ?_
    have g3 := g2.setA s5
    have he5 : TagE τ5 ev ⟨#[103, 114, 105, 100]⟩ 2 := by
      obtain ⟨id, h1, h5⟩ := he
      refine ⟨id, h1, s5.cells h5 (fun e => ?_)⟩
      rw [e, g2.a] at h5; cases h5
    refine ml_storeA (off := 0) (vs := [ev]) Sd0 (have fx := t3; Sd) (by obtain ⟨id, rfl, _⟩ := he; exact Sd0) g3.b rfl (by simp) (by obtain ⟨id, rfl, _⟩ := he; rfl) fun τ6 s6 => ?_
    have g4 := g3.setB s6
    have he6 : TagE τ6 ev ⟨#[103, 114, 105, 100]⟩ 2 := by
      obtain ⟨id, h1, h5⟩ := he5
      refine ⟨id, h1, s6.cells h5 (fun e => ?_)⟩
      rw [e, g3.b] at h5; cases h5
    refine stepR0 ?_
    unfold roundQ
    refine ⟨g4.l, ?_⟩
    simp only [Bool.false_eq_true, if_false]
    refine ⟨trivial, ev, g4.set_l, ?_⟩
    obtain ⟨id, h1, h5⟩ := he6
    refine ⟨id, h1, ?_⟩
    rw [H.get_set_ne (fun e => ?_), h5]
    rw [e, g4.l] at h5; cases h5
  · rw [hok] at t34
    have hen : endsNL line = true := by simp only [rowOK, Bool.and_eq_true] at hok; exact hok.1.1
    have hw := hrs hen
    have hcat : ((S.size + row.size : Nat) : Int) ≤ IntKind.i64.max := by simp [IntKind.max, IntKind.signed, IntKind.bits]; omega
    (have fx := And.intro t34 (And.intro t4 (And.intro t6 (And.intro gc2 hcat))); refine stepR ?_; clear fx)
    refine ml_storeA (off := 0) (vs := [.int .i64 row.size]) Sd0 Sd0 Sd0 gc2 rfl (by simp) rfl fun τ4 s4 => ?_
    have g2 := g1.setC s4
    (have fx := t4; refine stepR ?_; clear fx)
    refine ml_storeA (off := 1) (vs := [.int .i64 ((n : Int) + 1)]) Sd0 Sd0 Sd0 g2.c rfl (by simp [spl]) rfl fun τ5 s5 => ?_
    have g3 := g2.setC s5
    (have fx := t4; refine stepR ?_; clear fx)
    refine ml_storeA (off := 2) (vs := [.string (S ++ row)]) Sd0 Sd0 Sd0 g3.c rfl (by simp [spl]) rfl fun τ6 s6 => ?_
    have g4 := g3.setC s6
    refine stepR0 ?_
    unfold roundQ
    refine ⟨g4.l, ?_⟩
    simp only [if_true]
    rw [if_pos hen] at hrow
    rw [hrow, ← hw]
    exact ⟨trivial, g4.set_l⟩
end Go.Proofs.YtepjinaomedecaaDoor
/- grid.Parse: the contract. -/
namespace Go.Proofs.YtepjinaomedecaaDoor
open Go.Mini
open Go.Proofs.YtepjinaomedecaaDoor.Code
set_option linter.unusedVariables false
set_option linter.unusedSimpArgs false
set_option linter.ambiguousOpen false
attribute [local irreducible] mx ml mld mstep MCalls MYield Ex.thn Ex.inb mxR Ex.thnR Ex.inbR
variable {E : World → Prop}

def gridB : ByteArray := ⟨#[103, 114, 105, 100]⟩
/-- What lines come to, round by round. -/
def linesQ (σ : H) (s : ByteArray) (L : Nat) (ts : Fr) (ca cb : Code) (τ : H) : Prop :=
  (∃ rows W S, PSt s.data.toList [] rows W S ∧ ∃ sv, PG σ (loopR L 57 ts #[10] ca cb .ready none) sv zeroM [.nilIface] (mapC W rows.length S) τ) ∨
  (∃ ev sv mv, PG σ (loopR L 57 ts #[10] ca cb .done (some .ret)) sv zeroM [ev] mv τ ∧ TagE τ ev gridB 2 ∧ ∀ W Hh S, ¬ Parsed s.data.toList W Hh S)
theorem ba_len (s : ByteArray) : s.data.toList.length = s.size := Array.length_toList

set_option maxHeartbeats 2000000 in
theorem lines_c {σ τ : H} {L : Nat} {ts : Fr} {ca cb : Code} {s : ByteArray} (hca : cC Tryd.prog 57 ca = some (rngMA m15 0)) (hcb : cC Tryd.prog 57 cb = some (rngMB m15 0))
    (h2 : ts 2 = .pointer (some ⟨σ.size, 0, none⟩)) (h3 : ts 3 = .pointer (some ⟨σ.size + 1, 0, none⟩)) (h4 : ts 4 = .pointer (some ⟨σ.size + 2, 0, none⟩)) (hl : s.size ≤ 1000000)
    (g : PG σ (loopR L 57 ts #[10] ca cb .ready none) s zeroM [.nilIface] (mapC 0 ((0 : Nat) : Int) ⟨#[]⟩) τ) :
    MCalls E Tryd.prog 58 [.func (.yield L) #[] #[], .pointer (some ⟨σ.size + 3, 0, none⟩)] τ (fun _ τ' => linesQ σ s L ts ca cb τ') := by
  refine mcalls_of fn58 (by simp) ?_
  unfold c58 r58
  refine stepR0 ?_
  refine mx_loop (fun n ts' τ' => ∃ rest rows W S, n = rest.size ∧ PSt s.data.toList rest.data.toList rows W S ∧ PG σ (loopR L 57 ts #[10] ca cb .ready none) rest zeroM [.nilIface] (mapC W rows.length S) τ' ∧
    ts' 0 = .func (.yield L) #[] #[] ∧ ts' 1 = .pointer (some ⟨σ.size + 3, 0, none⟩)) s.size ?_ ?_
  · exact ⟨s, [], 0, ⟨#[]⟩, rfl, PSt.start _, g, Sd0, Sd0⟩
  clear g
  rintro n ts' τ1 ⟨rest, rows, W, S, rfl, ps, g, t0, t1⟩
  have gd := g.d
  have hrl : rest.size ≤ s.size := by
    have := congrArg List.length ps.txt
    rw [List.length_append, ba_len, ba_len] at this; omega
  have hSs : S.size ≤ 1000000 := by
    have h1 := congrArg List.length ps.txt
    have h2 := congrArg List.length ps.cells
    rw [List.length_append, ba_len, ba_len] at h1
    rw [ba_len] at h2
    have : rows.flatten.length ≤ (flatR rows).length := by
      clear ps g gd h1 h2
      induction rows with
      | nil => simp
      | cons r rows ih => rw [flatR_cons]; simp only [List.flatten_cons, List.length_append, List.length_cons]; omega
    omega
  by_cases h0 : rest.size = 0
  · have e : rest.data.toList = [] := List.length_eq_zero_iff.1 (by rw [ba_len]; exact h0)
    rw [e] at ps
    have h0' : ((rest.size : Nat) : Int) = 0 := by omega
    (have fx := And.intro t1 (And.intro gd h0'); refine stepR ?_; clear fx)
    exact fin0n (.inl ⟨rows, W, S, ps, rest, g⟩)
  have h0' : (0 : Int) < (rest.size : Int) := by omega
  (have fx := And.intro t1 (And.intro gd h0'); refine stepR ?_; clear fx)
  refine ml_call Sd0 Sd0 (strIndexByte_c rest 10 _) ?_
  rintro _ τ2 ⟨rfl, rfl⟩
  have hrest : rest.data.toList ≠ [] := fun e => h0 (by rw [← ba_len, e]; rfl)
  have e10 : Nat.toUInt8 10 = (10 : UInt8) := rfl
  rw [e10]
  rcases indexByte_cases rest.data.toList with ⟨hi, hf⟩ | ⟨o, hi, ho, htx, hf⟩
  · rw [hi]
    have hnl : endsNL rest = false := by
      unfold endsNL
      rw [Bool.and_eq_false_iff]; right
      rw [beq_eq_false_iff_ne]
      intro e
      have hlt : rest.size - 1 < rest.data.toList.length := by rw [ba_len]; omega
      rw [List.getD_eq_getElem?_getD, List.getElem?_eq_getElem hlt] at e
      exact hf (by rw [← show rest.data.toList[rest.size - 1] = 10 from e]; exact List.getElem_mem hlt)
    (have fx := And.intro t1 gd; refine stepR ?_; clear fx)
    refine ml_storeA (off := 0) (vs := [.string ⟨#[]⟩]) Sd0 (have fx := t1; Sd) Sd0 gd rfl (by simp) rfl fun τ3 s3 => ?_
    have g3 := g.setD s3
    (have fx := t0; refine stepR ?_; clear fx)
    refine ml_yield Sd0 (have fx := t0; Sd) Sd0 (round_c (sv := ⟨#[]⟩) hca hcb h2 h3 h4 (by omega) hSs ps.num g3) ?_
    have hro : rowOK rest W rows.length = false := by simp [rowOK, hnl]
    rw [hro]
    rintro _ τ4 ⟨rfl, ev, g4, hev⟩
    refine stepR0 ?_
    refine fin0 (.inr ⟨ev, _, _, g4, hev, fun W' Hh' S' => ps.open_ hrest hf⟩)
  · rw [hi]
    rw [ba_len] at ho
    have ho' : (0 : Int) ≤ ((o : Nat) : Int) := by omega
    (have fx := And.intro t1 (And.intro gd ho'); refine stepR ?_; clear fx)
    refine mld_op Sd0 (o_slcS_hi (q := (o : Int) + 1) (k := .i64) Sd0 Sd0 (by omega) (by omega)) ?_
    rw [show ((o : Int) + 1).toNat = o + 1 by omega]
    (have fx := And.intro t1 gd; refine stepR ?_; clear fx)
    refine mld_op Sd0 (o_slcS_lo (q := (o : Int) + 1) (k := .i64) Sd0 Sd0 (by omega) (by omega)) ?_
    rw [show ((o : Int) + 1).toNat = o + 1 by omega]
    have hlineL : (rest.extract 0 (o + 1)).data.toList = rest.data.toList.take o ++ [10] := by
      rw [ext_list, List.drop_zero, Nat.sub_zero, List.take_add_one]
      congr 1
      have h5 : rest.data.toList[o]? = some 10 := by
        rw [htx, List.getElem?_append_right (by simp; omega)]
        simp [ba_len, Nat.min_eq_left (Nat.le_of_lt ho)]
      rw [h5]; rfl
    have hrestL : (rest.extract (o + 1) rest.size).data.toList = rest.data.toList.drop (o + 1) := by
      rw [ext_list, List.take_of_length_le (by rw [List.length_drop, ba_len]; exact Nat.le_refl _)]
    have hls : (rest.extract 0 (o + 1)).size = o + 1 := by rw [← ba_len, hlineL, List.length_append, List.length_take, ba_len]; simp; omega
    have hrs : (rest.extract (o + 1) rest.size).size = rest.size - (o + 1) := by rw [← ba_len, hrestL, List.length_drop, ba_len]
    generalize rest.extract 0 (o + 1) = line at hlineL hls
    generalize rest.extract (o + 1) rest.size = rest2 at hrestL hrs
    have hen : endsNL line = true := by
      unfold endsNL
      rw [Bool.and_eq_true]
      refine ⟨by simp; omega, ?_⟩
      rw [hls, hlineL, List.getD_eq_getElem?_getD, List.getElem?_append_right (by rw [List.length_take]; omega), List.length_take, ba_len, show o + 1 - 1 - min o rest.size = 0 by omega]
      rfl
    have hrowL : (line.extract 0 (line.size - 1)).data.toList = rest.data.toList.take o := by
      rw [ext_list, hls, List.drop_zero, hlineL, show o + 1 - 1 - 0 = o by omega, List.take_append_of_le_length (by rw [List.length_take, ba_len]; omega), List.take_take, Nat.min_self]
    have hrn : (rest.data.toList.take o).length = o := by rw [List.length_take, ba_len]; omega
    rw [← hrestL] at htx
    rw [← hrowL] at htx hf hrn
    generalize hrowe : line.extract 0 (line.size - 1) = row at htx hf hrn
    (have fx := And.intro t1 gd; refine stepR ?_; clear fx)
    refine mld_storeA (off := 0) (vs := [.string rest2]) Sd0 (have fx := t1; Sd) Sd0 gd rfl (by simp) rfl fun τ3 s3 => ?_
    have g3 := g.setD s3
    (have fx := t0; refine stepR ?_; clear fx)
    refine ml_yield Sd0 (have fx := t0; Sd) Sd0 (round_c (sv := rest2) hca hcb h2 h3 h4 (by omega) hSs ps.num g3) ?_
    rw [hrowe]
    cases hro : rowOK line W rows.length
    · rintro _ τ4 ⟨rfl, ev, g4, hev⟩
      refine stepR0 ?_
      refine fin0 (.inr ⟨ev, _, _, g4, hev, fun W' Hh' S' => ps.bad htx hf ?_⟩)
      simp only [rowOK, hen, Bool.true_and, Bool.and_eq_false_iff, Bool.not_eq_false', Bool.and_eq_true, decide_eq_true_eq, bne_iff_ne, ne_eq, hls] at hro
      rcases hro with ⟨h5, h6⟩ | h5
      · refine .inl ⟨fun e => by rw [e] at h5; simp at h5, ?_⟩
        rw [hrn]; simpa using h6
      · exact .inr h5
    · rintro _ τ4 ⟨rfl, g4⟩
      refine stepR0 ?_
      simp only [rowOK, hen, Bool.true_and, Bool.and_eq_true, Bool.not_eq_true', Bool.and_eq_false_iff, decide_eq_false_iff_not, bne_eq_false_iff_eq, hls] at hro
      have hnum := ps.num
      refine ⟨rest2.size, by omega, rest2, rows ++ [row.data.toList], row.data.toList.length, S ++ row, rfl, ps.more htx hf ?_ (by omega) ?_, ?_, (have fx := t0; Sd), (have fx := t1; Sd)⟩
      · rcases hro.1 with h5 | h5
        · exact .inl (List.length_eq_zero_iff.1 (by omega))
        · right; rw [hrn]; simpa using h5
      · rw [ByteArray.data_append, Array.toList_append]
      · have e1 : ((line.size - 1 : Nat) : Int) = ((row.data.toList.length : Nat) : Int) := by rw [hrn]; omega
        have e2 : ((rows.length : Nat) : Int) + 1 = (((rows ++ [row.data.toList]).length : Nat) : Int) := by simp
        rw [e1, e2] at g4
        exact g4

theorem PG.start (σ : H) (rec : OR) (sv : ByteArray) (av bv mv : List Value) : PG σ rec sv av bv mv ((((((σ.push (.cells 0 av)).push (.cells 0 bv)).push (.cells 0 mv)).push (.cells 0 [.string sv])).push (.oth defdR)).push (.oth rec)) := by
  refine ⟨(((((Ext.push _ _).trans (Ext.push _ _)).trans (Ext.push _ _)).trans (Ext.push _ _)).trans (Ext.push _ _)).trans (Ext.push _ _), by simp, ?_, ?_, ?_, ?_, ?_, ?_⟩ <;> simp [H.push]
  rw [if_neg (by omega), if_neg (by omega), if_neg (by omega), if_neg (by omega)]
theorem finP {d a b : Nat} {x y z e : Value} {ts : Fr} {τ : H} {R : Value → H → Prop} (hd : τ.get d = .oth defdR) (h2 : ts 2 = .pointer (some ⟨a, 0, none⟩)) (h3 : ts 3 = .pointer (some ⟨b, 0, none⟩)) (ha : τ.get a = .cells 0 [x, y, z])
    (hb : τ.get b = .cells 0 [e]) (h : R (.tuple #[.agg #[x, y, z], e]) (τ.set d .dead)) : mpostR [.cell 2 3 true, .cell 3 1 false] R .ret [d] ts τ := by
  have na : a ≠ d := fun q => by rw [q, hd] at ha; cases ha
  have nb : b ≠ d := fun q => by rw [q, hd] at hb; cases hb
  refine ⟨⟨hd, trivial⟩, [.agg #[x, y, z], e], ?_, h⟩
  simp only [shutAll, rvVals, rvVal, h2, h3, if_true, H.row, H.cell, H.get_set_ne na, H.get_set_ne nb, ha, hb, rowL, Option.map_some, List.getElem?_cons_zero, List.getElem?_cons_succ, Bool.false_eq_true, if_false]

def parseQ (σ : H) (s : ByteArray) (v : Value) (τ : H) : Prop :=
  Ext σ τ ∧ ((∃ W Hh S, v = .tuple #[mapV W Hh S, .nilIface] ∧ Parsed s.data.toList W Hh S) ∨ (∃ ev, v = .tuple #[mapV 0 0 ⟨#[]⟩, ev] ∧ TagE τ ev gridB 2 ∧ ∀ W Hh S, ¬ Parsed s.data.toList W Hh S))

theorem TagE.put {σ τ : H} {i : Nat} {o : MObj} {v : Value} {name : ByteArray} {n : Int} (h : TagE σ v name n) (hs : SetTo σ i o τ) (hi : ∀ x y, σ.get i ≠ .cells 0 [x, y]) : TagE τ v name n := by
  obtain ⟨id, h1, h2⟩ := h
  exact ⟨id, h1, hs.cells h2 (fun e => by rw [e] at h2; exact hi _ _ h2)⟩

set_option maxHeartbeats 1000000 in
theorem gParse_c (s : ByteArray) (hl : s.size ≤ 1000000) (σ : H) : MCalls E Tryd.prog 15 [.string s] σ (parseQ σ s) := by
  refine mcallsR_of fr15 (by simp) ?_
  have hm : m15 = m15 := rfl
  conv at hm => rhs; unfold m15
  rw [hm]
  unfold rr15
  refine mxR_ops_seq ?_
  refine stepR0 ?_
  refine mxR_ops_seq ?_
  refine stepR0 ?_
  refine mxR_seq (mxR_ops_seq ?_)
  refine stepR0 ?_
  refine ml_call Sd0 Sd0 (Lines_c _ _) ?_
  rintro _ τ ⟨rfl, rfl⟩
  refine ml_nil (mxR_block (mxR_rng Sd0 ?_))
  intro h1 h2 L
  have h1' : cC Tryd.prog 57 (rngA Tryd.prog 15 0) = some (rngMA m15 0) := h1
  have h2' : cC Tryd.prog 57 (rngB Tryd.prog 15 0) = some (rngMB m15 0) := h2
  clear h1 h2 hm
  generalize hts : updO _ _ _ = ts
  have t2 : ts 2 = .pointer (some ⟨σ.size, 0, none⟩) := by subst hts; exact Sd0
  have t3 : ts 3 = .pointer (some ⟨σ.size + 1, 0, none⟩) := by subst hts; exact Sd0
  have t4 : ts 4 = .pointer (some ⟨σ.size + 2, 0, none⟩) := by subst hts; exact Sd0
  clear hts
  refine (lines_c (σ := σ) (s := s) h1' h2' t2 t3 t4 hl (PG.start σ _ s zeroM [.nilIface] (mapC 0 ((0 : Nat) : Int) ⟨#[]⟩))).mono ?_
  rintro _ τ (⟨rows, W, S, ps, sv, g⟩ | ⟨ev, sv, mv, g, hev, hno⟩)
  · refine ⟨.ready, none, by simp, g.l, ?_⟩
    have sd : SetTo τ (σ.size + 5) .dead (τ.set (σ.size + 5) .dead) := .mk' (by have := g.sz; omega)
    have e1 := sd.ext g.ext (by omega)
    have ga := sd.cells g.a (by omega)
    have gb := sd.cells g.b (by omega)
    have gc : (τ.set (σ.size + 5) .dead).get (σ.size + 2) = .cells 0 [.int .i64 W, .int .i64 rows.length, .string S] := sd.cells g.c (by omega)
    have gd : (τ.set (σ.size + 5) .dead).get (σ.size + 4) = .oth defdR := by rw [sd.other _ (by omega)]; exact g.e
    unfold jumpQ
    refine inbR_nor (thnR_nor' (mxR_plain ?_))
    show mx _ _ _ _ _ (τ.set (σ.size + 5) .dead)
    generalize τ.set (σ.size + 5) .dead = τ1 at *
    clear g sd τ
    (have fx := And.intro t4 gc; refine stepR ?_; clear fx)
    refine ml_call Sd0 Sd0 (right_c W rows.length S _) ?_
    rintro _ τ2 ⟨rfl, e2⟩
    have ga2 := e2.cells ga
    have gb2 := e2.cells gb
    have gc2 := e2.cells gc
    have gd2 := e2.live gd (by simp)
    obtain ⟨d1, d2⟩ := ps.done
    cases hg : gr W rows.length S
    · refine stepR0 ?_
      refine ml_call Sd0 Sd0 (tag_c _ _ _) ?_
      rintro ev τ3 ⟨he, e3⟩
      refine ml_storeA (off := 0) (vs := zeroM) Sd0 (have fx := t2; Sd) Sd0 (e3.cells ga2) rfl (by simp [zeroM]) rfl fun τ4 s4 => ?_
      have he4 := he.put s4 (by rw [e3.cells ga2]; simp [zeroM])
      have gb4 := s4.cells (e3.cells gb2) (by omega)
      refine ml_storeA (off := 0) (vs := [ev]) Sd0 (have fx := t3; Sd) (by obtain ⟨id, rfl, _⟩ := he; exact Sd0) gb4 rfl (by simp) (by obtain ⟨id, rfl, _⟩ := he; rfl) fun τ5 s5 => ?_
      have he5 := he4.put s5 (by rw [gb4]; simp)
      have gd5 : τ5.get (σ.size + 4) = .oth defdR := by rw [s5.other _ (by omega), s4.other _ (by omega)]; exact e3.live gd2 (by simp)
      have sd : SetTo τ5 (σ.size + 4) .dead (τ5.set (σ.size + 4) .dead) := .mk' (H.lt_of_live (by rw [gd5]; simp))
      refine stepR0 ?_
      refine finP (a := σ.size) (b := σ.size + 1) gd5 (have fx := t2; Sd) (have fx := t3; Sd) (s5.cells s4.self (by omega)) s5.self ⟨?_, .inr ⟨ev, rfl, he5.put sd (by rw [gd5]; simp), fun W' Hh' S' hp => ?_⟩⟩
      · exact sd.ext (s5.ext (s4.ext ((e1.trans e2).trans e3) (by omega)) (by omega)) (by omega)
      · rw [d2 hp] at hg; cases hg
    · (have fx := And.intro t4 gc2; refine stepR ?_; clear fx)
      refine ml_storeA (off := 0) (vs := [.int .i64 W, .int .i64 rows.length, .string S]) Sd0 (have fx := t2; Sd) Sd0 ga2 rfl (by simp [zeroM]) rfl fun τ4 s4 => ?_
      refine ml_storeA (off := 0) (vs := [.nilIface]) Sd0 (have fx := t3; Sd) Sd0 (s4.cells gb2 (by omega)) rfl (by simp) rfl fun τ5 s5 => ?_
      have gd5 : τ5.get (σ.size + 4) = .oth defdR := by rw [s5.other _ (by omega), s4.other _ (by omega)]; exact gd2
      have sd : SetTo τ5 (σ.size + 4) .dead (τ5.set (σ.size + 4) .dead) := .mk' (H.lt_of_live (by rw [gd5]; simp))
      refine stepR0 ?_
      refine finP (a := σ.size) (b := σ.size + 1) gd5 (have fx := t2; Sd) (have fx := t3; Sd) (s5.cells s4.self (by omega)) s5.self ⟨?_, .inl ⟨W, rows.length, S, rfl, d1 hg⟩⟩
      exact sd.ext (s5.ext (s4.ext (e1.trans e2) (by omega)) (by omega)) (by omega)
  · refine ⟨.done, some .ret, by simp, g.l, ?_⟩
    have sd : SetTo τ (σ.size + 5) .dead (τ.set (σ.size + 5) .dead) := .mk' (by have := g.sz; omega)
    have e1 := sd.ext g.ext (by omega)
    have ga := sd.cells g.a (by omega)
    have gb := sd.cells g.b (by omega)
    have he := hev.put sd (by rw [g.l]; simp)
    have gd : (τ.set (σ.size + 5) .dead).get (σ.size + 4) = .oth defdR := by rw [sd.other _ (by omega)]; exact g.e
    unfold jumpQ
    refine inbR_ret (thnR_ret ?_)
    show mpostR _ _ _ _ _ (τ.set (σ.size + 5) .dead)
    generalize τ.set (σ.size + 5) .dead = τ1 at *
    have sd2 : SetTo τ1 (σ.size + 4) .dead (τ1.set (σ.size + 4) .dead) := .mk' (H.lt_of_live (by rw [gd]; simp))
    exact finP (a := σ.size) (b := σ.size + 1) gd t2 t3 ga gb ⟨sd2.ext e1 (by omega), .inr ⟨ev, rfl, he.put sd2 (by rw [gd]; simp), hno⟩⟩
end Go.Proofs.YtepjinaomedecaaDoor
