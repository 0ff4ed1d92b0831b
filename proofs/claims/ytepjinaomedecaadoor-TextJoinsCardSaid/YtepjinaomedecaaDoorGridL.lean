/- grid.Lay: the walk. -/
import Derived.Test.YtepjinaomedecaaDoorLayP
import Derived.Test.YtepjinaomedecaaDoorGridT
import Derived.Test.YtepjinaomedecaaDoorBldB
namespace Go.Mini
section
variable {ts : Fr} {σ : H}
theorem o_slc3 {x lo hi mx : Opd} {id off len cap sz : Nat} {cs : List Value} {l h m : Nat} (hx : mev ts x = .slice (some ⟨id, off, none⟩) len cap) (hl : mev ts lo = .int .i64 l) (hh : mev ts hi = .int .i64 h) (hm : mev ts mx = .int .i64 m) (h1 : l ≤ h) (h2 : h ≤ m) (h3 : m ≤ cap) (hg : σ.get id = .cells sz cs) :
    mop ts σ (.slc sz x (some lo) (some hi) (some mx)) = some (.slice (some ⟨id, off + l * sz, none⟩) (h - l) (m - l), σ) := by
  simp only [mop, hx, Option.map_some, hl, hh, hm, bnds, bnd_ok (y := cap) (k := .i64) (q := (m : Int)) (by omega) (by omega), bnd_ok (y := m) (k := .i64) (q := (h : Int)) (by omega) (by omega), bnd_ok (y := h) (k := .i64) (q := (l : Int)) (by omega) (by omega), Int.toNat_natCast, okSz, hg, beq_self_eq_true, Bool.true_or, if_true]
theorem bytesL_u8' (l : List UInt8) : (bytesL l).all isU8 = true := by
  rw [List.all_eq_true]
  intro v hv
  obtain ⟨b, _, rfl⟩ := List.mem_map.1 hv
  rfl
theorem bytesL_to' (l : List UInt8) : (bytesL l).map toU8 = l := by
  unfold bytesL
  rw [List.map_map]
  conv => rhs; rw [← List.map_id l]
  apply List.map_congr_left
  intro b _
  simp [toU8]
theorem o_b2sR {x : Opd} {id off n cap : Nat} {L : List UInt8} (hx : mev ts x = .slice (some ⟨id, off, none⟩) n cap) (hr : σ.row id off n = some (bytesL L)) : mop ts σ (.b2s x) = some (.string ⟨L.toArray⟩, σ) := by
  simp only [mop, hx, hr, bytesL_u8', if_true, bytesL_to']
theorem o_cat {x y : Opd} {a b : ByteArray} (hx : mev ts x = .string a) (hy : mev ts y = .string b) (h : a.size + b.size ≤ 1000000000) : mop ts σ (.bin .add x y) = some (.string (a ++ b), σ) := by
  have h' : ((a.size + b.size : Nat) : Int) ≤ IntKind.i64.max := by simp [IntKind.max, IntKind.signed, IntKind.bits]; omega
  simp only [mop, hx, hy, mbin, if_pos h', Option.map_some]
end
end Go.Mini
namespace Go.Proofs.YtepjinaomedecaaDoor
open Go.Mini
open Go.Proofs.YtepjinaomedecaaDoor.Code
set_option linter.unusedVariables false
set_option linter.unusedSimpArgs false
set_option linter.ambiguousOpen false
attribute [local irreducible] mx ml mld mstep MCalls MYield Ex.thn Ex.inb mxR Ex.thnR Ex.inbR
variable {E : World → Prop}

theorem Chunk_c (a : Option Addr) (n c : Nat) (W : Int) (h1 : 1 ≤ W) (σ : H) : MCalls E Tryd.prog 32 [.slice a n c, .int .i64 W] σ (fun v τ => v = .func (.func 52) #[] #[.pointer (some ⟨σ.size, 0, none⟩), .pointer (some ⟨σ.size + 1, 0, none⟩)] ∧ τ = (σ.push (.cells 0 [.slice a n c])).push (.cells 0 [.int .i64 W])) := by
  refine mcalls_of fn32 (by simp) ?_
  unfold c32 r32
  have h1' : ¬ W < 1 := by omega
  refine stepR0 ?_
  have g1 : ((σ.push (.cells 0 [.slice a n c])).push (.cells 0 [.int .i64 W])).get (σ.size + 1) = .cells 0 [.int .i64 W] := H.get_push_self (σ.push (.cells 0 [.slice a n c])) _
  (have fx := And.intro g1 h1'; refine stepR ?_; clear fx)
  exact fin1 ⟨Sd0, rfl⟩

/-- Where grid.Lay stands between two rounds. -/
structure LG (σ : H) (n0 : Nat) (rec : OR) (oj : Option Nat) (acc : List UInt8) (W : Int) (S : ByteArray) (τ : H) : Prop where
  ext : Ext σ τ
  h0 : σ.size ≤ n0
  sz : n0 + 6 ≤ τ.size
  b : Bld τ (n0) oj acc
  bj : ∀ j, oj = some j → n0 + 6 ≤ j
  s : τ.get (n0 + 1) = .cells 1 (bytesL S.data.toList)
  c : τ.get (n0 + 2) = .cells 0 [.slice (some ⟨n0 + 1, 0, none⟩) S.size S.size]
  d : τ.get (n0 + 3) = .cells 0 [.int .i64 W]
  e : τ.get (n0 + 4) = .oth defdR
  l : τ.get (n0 + 5) = .oth rec
theorem LG.set_l {σ τ : H} {n0 : Nat} {rec rec' : OR} {oj : Option Nat} {acc : List UInt8} {W : Int} {S : ByteArray} (h : LG σ n0 rec oj acc W S τ) : LG σ n0 rec' oj acc W S (τ.set (n0 + 5) (.oth rec')) := by
  have s : SetTo τ (n0 + 5) (.oth rec') (τ.set (n0 + 5) (.oth rec')) := .mk' (by have := h.sz; omega)
  exact ⟨s.ext h.ext (by have := h.h0; omega), h.h0, by rw [s.size]; exact h.sz, h.b.of_eq (s.other _ (by omega)) fun j hj => s.other _ (by have := h.bj j hj; omega), h.bj,
    by rw [s.other _ (by omega)]; exact h.s, by rw [s.other _ (by omega)]; exact h.c, by rw [s.other _ (by omega)]; exact h.d, by rw [s.other _ (by omega)]; exact h.e, s.self⟩
theorem LG.write {σ τ τ' : H} {n0 : Nat} {rec : OR} {oj oj' : Option Nat} {acc acc' : List UInt8} {W : Int} {S : ByteArray} (h : LG σ n0 rec oj acc W S τ) (hb : Bld τ' (n0) oj' acc') (hs : τ.size ≤ τ'.size) (hj : oj' = oj ∨ oj' = some τ.size)
    (hk : ∀ k, k < τ.size → k ≠ n0 → oj ≠ some k → τ'.get k = τ.get k) : LG σ n0 rec oj' acc' W S τ' := by
  have hsz := h.sz
  have hh0 := h.h0
  have old : ∀ k, k < n0 + 6 → k ≠ n0 → τ'.get k = τ.get k := fun k h1 h2 => hk k (by omega) h2 fun e => by have := h.bj k e; omega
  refine ⟨⟨by have := h.ext.size; omega, fun i hi => by rw [old i (by omega) (by omega), h.ext.get i hi]⟩, hh0, by omega, hb, fun j e => ?_, by rw [old _ (by omega) (by omega)]; exact h.s, by rw [old _ (by omega) (by omega)]; exact h.c, by rw [old _ (by omega) (by omega)]; exact h.d, by rw [old _ (by omega) (by omega)]; exact h.e, by rw [old _ (by omega) (by omega)]; exact h.l⟩
  rcases hj with rfl | rfl
  · exact h.bj j e
  · injection e with e; omega

set_option maxHeartbeats 2000000 in
theorem lround_c {σ τ : H} {n0 L : Nat} {ts : Fr} {ca cb : Code} {S : ByteArray} {W : Int} {oj : Option Nat} {acc : List UInt8} {off len : Nat}
    (hca : cC Tryd.prog 23 ca = some (rngMA m12 0)) (hcb : cC Tryd.prog 23 cb = some (rngMB m12 0))
    (h4 : ts 4 = .pointer (some ⟨n0, 0, none⟩)) (hl : off + len ≤ S.size) (hacc : acc.length + len ≤ 10000)
    (g : LG σ n0 (loopR L 23 ts #[17] ca cb .ready none) oj acc W S τ) : MYield E Tryd.prog L [.slice (some ⟨n0 + 1, off, none⟩) len len] τ (fun v τ' =>
      v = .bool true ∧ ∃ oj', LG σ n0 (loopR L 23 ts #[17] ca cb .ready none) oj' (acc ++ ((S.data.toList.drop off).take len ++ [10])) W S τ') := by
  refine myield_of g.l hca hcb rfl (by simp) ?_
  unfold rngMA rngMB m12
  simp only [rngs, List.nil_append, List.append_nil, List.getD_cons_zero, putL]
  refine stepR0 ?_
  refine ⟨rfl, g.l, ?_⟩
  have g1 : LG σ n0 (loopR L 23 ts #[17] ca cb .busy none) oj acc W S (τ.set (n0 + 5) (.oth (loopR L 23 ts #[17] ca cb .busy none))) := g.set_l
  generalize τ.set (n0 + 5) (.oth (loopR L 23 ts #[17] ca cb .busy none)) = τ1 at g1
  clear g
  have hlen : S.data.toList.length = S.size := Array.length_toList
  have hrow : τ1.row (n0 + 1) off len = some (bytesL ((S.data.toList.drop off).take len)) := by
    simp only [H.row, g1.s]
    rw [rowL_some len off _ (by rw [bytesL, List.length_map, hlen]; exact hl)]
    unfold bytesL
    rw [List.map_take, List.map_drop]
  generalize hR : (S.data.toList.drop off).take len = R at hrow
  have hRl : R.length ≤ len := by rw [← hR, List.length_take]; omega
  refine stepR0 ?_
  refine ml_op Sd0 (o_b2sR Sd0 hrow) ?_
  generalize hA : (⟨R.toArray⟩ : ByteArray) = A
  have hAs : A.size = R.length := by rw [← hA]; rfl
  have hAd : (A ++ ⟨#[10]⟩ : ByteArray).data.toList = R ++ [10] := by rw [ByteArray.data_append, Array.toList_append, ← hA]
  have hAz : (A ++ ⟨#[10]⟩ : ByteArray).size = R.length + 1 := by rw [ByteArray.size_append, hAs]; rfl
  refine stepR0 ?_
  refine ml_op Sd0 (o_cat (a := A) (b := ⟨#[10]⟩) Sd0 Sd0 (by rw [hAs]; show R.length + 1 ≤ _; omega)) ?_
  generalize (A ++ ⟨#[10]⟩ : ByteArray) = A2 at hAd hAz
  refine ml_call Sd0 (have fx := h4; Sd) (bWrite_c g1.b A2 (by omega) (by omega)) ?_
  rintro _ τ2 ⟨rfl, oj', hb, hs, hj, hk⟩
  rw [hAd] at hb
  have g2 := g1.write hb hs hj hk
  refine stepR0 ?_
  unfold roundQ
  exact ⟨g2.l, rfl, oj', g2.set_l⟩

set_option maxHeartbeats 2000000 in
theorem chunk1_c {σ τ : H} {n0 L : Nat} {ts : Fr} {ca cb : Code} {S : ByteArray} {w h : Nat} (hw : 1 ≤ w ∧ w ≤ 8) (hh : h ≤ 8) (hS : S.size = h * w)
    (hca : cC Tryd.prog 23 ca = some (rngMA m12 0)) (hcb : cC Tryd.prog 23 cb = some (rngMB m12 0))
    (h4 : ts 4 = .pointer (some ⟨n0, 0, none⟩)) {oj : Option Nat}
    (g : LG σ n0 (loopR L 23 ts #[17] ca cb .ready none) oj [] (w : Int) S τ) :
    MCalls E Tryd.prog 52 [.func (.yield L) #[] #[], .pointer (some ⟨n0 + 2, 0, none⟩), .pointer (some ⟨n0 + 3, 0, none⟩)] τ (fun _ τ' => ∃ oj', LG σ n0 (loopR L 23 ts #[17] ca cb .ready none) oj' (layT w h S.data.toList) (w : Int) S τ') := by
  have hlen : S.data.toList.length = S.size := Array.length_toList
  refine mcalls_of fn52 (by simp) ?_
  unfold c52 r52
  refine stepR0 ?_
  refine mx_loop (fun n ts' τ' => ∃ k oj', n = h - k ∧ k ≤ h ∧ LG σ n0 (loopR L 23 ts #[17] ca cb .ready none) oj' (layT w k S.data.toList) (w : Int) S τ' ∧ (layT w k S.data.toList).length ≤ k * (w + 1) ∧
    ts' 0 = .func (.yield L) #[] #[] ∧ ts' 1 = .pointer (some ⟨n0 + 2, 0, none⟩) ∧ ts' 2 = .pointer (some ⟨n0 + 3, 0, none⟩) ∧ ts' 4 = .int .i64 ((k * w : Nat) : Int)) h ?_ ?_
  · exact ⟨0, oj, rfl, by omega, g, by simp [layT], Sd0, Sd0, Sd0, by rw [Nat.zero_mul]; exact Sd0⟩
  clear g
  rintro n ts' τ1 ⟨k, oj', rfl, hk, g, hacc, t0, t1, t2, t4⟩
  have gc := g.c
  have gd := g.d
  have gs := g.s
  rcases Nat.lt_or_ge k h with hkl | hkg
  rotate_left
  · obtain rfl : k = h := by omega
    have hkl' : ¬ ((k * w : Nat) : Int) < (S.size : Int) := by rw [hS]; omega
    (have fx := And.intro t1 (And.intro t4 (And.intro gc hkl')); refine stepR ?_; clear fx)
    exact fin0n ⟨oj', g⟩
  have hkw : (k + 1) * w ≤ S.size := by rw [hS]; exact Nat.mul_le_mul_right _ hkl
  rw [Nat.add_mul, Nat.one_mul] at hkw
  have hw1 := hw.1
  have h64 : S.size ≤ 64 := by rw [hS]; exact Nat.mul_le_mul hh hw.2
  have hkl' : ((k * w : Nat) : Int) < (S.size : Int) := by omega
  have hkb : k * (w + 1) ≤ 8 * 9 := Nat.mul_le_mul (by omega) (by omega)
  generalize hq : k * w = q at *
  (have fx := And.intro t1 (And.intro t4 (And.intro gc (And.intro hkl' (And.intro t2 gd)))); refine stepR ?_; clear fx)
  refine mld_op Sd0 (o_slc_lo (q := (q : Int)) (k := .i64) Sd0 (have fx := t4; Sd) (by omega) (by omega) gs) ?_
  have hmin : ¬ ((S.size - q : Nat) : Int) < (w : Int) := by omega
  (have fx := And.intro hmin (And.intro t0 (And.intro t1 (And.intro gc t4))); refine stepR ?_; clear fx)
  refine ml_op Sd0 (o_slc3 (l := q) (h := q + w) (m := q + w) Sd0 (have fx := t4; Sd) Sd0 Sd0 (by omega) (by omega) (by omega) gs) ?_
  rw [show q + w - q = w by omega]
  (have fx := t0; refine stepR ?_; clear fx)
  refine ml_yield Sd0 (have fx := t0; Sd) Sd0 (lround_c (off := 0 + q * 1) (len := w) hca hcb h4 (by omega) (by omega) g) ?_
  rintro _ τ2 ⟨rfl, oj2, g2⟩
  have gd2 := g2.d
  (have fx := And.intro t4 (And.intro t2 gd2); refine stepR ?_; clear fx)
  rw [Nat.zero_add, Nat.mul_one] at g2
  refine ⟨_, by omega, k + 1, oj2, rfl, hkl, by simp only [layT, hq]; exact g2, ?_, (have fx := t0; Sd), (have fx := t1; Sd), (have fx := t2; Sd), ?_⟩
  · simp only [layT, List.length_append, List.length_take, List.length_cons, List.length_nil]
    rw [Nat.add_mul, Nat.one_mul]; omega
  · rw [Nat.add_mul, Nat.one_mul, hq]; exact Sd0

theorem LG.start {σ τ : H} {W : Int} {S : ByteArray} (e : Ext σ τ) (rec : OR) :
    LG σ τ.size rec none [] W S ((((((τ.push (.typ 69 [.pointer none, .slice none 0 0])).push (.cells 1 (bytesL S.data.toList))).push (.cells 0 [.slice (some ⟨τ.size + 1, 0, none⟩) S.size S.size])).push (.cells 0 [.int .i64 W])).push (.oth defdR)).push (.oth rec)) := by
  refine ⟨e.trans ((((((Ext.push _ _).trans (Ext.push _ _)).trans (Ext.push _ _)).trans (Ext.push _ _)).trans (Ext.push _ _)).trans (Ext.push _ _)), e.size, by simp, .fresh ?_, fun j h => (by cases h), ?_, ?_, ?_, ?_, ?_⟩ <;> simp [H.push]
  · rw [if_neg (by omega), if_neg (by omega), if_neg (by omega), if_neg (by omega)]
theorem fin12 {d : Nat} {x y : Value} {ts : Fr} {τ : H} {R : Value → H → Prop} (hd : τ.get d = .oth defdR) (h2 : ts 2 = x) (h3 : ts 3 = y) (h : R (.tuple #[x, y]) (τ.set d .dead)) : mpostR [.t 2, .t 3] R .ret [d] ts τ := by
  refine ⟨⟨hd, trivial⟩, [x, y], ?_, h⟩
  simp only [rvVals, rvVal, h2, h3]
theorem fin120 {x y : Value} {ts : Fr} {τ : H} {R : Value → H → Prop} (h2 : ts 2 = x) (h3 : ts 3 = y) (h : R (.tuple #[x, y]) τ) : mpostR [.t 2, .t 3] R .ret [] ts τ := by
  refine ⟨trivial, [x, y], ?_, h⟩
  simp only [rvVals, rvVal, h2, h3]

set_option maxHeartbeats 1000000 in
theorem gLay_c (W Hh : Int) (S : ByteArray) (σ : H) : MCalls E Tryd.prog 12 [mapV W Hh S] σ (fun v τ => Ext σ τ ∧
    if gr W Hh S = true then v = .tuple #[.string ⟨(layT W.toNat Hh.toNat S.data.toList).toArray⟩, .nilIface] else ∃ ev, v = .tuple #[.string ⟨#[]⟩, ev] ∧ TagE τ ev gridB 1) := by
  refine mcallsR_of fr12 (by simp) ?_
  have hm : m12 = m12 := rfl
  conv at hm => rhs; unfold m12
  rw [hm]
  unfold rr12 mapV
  refine mxR_ops_seq ?_
  refine stepR0 ?_
  have g0 := H.get_push_self σ (.cells 0 [.int .i64 W, .int .i64 Hh, .string S])
  have e0 := Ext.push σ (.cells 0 [.int .i64 W, .int .i64 Hh, .string S])
  have s0 : (σ.push (.cells 0 [.int .i64 W, .int .i64 Hh, .string S])).size = σ.size + 1 := rfl
  refine mxR_seq (mxR_plain ?_)
  (have fx := g0; refine stepR ?_; clear fx)
  refine ml_call Sd0 Sd0 (right_c W Hh S _) ?_
  rintro _ τ ⟨rfl, e1⟩
  have e2 := e0.trans e1
  have g1 := e1.cells g0
  cases hg : gr W Hh S
  · refine stepR0 ?_
    refine ml_call Sd0 Sd0 (tag_c _ _ _) ?_
    rintro ev τ2 ⟨he, e3⟩
    refine stepR0 ?_
    refine thnR_ret (fin120 (x := .string ⟨#[]⟩) (y := ev) Sd0 Sd0 ⟨e2.trans e3, ?_⟩)
    simp only [Bool.false_eq_true, if_false]
    exact ⟨ev, rfl, he⟩
  obtain ⟨hW, hH, hsz, hS, hall⟩ := gr_size hg
  obtain ⟨w, rfl⟩ := Int.eq_ofNat_of_zero_le (show 0 ≤ W by omega)
  obtain ⟨h, rfl⟩ := Int.eq_ofNat_of_zero_le (show 0 ≤ Hh by omega)
  have hsz' : S.size = h * w := by
    rw [Nat.mul_comm]; exact_mod_cast hsz
  refine stepR0 ?_
  refine thnR_nor' (mxR_ops_seq ?_)
  refine stepR0 ?_
  refine mxR_seq (mxR_ops_seq ?_)
  have e3 := Ext.push τ (.typ 69 [.pointer none, .slice none 0 0])
  have g3 := e3.cells g1
  have e4 := Ext.push (τ.push (.typ 69 [.pointer none, .slice none 0 0])) (.cells 1 (bytesL S.data.toList))
  have g4 := e4.cells g3
  (have fx := And.intro g3 g4; refine stepR ?_; clear fx)
  refine ml_call Sd0 Sd0 (Chunk_c _ _ _ _ (by omega) _) ?_
  rintro _ τ2 ⟨rfl, rfl⟩
  refine ml_nil (mxR_block (mxR_rng Sd0 ?_))
  intro h1 h2 L
  have h1' : cC Tryd.prog 23 (rngA Tryd.prog 12 0) = some (rngMA m12 0) := h1
  have h2' : cC Tryd.prog 23 (rngB Tryd.prog 12 0) = some (rngMB m12 0) := h2
  clear h1 h2 hm
  generalize hts : updO _ _ _ = ts
  have t4 : ts 4 = .pointer (some ⟨τ.size, 0, none⟩) := by subst hts; exact Sd0
  clear hts
  refine (chunk1_c (σ := σ) (n0 := τ.size) (S := S) (w := w) (h := h) ⟨by omega, by omega⟩ (by omega) hsz' h1' h2' t4 (LG.start e2 _)).mono ?_
  rintro _ τ3 ⟨oj, g⟩
  refine ⟨.ready, none, by simp, g.l, ?_⟩
  have hh0 := g.h0
  have sd : SetTo τ3 (τ.size + 5) .dead (τ3.set (τ.size + 5) .dead) := .mk' (by have := g.sz; omega)
  have x1 := sd.ext g.ext (by omega)
  have gb := g.b.of_eq (τ := τ3.set (τ.size + 5) .dead) (sd.other _ (by omega)) fun j hj => sd.other _ (by have := g.bj j hj; omega)
  have gd : (τ3.set (τ.size + 5) .dead).get (τ.size + 4) = .oth defdR := by rw [sd.other _ (by omega)]; exact g.e
  have gz : τ.size + 6 ≤ (τ3.set (τ.size + 5) .dead).size := g.sz
  have gj := g.bj
  unfold jumpQ
  refine inbR_nor (thnR_nor' (mxR_plain ?_))
  show mx _ _ _ _ _ (τ3.set (τ.size + 5) .dead)
  generalize τ3.set (τ.size + 5) .dead = τ4 at x1 gb gd gz ⊢
  clear g sd
  (have fx := t4; refine stepR ?_; clear fx)
  refine ml_call Sd0 (have fx := t4; Sd) (bString_c gb) ?_
  rintro _ τ5 ⟨rfl, hs5, hk5⟩
  refine stepR0 ?_
  have gd5 : τ5.get (τ.size + 4) = .oth defdR := by rw [hk5 _ (by omega) fun e => by have := gj _ e; omega]; exact gd
  have sd5 : SetTo τ5 (τ.size + 4) .dead (τ5.set (τ.size + 4) .dead) := .mk' (by omega)
  have x5 : Ext σ τ5 := ⟨by have := x1.size; omega, fun i hi => by rw [hk5 i (by have := x1.size; omega) fun e => by have := gj _ e; omega]; exact x1.get i hi⟩
  refine fin12 gd5 (x := .string ⟨(layT w h S.data.toList).toArray⟩) (y := .nilIface) Sd0 Sd0 ⟨sd5.ext x5 (by omega), ?_⟩
  simp only [if_true]
  rfl
end Go.Proofs.YtepjinaomedecaaDoor
