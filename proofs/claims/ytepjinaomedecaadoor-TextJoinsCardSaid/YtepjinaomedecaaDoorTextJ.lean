/- text.All: lines, plainly; the walk of a round. -/
import Derived.Test.YtepjinaomedecaaDoorTextF
import Derived.Test.YtepjinaomedecaaDoorGridT
import Derived.Test.YtepjinaomedecaaDoorAppM
namespace Go.Mini
section
variable {E : World → Prop} {P : Program} {ts : Fr} {σ : H} {K : Fr → H → Prop} {drest fl : List DI}
theorem mld_storeK {d : Option Nat} {g : Option (Nat × Bool)} {ix : Nat} {l ex : Bool} {n : Nat} {a x : Opd} {id off sz : Nat} {cs vs : List Value} (hw : wantM ts g = true) (ha : mev ts a = .pointer (some ⟨id, off, none⟩)) (hx : (mev ts x).cells = vs.toArray) (hg : σ.get id = .cells sz cs) (h1 : vs.length = n) (h2 : off + n ≤ cs.length) (h3 : vs.all one = true)
    (hkeep : ex = true → ∀ τ, SetTo σ id (.cells sz (spl cs off vs)) τ → KeepM fl ⟨⟨d, .store n a x, g⟩, ix, l, ex⟩ ts σ τ)
    (hn : ∀ τ, SetTo σ id (.cells sz (spl cs off vs)) τ → mld E P fl drest K (updO ts d undef) τ) : mld E P fl (⟨⟨d, .store n a x, g⟩, ix, l, ex⟩ :: drest) K ts σ :=
  mld_keep hw (mstep_of (o_store ha hx hg h1 h2 h3) ⟨fun e => hkeep e _ (.mk' (H.lt_of_cells hg)), hn _ (.mk' (H.lt_of_cells hg))⟩)
end
end Go.Mini
namespace Go.Proofs.YtepjinaomedecaaDoor
open Go.Mini
open Go.Proofs.YtepjinaomedecaaDoor.Code
set_option linter.unusedVariables false
set_option linter.unusedSimpArgs false
set_option linter.ambiguousOpen false
attribute [local irreducible] mx ml mld mstep MCalls MYield Ex.thn Ex.inb mxR Ex.thnR Ex.inbR
variable {E : World → Prop}

/-- A text's lines. -/
def lns : List UInt8 → List (List UInt8)
  | [] => []
  | b :: t => if b = 10 then [10] :: lns t else match lns t with
    | [] => [[b]]
    | l :: ls => (b :: l) :: ls
theorem lns_row : ∀ {row : List UInt8} (rest : List UInt8), (10 : UInt8) ∉ row → lns (row ++ 10 :: rest) = (row ++ [10]) :: lns rest
  | [], rest, _ => by simp [lns]
  | b :: row, rest, h => by
    have hb : b ≠ 10 := fun e => h (by rw [e]; simp)
    rw [List.cons_append, lns, if_neg hb, lns_row rest (fun hm => h (by simp [hm]))]
    rfl
theorem lns_last : ∀ {row : List UInt8}, (10 : UInt8) ∉ row → row ≠ [] → lns row = [row]
  | [b], h, _ => by
    have hb : b ≠ 10 := fun e => h (by rw [e]; simp)
    simp [lns, hb]
  | b :: c :: row, h, _ => by
    have hb : b ≠ 10 := fun e => h (by rw [e]; simp)
    rw [lns, if_neg hb, lns_last (row := c :: row) (fun hm => h (by simp [hm])) (by simp)]

abbrev Act4 := ByteArray × Int × Int × Int
def ReqA (line : List UInt8) (p : Act4) : Prop := ReqOf line p.1 p.2.1 p.2.2.1 p.2.2.2
def actsC (l : List Act4) : List Value := l.flatMap fun p => actC p.1 p.2.1 p.2.2.1 p.2.2.2
theorem actsC_len (l : List Act4) : (actsC l).length = l.length * 4 := by
  induction l with
  | nil => rfl
  | cons p l ih => simp only [actsC, List.flatMap_cons, List.length_append, List.length_cons] at ih ⊢; rw [ih]; simp [actC]; omega
theorem actsC_one (l : List Act4) : (actsC l).all one = true := by
  induction l with
  | nil => rfl
  | cons p l ih => simp only [actsC, List.flatMap_cons, List.all_append] at ih ⊢; rw [ih]; rfl
theorem actsC_snoc (l : List Act4) (p : Act4) : actsC l ++ actC p.1 p.2.1 p.2.2.1 p.2.2.2 = actsC (l ++ [p]) := by simp [actsC]

/-- Where text.All stands between two lines. -/
structure AG (σ : H) (rec : OR) (rest : ByteArray) (v0 v1 v2 : Value) (cnt : Nat) (ac : List Act4) (ov : Value) (oj : Option Nat) (τ : H) : Prop where
  ext : Ext σ τ
  sz : σ.size + 8 ≤ τ.size
  a0 : τ.get σ.size = .cells 0 [v0]
  a1 : τ.get (σ.size + 1) = .cells 0 [v1]
  a2 : τ.get (σ.size + 2) = .cells 0 [v2]
  o : τ.get (σ.size + 3) = .cells 0 [ov]
  c : τ.get (σ.size + 4) = .cells 0 [.int .i64 (cnt : Int)]
  d : τ.get (σ.size + 5) = .cells 0 [.string rest]
  e : τ.get (σ.size + 6) = .oth defdR
  l : τ.get (σ.size + 7) = .oth rec
  own : Own τ 4 ov oj (actsC ac)
  oj : ∀ j, oj = some j → σ.size + 8 ≤ j
section
variable {σ τ τ' : H} {rec rec' : OR} {rest rest' : ByteArray} {v0 v1 v2 x : Value} {cnt : Nat} {ac : List Act4} {ov : Value} {oj : Option Nat}
theorem AG.of_ext (h : AG σ rec rest v0 v1 v2 cnt ac ov oj τ) (e : Ext τ τ') : AG σ rec rest v0 v1 v2 cnt ac ov oj τ' :=
  ⟨h.ext.trans e, Nat.le_trans h.sz e.size, e.cells h.a0, e.cells h.a1, e.cells h.a2, e.cells h.o, e.cells h.c, e.cells h.d, e.live h.e (by simp), e.live h.l (by simp), h.own.of_ext e, h.oj⟩
theorem AG.set0 (h : AG σ rec rest v0 v1 v2 cnt ac ov oj τ) (s : SetTo τ σ.size (.cells 0 [x]) τ') : AG σ rec rest x v1 v2 cnt ac ov oj τ' :=
  ⟨s.ext h.ext (by omega), by rw [s.size]; exact h.sz, s.self, by rw [s.other _ (by omega)]; exact h.a1, by rw [s.other _ (by omega)]; exact h.a2, by rw [s.other _ (by omega)]; exact h.o, by rw [s.other _ (by omega)]; exact h.c, by rw [s.other _ (by omega)]; exact h.d, by rw [s.other _ (by omega)]; exact h.e, by rw [s.other _ (by omega)]; exact h.l, h.own.ext fun j hj => s.other _ (by have := h.oj j hj; omega), h.oj⟩
theorem AG.set1 (h : AG σ rec rest v0 v1 v2 cnt ac ov oj τ) (s : SetTo τ (σ.size + 1) (.cells 0 [x]) τ') : AG σ rec rest v0 x v2 cnt ac ov oj τ' :=
  ⟨s.ext h.ext (by omega), by rw [s.size]; exact h.sz, by rw [s.other _ (by omega)]; exact h.a0, s.self, by rw [s.other _ (by omega)]; exact h.a2, by rw [s.other _ (by omega)]; exact h.o, by rw [s.other _ (by omega)]; exact h.c, by rw [s.other _ (by omega)]; exact h.d, by rw [s.other _ (by omega)]; exact h.e, by rw [s.other _ (by omega)]; exact h.l, h.own.ext fun j hj => s.other _ (by have := h.oj j hj; omega), h.oj⟩
theorem AG.set2 (h : AG σ rec rest v0 v1 v2 cnt ac ov oj τ) (s : SetTo τ (σ.size + 2) (.cells 0 [x]) τ') : AG σ rec rest v0 v1 x cnt ac ov oj τ' :=
  ⟨s.ext h.ext (by omega), by rw [s.size]; exact h.sz, by rw [s.other _ (by omega)]; exact h.a0, by rw [s.other _ (by omega)]; exact h.a1, s.self, by rw [s.other _ (by omega)]; exact h.o, by rw [s.other _ (by omega)]; exact h.c, by rw [s.other _ (by omega)]; exact h.d, by rw [s.other _ (by omega)]; exact h.e, by rw [s.other _ (by omega)]; exact h.l, h.own.ext fun j hj => s.other _ (by have := h.oj j hj; omega), h.oj⟩
theorem AG.setC (h : AG σ rec rest v0 v1 v2 cnt ac ov oj τ) {n : Nat} (s : SetTo τ (σ.size + 4) (.cells 0 [.int .i64 (n : Int)]) τ') : AG σ rec rest v0 v1 v2 n ac ov oj τ' :=
  ⟨s.ext h.ext (by omega), by rw [s.size]; exact h.sz, by rw [s.other _ (by omega)]; exact h.a0, by rw [s.other _ (by omega)]; exact h.a1, by rw [s.other _ (by omega)]; exact h.a2, by rw [s.other _ (by omega)]; exact h.o, s.self, by rw [s.other _ (by omega)]; exact h.d, by rw [s.other _ (by omega)]; exact h.e, by rw [s.other _ (by omega)]; exact h.l, h.own.ext fun j hj => s.other _ (by have := h.oj j hj; omega), h.oj⟩
theorem AG.setD (h : AG σ rec rest v0 v1 v2 cnt ac ov oj τ) (s : SetTo τ (σ.size + 5) (.cells 0 [.string rest']) τ') : AG σ rec rest' v0 v1 v2 cnt ac ov oj τ' :=
  ⟨s.ext h.ext (by omega), by rw [s.size]; exact h.sz, by rw [s.other _ (by omega)]; exact h.a0, by rw [s.other _ (by omega)]; exact h.a1, by rw [s.other _ (by omega)]; exact h.a2, by rw [s.other _ (by omega)]; exact h.o, by rw [s.other _ (by omega)]; exact h.c, s.self, by rw [s.other _ (by omega)]; exact h.e, by rw [s.other _ (by omega)]; exact h.l, h.own.ext fun j hj => s.other _ (by have := h.oj j hj; omega), h.oj⟩
theorem AG.setL (h : AG σ rec rest v0 v1 v2 cnt ac ov oj τ) (s : SetTo τ (σ.size + 7) (.oth rec') τ') : AG σ rec' rest v0 v1 v2 cnt ac ov oj τ' :=
  ⟨s.ext h.ext (by omega), by rw [s.size]; exact h.sz, by rw [s.other _ (by omega)]; exact h.a0, by rw [s.other _ (by omega)]; exact h.a1, by rw [s.other _ (by omega)]; exact h.a2, by rw [s.other _ (by omega)]; exact h.o, by rw [s.other _ (by omega)]; exact h.c, by rw [s.other _ (by omega)]; exact h.d, by rw [s.other _ (by omega)]; exact h.e, s.self, h.own.ext fun j hj => s.other _ (by have := h.oj j hj; omega), h.oj⟩
theorem AG.set_l (h : AG σ rec rest v0 v1 v2 cnt ac ov oj τ) : AG σ rec' rest v0 v1 v2 cnt ac ov oj (τ.set (σ.size + 7) (.oth rec')) := h.setL (.mk' (by have := h.sz; omega))
end

set_option maxHeartbeats 4000000 in
theorem aRound_c (hE : ∀ w, E w → TextE w) {σ τ : H} {L : Nat} {ts : Fr} {ca cb : Code} {line rest : ByteArray} {cnt : Nat} {ac : List Act4} {ov : Value} {oj : Option Nat}
    (hca : cC Tryd.prog 34 ca = some (rngMA m28 0)) (hcb : cC Tryd.prog 34 cb = some (rngMB m28 0))
    (h2 : ts 2 = .pointer (some ⟨σ.size, 0, none⟩)) (h3 : ts 3 = .pointer (some ⟨σ.size + 1, 0, none⟩)) (h4 : ts 4 = .pointer (some ⟨σ.size + 2, 0, none⟩)) (h5 : ts 5 = .pointer (some ⟨σ.size + 3, 0, none⟩)) (h6 : ts 6 = .pointer (some ⟨σ.size + 4, 0, none⟩))
    (hl : line.size ≤ 100000) (hac : ac.length ≤ 100000) (hcnt : cnt ≤ 100000)
    (g : AG σ (loopR L 34 ts #[17] ca cb .ready none) rest (.slice none 0 0) (.int .i64 0) .nilIface cnt ac ov oj τ) : MYield E Tryd.prog L [.string line] τ (fun v τ' =>
      (∃ p, ReqA line.data.toList p ∧ v = .bool true ∧ ∃ ov' oj', AG σ (loopR L 34 ts #[17] ca cb .ready none) rest (.slice none 0 0) (.int .i64 0) .nilIface (cnt + 1) (ac ++ [p]) ov' oj' τ') ∨
      ((∀ p, ¬ ReqA line.data.toList p) ∧ v = .bool false ∧ ∃ ev, AG σ (loopR L 34 ts #[17] ca cb .done (some .ret)) rest (.slice none 0 0) (.int .i64 ((cnt + 1 : Nat) : Int)) ev (cnt + 1) ac ov oj τ' ∧ TagE τ' ev textB 2)) := by
  refine myield_of g.l hca hcb rfl (by simp) ?_
  unfold rngMA rngMB m28
  simp only [rngs, List.nil_append, List.append_nil, List.getD_cons_zero, putL]
  refine stepR0 ?_
  refine ⟨rfl, g.l, ?_⟩
  have g1 : AG σ (loopR L 34 ts #[17] ca cb .busy none) rest (.slice none 0 0) (.int .i64 0) .nilIface cnt ac ov oj (τ.set (σ.size + 7) (.oth (loopR L 34 ts #[17] ca cb .busy none))) := g.set_l
  generalize τ.set (σ.size + 7) (.oth (loopR L 34 ts #[17] ca cb .busy none)) = τ1 at g1
  clear g
  have gc := g1.c
  (have fx := And.intro h6 gc; refine stepR ?_; clear fx)
  refine ml_storeA (off := 0) (vs := [.int .i64 ((cnt + 1 : Nat) : Int)]) Sd0 (have fx := h6; Sd) Sd0 gc rfl (by simp) rfl fun τ2 s2 => ?_
  have g2 := g1.setC (n := cnt + 1) s2
  refine stepR0 ?_
  refine ml_call Sd0 Sd0 (read_c hE line hl τ2) ?_
  rintro _ τ3 ⟨e3, ⟨nm, a, b, c, rfl, hreq⟩ | ⟨ev, rfl, hev, hno⟩⟩
  · have g3 := g2.of_ext e3
    refine stepR0 ?_
    refine ml_init (vs := actC nm a b c) Sd0 Sd0 Sd0 rfl rfl rfl fun τ4 e4 gx => ?_
    have g4 := g3.of_ext e4
    have go := g4.o
    have gx' : τ4.get τ3.size = .cells 0 [.string nm, .int .i64 a, .int .i64 b, .int .i64 c] := gx
    have hxsz : σ.size + 8 ≤ τ3.size := g3.sz
    generalize τ3.size = xid at gx' hxsz ⊢
    clear gx
    have ePush := Ext.push τ4 (.cells 4 (actC nm a b c))
    have own5 := g4.own.of_ext ePush
    have gl : (τ4.push (.cells 4 (actC nm a b c))).get τ4.size = .cells 4 (actC nm a b c) := H.get_push_self _ _
    have g5 := g4.of_ext ePush
    have hone : (actsC ac ++ actC nm a b c).all one = true := by rw [List.all_append, actsC_one]; rfl
    have hlen := actsC_len ac
    have hps : (τ4.push (.cells 4 (actC nm a b c))).size = τ4.size + 1 := H.size_push _ _
    have hps' : (τ4.push (.cells 4 [.string nm, .int .i64 a, .int .i64 b, .int .i64 c])).size = τ4.size + 1 := H.size_push _ _
    have hz4 := g4.sz
    have hze := g4.ext.size
    (have fx := And.intro h5 (And.intro go gx'); refine stepR ?_; clear fx)
    refine ml_appM (k := 1) (vs := actC nm a b c) Sd0 Sd0 Sd0 own5 gl rfl (by omega) (by omega) hone (by omega) (by rw [hlen]; simp only [appMax]; omega) fun v' τ6 own6 hs6 hk6 => ?_
    have hsz5 := g5.sz
    have old : ∀ k, k < σ.size + 8 → τ6.get k = (τ4.push (.cells 4 (actC nm a b c))).get k := fun k hk => hk6 k (by omega) fun e => by have := g5.oj k e; omega
    have go6 : τ6.get (σ.size + 3) = .cells 0 [ov] := by rw [old _ (by omega)]; exact g5.o
    refine ml_storeA (off := 0) (vs := [v']) Sd0 (have fx := h5; Sd) (by rw [show mev _ _ = v' from Sd0]; exact own6.cells1) go6 rfl (by simp) (by simp [own6.one1]) fun τ7 s7 => ?_
    rw [show actsC ac ++ actC nm a b c = actsC (ac ++ [((nm, a, b, c) : Act4)]) from actsC_snoc ac (nm, a, b, c)] at own6
    have g7 : AG σ (loopR L 34 ts #[17] ca cb .busy none) rest (.slice none 0 0) (.int .i64 0) .nilIface (cnt + 1) (ac ++ [((nm, a, b, c) : Act4)]) v' (some (τ4.push (.cells 4 (actC nm a b c))).size) τ7 := by
      refine ⟨s7.ext ⟨by rw [hs6]; have := g5.ext.size; omega, fun k hk => by rw [old k (by omega)]; exact g5.ext.get k hk⟩ (by omega), by rw [s7.size, hs6]; omega, ?_, ?_, ?_, s7.self, ?_, ?_, ?_, ?_, own6.ext fun j hj => s7.other _ (by injection hj with hj; omega), fun j hj => by injection hj with hj; omega⟩
      · rw [s7.other _ (by omega), old _ (by omega)]; exact g5.a0
      · rw [s7.other _ (by omega), old _ (by omega)]; exact g5.a1
      · rw [s7.other _ (by omega), old _ (by omega)]; exact g5.a2
      · rw [s7.other _ (by omega), old _ (by omega)]; exact g5.c
      · rw [s7.other _ (by omega), old _ (by omega)]; exact g5.d
      · rw [s7.other _ (by omega), old _ (by omega)]; exact g5.e
      · rw [s7.other _ (by omega), old _ (by omega)]; exact g5.l
    refine stepR0 ?_
    unfold roundQ
    exact ⟨g7.l, .inl ⟨(nm, a, b, c), hreq, rfl, v', _, g7.set_l⟩⟩
  · have g3 := g2.of_ext e3
    obtain ⟨id, rfl, hid⟩ := hev
    have hev3 : TagE τ3 (.iface 101 (.pointer (some ⟨id, 0, none⟩))) textB 2 := ⟨id, rfl, hid⟩
    refine stepR0 ?_
    refine ml_init (vs := actC ⟨#[]⟩ 0 0 0) Sd0 Sd0 Sd0 rfl rfl rfl fun τ4 e4 gx => ?_
    have g4 := g3.of_ext e4
    have hev4 := hev3.of_ext e4
    clear gx
    have gc4 := g4.c
    (have fx := And.intro h6 gc4; refine stepR ?_; clear fx)
    refine mld_storeK (off := 0) (vs := [.slice none 0 0]) Sd0 (have fx := h2; Sd) Sd0 g4.a0 rfl (by simp) rfl ?_ fun τ5 s5 => ?_
    · intro _ τ' s
      refine .inr fun m hm v hv => ?_
      simp only [pendOf, List.takeWhile, bne_iff_ne, ne_eq, Nat.reduceBNe, pureM, List.filter, List.map, Bool.not_false, Bool.not_true, Bool.and_true, Bool.and_false, Bool.true_and, Bool.false_and, List.mem_cons, List.not_mem_nil, or_false] at hm
      subst hm
      have hc' : τ'.get (σ.size + 4) = .cells 0 [.int .i64 ((cnt + 1 : Nat) : Int)] := by rw [s.other _ (by omega)]; exact gc4
      have load : ∀ {us : Fr} {ω : H}, mev us (.t 6) = .pointer (some ⟨σ.size + 4, 0, none⟩) → ω.get (σ.size + 4) = .cells 0 [.int .i64 ((cnt + 1 : Nat) : Int)] → mop us ω (.load1 (.t 6)) = some (.int .i64 ((cnt + 1 : Nat) : Int), ω) := fun a b => o_load1c a b rfl
      have h3' := (load (have fx := h6; Sd) gc4).symm.trans hv
      simp only [Option.some.injEq, Prod.mk.injEq, and_true] at h3'
      rw [← h3']
      exact load (have fx := h6; Sd) hc'
    have g5 := g4.set0 s5
    refine mld_storeA (off := 0) (vs := [.int .i64 ((cnt + 1 : Nat) : Int)]) Sd0 (have fx := h3; Sd) (have fx := h6; Sd) g5.a1 rfl (by simp) rfl fun τ6 s6 => ?_
    have g6 := g5.set1 s6
    refine mld_storeA (off := 0) (vs := [.iface 101 (.pointer (some ⟨id, 0, none⟩))]) Sd0 (have fx := h4; Sd) Sd0 g6.a2 rfl (by simp) rfl fun τ7 s7 => ?_
    have g7 := g6.set2 s7
    have hev7 : TagE τ7 (.iface 101 (.pointer (some ⟨id, 0, none⟩))) textB 2 := by
      have := ((hev4.put s5 (by rw [g4.a0]; simp)).put s6 (by rw [g5.a1]; simp)).put s7 (by rw [g6.a2]; simp)
      exact this
    refine stepR0 ?_
    unfold roundQ
    refine ⟨g7.l, .inr ⟨fun p hp => hno _ _ _ _ hp, rfl, _, g7.set_l, ?_⟩⟩
    obtain ⟨id', h8, h9⟩ := hev7
    refine ⟨id', h8, ?_⟩
    rw [H.get_set_ne (fun e => ?_), h9]
    rw [e, g7.l] at h9; cases h9
end Go.Proofs.YtepjinaomedecaaDoor
/- text.All: the range over the lines; its contract. -/
namespace Go.Proofs.YtepjinaomedecaaDoor
open Go.Mini
open Go.Proofs.YtepjinaomedecaaDoor.Code
set_option linter.unusedVariables false
set_option linter.unusedSimpArgs false
set_option linter.ambiguousOpen false
attribute [local irreducible] mx ml mld mstep MCalls MYield Ex.thn Ex.inb mxR Ex.thnR Ex.inbR
variable {E : World → Prop}
/-- Lines that are acts, one by one. -/
inductive Reads : List (List UInt8) → List Act4 → Prop
  | nil : Reads [] []
  | snoc {d l a p} : Reads d a → ReqA l p → Reads (d ++ [l]) (a ++ [p])
theorem Reads.len {d a} (h : Reads d a) : a.length = d.length := by
  induction h with
  | nil => rfl
  | snoc _ _ ih => simp [ih]
theorem Reads.mem {d a} (h : Reads d a) : ∀ l ∈ d, ∃ p, ReqA l p := by
  induction h with
  | nil => simp
  | snoc _ r ih =>
    intro l hl
    rcases List.mem_append.1 hl with hl | hl
    · exact ih l hl
    · rw [List.mem_singleton.1 hl]; exact ⟨_, r⟩
theorem Reads.uniq {d a} (h : Reads d a) : ∀ {b}, Reads d b → a = b := by
  induction h with
  | nil =>
    intro b hb
    have := hb.len
    exact (List.length_eq_zero_iff.1 this).symm
  | @snoc d l a p h r ih =>
    intro b hb
    generalize he : d ++ [l] = dl at hb
    cases hb with
    | nil => simp at he
    | @snoc d' l' a' p' h' r' =>
      obtain ⟨rfl, e2⟩ := List.append_inj' he rfl
      injection e2 with e2 _
      subst e2
      rw [ih h']
      have : p = p' := by
        obtain ⟨p1, p2, p3, p4⟩ := p
        obtain ⟨q1, q2, q3, q4⟩ := p'
        obtain ⟨rfl, rfl, rfl, rfl⟩ := req_uniq r r'
        rfl
      rw [this]

/-- What lines come to. -/
def allsQ (σ : H) (s : ByteArray) (L : Nat) (ts : Fr) (ca cb : Code) (τ : H) : Prop :=
  (∃ ac ov oj sv n, Reads (lns s.data.toList) ac ∧ AG σ (loopR L 34 ts #[17] ca cb .ready none) sv (.slice none 0 0) (.int .i64 0) .nilIface n ac ov oj τ) ∨
  (∃ dn a l tl ev ac ov oj sv n, lns s.data.toList = dn ++ l :: tl ∧ Reads dn a ∧ (∀ p, ¬ ReqA l p) ∧ AG σ (loopR L 34 ts #[17] ca cb .done (some .ret)) sv (.slice none 0 0) (.int .i64 ((dn.length + 1 : Nat) : Int)) ev n ac ov oj τ ∧ TagE τ ev textB 2)

set_option maxHeartbeats 2000000 in
theorem aLines_c (hE : ∀ w, E w → TextE w) {σ τ : H} {L : Nat} {ts : Fr} {ca cb : Code} {s : ByteArray} (hca : cC Tryd.prog 34 ca = some (rngMA m28 0)) (hcb : cC Tryd.prog 34 cb = some (rngMB m28 0))
    (h2 : ts 2 = .pointer (some ⟨σ.size, 0, none⟩)) (h3 : ts 3 = .pointer (some ⟨σ.size + 1, 0, none⟩)) (h4 : ts 4 = .pointer (some ⟨σ.size + 2, 0, none⟩)) (h5 : ts 5 = .pointer (some ⟨σ.size + 3, 0, none⟩)) (h6 : ts 6 = .pointer (some ⟨σ.size + 4, 0, none⟩)) (hl : s.size ≤ 20000)
    (g : AG σ (loopR L 34 ts #[17] ca cb .ready none) s (.slice none 0 0) (.int .i64 0) .nilIface 0 [] (.slice none 0 0) none τ) :
    MCalls E Tryd.prog 58 [.func (.yield L) #[] #[], .pointer (some ⟨σ.size + 5, 0, none⟩)] τ (fun _ τ' => allsQ σ s L ts ca cb τ') := by
  refine mcalls_of fn58 (by simp) ?_
  unfold c58 r58
  refine stepR0 ?_
  refine mx_loop (fun n ts' τ' => ∃ rest dn ac ov oj, n = rest.size ∧ lns s.data.toList = dn ++ lns rest.data.toList ∧ Reads dn ac ∧ dn.length + rest.size ≤ s.size ∧ AG σ (loopR L 34 ts #[17] ca cb .ready none) rest (.slice none 0 0) (.int .i64 0) .nilIface dn.length ac ov oj τ' ∧
    ts' 0 = .func (.yield L) #[] #[] ∧ ts' 1 = .pointer (some ⟨σ.size + 5, 0, none⟩)) s.size ?_ ?_
  · exact ⟨s, [], [], _, _, rfl, rfl, .nil, by simp, g, Sd0, Sd0⟩
  clear g
  rintro n ts' τ1 ⟨rest, dn, ac, ov, oj, rfl, hln, hrd, hsz, g, t0, t1⟩
  have gd := g.d
  have hacl := hrd.len
  by_cases h0 : rest.size = 0
  · have e : rest.data.toList = [] := List.length_eq_zero_iff.1 (by rw [ba_len]; exact h0)
    rw [e, show lns [] = [] from rfl, List.append_nil] at hln
    rw [← hln] at hrd
    have h0' : ((rest.size : Nat) : Int) = 0 := by omega
    (have fx := And.intro t1 (And.intro gd h0'); refine stepR ?_; clear fx)
    exact fin0n (.inl ⟨ac, ov, oj, rest, _, hrd, g⟩)
  have h0' : (0 : Int) < (rest.size : Int) := by omega
  (have fx := And.intro t1 (And.intro gd h0'); refine stepR ?_; clear fx)
  refine ml_call Sd0 Sd0 (strIndexByte_c rest 10 _) ?_
  rintro _ τ2 ⟨rfl, rfl⟩
  have hrest : rest.data.toList ≠ [] := fun e => h0 (by rw [← ba_len, e]; rfl)
  have e10 : Nat.toUInt8 10 = (10 : UInt8) := rfl
  rw [e10]
  rcases indexByte_cases rest.data.toList with ⟨hi, hf⟩ | ⟨o, hi, ho, htx, hf⟩
  · rw [hi]
    (have fx := And.intro t1 gd; refine stepR ?_; clear fx)
    refine ml_storeA (off := 0) (vs := [.string ⟨#[]⟩]) Sd0 (have fx := t1; Sd) Sd0 gd rfl (by simp) rfl fun τ3 s3 => ?_
    have g3 := g.setD s3
    rw [lns_last hf hrest] at hln
    (have fx := t0; refine stepR ?_; clear fx)
    refine ml_yield Sd0 (have fx := t0; Sd) Sd0 (aRound_c hE (rest := ⟨#[]⟩) hca hcb h2 h3 h4 h5 h6 (by omega) (by omega) (by omega) g3) ?_
    rintro _ τ4 (⟨p, hp, rfl, ov', oj', g4⟩ | ⟨hno, rfl, ev, g4, hev⟩)
    · refine stepR0 ?_
      refine ⟨(⟨#[]⟩ : ByteArray).size, by show 0 < _; omega, ⟨#[]⟩, dn ++ [rest.data.toList], ac ++ [p], ov', oj', rfl, ?_, hrd.snoc hp, by rw [List.length_append]; show dn.length + 1 + 0 ≤ _; omega, ?_, (have fx := t0; Sd), (have fx := t1; Sd)⟩
      · rw [hln]; simp [lns]
      · rw [List.length_append]; exact g4
    · refine stepR0 ?_
      exact fin0 (.inr ⟨dn, ac, _, [], ev, ac, ov, oj, _, _, hln, hrd, hno, g4, hev⟩)
  · rw [hi]
    rw [ba_len] at ho
    have ho' : (0 : Int) ≤ ((o : Nat) : Int) := by omega
    (have fx := And.intro t1 (And.intro gd ho'); refine stepR ?_; clear fx)
    refine mld_op Sd0 (o_slcS_hi (q := (o : Int) + 1) (k := .i64) Sd0 Sd0 (by omega) (by omega)) ?_
    rw [show ((o : Int) + 1).toNat = o + 1 by omega]
    (have fx := And.intro t1 gd; refine stepR ?_; clear fx)
    refine mld_op Sd0 (o_slcS_lo (q := (o : Int) + 1) (k := .i64) Sd0 Sd0 (by omega) (by omega)) ?_
    rw [show ((o : Int) + 1).toNat = o + 1 by omega]
    have hlineL : (rest.extract 0 (o + 1)).data.toList = rest.data.toList.take o ++ [10] := by
      rw [ext_list, List.drop_zero, Nat.sub_zero, List.take_add_one]
      congr 1
      have h5 : rest.data.toList[o]? = some 10 := by
        rw [htx, List.getElem?_append_right (by simp; omega)]
        simp [ba_len, Nat.min_eq_left (Nat.le_of_lt ho)]
      rw [h5]; rfl
    have hrestL : (rest.extract (o + 1) rest.size).data.toList = rest.data.toList.drop (o + 1) := by
      rw [ext_list, List.take_of_length_le (by rw [List.length_drop, ba_len]; exact Nat.le_refl _)]
    have hls : (rest.extract 0 (o + 1)).size = o + 1 := by rw [← ba_len, hlineL, List.length_append, List.length_take, ba_len]; simp; omega
    have hrs : (rest.extract (o + 1) rest.size).size = rest.size - (o + 1) := by rw [← ba_len, hrestL, List.length_drop, ba_len]
    generalize rest.extract 0 (o + 1) = line at hlineL hls
    generalize rest.extract (o + 1) rest.size = rest2 at hrestL hrs
    rw [← hrestL] at htx
    rw [htx, lns_row _ hf, ← hlineL] at hln
    (have fx := And.intro t1 gd; refine stepR ?_; clear fx)
    refine mld_storeA (off := 0) (vs := [.string rest2]) Sd0 (have fx := t1; Sd) Sd0 gd rfl (by simp) rfl fun τ3 s3 => ?_
    have g3 := g.setD s3
    (have fx := t0; refine stepR ?_; clear fx)
    refine ml_yield Sd0 (have fx := t0; Sd) Sd0 (aRound_c hE (rest := rest2) hca hcb h2 h3 h4 h5 h6 (by omega) (by omega) (by omega) g3) ?_
    rintro _ τ4 (⟨p, hp, rfl, ov', oj', g4⟩ | ⟨hno, rfl, ev, g4, hev⟩)
    · refine stepR0 ?_
      refine ⟨rest2.size, by omega, rest2, dn ++ [line.data.toList], ac ++ [p], ov', oj', rfl, ?_, hrd.snoc hp, by simp; omega, ?_, (have fx := t0; Sd), (have fx := t1; Sd)⟩
      · rw [hln]; simp
      · rw [List.length_append]; exact g4
    · refine stepR0 ?_
      exact fin0 (.inr ⟨dn, ac, _, _, ev, ac, ov, oj, _, _, hln, hrd, hno, g4, hev⟩)
theorem AG.start {σ τ : H} {rec : OR} {rest : ByteArray} {v0 v1 v2 : Value} (hz : τ.size = σ.size + 5) (e : Ext σ τ) (a0 : τ.get σ.size = .cells 0 [v0]) (a1 : τ.get (σ.size + 1) = .cells 0 [v1]) (a2 : τ.get (σ.size + 2) = .cells 0 [v2])
    (o : τ.get (σ.size + 3) = .cells 0 [.slice none 0 0]) (c : τ.get (σ.size + 4) = .cells 0 [.int .i64 ((0 : Nat) : Int)]) :
    AG σ rec rest v0 v1 v2 0 [] (.slice none 0 0) none (((τ.push (.cells 0 [.string rest])).push (.oth defdR)).push (.oth rec)) := by
  have e3 : Ext τ (((τ.push (.cells 0 [.string rest])).push (.oth defdR)).push (.oth rec)) := ((Ext.push _ _).trans (Ext.push _ _)).trans (Ext.push _ _)
  have s1 : (τ.push (.cells 0 [.string rest])).size = σ.size + 6 := by rw [H.size_push, hz]
  have s2 : ((τ.push (.cells 0 [.string rest])).push (.oth defdR)).size = σ.size + 7 := by rw [H.size_push, s1]
  refine ⟨e.trans e3, by rw [H.size_push, s2]; omega, e3.cells a0, e3.cells a1, e3.cells a2, e3.cells o, e3.cells c, ?_, ?_, ?_, .nil, fun j h => by cases h⟩
  · rw [H.get_push_lt (by omega), H.get_push_lt (by omega), ← hz, H.get_push_self]
  · rw [H.get_push_lt (by omega), ← s1, H.get_push_self]
  · rw [← s2, H.get_push_self]
theorem finA {ds : List Nat} {a b c : Nat} {x y z : Value} {ts : Fr} {τ τ' : H} {R : Value → H → Prop} (hds : allDefd τ ds) (hd : shutAll τ ds = τ') (h2 : ts 2 = .pointer (some ⟨a, 0, none⟩)) (h3 : ts 3 = .pointer (some ⟨b, 0, none⟩)) (h4 : ts 4 = .pointer (some ⟨c, 0, none⟩))
    (ha : τ'.get a = .cells 0 [x]) (hb : τ'.get b = .cells 0 [y]) (hc : τ'.get c = .cells 0 [z]) (h : R (.tuple #[x, y, z]) τ') : mpostR [.cell 2 1 false, .cell 3 1 false, .cell 4 1 false] R .ret ds ts τ := by
  subst hd
  refine ⟨hds, [x, y, z], ?_, h⟩
  simp only [rvVals, rvVal, h2, h3, h4, if_true, H.row, H.cell, ha, hb, hc, rowL, Option.map_some, List.getElem?_cons_zero, List.getElem?_cons_succ, Bool.false_eq_true, if_false]

theorem three {σ : H} (x y z : Value) : (((σ.push (.cells 0 [x])).push (.cells 0 [y])).push (.cells 0 [z])).get σ.size = .cells 0 [x] ∧ (((σ.push (.cells 0 [x])).push (.cells 0 [y])).push (.cells 0 [z])).get (σ.size + 1) = .cells 0 [y] ∧
    (((σ.push (.cells 0 [x])).push (.cells 0 [y])).push (.cells 0 [z])).get (σ.size + 2) = .cells 0 [z] ∧ (((σ.push (.cells 0 [x])).push (.cells 0 [y])).push (.cells 0 [z])).size = σ.size + 3 ∧ Ext σ (((σ.push (.cells 0 [x])).push (.cells 0 [y])).push (.cells 0 [z])) := by
  have s1 : (σ.push (.cells 0 [x])).size = σ.size + 1 := H.size_push _ _
  have s2 : ((σ.push (.cells 0 [x])).push (.cells 0 [y])).size = σ.size + 2 := by rw [H.size_push, s1]
  refine ⟨?_, ?_, ?_, by rw [H.size_push, s2], ((Ext.push _ _).trans (Ext.push _ _)).trans (Ext.push _ _)⟩
  · rw [H.get_push_lt (by omega), H.get_push_lt (by omega), H.get_push_self]
  · rw [H.get_push_lt (by omega), ← s1, H.get_push_self]
  · rw [← s2, H.get_push_self]
/-- What text.All answers. -/
def allQ (σ : H) (s : ByteArray) (v : Value) (τ : H) : Prop :=
  Ext σ τ ∧ ((s.size ≤ 20000 ∧ ∃ ac ov oj, v = .tuple #[ov, .int .i64 0, .nilIface] ∧ Reads (lns s.data.toList) ac ∧ Own τ 4 ov oj (actsC ac) ∧ ∀ j, oj = some j → σ.size ≤ j) ∨
    (s.size ≤ 20000 ∧ ∃ dn a l tl ev, v = .tuple #[.slice none 0 0, .int .i64 ((dn.length + 1 : Nat) : Int), ev] ∧ lns s.data.toList = dn ++ l :: tl ∧ Reads dn a ∧ (∀ p, ¬ ReqA l p) ∧ TagE τ ev textB 2) ∨
    (20000 < s.size ∧ ∃ ev, v = .tuple #[.slice none 0 0, .int .i64 0, ev] ∧ TagE τ ev textB 8))

set_option maxHeartbeats 2000000 in
theorem xAll_c (hE : ∀ w, E w → TextE w) (s : ByteArray) (hl : s.size ≤ 100000) (σ : H) : MCalls E Tryd.prog 28 [.string s] σ (allQ σ s) := by
  refine mcallsR_of fr28 (by simp) ?_
  have hm : m28 = m28 := rfl
  conv at hm => rhs; unfold m28
  rw [hm]
  unfold rr28
  obtain ⟨q0, q1, q2, qz, qe⟩ := three (σ := σ) (.slice none 0 0) (.int .i64 0) .nilIface
  by_cases hs : 20000 < s.size
  · have hs' : (20000 : Int) < (s.size : Int) := by omega
    refine mxR_ops_seq ?_
    refine stepR0 ?_
    refine mxR_seq (mxR_plain ?_)
    (have fx := hs'; refine stepR ?_; clear fx)
    refine ml_call Sd0 Sd0 (tag_c _ _ _) ?_
    rintro ev τ ⟨he, e1⟩
    refine ml_storeA (off := 0) (vs := [.slice none 0 0]) Sd0 Sd0 Sd0 (e1.cells q0) rfl (by simp) rfl fun τ4 s4 => ?_
    have he4 := he.put s4 (by rw [e1.cells q0]; simp)
    have k1 := s4.cells (e1.cells q1) (by omega)
    refine ml_storeA (off := 0) (vs := [.int .i64 0]) Sd0 Sd0 Sd0 k1 rfl (by simp) rfl fun τ5 s5 => ?_
    have he5 := he4.put s5 (by rw [k1]; simp)
    have k2 := s5.cells (s4.cells (e1.cells q2) (by omega)) (by omega)
    refine ml_storeA (off := 0) (vs := [ev]) Sd0 Sd0 (by obtain ⟨id, rfl, _⟩ := he; exact Sd0) k2 rfl (by simp) (by obtain ⟨id, rfl, _⟩ := he; rfl) fun τ6 s6 => ?_
    have he6 := he5.put s6 (by rw [k2]; simp)
    refine stepR0 ?_
    refine thnR_ret (finA (a := σ.size) (b := σ.size + 1) (c := σ.size + 2) trivial rfl Sd0 Sd0 Sd0 (s6.cells (s5.cells s4.self (by omega)) (by omega)) (s6.cells s5.self (by omega)) s6.self ⟨s6.ext (s5.ext (s4.ext (qe.trans e1) (by omega)) (by omega)) (by omega), .inr (.inr ⟨hs, ev, rfl, he6⟩)⟩)
  · have hs' : ¬ (20000 : Int) < (s.size : Int) := by omega
    refine mxR_ops_seq ?_
    refine stepR0 ?_
    refine mxR_seq (mxR_plain ?_)
    (have fx := hs'; refine stepR ?_; clear fx)
    refine thnR_nor' (mxR_ops_seq ?_)
    refine stepR0 ?_
    refine mxR_ops_seq ?_
    refine stepR0 ?_
    generalize hσ3 : ((σ.push (MObj.cells 0 [Value.slice none 0 0])).push (MObj.cells 0 [Value.int IntKind.i64 0])).push (MObj.cells 0 [Value.nilIface]) = σ3 at q0 q1 q2 qz qe ⊢
    have p3 : (σ3.push (.cells 0 [.slice none 0 0])).get (σ.size + 3) = .cells 0 [.slice none 0 0] := by rw [← qz, H.get_push_self]
    have z3 : (σ3.push (.cells 0 [.slice none 0 0])).size = σ.size + 4 := by rw [H.size_push, qz]
    have p4 : ((σ3.push (.cells 0 [.slice none 0 0])).push (.cells 0 [.int .i64 0])).get (σ.size + 4) = .cells 0 [.int .i64 0] := by rw [← z3, H.get_push_self]
    refine ml_storeA (off := 0) (id := σ.size + 4) (vs := [.int .i64 0]) Sd0 (have fx := z3; Sd) Sd0 p4 rfl (by simp) rfl fun τ s4 => ?_
    have eP : Ext σ3 ((σ3.push (.cells 0 [.slice none 0 0])).push (.cells 0 [.int .i64 0])) := (Ext.push _ _).trans (Ext.push _ _)
    have e4 := s4.ext (qe.trans eP) (by omega)
    have a0 := s4.cells (eP.cells q0) (by omega)
    have a1 := s4.cells (eP.cells q1) (by omega)
    have a2 := s4.cells (eP.cells q2) (by omega)
    have a3 := s4.cells ((Ext.push _ _).cells p3) (by omega)
    have zz : τ.size = σ.size + 5 := by rw [s4.size, H.size_push, z3]
    refine ml_nil (mxR_seq (mxR_ops_seq ?_))
    refine stepR0 ?_
    refine ml_call Sd0 Sd0 (Lines_c _ _) ?_
    rintro _ τ' ⟨rfl, rfl⟩
    refine ml_nil (mxR_block (mxR_rng Sd0 ?_))
    intro h1 h2 L
    have h1' : cC Tryd.prog 34 (rngA Tryd.prog 28 0) = some (rngMA m28 0) := h1
    have h2' : cC Tryd.prog 34 (rngB Tryd.prog 28 0) = some (rngMB m28 0) := h2
    clear h1 h2 hm
    generalize hts : updO _ _ _ = ts
    have t2 : ts 2 = .pointer (some ⟨σ.size, 0, none⟩) := by subst hts; exact Sd0
    have t3 : ts 3 = .pointer (some ⟨σ.size + 1, 0, none⟩) := by subst hts; exact Sd0
    have t4 : ts 4 = .pointer (some ⟨σ.size + 2, 0, none⟩) := by subst hts; exact Sd0
    have t5 : ts 5 = .pointer (some ⟨σ.size + 3, 0, none⟩) := by subst hts; exact Sd0
    have t6 : ts 6 = .pointer (some ⟨σ.size + 4, 0, none⟩) := by subst hts; exact Sd0
    clear hts
    have gs := AG.start (rec := loopR L 34 ts #[17] (rngA Tryd.prog 28 0) (rngB Tryd.prog 28 0) .ready none) (rest := s) zz e4 a0 a1 a2 a3 s4.self
    have z6 : (τ.push (.cells 0 [.string s])).size = σ.size + 6 := by rw [H.size_push, zz]
    rw [z6, zz]
    refine (aLines_c hE (σ := σ) (s := s) h1' h2' t2 t3 t4 t5 t6 (by omega) gs).mono ?_
    rintro _ τ (⟨ac, ov, oj, sv, n, hrd, g⟩ | ⟨dn, a, l, tl, ev, ac, ov, oj, sv, n, hln, hrd, hno, g, hev⟩)
    · refine ⟨.ready, none, by simp, g.l, ?_⟩
      have sd : SetTo τ (σ.size + 7) .dead (τ.set (σ.size + 7) .dead) := .mk' (by have := g.sz; omega)
      have e1 := sd.ext g.ext (by omega)
      have ga := sd.cells g.a0 (by omega)
      have gb := sd.cells g.a1 (by omega)
      have gc := sd.cells g.a2 (by omega)
      have go := sd.cells g.o (by omega)
      have gd : (τ.set (σ.size + 7) .dead).get (σ.size + 6) = .oth defdR := by rw [sd.other _ (by omega)]; exact g.e
      have gw : Own (τ.set (σ.size + 7) .dead) 4 ov oj (actsC ac) := g.own.ext fun j hj => sd.other _ (by have := g.oj j hj; omega)
      have hoj := g.oj
      unfold jumpQ
      refine inbR_nor (thnR_nor' (mxR_plain ?_))
      show mx _ _ _ _ _ (τ.set (σ.size + 7) .dead)
      generalize τ.set (σ.size + 7) .dead = τ1 at *
      clear g sd τ
      (have fx := And.intro t5 go; refine stepR ?_; clear fx)
      refine ml_storeA (off := 0) (vs := [ov]) Sd0 (have fx := t2; Sd) (by rw [show mev _ _ = ov from Sd0]; exact gw.cells1) ga rfl (by simp) (by simp [gw.one1]) fun τ4 s4 => ?_
      have gb4 := s4.cells gb (by omega)
      refine ml_storeA (off := 0) (vs := [.int .i64 0]) Sd0 (have fx := t3; Sd) Sd0 gb4 rfl (by simp) rfl fun τ5 s5 => ?_
      have gc5 := s5.cells (s4.cells gc (by omega)) (by omega)
      refine ml_storeA (off := 0) (vs := [.nilIface]) Sd0 (have fx := t4; Sd) Sd0 gc5 rfl (by simp) rfl fun τ6 s6 => ?_
      have gd6 : τ6.get (σ.size + 6) = .oth defdR := by rw [s6.other _ (by omega), s5.other _ (by omega), s4.other _ (by omega)]; exact gd
      have sd : SetTo τ6 (σ.size + 6) .dead (τ6.set (σ.size + 6) .dead) := .mk' (H.lt_of_live (by rw [gd6]; simp))
      refine stepR0 ?_
      refine finA (a := σ.size) (b := σ.size + 1) (c := σ.size + 2) ⟨gd6, trivial⟩ rfl (have fx := t2; Sd) (have fx := t3; Sd) (have fx := t4; Sd) (sd.cells (s6.cells (s5.cells s4.self (by omega)) (by omega)) (by omega)) (sd.cells (s6.cells s5.self (by omega)) (by omega)) (sd.cells s6.self (by omega)) ⟨?_, .inl ⟨by omega, ac, ov, oj, rfl, hrd, ?_, fun j hj => by have := hoj j hj; omega⟩⟩
      · exact sd.ext (s6.ext (s5.ext (s4.ext e1 (by omega)) (by omega)) (by omega)) (by omega)
      · exact gw.ext fun j hj => by have := hoj j hj; show (τ6.set _ _).get j = _; rw [sd.other _ (by omega), s6.other _ (by omega), s5.other _ (by omega), s4.other _ (by omega)]
    · refine ⟨.done, some .ret, by simp, g.l, ?_⟩
      have sd : SetTo τ (σ.size + 7) .dead (τ.set (σ.size + 7) .dead) := .mk' (by have := g.sz; omega)
      have e1 := sd.ext g.ext (by omega)
      have ga := sd.cells g.a0 (by omega)
      have gb := sd.cells g.a1 (by omega)
      have gc := sd.cells g.a2 (by omega)
      have he := hev.put sd (by rw [g.l]; simp)
      have gd : (τ.set (σ.size + 7) .dead).get (σ.size + 6) = .oth defdR := by rw [sd.other _ (by omega)]; exact g.e
      unfold jumpQ
      refine inbR_ret (thnR_ret ?_)
      show mpostR _ _ _ _ _ (τ.set (σ.size + 7) .dead)
      generalize τ.set (σ.size + 7) .dead = τ1 at *
      have sd2 : SetTo τ1 (σ.size + 6) .dead (τ1.set (σ.size + 6) .dead) := .mk' (H.lt_of_live (by rw [gd]; simp))
      exact finA (a := σ.size) (b := σ.size + 1) (c := σ.size + 2) ⟨gd, trivial⟩ rfl t2 t3 t4 (sd2.cells ga (by omega)) (sd2.cells gb (by omega)) (sd2.cells gc (by omega)) ⟨sd2.ext e1 (by omega), .inr (.inl ⟨by omega, dn, a, l, tl, ev, rfl, hln, hrd, hno, he.put sd2 (by rw [gd]; simp)⟩)⟩
end Go.Proofs.YtepjinaomedecaaDoor
