/- TextOnly, TextUnlike. -/
import Derived.Test.YtepjinaomedecaaDoorTextD
namespace Go.Proofs.YtepjinaomedecaaDoor
open Go.Mini
open Go.Proofs.YtepjinaomedecaaDoor.Code
set_option linter.unusedVariables false
set_option linter.unusedSimpArgs false
set_option linter.ambiguousOpen false
attribute [local irreducible] mx ml mld mstep MCalls Ex.thn Ex.inb
variable {E : World → Prop}

theorem req_ex : ReqOf [116, 101, 108, 108, 32, 49, 32, 53, 48, 10] ⟨#[116, 101, 108, 108]⟩ 1 50 0 := by
  refine ⟨[97, 98], ⟨rfl, ⟨fun _ => by omega, fun h => absurd (by simp) h⟩, ⟨fun _ => by omega, fun h => absurd (by simp) h⟩, ⟨fun h => absurd h (by simp), fun _ => rfl⟩⟩, ?_⟩
  have h1 : Lib.decDigits 1 = [49] := by rw [dec3 (by omega)]; rfl
  have h2 : Lib.decDigits 50 = [53, 48] := by rw [dec3 (by omega)]; rfl
  simp [layL, wordsOf, valOf, joinW, h1, h2]
theorem tNumN (σ : H) : MCalls E Tryd.prog 14 [.nilIface] σ (fun v τ => v = .int .i64 0 ∧ Ext σ τ) := MCalls.mono (tNum_nil σ) fun v τ ⟨h1, h2⟩ => ⟨h1, h2 ▸ Ext.refl _⟩
set_option maxHeartbeats 1000000 in
theorem xAwake_c (hE : ∀ w, E w → TextE w) (σ : H) : MCalls E Tryd.prog 20 [] σ (fun v τ => v = .bool true ∧ Ext σ τ) := by
  refine mcalls_of fn20 (by simp) ?_
  unfold c20 r20
  refine stepR0 ?_
  refine ml_call Sd0 Sd0 (read_c hE ⟨#[116, 101, 108, 108, 32, 49, 32, 53, 48, 10]⟩ (by decide) σ) ?_
  rintro _ τ ⟨e1, ⟨nm, a, b, c, rfl, hreq⟩ | ⟨ev, rfl, hev, hno⟩⟩
  · obtain ⟨rfl, rfl, rfl, rfl⟩ := req_uniq hreq req_ex
    refine stepR0 ?_
    refine ml_init (vs := actC ⟨#[116, 101, 108, 108]⟩ 1 50 0) Sd0 Sd0 Sd0 rfl rfl rfl fun τ2 e2 g2 => ?_
    have g2' : τ2.get τ.size = .cells 0 [.string ⟨#[116, 101, 108, 108]⟩, .int .i64 1, .int .i64 50, .int .i64 0] := g2
    refine stepR0 ?_
    refine ml_call Sd0 Sd0 (tNumN τ2) ?_
    rintro _ τ3 ⟨rfl, e3⟩
    have g3 := e3.cells g2'
    (have fx := g3; refine stepR ?_; clear fx)
    refine ml_op Sd0 (o_eqActD (nm := ⟨#[116, 101, 108, 108]⟩) (a := 1) (b := 50) (c := 0) (nm' := ⟨#[116, 101, 108, 108]⟩) (a' := 1) (b' := 50) (c' := 0) Sd0 Sd0) ?_
    rw [decide_eq_true (show (⟨#[116, 101, 108, 108]⟩ : ByteArray) = ⟨#[116, 101, 108, 108]⟩ ∧ (1 : Int) = 1 ∧ (50 : Int) = 50 ∧ (0 : Int) = 0 from ⟨rfl, rfl, rfl, rfl⟩)]
    refine stepR0 ?_
    exact fin1 ⟨Sd0, (e1.trans e2).trans e3⟩
  · exact absurd req_ex (hno _ _ _ _)
theorem aOf_c (nm : ByteArray) (a b c : Int) (σ : H) : MCalls E Tryd.prog 22 [actV nm a b c] σ (fun v τ => v = actV nm a b c ∧ Ext σ τ) := by
  refine mcalls_of fn22 (by simp) ?_
  unfold c22 r22 actV
  refine stepR0 ?_
  generalize hτ : H.push σ _ = τ
  have gm : τ.get σ.size = .cells 0 [.string nm, .int .i64 a, .int .i64 b, .int .i64 c] := by rw [← hτ]; exact H.get_push_self _ _
  have e1 : Ext σ τ := hτ ▸ Ext.push _ _
  have e2 := Ext.push τ (.cells 0 [.string ⟨#[]⟩, .int .i64 0, .int .i64 0, .int .i64 0])
  have g2 := e2.cells gm
  have hs : σ.size + 1 = τ.size := by rw [← hτ]; rfl
  clear hτ
  (have fx := g2; refine stepR ?_; clear fx)
  refine ml_init (vs := actC nm a b c) Sd0 (have fx := hs; Sd) Sd0 rfl rfl rfl fun τ3 e3 g3 => ?_
  refine stepR0 ?_
  refine finC (id := τ.size) (vs := actC nm a b c) (have fx := hs; Sd) (row_of g3 rfl) ⟨rfl, e1.trans e3⟩
theorem RightA.i64 {nm : ByteArray} {a b c : Int} {what : List UInt8} (h : RightA nm a b c what) : I64 a ∧ I64 b ∧ I64 c ∧ nm.size ≤ 1000 := by
  have v : ∀ {ch x}, RightV what ch x → I64 x := fun {ch x} hx => by
    unfold I64
    by_cases hc : ch ∈ what
    · have := hx.1 hc; omega
    · have := hx.2 hc; omega
  have h3 := (needs_what h.needs).2.2
  have h4 : nm.data.toList.length = nm.size := Array.length_toList
  exact ⟨v h.a, v h.b, v h.c, by omega⟩
/-- What is laid, and its error's number. -/
theorem lay_num (hE : ∀ w, E w → TextE w) {nm : ByteArray} {a b c : Int} {σ τ : H} {v : Value} (h : layQ nm a b c σ v τ) : ∃ T ev num, v = .tuple #[.string T, ev] ∧ Ext σ τ ∧ (∀ τ', Ext τ τ' → MCalls E Tryd.prog 14 [ev] τ' (fun r τ'' => r = .int .i64 num ∧ Ext τ' τ'')) ∧
    ((num = 0 ∧ ReqOf T.data.toList nm a b c) ∨ (num = 1 ∧ T = ⟨#[]⟩ ∧ ∀ what, ¬ RightA nm a b c what)) := by
  obtain ⟨e, ⟨what, hr, rfl⟩ | ⟨hn, ev, rfl, hev⟩⟩ := h
  · exact ⟨_, _, 0, rfl, e, fun τ' _ => tNumN τ', .inl ⟨rfl, what, hr, rfl⟩⟩
  · exact ⟨_, ev, 1, rfl, e, fun τ' e' => tNum_c (fun w h => (hE w h).et) (hev.of_ext e').chain, .inr ⟨rfl, rfl, hn⟩⟩

set_option maxHeartbeats 2000000 in
theorem textOnly_c (hE : ∀ w, E w → TextE w) (s : ByteArray) {σ : H} : MCalls E Tryd.prog 6 [.string s] σ (fun v τ => v = .bool true) := by
  refine mcalls_of fn6 (by simp) ?_
  unfold c6 r6
  refine stepR0 ?_
  refine ml_call Sd0 Sd0 (xAwake_c hE _) ?_
  rintro _ τ ⟨rfl, e1⟩
  by_cases hs : 300 < s.size
  · have hs' : (300 : Int) < (s.size : Int) := by omega
    (have fx := hs'; refine stepR ?_; clear fx)
    refine ml_call (have fx := hs'; Sd) (have fx := hs'; Sd) (xAwake_c hE _) ?_
    rintro _ τ2 ⟨rfl, e2⟩
    (have fx := hs'; refine stepR ?_; clear fx)
    exact fin1 (have fx := hs'; Sd)
  have hs' : ¬ (300 : Int) < (s.size : Int) := by omega
  (have fx := hs'; refine stepR ?_; clear fx)
  refine ml_call (have fx := hs'; Sd) (have fx := hs'; Sd) (read_c hE s (by omega) τ) ?_
  rintro _ τ2 ⟨e2, ⟨nm, a, b, c, rfl, hreq⟩ | ⟨ev, rfl, hev, hno⟩⟩
  · refine stepR0 ?_
    refine ml_init (vs := actC nm a b c) Sd0 Sd0 Sd0 rfl rfl rfl fun τ3 e3 g3 => ?_
    refine stepR0 ?_
    refine ml_call Sd0 Sd0 (tNumN τ3) ?_
    rintro _ τ4 ⟨rfl, e4⟩
    have g4 : τ4.get τ2.size = .cells 0 [.string nm, .int .i64 a, .int .i64 b, .int .i64 c] := e4.cells g3
    obtain ⟨what, hr, hl⟩ := id hreq
    obtain ⟨ia, ib, ic, ins⟩ := hr.i64
    (have fx := g4; refine stepR ?_; clear fx)
    refine ml_call Sd0 Sd0 (xLay_c hE nm ins a b c ia ib ic τ4) ?_
    intro v τ5 hlay
    obtain ⟨T, ev, num, rfl, e5, hnum, ⟨rfl, hT⟩ | ⟨_, _, hn⟩⟩ := lay_num hE hlay
    rotate_left
    · exact absurd hr (hn what)
    refine stepR0 ?_
    refine ml_call Sd0 Sd0 (hnum τ5 (Ext.refl _)) ?_
    rintro _ τ6 ⟨rfl, e6⟩
    have hTs : (T.toList == s.toList) = true := by
      obtain ⟨what', hr', hl'⟩ := hT
      have := hr.needs
      rw [hr'.needs] at this
      obtain rfl := Option.some.inj this
      rw [beq_iff_eq, toList_data, toList_data, hl', hl]
    (have fx := hTs; refine stepR ?_; clear fx)
    exact fin1 (have fx := hTs; Sd)
  · refine stepR0 ?_
    refine ml_init (vs := actC ⟨#[]⟩ 0 0 0) Sd0 Sd0 Sd0 rfl rfl rfl fun τ3 e3 g3 => ?_
    refine stepR0 ?_
    refine ml_call Sd0 Sd0 (tNum_c (fun w h => (hE w h).et) (hev.of_ext e3).chain) ?_
    rintro _ τ4 ⟨rfl, e4⟩
    refine stepR0 ?_
    refine ml_call Sd0 Sd0 (tNum_c (fun w h => (hE w h).et) ((hev.of_ext e3).of_ext e4).chain) ?_
    rintro _ τ5 ⟨rfl, e5⟩
    have g5 : τ5.get τ2.size = .cells 0 [.string ⟨#[]⟩, .int .i64 0, .int .i64 0, .int .i64 0] := e5.cells (e4.cells g3)
    (have fx := g5; refine stepR ?_; clear fx)
    refine ml_op Sd0 (o_eqActD (nm := ⟨#[]⟩) (a := 0) (b := 0) (c := 0) (nm' := ⟨#[]⟩) (a' := 0) (b' := 0) (c' := 0) Sd0 Sd0) ?_
    rw [decide_eq_true (show (⟨#[]⟩ : ByteArray) = ⟨#[]⟩ ∧ (0 : Int) = 0 ∧ (0 : Int) = 0 ∧ (0 : Int) = 0 from ⟨rfl, rfl, rfl, rfl⟩)]
    refine stepR0 ?_
    exact fin1 Sd0
end Go.Proofs.YtepjinaomedecaaDoor
