/- slices.IndexFunc; what lies down is one list; route.Next. -/
import Derived.Test.YtcjogomiiinkfaaDoorRouteF
namespace Go.Proofs.YtcjogomiiinkfaaDoor
open Go.Mini
open Go.Proofs.YtcjogomiiinkfaaDoor.Code
set_option linter.unusedVariables false
set_option linter.unusedSimpArgs false
set_option linter.ambiguousOpen false
attribute [local irreducible] mx ml mld mstep MCalls Ex.thn Ex.inb
variable {E : World → Prop}

theorem take_succ_at {l : List Int} {j : Nat} (hj : j < l.length) : l.take (j + 1) = l.take j ++ [l.getD j 0] := by
  rw [List.take_add_one, List.getElem?_eq_getElem hj, List.getD_eq_getElem?_getD, List.getElem?_eq_getElem hj]; rfl
theorem idxFunc_c {σ : H} {v fv : Value} {l : List Int} {p : Int → Bool} {g : FuncId} {caps : Array Value} (hr : Rd σ v (ints l)) (hf : fv = .func (.func g) #[] caps)
    (hl : l.length ≤ 1000000) (hp : ∀ x ∈ l, ∀ τ, Ext σ τ → MCalls E Tryd.prog g ([.int .i64 x] ++ caps.toList) τ (fun r τ' => r = .bool (p x) ∧ Ext τ τ')) :
    MCalls E Tryd.prog 45 [v, fv] σ (fun r τ => Ext σ τ ∧ ((r = .int .i64 (-1) ∧ ∀ x ∈ l, p x = false) ∨ ∃ i : Nat, i < l.length ∧ r = .int .i64 i ∧ p (l.getD i 0) = true ∧ ∀ x ∈ l.take i, p x = false)) := by
  subst hf
  refine mcalls_of fn45 (by simp) ?_
  unfold c45 r45
  have hsz : (ints l).length = l.length := ints_len _
  refine stepR0 ?_
  refine ml_len Sd0 hr Sd0 ?_
  (have fx := hsz; refine stepR ?_; clear fx)
  refine mx_loop (fun n ts τ => ∃ i : Nat, n = l.length - i ∧ i ≤ l.length ∧ Ext σ τ ∧ (∀ x ∈ l.take i, p x = false) ∧ ts 0 = v ∧ ts 1 = .func (.func g) #[] caps ∧ ts 7 = .int .i64 l.length ∧ ts 8 = .int .i64 ((i : Nat) : Int)) l.length ?_ ?_
  · exact ⟨0, rfl, Nat.zero_le _, .refl _, by simp, Sd0, Sd0, Sd0, Sd0⟩
  rintro n ts τ ⟨i, rfl, hi, e, hall, t0, t1, t7, t8⟩
  rcases Nat.lt_or_ge i l.length with hlt | hge
  · have hm : l.getD i 0 ∈ l := by rw [List.getD_eq_getElem?_getD, List.getElem?_eq_getElem hlt]; exact List.getElem_mem hlt
    (have fx := And.intro t0 (And.intro t1 (And.intro t7 t8)); refine stepR ?_; clear fx)
    refine ml_getS (hr.of_ext e) (have fx := t0; Sd) (have fx := t8; Sd) (by omega) (by rw [Int.toNat_natCast]; exact ints_at hlt) fun q => ?_
    refine ml_callv Sd0 (have fx := t1; Sd) Sd0 (hp _ hm τ e) ?_
    rintro _ τ2 ⟨rfl, e2⟩
    cases hx : p (l.getD i 0)
    · (have fx := t8; refine stepR ?_; clear fx)
      refine ⟨_, ?_, i + 1, rfl, hlt, e.trans e2, ?_, (have fx := t0; Sd), (have fx := t1; Sd), (have fx := t7; Sd), Sd0⟩
      · omega
      · intro x hx2
        rw [take_succ_at hlt, List.mem_append] at hx2
        rcases hx2 with h | h
        · exact hall x h
        · rw [List.mem_singleton] at h; subst h; exact hx
    · (have fx := t8; refine stepR ?_; clear fx)
      exact fin1 ⟨e.trans e2, .inr ⟨i, hlt, Sd0, hx, hall⟩⟩
  · have : i = l.length := by omega
    subst this
    rw [List.take_length] at hall
    (have fx := And.intro t0 (And.intro t1 (And.intro t7 t8)); refine stepR ?_; clear fx)
    exact fin1 ⟨e, .inl ⟨Sd0, hall⟩⟩

theorem DownR.uniq {W Hh : Int} {S : ByteArray} {f : List Int} {c : Int} {l l' : List Int} (h : DownR W Hh S f c l) (h' : DownR W Hh S f c l') : l = l' := by
  unfold DownR at h h'
  split at h
  · rename_i hx
    rw [if_pos hx] at h'
    obtain ⟨a, a1, a2, rfl⟩ := h
    obtain ⟨b, b1, b2, rfl⟩ := h'
    rw [List.Perm.eq_of_pairwise (le := le) (fun x y _ _ h1 h2 => by unfold le at h1 h2; exact Prod.ext (by omega) (by omega)) a2 b2 (a1.trans b1.symm)]
  · rename_i hx
    rw [if_neg hx] at h'
    rw [h, h']
theorem DownR.mem {W Hh : Int} {S : ByteArray} {f : List Int} {c : Int} {l : List Int} (h : DownR W Hh S f c l) {x : Int} (hx : x ∈ l) : opn S x = true ∧ gr W Hh S = true := by
  unfold DownR at h
  split at h
  · rename_i hd
    have := (DownL.mem h).1 hx
    refine ⟨near_opn this.1, ?_⟩
    unfold downOK at hd
    simp only [Bool.and_eq_true] at hd
    exact hd.1.2.1
  · subst h; cases hx
theorem DownR.len {W Hh : Int} {S : ByteArray} {f : List Int} {c : Int} {l : List Int} (h : DownR W Hh S f c l) : l.length ≤ 4 := by
  unfold DownR at h
  split at h
  · obtain ⟨a, a1, a2, rfl⟩ := h
    rw [List.length_map, a1.length_eq]
    unfold dnI
    rw [List.length_map]
    exact Nat.le_trans (List.length_filter_le _ _) (nearL_len ..)
  · subst h; simp

/-- Not taken. -/
def freeT (t : List Bool) (x : Int) : Bool := decide ((t.length : Int) ≤ x) || !t.getD x.toNat false
/-- The first that isn't taken. -/
def nextR (t : List Bool) (l : List Int) (v : Value) : Prop :=
  (v = .tuple #[.int .i64 0, .bool false] ∧ ∀ x ∈ l, freeT t x = false) ∨ ∃ i : Nat, i < l.length ∧ v = .tuple #[.int .i64 (l.getD i 0), .bool true] ∧ freeT t (l.getD i 0) = true ∧ ∀ x ∈ l.take i, freeT t x = false

theorem oNext1_c {σ : H} {tv : Value} {t : List Bool} {id : Nat} (hb : σ.get id = .cells 0 [tv]) (hr : Rd σ tv (bools t)) {x : Int} (hx : 0 ≤ x) :
    MCalls E Tryd.prog 46 [.int .i64 x, .pointer (some ⟨id, 0, none⟩)] σ (fun r τ => r = .bool (freeT t x) ∧ Ext σ τ) := by
  refine mcalls_of fn46 (by simp) ?_
  unfold c46 r46
  (have fx := hb; refine stepR ?_; clear fx)
  refine ml_len Sd0 hr Sd0 ?_
  rw [bools_len]
  by_cases h : (t.length : Int) ≤ x
  · (have fx := h; refine stepR ?_; clear fx)
    refine fin1 ⟨?_, Ext.refl _⟩
    unfold freeT
    rw [decide_eq_true h, Bool.true_or]
    exact (have fx := h; Sd)
  · have hf : freeT t x = !t.getD x.toNat false := by unfold freeT; rw [decide_eq_false h, Bool.false_or]
    (have fx := And.intro h hb; refine stepR ?_; clear fx)
    refine ml_getSg (q := x) (have fx := h; Sd) hr (have fx := h; Sd) (have fx := h; Sd) hx (bools_at (by omega)) (fun p => (have fx := h; Sd)) fun p => ?_
    rw [hf]
    generalize t.getD x.toNat false = b
    (have fx := h; refine stepR ?_; clear fx)
    exact fin1 ⟨(have fx := h; Sd), Ext.refl _⟩

set_option maxHeartbeats 2000000 in
theorem oNext_c (W Hh : Int) (S : ByteArray) {σ : H} {fv tv : Value} {f : List Int} {t : List Bool} (hr : Rd σ fv (ints f)) (ht : Rd σ tv (bools t)) (c : Int) :
    MCalls E Tryd.prog 34 [mapV W Hh S, fv, .int .i64 c, tv] σ (fun v τ => ∃ l, DownR W Hh S f c l ∧ nextR t l v ∧ Ext σ τ) := by
  refine mcalls_of fn34 (by simp) ?_
  unfold c34 r34 mapV
  refine stepR0 ?_
  generalize hbs : σ.size + 1 = bs
  generalize hτ : H.push (H.push _ _) _ = τ
  have ec : tv.cells.toList = [tv] := by rw [ht.cells1]
  have e : Ext σ τ := hτ ▸ (Ext.push _ _).trans (Ext.push _ _)
  have g4 : τ.get σ.size = .cells 0 [.int .i64 W, .int .i64 Hh, .string S] := by rw [← hτ]; exact (Ext.push _ _).cells (H.get_push_self _ _)
  have g7 : τ.get bs = .cells 0 [tv] := by rw [← hτ, ← ec, ← hbs]; rw [← H.size_push σ (.cells 0 [.int .i64 W, .int .i64 Hh, .string S])]; exact H.get_push_self _ _
  clear hτ hbs
  (have fx := g4; refine stepR ?_; clear fx)
  refine ml_call Sd0 Sd0 (fDown_c W Hh S (hr.of_ext e) c) ?_
  rintro lv τ2 ⟨l, hl, hd⟩
  have e2 := hl.1
  have g72 := e2.cells g7
  have t2 := (ht.of_ext e).of_ext e2
  refine stepR0 ?_
  refine ml_call Sd0 Sd0 (idxFunc_c (p := freeT t) (g := 46) (caps := #[.pointer (some ⟨bs, 0, none⟩)]) hl.rd rfl (by have := hd.len; omega) fun x hx τ' e' => oNext1_c (e'.cells g72) (t2.of_ext e') (opn_lt (hd.mem hx).1).1) ?_
  rintro r τ3 ⟨e3, ⟨rfl, hall⟩ | ⟨i, hi, rfl, hp, hall⟩⟩
  · refine stepR0 ?_
    exact fin2 ⟨l, hd, .inl ⟨Sd0, hall⟩, (e.trans e2).trans e3⟩
  · have hi' : ¬ (i : Int) < 0 := by omega
    have ai := ints_at hi
    (have fx := hi'; refine stepR ?_; clear fx)
    refine ml_getS (hl.rd.of_ext e3) (have fx := hi'; Sd) (have fx := hi'; Sd) (by omega) (by rw [Int.toNat_natCast]; exact ai) fun p => ?_
    (have fx := hi'; refine stepR ?_; clear fx)
    exact fin2 ⟨l, hd, .inr ⟨i, hi, (have fx := hi'; Sd), hp, hall⟩, (e.trans e2).trans e3⟩
end Go.Proofs.YtcjogomiiinkfaaDoor
