import Derived.Test.YtcjogomiiinkfaaDoorFieldG
/- Appends of slices that are read. -/
namespace Go.Mini
set_option linter.unusedVariables false
set_option linter.unusedSimpArgs false
/-- A slice that is read behind an own one. -/
theorem app_rd {ts : Fr} {σ : H} {bytes : Nat} {xs xx : Opd} {v u : Value} {oid : Option Nat} {cs vs : List Value} (ho : Own σ 1 v oid cs) (hv : mev ts xs = v) (hx : mev ts xx = u) (hr : Rd σ u vs)
    (h1 : (cs ++ vs).all one = true) (hb : bytes ≤ 128) (hn : cs.length + vs.length ≤ appMax) :
    ∃ v' τ oid', mop ts σ (.app 1 bytes xs xx) = some (v', τ) ∧ Own τ 1 v' oid' (cs ++ vs) ∧ (oid' = oid ∨ oid' = some σ.size) ∧ σ.size ≤ τ.size ∧ (∀ i, i < σ.size → oid ≠ some i → τ.get i = σ.get i) := by
  have hlen : lenL u = some vs.length := by cases hr <;> rfl
  have hfst : firstL σ 1 vs.length u = some vs := by
    cases hr with
    | nil => rfl
    | mk h => simp only [firstL, Nat.mul_one]; exact h
  by_cases h0 : vs.length = 0
  · have hvs : vs = [] := List.length_eq_zero_iff.1 h0
    subst hvs
    rw [List.append_nil] at h1 ⊢
    cases ho with
    | nil => exact ⟨.slice none 0 0, σ, none, by simp [mop, hv, hx, hlen], .nil, .inl rfl, Nat.le_refl _, fun i _ _ => rfl⟩
    | @full id n _ h hl =>
      have hid := H.lt_of_cells h
      refine ⟨.slice (some ⟨id, 0, none⟩) n n, σ.set id (.cells 1 cs), some id, ?_, .full (H.get_set_self hid) hl, .inl rfl, by simp, fun i hi hne => H.get_set_ne (fun e => hne (by rw [e]))⟩
      have hf0 : firstL σ 1 0 u = some [] := hfst
      simp only [mop, hv, hx, hlen, List.length_nil, Nat.add_zero, Nat.le_refl, if_true, hf0]
      simp [putRow, h, spl, hl]
  · cases ho with
    | nil =>
      refine ⟨.slice (some ⟨σ.size, 0, none⟩) vs.length vs.length, σ.push (.cells 1 vs), some σ.size, ?_, .full (by simp) (by simp), .inr rfl, by simp, fun i hi _ => H.get_push_lt hi⟩
      have : vs.length ≤ appMax ∧ bytes ≤ 128 := ⟨by simp at hn; omega, hb⟩
      simp only [mop, hv, hx, hlen, hfst, this, and_self, if_true, if_neg h0]
    | @full id n _ h hl =>
      have hl' : cs.length = n := by omega
      have happ : n + vs.length ≤ appMax ∧ bytes ≤ 128 := ⟨by omega, hb⟩
      have hrw : σ.row id 0 (n * 1) = some cs := by simp only [H.row, h]; exact rowAll hl
      refine ⟨.slice (some ⟨σ.size, 0, none⟩) (n + vs.length) (n + vs.length), (σ.set id .dead).push (.cells 1 (cs ++ vs)), some σ.size, ?_, ?_, .inr rfl, by simp, fun i hi hne => ?_⟩
      · simp only [mop, hv, hx, hlen, hfst, happ, and_self, if_true, h, hrw, h1, true_or]
        rw [if_neg (by omega)]
      · refine .full ?_ (by simp [hl'])
        have := H.get_push_self (σ.set id .dead) (.cells 1 (cs ++ vs))
        rwa [H.size_set] at this
      · have hni : i ≠ id := fun e => hne (by rw [e])
        rw [H.get_push_lt (by simpa using hi), H.get_set_ne hni]
/-- The same, where what was told of the heap stands. -/
theorem mld_appR {E : World → Prop} {P : Program} {fl drest : List DI} {K : Fr → H → Prop} {d : Option Nat} {g : Option (Nat × Bool)} {ix : Nat} {l ex : Bool} {ts : Fr} {σ : H} {bytes : Nat} {xs xx : Opd} {v u : Value} {oid : Option Nat} {cs vs : List Value} (hw : wantM ts g = true) (hv : mev ts xs = v) (hx : mev ts xx = u)
    (ho : Own σ 1 v oid cs) (hr : Rd σ u vs) (h1 : (cs ++ vs).all one = true) (hb : bytes ≤ 128) (hn : cs.length + vs.length ≤ appMax)
    (hkeep : ex = true → ∀ τ, σ.size ≤ τ.size → (∀ i, i < σ.size → oid ≠ some i → τ.get i = σ.get i) → KeepM fl ⟨⟨d, .app 1 bytes xs xx, g⟩, ix, l, ex⟩ ts σ τ)
    (h : ∀ v' τ oid', Own τ 1 v' oid' (cs ++ vs) → (oid' = oid ∨ oid' = some σ.size) → σ.size ≤ τ.size → (∀ i, i < σ.size → oid ≠ some i → τ.get i = σ.get i) → mld E P fl drest K (updO ts d v') τ) :
    mld E P fl (⟨⟨d, .app 1 bytes xs xx, g⟩, ix, l, ex⟩ :: drest) K ts σ := by
  obtain ⟨v', τ, oid', h2, h3, h4, h5, h6⟩ := app_rd (ts := ts) ho hv hx hr h1 hb hn
  exact mld_keep hw (mstep_of h2 ⟨fun e => hkeep e τ h5 h6, h v' τ oid' h3 h4 h5 h6⟩)
end Go.Mini
/- The document's Down, plain: a list that is kept in order. -/
namespace Go.Proofs.YtcjogomiiinkfaaDoor
open Go.Mini
set_option linter.unusedVariables false
set_option linter.unusedSimpArgs false

/-- In order of cost, then of place. -/
def ordL (g : Int → Int) (l : List Int) : Prop := l.Pairwise fun a b => le (g a, a) (g b, b)
theorem ins_ord {g : Int → Int} {out : List Int} {x : Int} {k : Nat} (hs : ordL g out) (hlt : ∀ y ∈ out, y < x) (h1 : ∀ y ∈ out.take k, g y ≤ g x) (h2 : k < out.length → g x < g (out.getD k 0)) : ordL g (out.take k ++ x :: out.drop k) := by
  have hsp : ordL g (out.take k ++ out.drop k) := by rw [List.take_append_drop]; exact hs
  unfold ordL at hsp ⊢
  rw [List.pairwise_append] at hsp ⊢
  obtain ⟨p1, p2, p3⟩ := hsp
  have hdrop : ∀ y ∈ out.drop k, g x < g y := fun y hy => by
    rcases Nat.lt_or_ge k out.length with hk | hk
    · have hx := h2 hk
      rw [List.drop_eq_getElem_cons hk] at hy p2
      have hge : out.getD k 0 = out[k] := by rw [List.getD_eq_getElem?_getD, List.getElem?_eq_getElem hk]; rfl
      rw [hge] at hx
      rcases List.mem_cons.1 hy with rfl | hy
      · exact hx
      · have := (List.pairwise_cons.1 p2).1 y hy
        unfold le at this
        simp only at this
        omega
    · rw [List.drop_eq_nil_of_le hk] at hy; cases hy
  refine ⟨p1, List.pairwise_cons.2 ⟨fun y hy => ?_, p2⟩, fun a ha b hb => ?_⟩
  · have := hdrop y hy
    unfold le; simp only; omega
  · rcases List.mem_cons.1 hb with rfl | hb
    · have h3 := h1 a ha
      have h4 := hlt a (List.mem_of_mem_take ha)
      unfold le; simp only; omega
    · exact p3 a ha b hb
theorem ins_mem {out : List Int} {x y : Int} {k : Nat} : y ∈ out.take k ++ x :: out.drop k ↔ y = x ∨ y ∈ out := by
  rw [List.mem_append, List.mem_cons]
  constructor
  · rintro (h | h | h)
    · exact .inr (List.mem_of_mem_take h)
    · exact .inl h
    · exact .inr (List.mem_of_mem_drop h)
  · rintro (h | h)
    · exact .inr (.inl h)
    · rw [← List.take_append_drop k out, List.mem_append] at h
      exact h.imp id .inr
/-- What is in order and holds just what lies down is the list that lies down. -/
theorem down_of {W Hh : Int} {S : ByteArray} {f : List Int} {c : Int} {out : List Int} (hok : downOK W Hh S f c = true) (hs : ordL (fun x => f.getD x.toNat 0) out) (hn : out.Nodup) (hd : (dnI W S f c).Nodup)
    (hm : ∀ y, y ∈ out ↔ y ∈ nearL W S c ∧ 0 ≤ f.getD y.toNat 0 ∧ f.getD y.toNat 0 < f.getD c.toNat 0) : DownR W Hh S f c out := by
  unfold DownR
  rw [if_pos hok]
  refine ⟨out.map fun x => (f.getD x.toNat 0, x), ?_, ?_, by rw [List.map_map]; exact (List.map_id out).symm⟩
  · refine (List.perm_ext_iff_of_nodup ?_ hd).2 fun p => ?_
    · rw [List.nodup_iff_pairwise_ne, List.pairwise_map]
      exact hn.imp fun h e => h (by injection e)
    · rw [dnI_mem, List.mem_map]
      constructor
      · rintro ⟨x, hx, rfl⟩
        obtain ⟨a1, a2, a3⟩ := (hm x).1 hx
        exact ⟨a1, rfl, a2, a3⟩
      · rintro ⟨a1, a2, a3, a4⟩
        exact ⟨p.2, (hm p.2).2 ⟨a1, by rw [← a2]; exact a3, by rw [← a2]; exact a4⟩, by rw [← a2]⟩
  · rw [List.pairwise_map]; exact hs
end Go.Proofs.YtcjogomiiinkfaaDoor
/- The document's Down. -/
namespace Go.Mini
set_option linter.unusedVariables false
set_option linter.unusedSimpArgs false
/-- The first k of a slice. -/
def lowS : Value → Nat → Value
  | .slice (some a) _ c, k => .slice (some a) k c
  | v, _ => v
/-- Those behind. -/
def highS : Value → Nat → Value
  | .slice (some ⟨id, o, s⟩) n c, k => .slice (some ⟨id, o + k * 1, s⟩) (n - k) (c - k)
  | v, _ => v
theorem o_slcU {ts : Fr} {σ : H} {x o : Opd} {v : Value} {oid : Option Nat} {cs : List Value} {k : Nat} (ho : Own σ 1 v oid cs) (hx : mev ts x = v) (hq : mev ts o = .int .i64 ((k : Nat) : Int)) (hk : k ≤ cs.length) :
    mop ts σ (.slc 1 x none (some o) none) = some (lowS v k, σ) ∧ mop ts σ (.slc 1 x (some o) none none) = some (highS v k, σ) := by
  cases ho with
  | nil =>
    have h0 : k = 0 := by simpa using hk
    subst h0
    simp [mop, hx, hq, bnds, bnd_ok, lowS, highS]
  | @full id n _ h hl =>
    have h0 : (0 : Int) ≤ (k : Int) := by omega
    have h1 : (k : Int) ≤ ((n : Nat) : Int) := by omega
    constructor
    · have := o_slc_hi (ts := ts) (σ := σ) (cap := n) hx hq h0 h1 h
      rw [this]; simp [lowS]
    · have := o_slc_lo (ts := ts) (σ := σ) hx hq h0 h1 h
      rw [this]; simp [highS]
theorem low_rd {σ : H} {v : Value} {oid : Option Nat} {cs : List Value} {k : Nat} (ho : Own σ 1 v oid cs) (hk : k ≤ cs.length) : Rd σ (lowS v k) (cs.take k) := by
  cases ho with
  | nil => rw [List.take_nil]; exact .nil
  | @full id n _ h hl =>
    have hr : σ.row id 0 (cs.take k).length = some (cs.take k) := by
      simp only [H.row, h]
      rw [rowL_some _ 0 cs (by rw [List.length_take]; omega), List.drop_zero, List.length_take, Nat.min_eq_left hk]
    have := Rd.mk (cap := n) hr
    rw [List.length_take, Nat.min_eq_left hk] at this
    exact this
theorem high_rd {σ : H} {v : Value} {oid : Option Nat} {cs : List Value} {k : Nat} (ho : Own σ 1 v oid cs) (hk : k ≤ cs.length) : Rd σ (highS v k) (cs.drop k) := by
  cases ho with
  | nil => rw [List.drop_nil]; exact .nil
  | @full id n _ h hl =>
    have hr : σ.row id (0 + k * 1) (cs.drop k).length = some (cs.drop k) := by
      simp only [H.row, h]
      rw [rowL_some _ (0 + k * 1) cs (by rw [List.length_drop]; omega), Nat.zero_add, Nat.mul_one, List.length_drop, List.take_of_length_le (by simp)]
    have := Rd.mk (cap := n - k) hr
    rw [List.length_drop, show cs.length = n by omega] at this
    exact this
/-- What was sliced is sliced alike. -/
theorem slc_keep {ts : Fr} {σ τ : H} {x o : Opd} {v r : Value} {oid : Option Nat} {cs : List Value} {k : Nat} (h1 : Own σ 1 v oid cs) (h2 : Own τ 1 v oid cs) (hx : mev ts x = v) (hq : mev ts o = .int .i64 ((k : Nat) : Int)) (hk : k ≤ cs.length) :
    (mop ts σ (.slc 1 x none (some o) none) = some (r, σ) → mop ts τ (.slc 1 x none (some o) none) = some (r, τ)) ∧ (mop ts σ (.slc 1 x (some o) none none) = some (r, σ) → mop ts τ (.slc 1 x (some o) none none) = some (r, τ)) := by
  refine ⟨fun h => ?_, fun h => ?_⟩
  · rw [(o_slcU h1 hx hq hk).1] at h
    simp only [Option.some.injEq, Prod.mk.injEq, and_true] at h
    rw [(o_slcU h2 hx hq hk).1, h]
  · rw [(o_slcU h1 hx hq hk).2] at h
    simp only [Option.some.injEq, Prod.mk.injEq, and_true] at h
    rw [(o_slcU h2 hx hq hk).2, h]
/-- What an append leaves is more. -/
theorem ext_app {σ τ : H} {oid : Option Nat} {n0 : Nat} (h0 : n0 ≤ σ.size) (hid : ∀ i, oid = some i → n0 ≤ i) (hs : σ.size ≤ τ.size) (hk : ∀ i, i < σ.size → oid ≠ some i → τ.get i = σ.get i) : Bel n0 σ τ :=
  ⟨hs, fun i hi => hk i (by omega) fun e => by have := hid i e; omega⟩
end Go.Mini
namespace Go.Proofs.YtcjogomiiinkfaaDoor
open Go.Mini
open Go.Proofs.YtcjogomiiinkfaaDoor.Code
set_option linter.unusedVariables false
set_option linter.unusedSimpArgs false
set_option linter.ambiguousOpen false
attribute [local irreducible] mx ml mld mstep MCalls Ex.thn Ex.inb
variable {E : World → Prop}

theorem takeS {l : List Int} {j : Nat} (hj : j < l.length) : l.take (j + 1) = l.take j ++ [l.getD j 0] := by
  rw [List.take_add_one, List.getElem?_eq_getElem hj, List.getD_eq_getElem?_getD, List.getElem?_eq_getElem hj]; rfl
theorem nearL_srt {W : Int} {S : ByteArray} {c : Int} (hW : 1 ≤ W ∧ W ≤ 8) (hc : 0 ≤ c) : (nearL W S c).Pairwise (· < ·) := by
  have h1 := Int.tmod_lt_of_pos c (show 0 < W by omega)
  have h0 := Int.tmod_nonneg W hc
  unfold nearL nadd
  cases opn S (c - W) <;> cases opn S (c - 1) <;> cases opn S (c + 1) <;> cases opn S (c + W) <;> by_cases h2 : c.tmod W > 0 <;> by_cases h3 : c.tmod W < W - 1 <;> simp [h2, h3] <;> (try omega)
theorem dnI_nodup {W : Int} {S : ByteArray} {f : List Int} {c : Int} (hW : 1 ≤ W ∧ W ≤ 8) (hc : 0 ≤ c) : (dnI W S f c).Nodup := by
  unfold dnI
  rw [List.nodup_iff_pairwise_ne, List.pairwise_map]
  refine ((nearL_srt hW hc).filter _).imp fun h e => ?_
  injection e with _ e
  omega
theorem sgn_opn2 {S : ByteArray} {i : Nat} (hi : i < S.size) : opn S (i : Int) = !(S.data.toList.getD i 0 == 35) := by
  simp only [opn, bAt, Int.toNat_natCast]
  have h1 : (i : Int) < (S.size : Int) := by omega
  simp [h1, bne]

set_option maxHeartbeats 8000000 in
theorem rDown_c (W Hh : Int) (S : ByteArray) {σ : H} {fv : Value} {f : List Int} (hr : Rd σ fv (ints f)) (c : Int) (hg : gr W Hh S = true) :
    MCalls E Tryd.prog 25 [mapV W Hh S, fv, .int .i64 c] σ (fun v τ => ∃ out, Out σ τ 1 v (ints out) ∧ DownR W Hh S f c out) := by
  refine mcalls_of fn25 (by simp) ?_
  unfold c25 r25 mapV
  refine stepR0 ?_
  generalize hτ : H.push _ _ = τ
  have e1 : Ext σ τ := hτ ▸ Ext.push _ _
  have g1 : τ.get σ.size = .cells 0 [.int .i64 W, .int .i64 Hh, .string S] := by rw [← hτ]; exact H.get_push_self _ _
  have r1 := hr.of_ext e1
  clear hτ
  have bad : downOK W Hh S f c = false → ∃ out, Out σ τ 1 (.slice none 0 0) (ints out) ∧ DownR W Hh S f c out := fun h =>
    ⟨[], Out.nil e1, by unfold DownR; rw [if_neg (by rw [h]; simp)]⟩
  have hgs := gr_size hg
  refine ml_len Sd0 r1 Sd0 ?_
  rw [ints_len]
  by_cases hl : f.length = S.size
  rotate_left
  · have hl' : ((f.length : Int) != (S.size : Int)) = true := by
      have : ¬ (f.length : Int) = (S.size : Int) := by omega
      simp [this]
    (have fx := And.intro g1 hl'; refine stepR ?_; clear fx)
    refine fin1 ?_
    have := bad (by unfold downOK; rw [decide_eq_false hl]; rfl)
    exact (show Value.slice none 0 0 = _ from Sd0) ▸ this
  have hl' : ((f.length : Int) != (S.size : Int)) = false := by rw [hl]; simp
  have fin : ∀ (h : downOK W Hh S f c = false) {ts : Fr}, ts 6 = .slice none 0 0 → mpost [.t 6] (fun v τ => ∃ out, Out σ τ 1 v (ints out) ∧ DownR W Hh S f c out) .ret ts τ := fun h ts h6 => fin1 (by rw [h6]; exact bad h)
  by_cases h0 : c < 0
  · (have fx := And.intro g1 (And.intro hl' h0); refine stepR ?_; clear fx)
    refine fin ?_ (have fx := h0; Sd)
    unfold downOK
    have : opn S c = false := by simp [opn, show ¬ 0 ≤ c by omega]
    rw [this]; simp
  (have fx := And.intro g1 (And.intro hl' h0); refine stepR ?_; clear fx)
  refine ml_len (have fx := And.intro hl' h0; Sd) r1 (have fx := And.intro hl' h0; Sd) ?_
  rw [ints_len]
  by_cases h1 : (f.length : Int) ≤ c
  · (have fx := And.intro h1 h0; refine stepR ?_; clear fx)
    refine fin ?_ (have fx := And.intro h1 h0; Sd)
    unfold downOK
    have : opn S c = false := by simp [opn, show ¬ c < (S.size : Int) by omega]
    rw [this]; simp
  obtain ⟨cn, rfl⟩ := Int.eq_ofNat_of_zero_le (show 0 ≤ c by omega)
  have hcn : cn < S.size := by omega
  have hc1 : ((cn : Nat) : Int) < (S.size : Int) := by omega
  have hu : (((S.data.toList.getD cn 0).toNat : Int) == (35 : Int)) = (S.data.toList.getD cn 0 == 35) := u8eq _ 35 (by omega)
  have ho := sgn_opn2 hcn
  cases hw : S.data.toList.getD cn 0 == 35
  rotate_left
  · rw [hw] at hu ho
    (have fx := And.intro h1 (And.intro h0 (And.intro g1 hu)); refine stepR ?_; clear fx)
    refine fin ?_ (have fx := And.intro h1 (And.intro h0 hu); Sd)
    unfold downOK
    rw [ho]; simp
  rw [hw] at hu ho
  have ac := ints_at (l := f) (i := cn) (by omega)
  (have fx := And.intro h1 (And.intro h0 (And.intro g1 hu)); refine stepR ?_; clear fx)
  refine ml_getSg (have fx := And.intro h1 (And.intro h0 hu); Sd) r1 (have fx := And.intro h1 (And.intro h0 hu); Sd) (have fx := And.intro h1 (And.intro h0 hu); Sd) (by omega) (by rw [Int.toNat_natCast]; exact ac) (fun p => (have fx := And.intro h1 (And.intro h0 hu); Sd)) fun p => ?_
  by_cases hfc : f.getD cn 0 < 0
  · (have fx := And.intro h1 (And.intro h0 (And.intro hu hfc)); refine stepR ?_; clear fx)
    refine fin ?_ (have fx := And.intro h1 (And.intro h0 (And.intro hu hfc)); Sd)
    unfold downOK
    rw [Int.toNat_natCast, decide_eq_false (show ¬ 0 ≤ f.getD cn 0 by omega)]; simp
  have hok : downOK W Hh S f (cn : Int) = true := by
    unfold downOK
    rw [Int.toNat_natCast, hl, hg, ho, decide_eq_true rfl, decide_eq_true (show 0 ≤ f.getD cn 0 by omega)]; rfl
  (have fx := And.intro h1 (And.intro h0 (And.intro hu hfc)); refine stepR ?_; clear fx)
  refine mx_loop (fun n ts τ' => ∃ i ov out, n = S.size - i ∧ i ≤ S.size ∧ ts 1 = fv ∧ ts 2 = .int .i64 (cn : Int) ∧ ts 3 = .pointer (some ⟨σ.size, 0, none⟩) ∧ ts 7 = ov ∧ ts 8 = .int .i64 ((i : Nat) : Int) ∧ Out τ τ' 1 ov (ints out) ∧ ordL (fun x => f.getD x.toNat 0) out ∧ out.Nodup ∧ out.length ≤ i ∧
    (∀ y, y ∈ out ↔ 0 ≤ y ∧ y < (i : Int) ∧ y ∈ nearL W S cn ∧ 0 ≤ f.getD y.toNat 0 ∧ f.getD y.toNat 0 < f.getD cn 0)) S.size ?_ ?_
  · exact ⟨0, .slice none 0 0, [], rfl, by omega, (have fx := And.intro h1 (And.intro h0 (And.intro hu hfc)); Sd), (have fx := And.intro h1 (And.intro h0 (And.intro hu hfc)); Sd), (have fx := And.intro h1 (And.intro h0 (And.intro hu hfc)); Sd), (have fx := And.intro h1 (And.intro h0 (And.intro hu hfc)); Sd), (have fx := And.intro h1 (And.intro h0 (And.intro hu hfc)); Sd), Out.nil (Ext.refl _), .nil, .nil, Nat.le_refl _, fun y => ⟨(fun h => (by cases h)), (fun h => (by omega))⟩⟩
  rintro n ts τ' ⟨i, ov, out, rfl, hi, t1, t2, t3, t7, t8, hout, hord, hnd, hlen, hmem⟩
  have g := hout.1.cells g1
  have rf := r1.of_ext hout.1
  (have fx := And.intro t1 t8; refine stepR ?_; clear fx)
  refine ml_len Sd0 rf (have fx := t1; Sd) ?_
  rw [ints_len, hl]
  rcases Nat.lt_or_ge i S.size with hil | hig
  rotate_left
  · obtain rfl : i = S.size := by omega
    have hil' : ¬ (S.size : Int) < (S.size : Int) := by omega
    (have fx := And.intro hil' t7; refine stepR ?_; clear fx)
    refine fin1 ⟨out, ?_, ?_⟩
    · have : Out σ τ' 1 ov (ints out) := by
        obtain ⟨e5, o5, own5, h5⟩ := hout
        exact ⟨e1.trans e5, o5, own5, fun id hi => Nat.le_trans e1.size (h5 id hi)⟩
      exact (show ov = _ from (have fx := t7; Sd)) ▸ this
    · refine down_of hok hord hnd (dnI_nodup hgs.1 (by omega)) fun y => ?_
      rw [hmem y, Int.toNat_natCast]
      constructor
      · rintro ⟨_, _, h⟩; exact h
      · intro h
        have := opn_lt (near_opn h.1)
        exact ⟨this.1, this.2, h⟩
  have hil' : ((i : Nat) : Int) < (S.size : Int) := by omega
  have ui : (((S.data.toList.getD i 0).toNat : Int) == (35 : Int)) = (S.data.toList.getD i 0 == 35) := u8eq _ 35 (by omega)
  have oi := sgn_opn2 hil
  have ai := ints_at (l := f) (i := i) (by omega)
  have hsel : ∀ b : Bool, b = (opn S (i : Int) && beside W cn i && decide (0 ≤ f.getD i 0) && decide (f.getD i 0 < f.getD cn 0)) → (b = true ↔ (i : Int) ∈ nearL W S cn ∧ 0 ≤ f.getD i 0 ∧ f.getD i 0 < f.getD cn 0) := fun b hb => by
    rw [hb, Bool.and_eq_true, Bool.and_eq_true, Bool.and_eq_true, decide_eq_true_eq, decide_eq_true_eq, near_iff hgs.1 (by rw [ho]; rfl)]
    exact ⟨fun ⟨⟨⟨a, b⟩, c⟩, d⟩ => ⟨⟨a, b⟩, c, d⟩, fun ⟨⟨a, b⟩, c, d⟩ => ⟨⟨⟨a, b⟩, c⟩, d⟩⟩
  (have fx := hil'; refine stepR ?_; clear fx)
  refine mld_mid (fun ts2 τ2 => τ2 = τ' ∧ ts2 1 = fv ∧ ts2 2 = .int .i64 (cn : Int) ∧ ts2 3 = .pointer (some ⟨σ.size, 0, none⟩) ∧ ts2 7 = ov ∧ ts2 8 = .int .i64 ((i : Nat) : Int) ∧ ts2 77 = .bool (!(opn S (i : Int) && beside W cn i && decide (0 ≤ f.getD i 0) && decide (f.getD i 0 < f.getD cn 0)))) ?_ ?_
  · cases hwi : S.data.toList.getD i 0 == 35
    rotate_left
    · rw [hwi] at ui oi
      (have fx := And.intro t3 (And.intro g (And.intro t8 ui)); refine stepR ?_; clear fx)
      exact ⟨rfl, (have fx := t1; Sd), (have fx := t2; Sd), (have fx := t3; Sd), (have fx := t7; Sd), (have fx := t8; Sd), (have fx := And.intro ui oi; Sd)⟩
    rw [hwi] at ui oi
    (have fx := And.intro t3 (And.intro g (And.intro t8 (And.intro t2 ui))); refine stepR ?_; clear fx)
    refine mld_callW (have fx := ui; Sd) (have fx := And.intro t2 (And.intro t8 ui); Sd) (rBeside_c W (cn : Int) (i : Int) τ' hgs.1 (by omega) (by omega)) ?_
    rintro _ τ8 ⟨rfl, rfl⟩
    cases hbs : beside W (cn : Int) (i : Int)
    · (have fx := ui; refine stepR ?_; clear fx)
      exact ⟨rfl, (have fx := t1; Sd), (have fx := t2; Sd), (have fx := t3; Sd), (have fx := t7; Sd), (have fx := t8; Sd), (have fx := And.intro ui oi; Sd)⟩
    (have fx := And.intro ui (And.intro t1 t8); refine stepR ?_; clear fx)
    refine mld_getS (have fx := ui; Sd) rf (have fx := And.intro t1 ui; Sd) (have fx := And.intro t8 ui; Sd) (by omega) (by rw [Int.toNat_natCast]; exact ai) (fun p => (have fx := ui; Sd)) fun p => ?_
    by_cases hf0 : f.getD i 0 < 0
    · have hf0' : ¬ 0 ≤ f.getD i 0 := by omega
      (have fx := And.intro ui hf0; refine stepR ?_; clear fx)
      exact ⟨rfl, (have fx := t1; Sd), (have fx := t2; Sd), (have fx := t3; Sd), (have fx := t7; Sd), (have fx := t8; Sd), (have fx := And.intro ui (And.intro oi (And.intro hf0 hf0')); Sd)⟩
    have hf0' : 0 ≤ f.getD i 0 := by omega
    (have fx := And.intro ui (And.intro hf0 (And.intro t1 t8)); refine stepR ?_; clear fx)
    refine mld_getS (have fx := And.intro ui hf0; Sd) rf (have fx := And.intro t1 (And.intro ui hf0); Sd) (have fx := And.intro t8 (And.intro ui hf0); Sd) (by omega) (by rw [Int.toNat_natCast]; exact ai) (fun p => (have fx := And.intro ui hf0; Sd)) fun p => ?_
    (have fx := And.intro ui (And.intro hf0 (And.intro t1 t2)); refine stepR ?_; clear fx)
    refine mld_getS (have fx := And.intro ui hf0; Sd) rf (have fx := And.intro t1 (And.intro ui hf0); Sd) (have fx := And.intro t2 (And.intro ui hf0); Sd) (by omega) (by rw [Int.toNat_natCast]; exact ac) (fun p => (have fx := And.intro ui hf0; Sd)) fun p => ?_
    by_cases hlt : f.getD i 0 < f.getD cn 0
    · have hlt' : ¬ f.getD cn 0 ≤ f.getD i 0 := by omega
      (have fx := And.intro ui (And.intro hf0 hlt'); refine stepR ?_; clear fx)
      exact ⟨rfl, (have fx := t1; Sd), (have fx := t2; Sd), (have fx := t3; Sd), (have fx := t7; Sd), (have fx := t8; Sd), (have fx := And.intro ui (And.intro oi (And.intro hf0 (And.intro hf0' (And.intro hlt hlt')))); Sd)⟩
    · have hlt' : f.getD cn 0 ≤ f.getD i 0 := by omega
      (have fx := And.intro ui (And.intro hf0 hlt'); refine stepR ?_; clear fx)
      exact ⟨rfl, (have fx := t1; Sd), (have fx := t2; Sd), (have fx := t3; Sd), (have fx := t7; Sd), (have fx := t8; Sd), (have fx := And.intro ui (And.intro oi (And.intro hf0 (And.intro hf0' (And.intro hlt hlt')))); Sd)⟩
  clear t1 t2 t3 t7 t8 ts
  rintro ts τ2 ⟨rfl, t1, t2, t3, t7, t8, t77⟩
  have hsel := hsel _ rfl
  generalize hb : (opn S (i : Int) && beside W cn i && decide (0 ≤ f.getD i 0) && decide (f.getD i 0 < f.getD cn 0)) = b at t77 hsel
  cases b
  · -- passed over
    (have fx := And.intro t77 t8; refine stepR ?_; clear fx)
    refine ⟨_, by omega, i + 1, ov, out, rfl, hil, (have fx := t1; Sd), (have fx := t2; Sd), (have fx := t3; Sd), (have fx := t7; Sd), Sd0, hout, hord, hnd, by omega, fun y => ?_⟩
    rw [hmem y]
    constructor
    · rintro ⟨a1, a2, a3⟩; exact ⟨a1, by omega, a3⟩
    · rintro ⟨a1, a2, a3⟩
      refine ⟨a1, ?_, a3⟩
      by_cases hy : y = (i : Int)
      · subst hy
        rw [Int.toNat_natCast] at a3
        have := hsel.2 a3
        cases this
      · omega
  obtain ⟨s1, s2, s3⟩ := hsel.1 rfl
  have hro := hout.rd
  (have fx := t77; refine stepR ?_; clear fx)
  refine mx_loop (fun n ts τ' => ∃ k, n = out.length - k ∧ k ≤ out.length ∧ τ' = τ2 ∧ ts 1 = fv ∧ ts 2 = .int .i64 (cn : Int) ∧ ts 3 = .pointer (some ⟨σ.size, 0, none⟩) ∧ ts 7 = ov ∧ ts 8 = .int .i64 ((i : Nat) : Int) ∧ ts 9 = .int .i64 ((k : Nat) : Int) ∧ ∀ y ∈ out.take k, f.getD y.toNat 0 ≤ f.getD i 0) out.length ?_ ?_
  · exact ⟨0, rfl, by omega, rfl, (have fx := t1; Sd), (have fx := t2; Sd), (have fx := t3; Sd), (have fx := t7; Sd), (have fx := t8; Sd), Sd0, fun y h => (by cases h)⟩
  clear t1 t2 t3 t7 t8 t77 ts
  rintro n ts τ3 ⟨k, rfl, hk, rfl, t1, t2, t3, t7, t8, t9, hle⟩
  have gk : ∀ y ∈ out, 0 ≤ y ∧ y.toNat < f.length := fun y hy => by
    have := (hmem y).1 hy
    exact ⟨this.1, by omega⟩
  generalize hq : out.getD k 0 = q
  refine stepR0 ?_
  refine mld_mid (fun ts2 τ4 => τ4 = τ3 ∧ ts2 1 = fv ∧ ts2 2 = .int .i64 (cn : Int) ∧ ts2 3 = .pointer (some ⟨σ.size, 0, none⟩) ∧ ts2 7 = ov ∧ ts2 8 = .int .i64 ((i : Nat) : Int) ∧ ts2 9 = .int .i64 ((k : Nat) : Int) ∧ ts2 95 = .bool (decide (k < out.length) && decide (f.getD q.toNat 0 ≤ f.getD i 0))) ?_ ?_
  · (have fx := And.intro t9 t7; refine stepR ?_; clear fx)
    refine mld_len Sd0 hro (have fx := t7; Sd) ?_
    rw [ints_len]
    rcases Nat.lt_or_ge k out.length with hkl | hkg
    rotate_left
    · have hk' : ¬ ((k : Nat) : Int) < (out.length : Int) := by omega
      have hk2 : decide (k < out.length) = false := decide_eq_false (by omega)
      (have fx := And.intro t9 hk'; refine stepR ?_; clear fx)
      exact ⟨rfl, (have fx := t1; Sd), (have fx := t2; Sd), (have fx := t3; Sd), (have fx := t7; Sd), (have fx := t8; Sd), (have fx := t9; Sd), (have fx := And.intro hk' hk2; Sd)⟩
    have hk' : ((k : Nat) : Int) < (out.length : Int) := by omega
    have hk2 : decide (k < out.length) = true := decide_eq_true hkl
    have hqm : q ∈ out := by rw [← hq, List.getD_eq_getElem?_getD, List.getElem?_eq_getElem hkl]; exact List.getElem_mem hkl
    obtain ⟨hq0, hqf⟩ := gk q hqm
    have aq := ints_at hkl
    rw [hq] at aq
    have afq := ints_at hqf
    (have fx := And.intro hk' (And.intro t1 (And.intro t7 t9)); refine stepR ?_; clear fx)
    refine mld_getS (have fx := hk'; Sd) hro (have fx := And.intro t7 hk'; Sd) (have fx := And.intro t9 hk'; Sd) (by omega) (by rw [Int.toNat_natCast]; exact aq) (fun p => (have fx := hk'; Sd)) fun p => ?_
    (have fx := And.intro hk' (And.intro t1 (And.intro t7 t9)); refine stepR ?_; clear fx)
    refine mld_getS (have fx := hk'; Sd) rf (have fx := And.intro t1 hk'; Sd) (have fx := hk'; Sd) hq0 afq (fun p => (have fx := hk'; Sd)) fun p => ?_
    (have fx := And.intro hk' (And.intro t1 t8); refine stepR ?_; clear fx)
    refine mld_getS (have fx := hk'; Sd) rf (have fx := And.intro t1 hk'; Sd) (have fx := And.intro t8 hk'; Sd) (by omega) (by rw [Int.toNat_natCast]; exact ai) (fun p => (have fx := hk'; Sd)) fun p => ?_
    by_cases hfle : f.getD q.toNat 0 ≤ f.getD i 0
    · (have fx := And.intro hk' hfle; refine stepR ?_; clear fx)
      exact ⟨rfl, (have fx := t1; Sd), (have fx := t2; Sd), (have fx := t3; Sd), (have fx := t7; Sd), (have fx := t8; Sd), (have fx := t9; Sd), (have fx := And.intro hk' (And.intro hk2 hfle); Sd)⟩
    · (have fx := And.intro hk' hfle; refine stepR ?_; clear fx)
      exact ⟨rfl, (have fx := t1; Sd), (have fx := t2; Sd), (have fx := t3; Sd), (have fx := t7; Sd), (have fx := t8; Sd), (have fx := t9; Sd), (have fx := And.intro hk' (And.intro hk2 hfle); Sd)⟩
  clear t1 t2 t3 t7 t8 t9 ts
  rintro ts τ4 ⟨rfl, t1, t2, t3, t7, t8, t9, t95⟩
  rcases Bool.eq_false_or_eq_true (decide (k < out.length) && decide (f.getD q.toNat 0 ≤ f.getD i 0)) with hb2 | hb2
  · rw [hb2] at t95
    rw [Bool.and_eq_true, decide_eq_true_eq, decide_eq_true_eq] at hb2
    (have fx := And.intro t95 t9; refine stepR ?_; clear fx)
    refine ⟨_, by omega, k + 1, rfl, hb2.1, rfl, (have fx := t1; Sd), (have fx := t2; Sd), (have fx := t3; Sd), (have fx := t7; Sd), (have fx := t8; Sd), Sd0, fun y hy => ?_⟩
    rw [takeS hb2.1, List.mem_append, List.mem_singleton] at hy
    rcases hy with hy | rfl
    · exact hle y hy
    · rw [hq]; exact hb2.2
  rw [hb2] at t95
  have hgt : k < out.length → f.getD i 0 < f.getD q.toNat 0 := fun h => by
    rw [decide_eq_true h, Bool.true_and, decide_eq_false_iff_not] at hb2; omega
  clear hb2
  (have fx := And.intro t95 (And.intro t8 (And.intro t7 t9)); refine stepR ?_; clear fx)
  obtain ⟨eo, oid, own, hid⟩ := hout
  refine mld_op Sd0 (o_slcU own (have fx := t7; Sd) (have fx := t9; Sd) (by rw [ints_len]; exact hk)).1 ?_
  (have fx := And.intro t8 (And.intro t7 t9); refine stepR ?_; clear fx)
  refine mld_op Sd0 (o_slcU own (have fx := t7; Sd) (have fx := t9; Sd) (by rw [ints_len]; exact hk)).2 ?_
  have hkl : k ≤ (ints out).length := by rw [ints_len]; exact hk
  have hol : out.length ≤ 64 := by have := hgs.2.2.2.1; omega
  have hlow := low_rd own hkl
  have hhigh := high_rd own hkl
  have hoid : ∀ j, oid = some j → j < τ4.size := fun j h => by subst h; exact own.lt
  have htk : (ints out).take k = ints (out.take k) := by unfold ints; rw [List.map_take]
  have hdk : (ints out).drop k = ints (out.drop k) := by unfold ints; rw [List.map_drop]
  rw [htk] at hlow
  rw [hdk] at hhigh
  have ePush := Ext.push τ4 (.cells 1 [])
  have own0 := own.of_ext ePush
  have fr0 : Own (τ4.push (.cells 1 [])) 1 (.slice (some ⟨τ4.size, 0, none⟩) 0 0) (some τ4.size) [] := .full (H.get_push_self _ _) rfl
  have one1 : ∀ l : List Int, (ints l).all one = true := fun l => ints_one l
  refine stepR0 ?_
  refine mld_appR (cs := []) (vs := ints (out.take k)) Sd0 Sd0 Sd0 fr0 (hlow.of_ext ePush) (one1 _) (by omega) (by rw [ints_len, List.length_take, List.length_nil]; simp only [appMax]; omega) ?_ ?_
  · intro _ τ' hs hkp
    have own' : Own τ' 1 ov oid (ints out) := own0.ext fun j hj => hkp j (by rw [H.size_push]; have := hoid j hj; omega) (by intro e; injection e with e; have := hoid j hj; omega)
    refine .inr fun m hm v hv => ?_
    simp only [pendOf, List.takeWhile, bne_iff_ne, ne_eq, Nat.reduceBNe, pureM, List.filter, List.map, Bool.not_false, Bool.not_true, Bool.and_true, Bool.and_false, Bool.true_and, Bool.false_and, List.mem_cons, List.not_mem_nil, or_false] at hm
    rcases hm with rfl | rfl
    · exact (slc_keep own0 own' (have fx := t7; Sd) (have fx := t9; Sd) hkl).1 hv
    · exact (slc_keep own0 own' (have fx := t7; Sd) (have fx := t9; Sd) hkl).2 hv
  intro v1 τ5 oid1 own1 ho1 hs1 hk1
  have hs1' : τ4.size < τ5.size := by rw [H.size_push] at hs1; omega
  have hf1 : ∀ j, oid1 = some j → τ4.size ≤ j := fun j h => by
    rcases ho1 with rfl | rfl
    · injection h with h; omega
    · rw [H.size_push] at h; injection h with h; omega
  have e5 : Ext τ4 τ5 := ⟨by omega, fun j hj => by
    rw [hk1 j (by rw [H.size_push]; omega) (by intro e; injection e with e; omega)]
    exact H.get_push_lt hj⟩
  have own5 := own.of_ext e5
  rw [List.nil_append] at own1
  have eP5 := Ext.push τ5 (.cells 1 [.int .i64 ((i : Nat) : Int)])
  have own6 := own5.of_ext eP5
  have own16 := own1.of_ext eP5
  have hli : Rd (τ5.push (.cells 1 [.int .i64 ((i : Nat) : Int)])) (.slice (some ⟨τ5.size, 0, none⟩) 1 1) (ints [((i : Nat) : Int)]) := one_rd (H.get_push_self _ _)
  have app1 : ∀ a b : List Int, ints a ++ ints b = ints (a ++ b) := fun a b => by unfold ints; rw [List.map_append]
  (have fx := t8; refine stepR ?_; clear fx)
  refine mld_appR (cs := ints (out.take k)) (vs := ints [((i : Nat) : Int)]) Sd0 Sd0 Sd0 own16 hli (by rw [app1]; exact one1 _) (by omega) (by rw [ints_len, ints_len, List.length_take]; simp only [appMax, List.length_cons, List.length_nil]; omega) ?_ ?_
  · intro _ τ' hs hkp
    have own' : Own τ' 1 ov oid (ints out) := own6.ext fun j hj => hkp j (by rw [H.size_push]; have := hoid j hj; omega) (by intro e; have h1 := hf1 j e; have := hoid j hj; omega)
    refine .inr fun m hm v hv => ?_
    simp only [pendOf, List.takeWhile, bne_iff_ne, ne_eq, Nat.reduceBNe, pureM, List.filter, List.map, Bool.not_false, Bool.not_true, Bool.and_true, Bool.and_false, Bool.true_and, Bool.false_and, List.mem_cons, List.not_mem_nil, or_false] at hm
    rcases hm with rfl | rfl
    · exact (slc_keep own6 own' (have fx := t7; Sd) (have fx := t9; Sd) hkl).1 hv
    · exact (slc_keep own6 own' (have fx := t7; Sd) (have fx := t9; Sd) hkl).2 hv
  intro v2 τ6 oid2 own2 ho2 hs2 hk2
  rw [H.size_push] at hs2 ho2
  have hf2 : ∀ j, oid2 = some j → τ4.size ≤ j := fun j h => by
    rcases ho2 with rfl | rfl
    · exact hf1 j h
    · injection h with h; omega
  have e6 : Ext τ4 τ6 := ⟨by omega, fun j hj => by
    rw [hk2 j (by rw [H.size_push]; omega) (by intro e; have := hf1 j e; omega), H.get_push_lt (by omega)]
    exact e5.get j hj⟩
  rw [app1] at own2
  refine stepR0 ?_
  refine mld_appR (cs := ints (out.take k ++ [((i : Nat) : Int)])) (vs := ints (out.drop k)) Sd0 Sd0 Sd0 own2 (hhigh.of_ext e6) (by rw [app1]; exact one1 _) (by omega) (by rw [ints_len, ints_len, List.length_append, List.length_take, List.length_drop]; simp only [appMax, List.length_cons, List.length_nil]; omega) (fun h => (by cases h)) ?_
  intro v3 τ7 oid3 own3 ho3 hs3 hk3
  have hf3 : ∀ j, oid3 = some j → τ4.size ≤ j := fun j h => by
    rcases ho3 with rfl | rfl
    · exact hf2 j h
    · injection h with h; omega
  have e7 : Ext τ4 τ7 := ⟨by omega, fun j hj => by
    rw [hk3 j (by omega) (by intro e; have := hf2 j e; omega)]
    exact e6.get j hj⟩
  rw [app1, List.append_assoc, List.singleton_append] at own3
  have hlt : ∀ y ∈ out, y < (i : Int) := fun y hy => ((hmem y).1 hy).2.1
  (have fx := t8; refine stepR ?_; clear fx)
  refine ⟨_, by omega, i + 1, v3, out.take k ++ ((i : Nat) : Int) :: out.drop k, rfl, hil, (have fx := t1; Sd), (have fx := t2; Sd), (have fx := t3; Sd), Sd0, Sd0, ⟨eo.trans e7, oid3, own3, fun j h => Nat.le_trans eo.size (hf3 j h)⟩, ?_, ?_, ?_, fun y => ?_⟩
  · refine ins_ord hord hlt (fun y hy => ?_) fun h => ?_
    · have := hle y hy
      rwa [Int.toNat_natCast]
    · rw [Int.toNat_natCast, hq]; exact hgt h
  · have hp : (out.take k ++ ((i : Nat) : Int) :: out.drop k).Perm (((i : Nat) : Int) :: out) := by
      have := List.perm_middle (a := ((i : Nat) : Int)) (l₁ := out.take k) (l₂ := out.drop k)
      rwa [List.take_append_drop] at this
    exact hp.nodup_iff.2 (List.nodup_cons.2 ⟨fun h => by have := hlt _ h; omega, hnd⟩)
  · simp only [List.length_append, List.length_cons, List.length_take, List.length_drop]; omega
  · rw [ins_mem, hmem y]
    constructor
    · rintro (rfl | ⟨a1, a2, a3⟩)
      · exact ⟨by omega, by omega, s1, by rw [Int.toNat_natCast]; exact s2, by rw [Int.toNat_natCast]; exact s3⟩
      · exact ⟨a1, by omega, a3⟩
    · rintro ⟨a1, a2, a3⟩
      by_cases hy : y = (i : Int)
      · exact .inl hy
      · exact .inr ⟨a1, by omega, a3⟩
end Go.Proofs.YtcjogomiiinkfaaDoor
