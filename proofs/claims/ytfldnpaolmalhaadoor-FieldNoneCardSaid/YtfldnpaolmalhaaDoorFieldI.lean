/- FieldNone. -/
import Derived.Test.YtfldnpaolmalhaaDoorFieldG
namespace Go.Mini
set_option linter.unusedVariables false
set_option linter.unusedSimpArgs false
/-- Some elements more. -/
theorem app_many {ts : Fr} {σ : H} {sz bytes k : Nat} {xs xx : Opd} {v : Value} {oid : Option Nat} {cs vs : List Value} {tid : Nat} (ho : Own σ sz v oid cs) (hv : mev ts xs = v) (hx : mev ts xx = .slice (some ⟨tid, 0, none⟩) k k)
    (ht : σ.get tid = .cells sz vs) (hl : vs.length = k * sz) (hk : k ≠ 0) (hz : sz ≠ 0) (h1 : (cs ++ vs).all one = true) (hb : bytes ≤ 128) (hn : cs.length + k ≤ appMax) :
    ∃ v' τ, mop ts σ (.app sz bytes xs xx) = some (v', τ) ∧ Own τ sz v' (some σ.size) (cs ++ vs) ∧ τ.size = σ.size + 1 ∧ (∀ i, i < σ.size → oid ≠ some i → τ.get i = σ.get i) := by
  have hrow : firstL σ sz k (.slice (some ⟨tid, 0, none⟩) k k) = some vs := by
    simp only [firstL, H.row, ht]; exact rowAll hl
  cases ho with
  | nil =>
    refine ⟨.slice (some ⟨σ.size, 0, none⟩) k k, σ.push (.cells sz vs), ?_, ?_, by simp, fun i hi _ => H.get_push_lt hi⟩
    · have : k ≤ appMax ∧ bytes ≤ 128 := ⟨by simp at hn; omega, hb⟩
      simp only [mop, hv, hx, lenL, hrow, this, and_self, if_true, if_neg hk]
    · exact .full (by simp) (by simpa using hl)
  | @full id n _ h hlen =>
    have happ : n + k ≤ appMax ∧ bytes ≤ 128 := by
      refine ⟨?_, hb⟩
      have : n ≤ cs.length := by rw [hlen]; exact Nat.le_mul_of_pos_right n (by omega)
      omega
    have hr : σ.row id 0 (n * sz) = some cs := by simp only [H.row, h]; exact rowAll hlen
    refine ⟨.slice (some ⟨σ.size, 0, none⟩) (n + k) (n + k), (σ.set id .dead).push (.cells sz (cs ++ vs)), ?_, ?_, by simp, fun i hi hne => ?_⟩
    · simp only [mop, hv, hx, lenL, hrow, happ, and_self, if_true, h, hr, h1, true_or]
      rw [if_neg (by omega)]
    · refine .full ?_ (by simp [hlen, hl, Nat.add_mul])
      have := H.get_push_self (σ.set id .dead) (.cells sz (cs ++ vs))
      rwa [H.size_set] at this
    · have hid := H.lt_of_cells h
      have hni : i ≠ id := fun e => hne (by rw [e])
      rw [H.get_push_lt (by simpa using hi), H.get_set_ne hni]
/-- Some elements more, where what was told of the heap stands. -/
theorem mld_appK {E : World → Prop} {P : Program} {fl drest : List DI} {K : Fr → H → Prop} {d : Option Nat} {g : Option (Nat × Bool)} {ix : Nat} {l ex : Bool} {ts : Fr} {σ : H} {sz bytes k : Nat} {xs xx : Opd} {v : Value} {oid : Option Nat} {cs vs : List Value} {tid : Nat} (hw : wantM ts g = true) (hv : mev ts xs = v) (hx : mev ts xx = .slice (some ⟨tid, 0, none⟩) k k)
    (ho : Own σ sz v oid cs) (ht : σ.get tid = .cells sz vs) (hl : vs.length = k * sz) (hk : k ≠ 0) (hz : sz ≠ 0) (h1 : (cs ++ vs).all one = true) (hb : bytes ≤ 128) (hn : cs.length + k ≤ appMax)
    (hkeep : ∀ τ, τ.size = σ.size + 1 → (∀ i, i < σ.size → oid ≠ some i → τ.get i = σ.get i) → KeepM fl ⟨⟨d, .app sz bytes xs xx, g⟩, ix, l, ex⟩ ts σ τ)
    (h : ∀ v' τ, Own τ sz v' (some σ.size) (cs ++ vs) → τ.size = σ.size + 1 → (∀ i, i < σ.size → oid ≠ some i → τ.get i = σ.get i) → mld E P fl drest K (updO ts d v') τ) :
    mld E P fl (⟨⟨d, .app sz bytes xs xx, g⟩, ix, l, ex⟩ :: drest) K ts σ := by
  obtain ⟨v', τ, h2, h3, h4, h5⟩ := app_many (ts := ts) ho hv hx ht hl hk hz h1 hb hn
  exact mld_keep hw (mstep_of h2 ⟨fun _ => hkeep τ h4 h5, h v' τ h3 h4 h5⟩)
end Go.Mini
namespace Go.Proofs.YtfldnpaolmalhaaDoor
open Go.Mini
open Go.Proofs.YtfldnpaolmalhaaDoor.Code
set_option linter.unusedVariables false
set_option linter.unusedSimpArgs false
set_option linter.ambiguousOpen false
attribute [local irreducible] mx ml mld mstep MCalls Ex.thn Ex.inb
variable {E : World → Prop}

theorem none_wk {W : Int} {S : ByteArray} {src : List Int} (h : ∀ x ∈ src, opn S x = false) {k : Nat} {x : Int} : ¬ Wk W S src k x := by
  intro hw
  induction hw with
  | src hs ho => rw [h _ hs] at ho; cases ho
  | step _ _ ih => exact ih
theorem none_cst {W : Int} {S : ByteArray} {src : List Int} {st : Int} {f : List Int} (h : ∀ x ∈ src, opn S x = false) (hc : Cst W S src st f) {i : Nat} (hi : i < S.size) : f.getD i 0 = -1 := by
  rcases hc.2 i hi with ⟨h1, _⟩ | ⟨k, h1, _⟩
  · exact h1
  · exact absurd h1 (none_wk h)
theorem wall_src {S : ByteArray} (hS : S.size ≤ 64) : ∀ x ∈ gkind S 35 true ++ [-1, 64], opn S x = false := by
  intro x hx
  rcases List.mem_append.1 hx with h | h
  · unfold gkind at h
    rw [if_pos rfl, List.mem_map] at h
    obtain ⟨i, h, rfl⟩ := h
    rw [List.mem_filter, List.mem_range, beq_iff_eq] at h
    simp only [opn, bAt]
    have : (Int.ofNat i).toNat = i := rfl
    rw [this, h.2]; simp
  · simp at h
    rcases h with rfl | rfl
    · simp [opn]
    · have : ¬ (64 : Int) < (S.size : Int) := by omega
      simp [opn, this]
theorem gkind_le2 (S : ByteArray) (b : UInt8) (q : Bool) : (gkind S b q).length ≤ S.size := by
  unfold gkind
  split
  · rw [List.length_map]; exact Nat.le_trans (List.length_filter_le _ _) (by simp)
  · simp

set_option maxHeartbeats 4000000 in
theorem fieldNone_c (hE : ∀ w, E w → ErrType w) (W Hh : Int) (S : ByteArray) {σ : H} (c : Nat) (hc : c < 256) :
    MCalls E Tryd.prog 10 [mapV W Hh S, .int .u8 c] σ (fun v τ => v = .bool true) := by
  refine mcalls_of fn10 (by simp) ?_
  unfold c10 r10 mapV
  refine stepR0 ?_
  refine ml_call Sd0 Sd0 (fAwake_c _) ?_
  rintro _ τ ⟨rfl, e1⟩
  have g1 := e1.cells (H.get_push_self σ _)
  (have fx := g1; refine stepR ?_; clear fx)
  refine ml_call Sd0 Sd0 (rRight_c W Hh S τ) ?_
  rintro _ τ2 ⟨rfl, e2⟩
  cases hg : gr W Hh S
  · refine stepR0 ?_
    refine ml_call Sd0 Sd0 (fAwake_c _) ?_
    rintro _ τ3 ⟨rfl, e3⟩
    refine stepR0 ?_
    exact fin1 Sd0
  have g2 := e2.cells g1
  have hgs := gr_size hg
  obtain ⟨hS1, hS64⟩ := hgs.2.2.2.1
  have hSne : (S.size : Int) ≠ 0 := by omega
  obtain ⟨k, hk, hkm⟩ : ∃ k : Nat, k < S.size ∧ ((c : Int).tmod (S.size : Int)) = (k : Int) := ⟨c % S.size, Nat.mod_lt _ (by omega), by rw [Int.tmod_eq_emod_of_nonneg (by omega)]; rfl⟩
  (have fx := g2; refine stepR ?_; clear fx)
  refine ml_call Sd0 Sd0 (gOf_c W Hh S τ2) ?_
  rintro _ τ3 ⟨rfl, e3⟩
  have g3 := e3.cells g2
  refine stepR0 ?_
  refine ml_init (vs := mapC W Hh S) Sd0 Sd0 Sd0 rfl rfl rfl fun τ4 e4 g7 => ?_
  have g4 := e4.cells g3
  have g7' : τ4.get τ3.size = .cells 0 [.int .i64 W, .int .i64 Hh, .string S] := g7
  generalize τ3.size = xid at g7' ⊢
  clear g7 g3 g2 g1 e1 e2 e3 e4
  (have fx := g7'; refine stepR ?_; clear fx)
  refine mld_call Sd0 Sd0 (gkind_c W Hh S 35 τ4) (fun _ _ h => h.1) ?_
  intro lv τ5 hkd
  rw [hg] at hkd
  have hsrc := wall_src (S := S) hS64
  have hlen := gkind_le2 S 35 true
  generalize hL : gkind S 35 true = L at hkd hsrc hlen
  have hkd2 := hkd.of_ext (Ext.push τ5 (.cells 1 [.int .i64 (-1), .int .i64 64]))
  have g5 := hkd.1.cells g4
  have g75 := hkd.1.cells g7'
  have hxl := H.lt_of_cells g7'
  have hsl := H.lt_of_cells g4
  obtain ⟨e5, oid, own, hid⟩ := hkd2
  have g6 := (Ext.push τ5 (.cells 1 [.int .i64 (-1), .int .i64 64])).cells g5
  have g76 := (Ext.push τ5 (.cells 1 [.int .i64 (-1), .int .i64 64])).cells g75
  have hids : oid ≠ some σ.size := fun e => by have := hid _ e; omega
  have hidx : oid ≠ some xid := fun e => by have := hid _ e; omega
  (have fx := g75; refine stepR ?_; clear fx)
  refine mld_appK (k := 2) (vs := [.int .i64 (-1), .int .i64 64]) Sd0 Sd0 Sd0 own (H.get_push_self _ _) rfl (by omega) (by omega) (by rw [List.all_append, ints_one]; rfl) (by omega) (by rw [ints_len]; simp only [appMax]; omega) ?_ ?_
  · intro τ hsz hk
    refine .inr fun m hm v hv => ?_
    have hgt := (hk xid (H.lt_of_cells g76) hidx).trans g76
    simp only [pendOf, List.takeWhile, bne_iff_ne, ne_eq, Nat.reduceBNe, pureM, List.filter, List.map, Bool.not_false, Bool.not_true, List.mem_cons, List.not_mem_nil, or_false] at hm
    have load : ∀ {ts : Fr} {σ' : H}, mev ts (.t 5) = .pointer (some ⟨xid, 0, none⟩) → σ'.get xid = .cells 0 [.int .i64 W, .int .i64 Hh, .string S] → mop ts σ' (.loadN 3 (.t 5)) = some (.agg (mapC W Hh S).toArray, σ') :=
      fun h1 h2 => o_loadN (vs := mapC W Hh S) h1 (row_of h2 (rowAll rfl))
    rcases hm with rfl | rfl | rfl | rfl
    · have h3 := (load Sd0 g76).symm.trans hv
      simp only [Option.some.injEq, Prod.mk.injEq, and_true] at h3
      refine (load Sd0 hgt).trans ?_
      rw [h3]
    · have h3 := (load Sd0 g76).symm.trans hv
      simp only [Option.some.injEq, Prod.mk.injEq, and_true] at h3
      refine (load Sd0 hgt).trans ?_
      rw [h3]
    · simp [mop] at hv
    · have h3 := congrArg (fun r => r.map fun p => p.2.size) hv
      simp [mop, fillL, repZ, spl, mev, Value.cells] at h3
  intro av τ6 own6 hs6 hk6
  have g7 := (hk6 _ (H.lt_of_cells g6) hids).trans g6
  have g77 := (hk6 _ (H.lt_of_cells g76) hidx).trans g76
  have hap : ints L ++ [.int .i64 (-1), .int .i64 64] = ints (L ++ [-1, 64]) := by simp [ints]
  rw [hap] at own6
  clear hk6 hs6 own g6 g76 g5 g75 hid hids hidx g4 g7' e5 hkd
  refine mld_callW Sd0 Sd0 (costs_c W Hh S (L ++ [-1, 64]) 1 av τ6 own6.rd) ?_
  intro v τ7 hcr
  obtain ⟨fv, ev, ff, num, rfl, rf, hall, hnum, hdn, e7, hfl, hbig⟩ : ∃ fv ev ff num, v = .tuple #[fv, ev] ∧ Rd τ7 fv (ints ff) ∧ (∀ i, i < ff.length → ff.getD i 0 = -1) ∧ (∀ τ', Ext τ7 τ' → MCalls E Tryd.prog 19 [ev] τ' (fun r τ'' => r = .int .i64 num ∧ Ext τ' τ'')) ∧ downOK W Hh S ff (k : Int) = false ∧ Ext τ6 τ7 ∧ ff.length ≤ 64 ∧ (num = 0 ∨ (num = 1 ∧ 62 < L.length)) := by
    cases hok : costOK W Hh S (L ++ [-1, 64]) 1
    · obtain ⟨ev, rfl, he, e7⟩ := cost_bad hcr hok
      refine ⟨_, ev, [], 1, rfl, .nil, fun i h => absurd h (Nat.not_lt_zero _), fun τ' e' => tNum_c hE (he.of_ext e').chain, ?_, e7, by simp, .inr ⟨rfl, ?_⟩⟩
      · unfold downOK
        rw [decide_eq_false (by rw [List.length_nil]; omega)]; rfl
      · unfold costOK at hok
        rw [hg] at hok
        simp at hok
        omega
    · obtain ⟨fv, ff, rfl, hc, ho⟩ := cost_ok hcr hok
      refine ⟨fv, _, ff, 0, rfl, ho.rd, fun i h => none_cst hsrc hc (by rw [← hc.1]; exact h), fun τ' e' => MCalls.mono (tNumN_c τ') fun v τ ⟨h1, h2⟩ => ⟨h1, h2 ▸ Ext.refl _⟩, ?_, ho.1, by rw [hc.1]; exact hS64, .inl rfl⟩
      unfold downOK
      rw [Int.toNat_natCast, none_cst hsrc hc hk]
      simp
  have g8 := e7.cells g7
  have g78 := e7.cells g77
  clear hcr g7 g77 own6
  refine stepR0 ?_
  refine mx_loop (fun n ts τ => ∃ i, n = ff.length - i ∧ i ≤ ff.length ∧ τ = τ7 ∧ ts 1 = .int .u8 c ∧ ts 2 = .pointer (some ⟨σ.size, 0, none⟩) ∧ ts 5 = .pointer (some ⟨xid, 0, none⟩) ∧ ts 6 = fv ∧ ts 7 = ev ∧ ts 8 = .int .i64 ((i : Nat) : Int)) ff.length ?_ ?_
  · exact ⟨0, rfl, by omega, rfl, Sd0, Sd0, Sd0, Sd0, Sd0, Sd0⟩
  rintro n ts τ ⟨i, rfl, hi, rfl, t1, t2, t5, t6, t7, t8⟩
  (have fx := And.intro t6 t8; refine stepR ?_; clear fx)
  refine ml_len Sd0 rf (have fx := t6; Sd) ?_
  rw [ints_len]
  rcases Nat.lt_or_ge i ff.length with hil | hig
  · have hil' : ((i : Nat) : Int) < (ff.length : Int) := by omega
    have ai := ints_at hil
    rw [hall i hil] at ai
    (have fx := And.intro hil' (And.intro t6 t8); refine stepR ?_; clear fx)
    refine ml_getS (e := .int .i64 (-1)) rf (have fx := t6; Sd) (have fx := t8; Sd) (by omega) (by rw [Int.toNat_natCast]; exact ai) fun p => ?_
    (have fx := t8; refine stepR ?_; clear fx)
    exact ⟨_, by omega, i + 1, rfl, hil, rfl, (have fx := t1; Sd), (have fx := t2; Sd), (have fx := t5; Sd), (have fx := t6; Sd), (have fx := t7; Sd), Sd0⟩
  have hil' : ¬ ((i : Nat) : Int) < (ff.length : Int) := by omega
  (have fx := And.intro hil' (And.intro t1 (And.intro t2 (And.intro g8 (And.intro t7 hkm)))); refine stepR ?_; clear fx)
  refine ml_call Sd0 (have fx := t7; Sd) (hnum τ (Ext.refl _)) ?_
  rintro _ τ8 ⟨rfl, e8⟩
  have g88 := e8.cells g78
  have rf8 := rf.of_ext e8
  rcases hbig with rfl | ⟨rfl, hbig⟩
  · have rf9 := rf8
    (have fx := And.intro t5 (And.intro g88 (And.intro t6 hkm)); refine stepR ?_; clear fx)
    refine ml_call Sd0 (have fx := And.intro t6 hkm; Sd) (fDown_c W Hh S rf9 (k : Int)) ?_
    rintro dv τ10 ⟨dl, hdo, hdd⟩
    obtain rfl : dl = [] := by unfold DownR at hdd; rw [if_neg (by rw [hdn]; simp)] at hdd; exact hdd
    have g10 := hdo.1.cells g88
    have rf10 := rf9.of_ext hdo.1
    refine stepR0 ?_
    refine ml_len Sd0 hdo.rd Sd0 ?_
    rw [ints_len, List.length_nil]
    (have fx := And.intro t5 (And.intro g10 (And.intro t6 hkm)); refine stepR ?_; clear fx)
    refine ml_call Sd0 (have fx := And.intro t6 hkm; Sd) (fWay_c W Hh S rf10 (k : Int)) ?_
    rintro wv τ11 ⟨out, how, hway⟩
    obtain rfl := way_none hdn hway
    refine stepR0 ?_
    refine ml_len Sd0 how.rd Sd0 ?_
    rw [ints_len, List.length_nil]
    refine stepR0 ?_
    exact fin1 Sd0
  · have hb' : (62 : Int) < (L.length : Int) := by omega
    (have fx := And.intro t5 g88; refine stepR ?_; clear fx)
    refine ml_call Sd0 Sd0 (gkind_c W Hh S 35 τ8) ?_
    intro lv2 τ9 hk2
    rw [hg, hL] at hk2
    have g9 := hk2.1.cells g88
    have rf9 := rf8.of_ext hk2.1
    refine stepR0 ?_
    refine ml_len Sd0 hk2.rd Sd0 ?_
    rw [ints_len]
    (have fx := And.intro t5 (And.intro g9 (And.intro t6 (And.intro hkm hb'))); refine stepR ?_; clear fx)
    refine ml_call (have fx := hb'; Sd) (have fx := And.intro t6 (And.intro hkm hb'); Sd) (fDown_c W Hh S rf9 (k : Int)) ?_
    rintro dv τ10 ⟨dl, hdo, hdd⟩
    obtain rfl : dl = [] := by unfold DownR at hdd; rw [if_neg (by rw [hdn]; simp)] at hdd; exact hdd
    have g10 := hdo.1.cells g9
    have rf10 := rf9.of_ext hdo.1
    (have fx := hb'; refine stepR ?_; clear fx)
    refine ml_len (have fx := hb'; Sd) hdo.rd (have fx := hb'; Sd) ?_
    rw [ints_len, List.length_nil]
    (have fx := And.intro t5 (And.intro g10 (And.intro t6 (And.intro hkm hb'))); refine stepR ?_; clear fx)
    refine ml_call (have fx := hb'; Sd) (have fx := And.intro t6 (And.intro hkm hb'); Sd) (fWay_c W Hh S rf10 (k : Int)) ?_
    rintro wv τ11 ⟨out, how, hway⟩
    obtain rfl := way_none hdn hway
    (have fx := hb'; refine stepR ?_; clear fx)
    refine ml_len (have fx := hb'; Sd) how.rd (have fx := hb'; Sd) ?_
    rw [ints_len, List.length_nil]
    (have fx := hb'; refine stepR ?_; clear fx)
    exact fin1 (have fx := hb'; Sd)
end Go.Proofs.YtfldnpaolmalhaaDoor
