import Derived.Test.YtgfmphjccnemmaaDoorSafeM
import Derived.Test.YtgfmphjccnemmaaDoorSafeT
namespace Go.Proofs.YtgfmphjccnemmaaDoor
open Go.Mini
open Go.Proofs.YtgfmphjccnemmaaDoor.Code
set_option linter.unusedVariables false
set_option linter.unusedSimpArgs false
set_option linter.ambiguousOpen false
attribute [local irreducible] mx ml mld mstep MCalls Ex.thn Ex.inb

theorem on_mem {S : ByteArray} {o : List Nat} {x : Int} (h : x ∈ onL S o true) : opn S x = true ∧ isOff o x.toNat = false := by
  have h1 := List.mem_filter.1 h
  obtain ⟨_, i, rfl, hi, hc⟩ := gkind_mem.1 h1.1
  refine ⟨?_, by simpa using h1.2⟩
  simp only [opn, bAt, Int.toNat_natCast, hc]; simp [hi]
theorem need_here {W Hh : Int} {S : ByteArray} {a : List Int} {step x : Int} (hok : costOK W Hh S a step = true) (hx : x ∈ a) (ho : opn S x = true) : needO W Hh S a step x = some 0 := by
  unfold needO
  rw [hok, ho, dist_eq (.src hx ho) (fun j _ => Nat.zero_le j)]
  simp
theorem need_none {W Hh : Int} {S : ByteArray} {step x : Int} : needO W Hh S [] step x = none := by
  unfold needO
  have : dist W S [] x = none := dist_none fun k hk => by
    induction hk with
    | src h => cases h
    | step _ _ ih => exact ih
  rw [this]; split <;> rfl
theorem on_dark {W Hh : Int} {S : ByteArray} {o : List Nat} (hg : gr W Hh S = true) (h : ∀ m, m < 64 → isOff o m = true) : onL S o true = [] := by
  unfold onL
  rw [List.filter_eq_nil_iff]
  intro x hx
  obtain ⟨_, i, rfl, hi, _⟩ := gkind_mem.1 hx
  have := (gr_size hg).2.2.2.1
  rw [Int.toNat_natCast, h i (by omega)]; simp

theorem safeHere_c {σ : H} (W Hh : Int) (S : ByteArray) {o : List Nat} (hl : o.length = 8) (ho : ∀ b ∈ o, b < 256) (c : Nat) (hc : c < 256) :
    MCalls Tryd.prog 6 [mapV W Hh S, offV o, .int .u8 c] σ (fun v _ => v = .bool true) := by
  refine mcalls_of fn6 (by simp) ?_
  unfold c6 r6 mapV offV
  refine stepR0 ?_
  generalize hτ : H.push (H.push _ _) _ = τ
  have gm : τ.get σ.size = .cells 0 (mapC W Hh S) := by rw [← hτ, H.get_push_ne (by simp), H.get_push_self]; rfl
  have go : τ.get (σ.size + 1) = .cells 0 (offC o) := by rw [← hτ]; exact H.get_push_self (σ.push _) _
  clear hτ
  generalize σ.size + 1 = io at go
  generalize σ.size = im at gm
  refine ml_call Sd0 Sd0 (sAwake_c τ) ?_
  rintro _ τ1 ⟨rfl, e1⟩
  have gm1 := e1.cells gm
  have go1 := e1.cells go
  (have fx := gm1; refine stepR ?_; clear fx)
  refine ml_call Sd0 Sd0 (rRight_c W Hh S τ1) ?_
  rintro _ τ2 ⟨rfl, e2⟩
  have gm2 := e2.cells gm1
  have go2 := e2.cells go1
  cases hg : gr W Hh S
  · refine stepR0 ?_
    refine ml_call Sd0 Sd0 (sAwake_c τ2) ?_
    rintro _ τ3 ⟨rfl, e3⟩
    refine stepR0 ?_
    exact fin1 Sd0
  have hS := gr_size hg
  (have fx := gm2; refine stepR ?_; clear fx)
  refine ml_call Sd0 Sd0 (gOf_c W Hh S τ2) ?_
  rintro _ τ3 ⟨rfl, e3⟩
  refine stepR0 ?_
  refine ml_init (vs := mapC W Hh S) Sd0 Sd0 Sd0 rfl rfl rfl fun τ4 e4 gx => ?_
  have e24 := e3.trans e4
  have gm4 := e24.cells gm2
  have go4 := e24.cells go2
  generalize τ3.size = ix at gx
  (have fx := gx; refine stepR ?_; clear fx)
  refine ml_loadN Sd0 Sd0 (row_of go4 (rowC8 hl)) ?_
  (have fx := gx; refine stepR ?_; clear fx)
  refine ml_call Sd0 Sd0 (on_c (σ := τ4) W Hh S hl ho) ?_
  rintro v1 τ5 ⟨rd1, e5⟩
  rw [hg] at rd1
  have hb1 := onL_bound hg o
  have hmem : ∀ x ∈ onL S o true, opn S x = true := fun x hx => (on_mem hx).1
  generalize onL S o true = a at rd1 hb1 hmem
  have hok : costOK W Hh S a 3 = true := costOK_iff.2 ⟨hg, by omega, by omega, hb1⟩
  have gm5 := e5.cells gm4
  have gx5 := e5.cells gx
  clear gx go4 gm4 go2 gm2 gm1 go1 gm go
  have hla : (ints a).length = a.length := ints_len _
  refine stepR0 ?_
  refine mx_loop (fun n ts τ => ∃ i : Nat, n = a.length - i ∧ i ≤ a.length ∧ Rd τ v1 (ints a) ∧ τ.get im = .cells 0 (mapC W Hh S) ∧ τ.get ix = .cells 0 (mapC W Hh S) ∧
    ts 2 = .int .u8 c ∧ ts 3 = .pointer (some ⟨im, 0, none⟩) ∧ ts 7 = .pointer (some ⟨ix, 0, none⟩) ∧ ts 8 = v1 ∧ ts 9 = .int .i64 ((i : Nat) : Int)) a.length ?_ ?_
  · exact ⟨0, rfl, Nat.zero_le _, rd1, gm5, gx5, Sd0, Sd0, Sd0, Sd0, Sd0⟩
  clear rd1 gm5 gx5
  rintro n ts τ ⟨i, rfl, hi, rd, gm, gx, t2, t3, t7, t8, t9⟩
  (have fx := And.intro t2 (And.intro t3 (And.intro t7 (And.intro t8 t9))); refine stepR ?_; clear fx)
  refine ml_len Sd0 rd (have fx := t8; Sd) ?_
  rcases Nat.lt_or_ge i a.length with hlt | hge
  · have hm : a.getD i 0 ∈ a := by rw [List.getD_eq_getElem?_getD, List.getElem?_eq_getElem hlt]; exact List.getElem_mem hlt
    have hget : (ints a)[((i : Int)).toNat]? = some (.int .i64 (a.getD i 0)) := by rw [Int.toNat_natCast]; exact ints_at hlt
    have hn := need_here hok hm (hmem _ hm)
    have hs : safeB W Hh S a 3 (a.getD i 0) 0 = true := by unfold safeB; rw [hn]; rfl
    generalize a.getD i 0 = x at hget hn hs
    (have fx := And.intro hla (And.intro t7 (And.intro t8 (And.intro t9 gx))); refine stepR ?_; clear fx)
    refine mld_getS Sd0 rd (have fx := t8; Sd) (have fx := t9; Sd) (by omega) hget (fun p => Sd0) fun p => ?_
    refine stepR0 ?_
    refine mld_callW Sd0 (have fx := t8; Sd) (need_c W Hh S rd x 3) ?_
    rw [hn]
    rintro _ τ2 ⟨rfl, e2⟩
    have gx2 := e2.cells gx
    have rd2 := rd.of_ext e2
    (have fx := And.intro t7 (And.intro t8 (And.intro t9 gx2)); refine stepR ?_; clear fx)
    refine mld_getS Sd0 rd2 (have fx := t8; Sd) (have fx := t9; Sd) (by omega) hget (fun p => Sd0) fun p2 => ?_
    refine stepR0 ?_
    refine mld_callW Sd0 (have fx := t8; Sd) (safe_c W Hh S rd2 x 0 3) ?_
    rw [hs]
    rintro _ τ3 ⟨rfl, e3⟩
    (have fx := t9; refine stepR ?_; clear fx)
    exact ⟨_, by omega, i + 1, rfl, hlt, rd2.of_ext e3, (e2.trans e3).cells gm, e3.cells gx2, (have fx := t2; Sd), (have fx := t3; Sd), (have fx := t7; Sd), (have fx := t8; Sd), Sd0⟩
  have : i = a.length := by omega
  subst this
  (have fx := And.intro hla (And.intro t2 (And.intro t3 (And.intro t7 (And.intro t8 t9)))); refine stepR ?_; clear fx)
  generalize hτ : H.push _ _ = τ2
  have gd : τ2.get τ.size = .cells 0 (offC (List.replicate 8 0)) := by rw [← hτ]; exact H.get_push_self _ _
  have e2 : Ext τ τ2 := hτ ▸ Ext.push _ _
  have gm2 := e2.cells gm
  have gx2 := e2.cells gx
  clear hτ
  have hdm : τ.size ≠ im := by have := H.lt_of_cells gm; omega
  have hdx : τ.size ≠ ix := by have := H.lt_of_cells gx; omega
  generalize τ.size = id at gd hdm hdx
  refine mx_loop (fun n ts τ => ∃ (i : Nat) (d : List Nat), n = 64 - i ∧ i ≤ 64 ∧ d.length = 8 ∧ (∀ b ∈ d, b < 256) ∧ (∀ m, m < i → isOff d m = true) ∧ τ.get id = .cells 0 (offC d) ∧ τ.get im = .cells 0 (mapC W Hh S) ∧ τ.get ix = .cells 0 (mapC W Hh S) ∧
    ts 2 = .int .u8 c ∧ ts 3 = .pointer (some ⟨im, 0, none⟩) ∧ ts 7 = .pointer (some ⟨ix, 0, none⟩) ∧ ts 12 = .pointer (some ⟨id, 0, none⟩) ∧ ts 13 = .int .i64 ((i : Nat) : Int)) 64 ?_ ?_
  · exact ⟨0, _, rfl, Nat.zero_le _, rfl, by simp, fun m hm => absurd hm (Nat.not_lt_zero _), gd, gm2, gx2, (have fx := t2; Sd), (have fx := t3; Sd), (have fx := t7; Sd), Sd0, Sd0⟩
  clear gd gm2 gx2 t2 t3 t7 t8 t9 gm gx rd
  rintro n ts τ ⟨i, d, rfl, hi, ld, hd, hoff, gd, gm, gx, t2, t3, t7, t12, t13⟩
  rcases Nat.lt_or_ge i 64 with hlt | hge
  · (have fx := And.intro t2 (And.intro t3 (And.intro t7 (And.intro t12 t13))); refine stepR ?_; clear fx)
    refine ml_loadN Sd0 (have fx := t12; Sd) (row_of gd (rowC8 ld)) ?_
    (have fx := t13; refine stepR ?_; clear fx)
    refine ml_call Sd0 (have fx := t13; Sd) (turn_c ld hd i true) ?_
    rintro _ τ2 ⟨rfl, e2⟩
    have ld2 := (turn_len d i true).trans ld
    (have fx := t12; refine stepR ?_; clear fx)
    refine ml_storeA (id := id) (off := 0) (vs := offC (turn d i true)) Sd0 (have fx := t12; Sd) Sd0 (e2.cells gd) (by rw [offC_len, ld2]) (by rw [offC_len, ld]; exact Nat.le_refl _) (offC_one _) fun τ3 t => ?_
    rw [spl_all (by rw [offC_len, offC_len, ld2, ld])] at t
    (have fx := t13; refine stepR ?_; clear fx)
    refine ⟨_, by omega, i + 1, _, rfl, hlt, ld2, turn_lt hd i true, fun m hm => ?_, t.self, t.cells (e2.cells gm) (Ne.symm hdm), t.cells (e2.cells gx) (Ne.symm hdx), (have fx := t2; Sd), (have fx := t3; Sd), (have fx := t7; Sd), (have fx := t12; Sd), Sd0⟩
    rw [isOff_turn ld hlt (by omega)]
    split
    · rfl
    · exact hoff m (by omega)
  have : i = 64 := by omega
  subst this
  have hon := on_dark hg hoff
  have hrem : (c : Int).tmod (S.size : Int) = ((c % S.size : Nat) : Int) := by rw [Int.ofNat_tmod]
  (have fx := And.intro t2 (And.intro t3 (And.intro t7 (And.intro t12 (And.intro t13 gx)))); refine stepR ?_; clear fx)
  refine mld_loadN Sd0 (have fx := t12; Sd) (row_of gd (rowC8 ld)) ?_
  refine stepR0 ?_
  refine mld_callW Sd0 Sd0 (on_c (σ := τ) W Hh S ld hd) ?_
  rw [hg, hon]
  rintro v2 τ2 ⟨rd2, e2⟩
  have gd2 := e2.cells gd
  have gm2 := e2.cells gm
  have gx2 := e2.cells gx
  refine stepR0 ?_
  refine mld_len Sd0 rd2 Sd0 ?_
  have hl0 : (ints []).length = 0 := rfl
  rw [hl0]
  have hNz : (S.size : Int) ≠ 0 := by omega
  (have fx := And.intro t7 (And.intro t12 gx2); refine stepR ?_; clear fx)
  refine mld_loadN Sd0 (have fx := t12; Sd) (row_of gd2 (rowC8 ld)) ?_
  (have fx := And.intro t2 (And.intro t3 (And.intro gm2 hrem)); refine stepR ?_; clear fx)
  refine mld_call Sd0 Sd0 (on_c (σ := τ2) W Hh S ld hd) (fun _ _ h => h.2) ?_
  rw [hg, hon]
  rintro v3 τ3 ⟨rd3, e3⟩
  refine stepR0 ?_
  refine mld_callW Sd0 Sd0 (safe_c W Hh S rd3 ((c : Int).tmod (S.size : Int)) 200 1) ?_
  have hs : safeB W Hh S [] 1 ((c : Int).tmod (S.size : Int)) 200 = false := by unfold safeB; rw [need_none]; rfl
  rw [hs]
  rintro _ τ4 ⟨rfl, e4⟩
  refine stepR0 ?_
  exact fin1 Sd0
end Go.Proofs.YtgfmphjccnemmaaDoor
