import Derived.Test.YtepjinaomedecaaDoorGridB
namespace Go.Proofs.YtepjinaomedecaaDoor
open Go.Mini
open Go.Proofs.YtepjinaomedecaaDoor.Code
set_option linter.unusedVariables false
set_option linter.unusedSimpArgs false
set_option linter.ambiguousOpen false
attribute [local irreducible] mx ml mld mstep MCalls Ex.thn Ex.inb

/-! ## A queue: a slice whose first cells are taken off -/
theorem rowL_cons {cs : List Value} {k n : Nat} {v : Value} {vs : List Value} (h : rowL cs k (n + 1) = some (v :: vs)) : cs[k]? = some v ∧ rowL cs (k + 1) n = some vs := by
  simp only [rowL] at h
  cases hc : cs[k]? with
  | none => rw [hc] at h; cases h
  | some u =>
    rw [hc] at h
    simp only [Option.map_eq_some_iff] at h
    obtain ⟨w, hw, e⟩ := h
    injection e with e1 e2
    subst e1; subst e2
    exact ⟨rfl, hw⟩
/-- The cells behind a slice are these numbers. -/
def Tl (σ : H) (lo : Nat) (av : Option Nat) (v : Value) (q : List Int) : Prop := ∃ id off cs, v = .slice (some ⟨id, off, none⟩) q.length q.length ∧ (lo ≤ id ∧ some id ≠ av) ∧ σ.get id = .cells 1 cs ∧ rowL cs off q.length = some (ints q)
theorem o_appTl {ts : Fr} {σ : H} {lo bytes : Nat} {av : Option Nat} {xs xx : Opd} {v : Value} {q : List Int} {n : Int} {tid : Nat} (hv : mev ts xs = v) (hx : mev ts xx = .slice (some ⟨tid, 0, none⟩) 1 1)
    (h : Tl σ lo av v q) (hlo : lo ≤ σ.size) (hav : some σ.size ≠ av) (ht : σ.get tid = .cells 1 [.int .i64 n]) (hb : bytes ≤ 128) (hn : q.length < appMax) :
    ∃ id v' τ, mop ts σ (.app 1 bytes xs xx) = some (v', τ) ∧ (lo ≤ id ∧ some id ≠ av) ∧ (∃ cs, σ.get id = .cells 1 cs) ∧ Tl τ lo av v' (q ++ [n]) ∧ τ.size = σ.size + 1 ∧ ∀ i, i < σ.size → i ≠ id → τ.get i = σ.get i := by
  obtain ⟨id, off, cs, rfl, hid, hg, hr⟩ := h
  have hrow : firstL σ 1 1 (.slice (some ⟨tid, 0, none⟩) 1 1) = some [.int .i64 n] := by
    simp only [firstL, H.row, ht, Nat.one_mul]; rfl
  have hrow2 : σ.row id off (q.length * 1) = some (ints q) := by simp only [H.row, hg, Nat.mul_one, hr]
  have e : ints q ++ [Value.int .i64 n] = ints (q ++ [n]) := by simp [ints]
  have h1 : (ints (q ++ [n])).all one = true := ints_one _
  have happ : q.length + 1 ≤ appMax ∧ bytes ≤ 128 := ⟨hn, hb⟩
  refine ⟨id, .slice (some ⟨σ.size, 0, none⟩) (q.length + 1) (q.length + 1), (σ.set id .dead).push (.cells 1 (ints (q ++ [n]))), ?_, hid, ⟨cs, hg⟩, ?_, by simp, fun i hi hne => ?_⟩
  · simp only [mop, hv, hx, lenL]
    rw [if_neg (by omega), if_pos happ]
    simp only [hrow, hrow2, hg, h1, e, true_or, and_self, if_true]
  · refine ⟨σ.size, 0, ints (q ++ [n]), by simp, ⟨hlo, hav⟩, ?_, ?_⟩
    · have := H.get_push_self (σ.set id .dead) (.cells 1 (ints (q ++ [n])))
      rwa [H.size_set] at this
    · exact rowAll (by rw [ints_len])
  · rw [H.get_push_lt (by simpa using hi), H.get_set_ne hne]
theorem Tl.keep {σ τ : H} {lo : Nat} {av : Option Nat} {v : Value} {q : List Int} (h : Tl σ lo av v q) (hk : ∀ i cs, σ.get i = .cells 1 cs → τ.get i = σ.get i) : Tl τ lo av v q := by
  obtain ⟨id, off, cs, hv, hid, hg, hr⟩ := h
  exact ⟨id, off, cs, hv, hid, by rw [hk id cs hg]; exact hg, hr⟩

theorem Tl.free {σ : H} {lo : Nat} {av : Option Nat} {v : Value} {q : List Int} (h : Tl σ lo av v q) : Tl σ lo none v q := by
  obtain ⟨id, off, cs, hv, hid, hg, hr⟩ := h
  exact ⟨id, off, cs, hv, ⟨hid.1, by simp⟩, hg, hr⟩
section
variable {E : World → Prop} {P : Program} {ts : Fr} {σ τ : H} {v : Value} {K : Fr → H → Prop} {Q : MQ} {rest : List MI} {drest : List DI}
theorem o_lenI {x : Opd} {oid : Option Nat} {l : List Int} (hx : mev ts x = v) (own : Own σ 1 v oid (ints l)) : mop ts σ (.len false x) = some (.int .i64 l.length, σ) := by
  generalize hc : ints l = cs at own
  have hl : l.length = cs.length := by rw [← hc, ints_len]
  cases own with
  | nil => simp only [mop, hx]; simp at hl; simp [hl]
  | full h hlen => simp only [mop, hx]; rw [hl, hlen, Nat.mul_one]
theorem own_at {oid : Option Nat} {l : List Int} {i : Nat} (own : Own σ 1 v oid (ints l)) (hi : i < l.length) :
    ∃ id cs, oid = some id ∧ v = .slice (some ⟨id, 0, none⟩) l.length l.length ∧ σ.get id = .cells 1 cs ∧ cs[i]? = some (.int .i64 (l.getD i 0)) := by
  generalize hc : ints l = cs at own
  have hl : l.length = cs.length := by rw [← hc, ints_len]
  cases own with
  | nil => simp at hl; rw [hl] at hi; exact absurd hi (Nat.not_lt_zero _)
  | @full id n _ h hlen =>
    have : n = l.length := by omega
    subst this
    refine ⟨_, _, rfl, rfl, h, ?_⟩
    rw [← hc, ints, List.getElem?_map, List.getD_eq_getElem?_getD, List.getElem?_eq_getElem hi]; rfl
theorem ml_appTl {d : Option Nat} {g : Option (Nat × Bool)} {lo bytes : Nat} {av : Option Nat} {xs xx : Opd} {q : List Int} {n : Int} {tid : Nat} (hw : wantM ts g = true) (hv : mev ts xs = v) (hx : mev ts xx = .slice (some ⟨tid, 0, none⟩) 1 1)
    (h : Tl σ lo av v q) (hlo : lo ≤ σ.size) (hav : some σ.size ≠ av) (ht : σ.get tid = .cells 1 [.int .i64 n]) (hb : bytes ≤ 128) (hn : q.length < appMax)
    (hk : ∀ id v' τ, some id ≠ av → lo ≤ id → (∃ cs, σ.get id = .cells 1 cs) → Tl τ lo av v' (q ++ [n]) → τ.size = σ.size + 1 → (∀ i, i < σ.size → i ≠ id → τ.get i = σ.get i) → ml E P rest K (updO ts d v') τ) :
    ml E P (⟨d, .app 1 bytes xs xx, g⟩ :: rest) K ts σ := by
  obtain ⟨id, v', τ, h1, h2, h3, h4, h5, h6⟩ := o_appTl hv hx h hlo hav ht hb hn
  exact ml_step hw h1 (hk id v' τ h2.2 h2.1 h3 h4 h5 h6)
theorem _root_.Go.Mini.Own.cells {sz i : Nat} {cs : List Value} (h : Own σ sz v (some i) cs) : ∃ cs, σ.get i = .cells sz cs := by
  cases h with
  | full h hl => exact ⟨_, h⟩
theorem ml_iaI {d : Option Nat} {g : Option (Nat × Bool)} {x i : Opd} {oid : Option Nat} {l : List Int} {k : IntKind} {q : Int} (hw : wantM ts g = true) (hx : mev ts x = v) (own : Own σ 1 v oid (ints l)) (hi : mev ts i = .int k q) (h0 : 0 ≤ q) (h1 : q < l.length)
    (hn : ∀ id cs, σ.get id = .cells 1 cs → cs[q.toNat]? = some (.int .i64 (l.getD q.toNat 0)) → ml E P rest K (updO ts d (.pointer (some ⟨id, q.toNat, none⟩))) σ) : ml E P (⟨d, .iaS 1 x i, g⟩ :: rest) K ts σ := by
  obtain ⟨id, cs, _, hv, hg, hc⟩ := own_at (i := q.toNat) own (by omega)
  have := hn id cs hg hc
  refine ml_step hw (o_iaS (by rw [hx, hv]) hi h0 (by omega)) ?_
  rw [Nat.zero_add, Nat.mul_one]; exact this
end
/-! ## A set of numbers: a map from them to true -/
def setE (met : List Int) : List (Value × Value) := met.map fun x => (.int .i64 x, .bool true)
theorem look_in (n : Int) : ∀ (met : List Int) (i : Nat), n ∈ met → ∃ j, lookL (.int .i64 n) (setE met) i = some (some (j, .bool true))
  | [], _, h => by cases h
  | x :: met, i, h => by
    by_cases e : n = x
    · subst e; exact ⟨i, by simp [setE, lookL, keyEq]⟩
    · obtain ⟨j, hj⟩ := look_in n met (i + 1) (by cases h with | head => exact absurd rfl e | tail _ h => exact h)
      refine ⟨j, ?_⟩
      simp only [setE, List.map_cons, lookL, keyEq, if_true]
      have : (n == x) = false := by simpa using e
      rw [this]; exact hj
theorem look_out (n : Int) : ∀ (met : List Int) (i : Nat), n ∉ met → lookL (.int .i64 n) (setE met) i = some none
  | [], _, _ => rfl
  | x :: met, i, h => by
    have hx : n ≠ x := fun e => h (by rw [e]; exact List.mem_cons_self)
    simp only [setE, List.map_cons, lookL, keyEq, if_true]
    have : (n == x) = false := by simpa using hx
    rw [this]; exact look_out n met (i + 1) (fun hm => h (List.mem_cons_of_mem _ hm))
theorem setE_app (met : List Int) (n : Int) : setE met ++ [(.int .i64 n, .bool true)] = setE (met ++ [n]) := by simp [setE]

/-! ## What is reached -/
inductive Reach (W : Int) (S : ByteArray) (a : Int) : Int → Prop where
  | here : Reach W S a a
  | step {b c : Int} (h : Reach W S a b) (hn : c ∈ nearL W S b) : Reach W S a c
theorem mem_nadd {S : ByteArray} {n x : Int} {is : Bool} {l : List Int} : x ∈ nadd S n is l ↔ x ∈ l ∨ (x = n ∧ is = true ∧ opn S n = true) := by
  unfold nadd
  split
  · rename_i h; simp only [Bool.and_eq_true] at h; simp [h]
  · rename_i h
    simp only [Bool.and_eq_true] at h
    constructor
    · exact fun hx => .inl hx
    · rintro (hx | ⟨_, a, b⟩)
      · exact hx
      · exact absurd ⟨a, b⟩ h
theorem near_opn {W : Int} {S : ByteArray} {c x : Int} (h : x ∈ nearL W S c) : opn S x = true := by
  unfold nearL at h
  simp only [mem_nadd] at h
  rcases h with (((h | h) | h) | h) | h
  · cases h
  all_goals (rw [h.1]; exact h.2.2)
theorem opn_lt {S : ByteArray} {x : Int} (h : opn S x = true) : 0 ≤ x ∧ x < S.size := by
  simp only [opn, Bool.and_eq_true, decide_eq_true_eq] at h
  exact h.1
theorem nodup_len : ∀ {n : Nat} {l : List Int}, l.Nodup → (∀ x ∈ l, 0 ≤ x ∧ x < n) → l.length ≤ n
  | 0, l, _, h => by
    cases l with
    | nil => exact Nat.le_refl _
    | cons x l => have := h x List.mem_cons_self; omega
  | n + 1, l, hd, h => by
    by_cases hm : (n : Int) ∈ l
    · have h1 := nodup_len (n := n) (hd.erase (n : Int)) (fun x hx => by
        have hx2 := (hd.mem_erase_iff).1 hx
        have := h x hx2.2; omega)
      rw [List.length_erase_of_mem hm] at h1
      omega
    · have := nodup_len (n := n) hd (fun x hx => by
        have := h x hx
        have hne : x ≠ n := fun e => hm (by rw [← e]; exact hx)
        omega)
      omega
end Go.Proofs.YtepjinaomedecaaDoor
namespace Go.Proofs.YtepjinaomedecaaDoor
open Go.Mini
open Go.Proofs.YtepjinaomedecaaDoor.Code
set_option linter.unusedVariables false
set_option linter.unusedSimpArgs false
set_option linter.ambiguousOpen false
attribute [local irreducible] mx ml mld mstep MCalls Ex.thn Ex.inb
variable {E : World → Prop}

theorem o_mlook {ts : Fr} {σ : H} {x k : Opd} {r c : Nat} {n : Int} {met : List Int} (hx : mev ts x = .map (some r)) (hk : mev ts k = .int .i64 n) (hg : σ.get r = .map (setE met) c) :
    mop ts σ (.mlook .int false (.bool false) x k) = some (.bool (decide (n ∈ met)), σ) := by
  simp only [mop, hx, hk, hg, KD.has, if_true]
  by_cases h : n ∈ met
  · obtain ⟨j, hj⟩ := look_in n met 0 h
    simp [hj, h]
  · simp [look_out n met 0 h, h]
theorem o_mupd {ts : Fr} {σ : H} {x k v : Opd} {r c : Nat} {n : Int} {met : List Int} (hx : mev ts x = .map (some r)) (hk : mev ts k = .int .i64 n) (hv : mev ts v = .bool true) (hg : σ.get r = .map (setE met) c) (hn : n ∉ met) :
    mop ts σ (.mupd .int x k v) = some (undef, σ.set r (.map (setE (met ++ [n])) (c + 1))) := by
  simp only [mop, hx, hk, hv, hg, KD.has, if_true, look_out n met 0 hn, setE_app]

structure RH (σ0 : H) (av : Option Nat) (b0 m : Nat) (mv : List Value) (v : Value) (met q : List Int) (τ : H) : Prop where
  ext : Ext σ0 τ
  lb : σ0.size ≤ b0
  lm : σ0.size ≤ m
  gb : τ.get b0 = .cells 0 mv
  gm : ∃ c, τ.get m = .map (setE met) c
  tl : Tl τ σ0.size av v q
theorem RH.of_ext {σ0 τ τ' : H} {av : Option Nat} {b0 m : Nat} {mv : List Value} {v : Value} {met q : List Int} (h : RH σ0 av b0 m mv v met q τ) (e : Ext τ τ') : RH σ0 av b0 m mv v met q τ' := by
  obtain ⟨h1, h2, h3, h4, ⟨c, h5⟩, h6⟩ := h
  exact ⟨h1.trans e, h2, h3, e.cells h4, ⟨c, e.live h5 (by simp)⟩, h6.keep fun i cs hi => e.get i (H.lt_of_cells hi)⟩

theorem RH.insert {σ0 τ : H} {av : Option Nat} {b0 m c : Nat} {mv : List Value} {v : Value} {met q : List Int} {n : Int} (h : RH σ0 av b0 m mv v met q τ) (hg : τ.get m = .map (setE met) c) (hn : n ∉ met) :
    RH σ0 av b0 m mv v (met ++ [n]) q (τ.set m (.map (setE (met ++ [n])) (c + 1))) := by
  obtain ⟨h1, h2, h3, h4, h5, h6⟩ := h
  refine ⟨h1.set' h3 _, h2, h3, ?_, ⟨c + 1, H.get_set_self (H.lt_of_live (by rw [hg]; simp))⟩, h6.keep fun i cs hi => H.get_set_ne (fun e => by subst e; rw [hg] at hi; cases hi)⟩
  rw [H.get_set_ne (fun e => by subst e; rw [hg] at h4; cases h4)]; exact h4
structure RP (W : Int) (S : ByteArray) (a : Int) (met q ex : List Int) : Prop where
  nd : met.Nodup
  op : ∀ x ∈ met, opn S x = true
  re : ∀ x ∈ met, Reach W S a x
  sub : ∀ x ∈ q, x ∈ met
  here : a ∈ met
  cl : ∀ x ∈ met, x ∉ q → x ∉ ex → ∀ y ∈ nearL W S x, y ∈ met
theorem RP.add {W : Int} {S : ByteArray} {a n : Int} {met q ex : List Int} (h : RP W S a met q ex) (hn : n ∉ met) (ho : opn S n = true) (hr : Reach W S a n) : RP W S a (met ++ [n]) (q ++ [n]) ex := by
  refine ⟨?_, fun x hx => ?_, fun x hx => ?_, fun x hx => ?_, List.mem_append_left _ h.here, fun x hx hq he y hy => ?_⟩
  · rw [List.nodup_append]
    exact ⟨h.nd, by simp, fun a ha b hb => by simp at hb; subst hb; exact fun e => hn (e ▸ ha)⟩
  · rcases List.mem_append.1 hx with hx | hx
    · exact h.op x hx
    · simp at hx; rw [hx]; exact ho
  · rcases List.mem_append.1 hx with hx | hx
    · exact h.re x hx
    · simp at hx; rw [hx]; exact hr
  · rcases List.mem_append.1 hx with hx | hx
    · exact List.mem_append_left _ (h.sub x hx)
    · exact List.mem_append_right _ hx
  · have hqx : x ∉ q := fun e => hq (List.mem_append_left _ e)
    have hxn : x ∈ met := by
      rcases List.mem_append.1 hx with hx | hx
      · exact hx
      · exact absurd (List.mem_append_right _ hx) hq
    exact List.mem_append_left _ (h.cl x hxn hqx he y hy)
theorem RP.len {W : Int} {S : ByteArray} {a : Int} {met q ex : List Int} (h : RP W S a met q ex) : met.length ≤ S.size := nodup_len h.nd fun x hx => opn_lt (h.op x hx)

set_option maxHeartbeats 2000000 in
theorem reached_c (W Hh : Int) (S : ByteArray) (a : Int) (σ : H) (hW : 1 ≤ W) (hW2 : W ≤ 1000) (hS : S.size ≤ 1000) (ha : opn S a = true) :
    MCalls E Tryd.prog 40 [mapV W Hh S, .int .i64 a] σ (fun v τ => Ext σ τ ∧ ∃ met : List Int, met.Nodup ∧ (∀ x, x ∈ met ↔ Reach W S a x) ∧ v = .int .i64 met.length) := by
  refine mcalls_of fn40 (by simp) ?_
  unfold c40 r40 mapV
  refine stepR0 ?_
  refine ml_op Sd0 (o_mupd (met := []) (n := a) (c := 0) Sd0 Sd0 Sd0 (H.get_push_self _ _) (by simp)) ?_
  refine stepR0 ?_
  generalize hτ : H.push (H.set _ _ _) _ = τ
  have hτs : τ.size = σ.size + 3 := by rw [← hτ]; simp
  have r0 : RH σ none σ.size (σ.size + 1) (mapC W Hh S) (.slice (some ⟨σ.size + 2, 0, none⟩) 1 1) [a] [a] τ := by
    subst hτ
    refine ⟨?_, by omega, by omega, ?_, ⟨1, ?_⟩, σ.size + 2, 0, [.int .i64 a], rfl, ⟨by omega, by simp⟩, ?_, rfl⟩
    · exact ((Ext.trans (Ext.push _ _) (Ext.push _ _)).set' (by simp) _).trans (Ext.push _ _)
    · rw [H.get_push_ne (by simp only [H.size_push, H.size_set]; omega), H.get_set_ne (by omega), H.get_push_ne (by simp), H.get_push_self]; rfl
    · rw [H.get_push_ne (by simp), H.get_set_self (by simp)]
    · exact H.get_push_self (H.set _ _ _) _
  have p0 : RP W S a [a] [a] [] := ⟨by simp, fun x hx => by simp at hx; rw [hx]; exact ha, fun x hx => by simp at hx; rw [hx]; exact .here, fun x hx => hx, by simp, fun x hx hq => absurd hx hq⟩
  refine mx_loop (fun n ts τ => ∃ met q v, ts 2 = .pointer (some ⟨σ.size, 0, none⟩) ∧ ts 5 = .map (some (σ.size + 1)) ∧ ts 6 = v ∧ RH σ none σ.size (σ.size + 1) (mapC W Hh S) v met q τ ∧ RP W S a met q [] ∧ n = 2 * (S.size - met.length) + q.length ∧ n ≤ 2 * S.size) (2 * (S.size - 1) + 1)
    ⟨[a], [a], _, Sd0, Sd0, Sd0, r0, p0, rfl, by have := opn_lt ha; omega⟩ ?_
  clear hτ hτs r0 p0
  rintro n ts τ ⟨met, q, v, h2, h5, h6, rh, rp, hn, hnS⟩
  obtain ⟨id, off, cs, rfl, hid, hg, hrow⟩ := rh.tl
  cases q with
  | nil =>
    obtain ⟨c, hm⟩ := rh.gm
    (have fx := And.intro h6 (And.intro h5 hm); refine stepR ?_; clear fx)
    refine fin1 ⟨rh.ext, met, rp.nd, fun y => ⟨rp.re y, fun hr => ?_⟩, (by first | with_reducible rfl | (simp only [go_sem, reduceIte, Nat.reduceEqDiff, reduceCtorEq, Nat.reduceAdd, Nat.reduceLeDiff, Int.reduceNeg, Int.reduceToNat, Int.reduceBEq, Int.reduceBNe, Int.reduceLT, Int.reduceLE, Int.reduceAdd, Int.reduceSub, setE, List.length_map]; done) | (simp only [go_sem, reduceIte, Nat.reduceEqDiff, reduceCtorEq, Nat.reduceAdd, Nat.reduceLeDiff, Int.reduceNeg, Int.reduceToNat, Int.reduceBEq, Int.reduceBNe, Int.reduceLT, Int.reduceLE, Int.reduceAdd, Int.reduceSub, setE, List.length_map]; with_reducible rfl) | (simp only [go_sem, reduceIte, Nat.reduceEqDiff, reduceCtorEq, Nat.reduceAdd, Nat.reduceLeDiff, Int.reduceNeg, Int.reduceToNat, Int.reduceBEq, Int.reduceBNe, Int.reduceLT, Int.reduceLE, Int.reduceAdd, Int.reduceSub, setE, List.length_map]; (try simp (disch := omega) only [i64wrap, u64wrap, u8wrap, u32wrap, i32wrap]); first | with_reducible rfl | done | (refine congrArg (Value.int _) ?_; omega)) | (simp only [go_sem, reduceIte, Nat.reduceEqDiff, reduceCtorEq, Nat.reduceAdd, Nat.reduceLeDiff, Int.reduceNeg, Int.reduceToNat, Int.reduceBEq, Int.reduceBNe, Int.reduceLT, Int.reduceLE, Int.reduceAdd, Int.reduceSub, setE, List.length_map]; rfl))⟩
    induction hr with
    | here => exact rp.here
    | step _ hn ih => exact rp.cl _ ih (by simp) (by simp) _ hn
  | cons x q =>
    obtain ⟨hx0, hrow'⟩ := rowL_cons (v := .int .i64 x) (vs := ints q) hrow
    have hxo := rp.op x (rp.sub x (by simp))
    have hxl := opn_lt hxo
    simp only [List.length_cons] at h6 hn
    have gb := rh.gb
    (have fx := And.intro h6 (And.intro h5 (And.intro hg hx0)); refine stepR ?_; clear fx)
    refine ml_op Sd0 (o_slc_lo (q := 1) (k := .i64) (len := q.length + 1) (have fx := h6; Sd) Sd0 (by omega) (by omega) hg) ?_
    (have fx := And.intro h2 gb; refine stepR ?_; clear fx)
    refine ml_call (have fx := And.intro h2 gb; Sd) Sd0 (near_c W Hh S x τ hW hW2 (by omega) (by omega)) ?_
    rintro nv τ1 ⟨e1, oid, own, hoid⟩
    have hidlt := H.lt_of_cells hg
    have rh1 : RH σ oid σ.size (σ.size + 1) (mapC W Hh S) (.slice (some ⟨id, off + 1, none⟩) q.length q.length) met q τ1 := by
      refine RH.of_ext ⟨rh.ext, rh.lb, rh.lm, rh.gb, rh.gm, id, off + 1, cs, rfl, ⟨hid.1, fun e => ?_⟩, hg, hrow'⟩ e1
      have := hoid id e.symm; omega
    have rp1 : RP W S a met q [x] := ⟨rp.nd, rp.op, rp.re, fun y hy => rp.sub y (by simp [hy]), rp.here, fun y hy hq he z hz => rp.cl y hy (by simp at he; simp [hq, he]) (by simp) z hz⟩
    have hxr := rp.re x (rp.sub x (by simp))
    have hlall : ∀ y ∈ nearL W S x, opn S y = true ∧ Reach W S a y := fun y hy => ⟨near_opn hy, .step hxr hy⟩
    have hln : (nearL W S x).length ≤ 4 := by
      unfold nearL
      refine Nat.le_trans (nadd_len _ _ _ _) (Nat.succ_le_succ (Nat.le_trans (nadd_len _ _ _ _) (Nat.succ_le_succ (Nat.le_trans (nadd_len _ _ _ _) (Nat.succ_le_succ (nadd_len _ _ _ _))))))
    have hclose : ∀ {met q}, RP W S a met q [x] → (∀ y ∈ nearL W S x, y ∈ met) → RP W S a met q [] := fun h hy => ⟨h.nd, h.op, h.re, h.sub, h.here, fun z hz hq _ u hu => by
      by_cases e : z = x
      · subst e; exact hy u hu
      · exact h.cl z hz hq (by simp [e]) u hu⟩
    generalize nearL W S x = l at own hlall hln hclose
    refine ml_op Sd0 (o_lenI Sd0 own) ?_
    refine stepR0 ?_
    have hlen1 := rp.len
    refine mx_loop (fun n2 ts τ => ∃ met q v i, ts 2 = .pointer (some ⟨σ.size, 0, none⟩) ∧ ts 5 = .map (some (σ.size + 1)) ∧ ts 6 = v ∧ ts 25 = nv ∧ ts 26 = .int .i64 l.length ∧ ts 27 = .int .i64 ((i : Nat) : Int) ∧ i ≤ l.length ∧ Own τ 1 nv oid (ints l) ∧
      RH σ oid σ.size (σ.size + 1) (mapC W Hh S) v met q τ ∧ RP W S a met q [x] ∧ (∀ y ∈ l.take i, y ∈ met) ∧ n2 = l.length - i ∧ 2 * (S.size - met.length) + q.length < n) l.length ?_ ?_
    · exact ⟨met, q, _, 0, (have fx := h2; Sd), (have fx := h5; Sd), Sd0, Sd0, Sd0, Sd0, by omega, own, rh1, rp1, by simp, by omega, by omega⟩
    clear rh rp hg hrow hx0 hrow' gb own rh1 rp1 hlen1 h2 h5 h6 hn e1
    rintro n2 ts τ ⟨met, q, v, i, h2, h5, h6, h25, h26, h27, hi, own, rh, rp, htk, hn2, hn⟩
    have hlen1 := rp.len
    rcases Nat.lt_or_ge i l.length with hlt | hge
    · (have fx := And.intro h27 h26; refine stepR ?_; clear fx)
      refine ml_iaI (q := (i : Int)) Sd0 (have fx := h25; Sd) own (have fx := h27; Sd) (by omega) (by omega) fun pid pcs hpg hpc => ?_
      rw [Int.toNat_natCast] at hpc ⊢
      generalize hy : l.getD i 0 = y at hpc
      have hyl : y ∈ l := by rw [← hy, List.getD_eq_getElem?_getD, List.getElem?_eq_getElem hlt]; exact List.getElem_mem _
      obtain ⟨c, gm⟩ := rh.gm
      (have fx := And.intro hpg (And.intro hpc h5); refine stepR ?_; clear fx)
      refine ml_op Sd0 (o_mlook (have fx := h5; Sd) Sd0 gm) ?_
      have htk' : l.take (i + 1) = l.take i ++ [y] := by rw [List.take_add_one, ← hy, List.getD_eq_getElem?_getD, List.getElem?_eq_getElem hlt]; rfl
      by_cases hm : y ∈ met
      · (have fx := And.intro hm h27; refine stepR ?_; clear fx)
        refine ⟨l.length - (i + 1), by omega, met, q, v, i + 1, (have fx := h2; Sd), (have fx := h5; Sd), (have fx := h6; Sd), (have fx := h25; Sd), (have fx := h26; Sd), Sd0, by omega, own, rh, rp, fun z hz => ?_, rfl, hn⟩
        · rw [htk'] at hz
          rcases List.mem_append.1 hz with hz | hz
          · exact htk z hz
          · simp at hz; rw [hz]; exact hm
      · (have fx := And.intro hm h5; refine stepR ?_; clear fx)
        refine ml_op Sd0 (o_mupd (n := y) (have fx := h5; Sd) Sd0 Sd0 gm hm) ?_
        have rh2 := rh.insert gm hm
        have own2 : Own (τ.set (σ.size + 1) (.map (setE (met ++ [y])) (c + 1))) 1 nv oid (ints l) := own.ext fun j hj => H.get_set_ne (fun e => by
          subst hj
          have := own.cells; rw [e, gm] at this; obtain ⟨_, h⟩ := this; cases h)
        generalize hτ2 : τ.set (σ.size + 1) (.map (setE (met ++ [y])) (c + 1)) = τ2 at rh2 own2
        (have fx := h6; refine stepR ?_; clear fx)
        have rp2 := rp.add hm (hlall y hyl).1 (hlall y hyl).2
        have hlen2 := rp2.len
        simp only [List.length_append, List.length_cons, List.length_nil] at hlen2
        have rh3 := rh2.of_ext (Ext.push τ2 (.cells 1 [.int .i64 y]))
        have own3 := own2.of_ext (Ext.push τ2 (.cells 1 [.int .i64 y]))
        have hlo := rh2.ext.size
        refine ml_appTl Sd0 Sd0 Sd0 rh3.tl (by simp only [H.size_push]; omega) (fun e => ?_) (H.get_push_self _ _) (by omega) (by simp only [appMax]; omega) ?_
        · have := own3; rw [← e] at this; have := this.lt; omega
        intro qid v' τ4 hq1 hq0 ⟨qcs, hq2⟩ htl hsz hget
        obtain ⟨c2, gm2⟩ := rh3.gm
        have k1 : ∀ i o, (τ2.push (.cells 1 [.int .i64 y])).get i = o → o ≠ .dead → (∀ cs, o ≠ .cells 1 cs) → τ4.get i = o := fun i o h1 h2 h3 => by
          rw [hget i (H.lt_of_live (by rw [h1]; exact h2)) (fun e => by subst e; rw [h1] at hq2; exact h3 _ hq2), h1]
        have rh4 : RH σ oid σ.size (σ.size + 1) (mapC W Hh S) v' (met ++ [y]) (q ++ [y]) τ4 := by
          refine ⟨⟨by simp only [H.size_push] at hsz; omega, fun i hi => ?_⟩, rh3.lb, rh3.lm, k1 _ _ rh3.gb (by simp) (by simp), ⟨c2, k1 _ _ gm2 (by simp) (by simp)⟩, htl⟩
          rw [hget i (by simp only [H.size_push]; omega) (by omega)]; exact rh3.ext.get i hi
        have own4 : Own τ4 1 nv oid (ints l) := own3.ext fun j hj => by
          subst hj; exact hget j own3.lt (fun e => hq1 (by rw [e]))
        (have fx := h27; refine stepR ?_; clear fx)
        refine ⟨l.length - (i + 1), by omega, met ++ [y], q ++ [y], v', i + 1, (have fx := h2; Sd), (have fx := h5; Sd), Sd0, (have fx := h25; Sd), (have fx := h26; Sd), Sd0, by omega, own4, rh4, rp2, fun z hz => ?_, rfl, ?_⟩
        · rw [htk'] at hz
          rcases List.mem_append.1 hz with hz | hz
          · exact List.mem_append_left _ (htk z hz)
          · exact List.mem_append_right _ hz
        · simp only [List.length_append, List.length_cons, List.length_nil]; omega
    · (have fx := And.intro h27 h26; refine stepR ?_; clear fx)
      have htk2 : ∀ y ∈ l, y ∈ met := fun y hy => htk y (by rw [List.take_of_length_le hge]; exact hy)
      exact ⟨_, hn, met, q, v, (have fx := h2; Sd), (have fx := h5; Sd), (have fx := h6; Sd), ⟨rh.ext, rh.lb, rh.lm, rh.gb, rh.gm, rh.tl.free⟩, hclose rp htk2, rfl, by omega⟩
end Go.Proofs.YtepjinaomedecaaDoor
