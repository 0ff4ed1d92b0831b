import Derived.Test.YtgfmphjccnemmaaDoorGridA
namespace Go.Proofs.YtgfmphjccnemmaaDoor
open Go.Mini
open Go.Proofs.YtgfmphjccnemmaaDoor.Code
set_option linter.unusedVariables false
set_option linter.unusedSimpArgs false
set_option linter.ambiguousOpen false
attribute [local irreducible] mx ml mld mstep MCalls Ex.thn Ex.inb

/-! ## A queue: a slice whose first cells are taken off -/
theorem rowL_cons {cs : List Value} {k n : Nat} {v : Value} {vs : List Value} (h : rowL cs k (n + 1) = some (v :: vs)) : cs[k]? = some v ∧ rowL cs (k + 1) n = some vs := by
  simp only [rowL] at h
  cases hc : cs[k]? with
  | none => rw [hc] at h; cases h
  | some u =>
    rw [hc] at h
    simp only [Option.map_eq_some_iff] at h
    obtain ⟨w, hw, e⟩ := h
    injection e with e1 e2
    subst e1; subst e2
    exact ⟨rfl, hw⟩
/-- The cells behind a slice are these numbers. -/
def Tl (σ : H) (lo : Nat) (av : Option Nat) (v : Value) (q : List Int) : Prop := ∃ id off cs, v = .slice (some ⟨id, off, none⟩) q.length q.length ∧ (lo ≤ id ∧ some id ≠ av) ∧ σ.get id = .cells 1 cs ∧ rowL cs off q.length = some (ints q)
theorem o_appTl {ts : Fr} {σ : H} {lo bytes : Nat} {av : Option Nat} {xs xx : Opd} {v : Value} {q : List Int} {n : Int} {tid : Nat} (hv : mev ts xs = v) (hx : mev ts xx = .slice (some ⟨tid, 0, none⟩) 1 1)
    (h : Tl σ lo av v q) (hlo : lo ≤ σ.size) (hav : some σ.size ≠ av) (ht : σ.get tid = .cells 1 [.int .i64 n]) (hb : bytes ≤ 128) (hn : q.length < appMax) :
    ∃ id v' τ, mop ts σ (.app 1 bytes xs xx) = some (v', τ) ∧ (lo ≤ id ∧ some id ≠ av) ∧ (∃ cs, σ.get id = .cells 1 cs) ∧ Tl τ lo av v' (q ++ [n]) ∧ τ.size = σ.size + 1 ∧ ∀ i, i < σ.size → i ≠ id → τ.get i = σ.get i := by
  obtain ⟨id, off, cs, rfl, hid, hg, hr⟩ := h
  have hrow : firstL σ 1 1 (.slice (some ⟨tid, 0, none⟩) 1 1) = some [.int .i64 n] := by
    simp only [firstL, H.row, ht, Nat.one_mul]; rfl
  have hrow2 : σ.row id off (q.length * 1) = some (ints q) := by simp only [H.row, hg, Nat.mul_one, hr]
  have e : ints q ++ [Value.int .i64 n] = ints (q ++ [n]) := by simp [ints]
  have h1 : (ints (q ++ [n])).all one = true := ints_one _
  have happ : q.length + 1 ≤ appMax ∧ bytes ≤ 128 := ⟨hn, hb⟩
  refine ⟨id, .slice (some ⟨σ.size, 0, none⟩) (q.length + 1) (q.length + 1), (σ.set id .dead).push (.cells 1 (ints (q ++ [n]))), ?_, hid, ⟨cs, hg⟩, ?_, by simp, fun i hi hne => ?_⟩
  · simp only [mop, hv, hx, lenL]
    rw [if_neg (by omega), if_pos happ]
    simp only [hrow, hrow2, hg, h1, e, true_or, and_self, if_true]
  · refine ⟨σ.size, 0, ints (q ++ [n]), by simp, ⟨hlo, hav⟩, ?_, ?_⟩
    · have := H.get_push_self (σ.set id .dead) (.cells 1 (ints (q ++ [n])))
      rwa [H.size_set] at this
    · exact rowAll (by rw [ints_len])
  · rw [H.get_push_lt (by simpa using hi), H.get_set_ne hne]
theorem Tl.keep {σ τ : H} {lo : Nat} {av : Option Nat} {v : Value} {q : List Int} (h : Tl σ lo av v q) (hk : ∀ i cs, σ.get i = .cells 1 cs → τ.get i = σ.get i) : Tl τ lo av v q := by
  obtain ⟨id, off, cs, hv, hid, hg, hr⟩ := h
  exact ⟨id, off, cs, hv, hid, by rw [hk id cs hg]; exact hg, hr⟩

theorem Tl.free {σ : H} {lo : Nat} {av : Option Nat} {v : Value} {q : List Int} (h : Tl σ lo av v q) : Tl σ lo none v q := by
  obtain ⟨id, off, cs, hv, hid, hg, hr⟩ := h
  exact ⟨id, off, cs, hv, ⟨hid.1, by simp⟩, hg, hr⟩
section
variable {P : Program} {ts : Fr} {σ τ : H} {v : Value} {K : Fr → H → Prop} {Q : MQ} {rest : List MI} {drest : List DI}
theorem o_lenI {x : Opd} {oid : Option Nat} {l : List Int} (hx : mev ts x = v) (own : Own σ 1 v oid (ints l)) : mop ts σ (.len false x) = some (.int .i64 l.length, σ) := by
  generalize hc : ints l = cs at own
  have hl : l.length = cs.length := by rw [← hc, ints_len]
  cases own with
  | nil => simp only [mop, hx]; simp at hl; simp [hl]
  | full h hlen => simp only [mop, hx]; rw [hl, hlen, Nat.mul_one]
theorem own_at {oid : Option Nat} {l : List Int} {i : Nat} (own : Own σ 1 v oid (ints l)) (hi : i < l.length) :
    ∃ id cs, oid = some id ∧ v = .slice (some ⟨id, 0, none⟩) l.length l.length ∧ σ.get id = .cells 1 cs ∧ cs[i]? = some (.int .i64 (l.getD i 0)) := by
  generalize hc : ints l = cs at own
  have hl : l.length = cs.length := by rw [← hc, ints_len]
  cases own with
  | nil => simp at hl; rw [hl] at hi; exact absurd hi (Nat.not_lt_zero _)
  | @full id n _ h hlen =>
    have : n = l.length := by omega
    subst this
    refine ⟨_, _, rfl, rfl, h, ?_⟩
    rw [← hc, ints, List.getElem?_map, List.getD_eq_getElem?_getD, List.getElem?_eq_getElem hi]; rfl
theorem ml_appTl {d : Option Nat} {g : Option (Nat × Bool)} {lo bytes : Nat} {av : Option Nat} {xs xx : Opd} {q : List Int} {n : Int} {tid : Nat} (hw : wantM ts g = true) (hv : mev ts xs = v) (hx : mev ts xx = .slice (some ⟨tid, 0, none⟩) 1 1)
    (h : Tl σ lo av v q) (hlo : lo ≤ σ.size) (hav : some σ.size ≠ av) (ht : σ.get tid = .cells 1 [.int .i64 n]) (hb : bytes ≤ 128) (hn : q.length < appMax)
    (hk : ∀ id v' τ, some id ≠ av → lo ≤ id → (∃ cs, σ.get id = .cells 1 cs) → Tl τ lo av v' (q ++ [n]) → τ.size = σ.size + 1 → (∀ i, i < σ.size → i ≠ id → τ.get i = σ.get i) → ml P rest K (updO ts d v') τ) :
    ml P (⟨d, .app 1 bytes xs xx, g⟩ :: rest) K ts σ := by
  obtain ⟨id, v', τ, h1, h2, h3, h4, h5, h6⟩ := o_appTl hv hx h hlo hav ht hb hn
  exact ml_step hw h1 (hk id v' τ h2.2 h2.1 h3 h4 h5 h6)
theorem _root_.Go.Mini.Own.cells {sz i : Nat} {cs : List Value} (h : Own σ sz v (some i) cs) : ∃ cs, σ.get i = .cells sz cs := by
  cases h with
  | full h hl => exact ⟨_, h⟩
theorem ml_iaI {d : Option Nat} {g : Option (Nat × Bool)} {x i : Opd} {oid : Option Nat} {l : List Int} {k : IntKind} {q : Int} (hw : wantM ts g = true) (hx : mev ts x = v) (own : Own σ 1 v oid (ints l)) (hi : mev ts i = .int k q) (h0 : 0 ≤ q) (h1 : q < l.length)
    (hn : ∀ id cs, σ.get id = .cells 1 cs → cs[q.toNat]? = some (.int .i64 (l.getD q.toNat 0)) → ml P rest K (updO ts d (.pointer (some ⟨id, q.toNat, none⟩))) σ) : ml P (⟨d, .iaS 1 x i, g⟩ :: rest) K ts σ := by
  obtain ⟨id, cs, _, hv, hg, hc⟩ := own_at (i := q.toNat) own (by omega)
  have := hn id cs hg hc
  refine ml_step hw (o_iaS (by rw [hx, hv]) hi h0 (by omega)) ?_
  rw [Nat.zero_add, Nat.mul_one]; exact this
end
/-! ## A set of numbers: a map from them to true -/
def setE (met : List Int) : List (Value × Value) := met.map fun x => (.int .i64 x, .bool true)
theorem look_in (n : Int) : ∀ (met : List Int) (i : Nat), n ∈ met → ∃ j, lookL (.int .i64 n) (setE met) i = some (some (j, .bool true))
  | [], _, h => by cases h
  | x :: met, i, h => by
    by_cases e : n = x
    · subst e; exact ⟨i, by simp [setE, lookL, keyEq]⟩
    · obtain ⟨j, hj⟩ := look_in n met (i + 1) (by cases h with | head => exact absurd rfl e | tail _ h => exact h)
      refine ⟨j, ?_⟩
      simp only [setE, List.map_cons, lookL, keyEq, if_true]
      have : (n == x) = false := by simpa using e
      rw [this]; exact hj
theorem look_out (n : Int) : ∀ (met : List Int) (i : Nat), n ∉ met → lookL (.int .i64 n) (setE met) i = some none
  | [], _, _ => rfl
  | x :: met, i, h => by
    have hx : n ≠ x := fun e => h (by rw [e]; exact List.mem_cons_self)
    simp only [setE, List.map_cons, lookL, keyEq, if_true]
    have : (n == x) = false := by simpa using hx
    rw [this]; exact look_out n met (i + 1) (fun hm => h (List.mem_cons_of_mem _ hm))
theorem setE_app (met : List Int) (n : Int) : setE met ++ [(.int .i64 n, .bool true)] = setE (met ++ [n]) := by simp [setE]

/-! ## What is reached -/
inductive Reach (W : Int) (S : ByteArray) (a : Int) : Int → Prop where
  | here : Reach W S a a
  | step {b c : Int} (h : Reach W S a b) (hn : c ∈ nearL W S b) : Reach W S a c
theorem mem_nadd {S : ByteArray} {n x : Int} {is : Bool} {l : List Int} : x ∈ nadd S n is l ↔ x ∈ l ∨ (x = n ∧ is = true ∧ opn S n = true) := by
  unfold nadd
  split
  · rename_i h; simp only [Bool.and_eq_true] at h; simp [h]
  · rename_i h
    simp only [Bool.and_eq_true] at h
    constructor
    · exact fun hx => .inl hx
    · rintro (hx | ⟨_, a, b⟩)
      · exact hx
      · exact absurd ⟨a, b⟩ h
theorem near_opn {W : Int} {S : ByteArray} {c x : Int} (h : x ∈ nearL W S c) : opn S x = true := by
  unfold nearL at h
  simp only [mem_nadd] at h
  rcases h with (((h | h) | h) | h) | h
  · cases h
  all_goals (rw [h.1]; exact h.2.2)
theorem opn_lt {S : ByteArray} {x : Int} (h : opn S x = true) : 0 ≤ x ∧ x < S.size := by
  simp only [opn, Bool.and_eq_true, decide_eq_true_eq] at h
  exact h.1
theorem nodup_len : ∀ {n : Nat} {l : List Int}, l.Nodup → (∀ x ∈ l, 0 ≤ x ∧ x < n) → l.length ≤ n
  | 0, l, _, h => by
    cases l with
    | nil => exact Nat.le_refl _
    | cons x l => have := h x List.mem_cons_self; omega
  | n + 1, l, hd, h => by
    by_cases hm : (n : Int) ∈ l
    · have h1 := nodup_len (n := n) (hd.erase (n : Int)) (fun x hx => by
        have hx2 := (hd.mem_erase_iff).1 hx
        have := h x hx2.2; omega)
      rw [List.length_erase_of_mem hm] at h1
      omega
    · have := nodup_len (n := n) hd (fun x hx => by
        have := h x hx
        have hne : x ≠ n := fun e => hm (by rw [← e]; exact hx)
        omega)
      omega
end Go.Proofs.YtgfmphjccnemmaaDoor
