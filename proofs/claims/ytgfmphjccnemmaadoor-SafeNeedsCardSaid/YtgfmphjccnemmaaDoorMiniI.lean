/- The small operations tell what the model's do: append, copy, nil checks, assertions, lengths. -/
import Derived.Test.YtgfmphjccnemmaaDoorMiniH
namespace Go.Mini
open Go.RowKit (Below)
set_option linter.unusedVariables false
set_option linter.unusedSimpArgs false
section
variable {P : Program} {B : Nat} {w0 w : World} {μ : Nat → Blk} {σ τ : H} {ts : Fr} {v : Value}

theorem run_first (hs : Sim B w0 μ σ w) {sz n m : Nat} {x x' : Value} {vs : List Value} (h : firstL σ sz n x = some vs) (hl : lenL x = some m) (hn : n ≤ m) (hx : VR μ σ.size x x') :
    ∃ vs', (Builtin.firstCells sz n x').run P w = .ok vs'.toArray w ∧ VRs μ σ.size vs vs' := by
  unfold firstL at h
  split at h
  · rename_i id off len cap
    obtain ⟨cap', o', rfl, _, hid, hlc, hc, ho, _, _⟩ := hx.inv_slice
    simp only [lenL, Option.some.injEq] at hl
    dsimp only at ho hid
    obtain ⟨vs', h1, h2⟩ := hs.row (P := P) h
    refine ⟨vs', ?_, h2⟩
    simp only [Builtin.firstCells]
    rcases Nat.eq_zero_or_pos (n * sz) with e | e
    · rw [e] at h1 ⊢
      have : vs' = [] := by
        have := (rowL_eq 0)
        have hl := h2.length
        have : vs = [] := by
          unfold H.row at h
          rw [e] at h
          split at h <;> first | (cases h; done) | skip
          all_goals (simp [rowL] at h; exact h)
        rw [this] at hl
        exact List.length_eq_zero_iff.1 hl
      subst this
      rfl
    · have : 0 < n := Nat.pos_of_mul_pos_right e
      rw [ho (by omega)]
      exact h1
  · obtain ⟨rfl, _, _⟩ := hx.inv_nilSlice
    simp only [Option.some.injEq] at h
    subst h
    exact ⟨[], rfl, .nil⟩
  · obtain rfl := hx.inv_string
    have h9 := h
    split at h9
    rotate_left
    · cases h9
    simp only [Option.some.injEq] at h9
    subst h9
    rename_i s _
    refine ⟨bytesL (s.extract 0 n).data.toList, ?_, .of_plain (by unfold bytesL; rw [List.all_map, List.all_eq_true]; intro _ _; rfl)⟩
    simp only [Builtin.firstCells, Sem.run_pure]
    congr 1
    apply Array.toList_inj.1
    simp [bytesL]
  · cases h
theorem lenL_sound {n m : Nat} {x x' : Value} (hx : VR μ n x x') (h : lenL x = some m) (w : World) : (Builtin.lenOf x').run P w = .ok m w := by
  unfold lenL at h
  split at h
  · rename_i a l c
    simp only [Option.some.injEq] at h
    subst h
    cases a with
    | none => obtain ⟨rfl, rfl, _⟩ := hx.inv_nilSlice; rfl
    | some a => obtain ⟨_, _, rfl, _⟩ := hx.inv_slice; rfl
  · obtain rfl := hx.inv_string
    simp only [Option.some.injEq] at h
    subst h
    rfl
  · cases h

theorem nextcap_le {need old : Nat} (h : old < need) : Builtin.nextslicecap need old ≤ 2 * need + 192 := by
  unfold Builtin.nextslicecap
  split
  · omega
  · split
    · omega
    · have g : ∀ r c, c ≤ 2 * need + 192 → (c < need → True) → Builtin.growBy need r c ≤ 2 * need + 192 := by
        intro r
        induction r with
        | zero => intro c hc _; simpa [Builtin.growBy] using hc
        | succ r ih =>
          intro c hc _
          simp only [Builtin.growBy]
          split
          · exact hc
          · exact ih _ (by omega) (fun _ => trivial)
      exact g 4 old (by omega) (fun _ => trivial)

theorem told_len (hs : Sim B w0 μ σ w) {x : Opd} {x' : Value} {str : Bool} {t ty : TypeId} {ats : Array TypeId} {d : TypeDesc} (ht : ats[0]? = some t) (hu : P.underlying t = some d)
    (hd : (str = true ∧ d = .string) ∨ (str = false ∧ ∃ e, d = .slice e)) (hx : VR μ σ.size (mev ts x) x') (hm : mop ts σ (.len str x) = some (v, τ)) :
    Told P B w0 μ σ τ v (do pure (.value (← Builtin.len_ ats ty #[x']))) w := by
  simp only [mop] at hm
  split at hm
  · rename_i s e
    rw [e] at hx
    obtain rfl := hx.inv_string
    simp only [Option.some.injEq, Prod.mk.injEq] at hm
    obtain ⟨rfl, rfl⟩ := hm
    rcases hd with ⟨_, rfl⟩ | ⟨h, _⟩
    · exact .same hs (by simp [Builtin.len_, ht, run_und hu, goInt]) (.int _ _)
    · cases h
  · rename_i a n c e
    rw [e] at hx
    simp only [Option.some.injEq, Prod.mk.injEq] at hm
    obtain ⟨rfl, rfl⟩ := hm
    rcases hd with ⟨h, _⟩ | ⟨_, e', rfl⟩
    · cases h
    · cases a with
      | none => obtain ⟨rfl, rfl, rfl⟩ := hx.inv_nilSlice; exact .same hs (by simp [Builtin.len_, ht, run_und hu, goInt]) (.int _ _)
      | some a => obtain ⟨_, _, rfl, _⟩ := hx.inv_slice; exact .same hs (by simp [Builtin.len_, ht, run_und hu, goInt]) (.int _ _)
  · cases hm
theorem told_nilck (hs : Sim B w0 μ σ w) {x : Opd} {x' : Value} (hx : VR μ σ.size (mev ts x) x') (hm : mop ts σ (.nilck x) = some (v, τ)) {o : Oper} {y : Operand} {ρ : Operand → Value} (ho : o.op = .nilCheck y) (hy : ρ y = x') :
    Told P B w0 μ σ τ v (execOp ρ o) w := by
  simp only [mop] at hm
  split at hm
  · rename_i a e
    rw [e] at hx
    obtain ⟨h1, h2, rfl⟩ := hx.inv_ptrA
    simp only [Option.some.injEq, Prod.mk.injEq] at hm
    obtain ⟨rfl, rfl⟩ := hm
    exact .same hs (by simp only [execOp, ho, hy]; rfl) hx
  · rename_i k f c e
    rw [e] at hx
    obtain ⟨f', c', rfl, _, _⟩ := hx.inv_func
    simp only [Option.some.injEq, Prod.mk.injEq] at hm
    obtain ⟨rfl, rfl⟩ := hm
    exact .same hs (by simp only [execOp, ho, hy]; rfl) hx
  · rename_i t u e
    rw [e] at hx
    obtain ⟨u', rfl, _⟩ := hx.inv_iface
    simp only [Option.some.injEq, Prod.mk.injEq] at hm
    obtain ⟨rfl, rfl⟩ := hm
    exact .same hs (by simp only [execOp, ho, hy]; rfl) hx
  · cases hm
theorem told_tasI (hs : Sim B w0 μ σ w) {x : Opd} {x' z : Value} {xt t : TypeId} {ok : Bool} {d : TypeDesc} (hu : P.underlying t = some d) (hd : ∀ ms, d ≠ .interface ms) (hz : zero1 P t = some z)
    (hx : VR μ σ.size (mev ts x) x') (hm : mop ts σ (.tasI t ok z x) = some (v, τ)) : Told P B w0 μ σ τ v (do pure (.value (← Instr.typeAssert x' xt t ok))) w := by
  obtain ⟨hz1, hz2⟩ := zero1_spec hz
  have vz : VR μ σ.size z z := .of_closed hz1
  simp only [mop] at hm
  split at hm
  · rename_i u y e
    rw [e] at hx
    obtain ⟨y', rfl, hy⟩ := hx.inv_iface
    split at hm
    · rename_i hut
      subst hut
      simp only [Option.some.injEq, Prod.mk.injEq] at hm
      obtain ⟨rfl, rfl⟩ := hm
      refine .same (v' := if ok then .tuple #[y', .bool true] else y') hs ?_ ?_
      · cases d <;> first | exact absurd rfl (hd _) | (simp [Instr.typeAssert, run_und hu])
      · cases ok
        · simpa using hy
        · exact .tuple (.cons hy (.cons (.bool _) .nil))
    · rename_i hut
      split at hm
      · rename_i hok
        subst hok
        simp only [Option.some.injEq, Prod.mk.injEq] at hm
        obtain ⟨rfl, rfl⟩ := hm
        refine .same (v' := .tuple #[z, .bool false]) hs ?_ (.tuple (.cons vz (.cons (.bool _) .nil)))
        cases d <;> first | exact absurd rfl (hd _) | (simp [Instr.typeAssert, run_und hu, hut, hz2])
      · cases hm
  · rename_i e
    rw [e] at hx
    obtain rfl := hx.inv_nilIface
    split at hm
    · rename_i hok
      subst hok
      simp only [Option.some.injEq, Prod.mk.injEq] at hm
      obtain ⟨rfl, rfl⟩ := hm
      refine .same (v' := .tuple #[z, .bool false]) hs ?_ (.tuple (.cons vz (.cons (.bool _) .nil)))
      cases d <;> first | exact absurd rfl (hd _) | (simp [Instr.typeAssert, run_und hu, hz2])
    · cases hm
  · cases hm

theorem firstL_len {sz n m : Nat} {x : Value} {vs vs' : List Value} {k : Nat} (h : firstL σ sz n x = some vs) (hl : lenL x = some m) (hn : n ≤ m) (hv : VRs μ k vs vs') : vs'.length = n * sz := by
  rw [hv.length]
  unfold firstL at h
  split at h
  · unfold H.row at h
    split at h <;> first | (cases h; done) | skip
    all_goals exact (rowL_eq _ _ _ _ h).1
  · simp only [Option.some.injEq] at h; subst h
    simp only [lenL, Option.some.injEq] at hl
    have : n = 0 := by omega
    simp [this]
  · rename_i s
    split at h
    · rename_i h1
      simp only [Option.some.injEq] at h; subst h
      simp only [lenL, Option.some.injEq] at hl
      have : (s.extract 0 n).data.size = n := by
        show (s.extract 0 n).size = n
        rw [ByteArray.size_extract]; omega
      simp [bytesL, h1]
      omega
    · cases h
  · cases h
theorem splA_get : ∀ (vs : List Value) (c : Array Value) (k i : Nat), k + vs.length ≤ c.size → (splA c k vs)[i]? = if k ≤ i ∧ i < k + vs.length then vs[i - k]? else c[i]?
  | [], c, k, i, h => by simp only [splA, List.length_nil]; rw [if_neg (by omega)]
  | v :: vs, c, k, i, h => by
    simp only [List.length_cons] at h
    simp only [splA, List.length_cons]
    rw [splA_get vs _ (k + 1) i (by simp; omega)]
    by_cases h1 : k + 1 ≤ i ∧ i < k + 1 + vs.length
    · rw [if_pos h1, if_pos (by omega), show i - k = (i - (k + 1)) + 1 by omega, List.getElem?_cons_succ]
    · rw [if_neg h1, Array.getElem?_setIfInBounds]
      by_cases h2 : k = i
      · subst h2; rw [if_pos rfl, if_pos (by omega), if_pos (by omega)]; simp
      · rw [if_neg h2, if_neg (by omega)]
theorem Sim.kill (h : Sim B w0 μ σ w) (k : Nat) : Sim B w0 μ (σ.set k .dead) w := by
  have live : ∀ {i o}, (σ.set k .dead).get i = o → o ≠ .dead → σ.get i = o := by
    intro i o hi ho
    by_cases e : i = k
    · subst e
      rcases Nat.lt_or_ge i σ.size with x | x
      · rw [H.get_set_self x] at hi; exact absurd hi.symm ho
      · rw [(σ.set i .dead).wf i (by simpa using x)] at hi; exact absurd hi.symm ho
    · rwa [H.get_set_ne e] at hi
  refine ⟨h.below, h.base, h.fin, fun i sz cs hc => ?_, fun i cs hc => ?_, fun i es c hc => ?_, fun i j hi hj hr hne => ?_⟩
  · simpa using h.own i sz cs (live hc (by simp))
  · simpa using h.ro i cs (live hc (by simp))
  · simpa using h.map i es c (live hc (by simp))
  · have ei := live rfl hi
    have ej := live rfl hj
    exact h.inj i j (by rw [ei]; exact hi) (by rw [ej]; exact hj) (fun cs => by rw [ei]; exact hr cs) hne
theorem firstL_zero {sz : Nat} {x : Value} {vs : List Value} (h : firstL σ sz 0 x = some vs) : vs = [] := by
  unfold firstL at h
  split at h
  · simp only [Nat.zero_mul] at h
    unfold H.row at h
    split at h <;> first | (cases h; done) | skip
    all_goals (simp [rowL] at h; exact h)
  · simpa using h.symm
  · split at h
    · simp only [Option.some.injEq] at h; subst h; simp [bytesL]
    · cases h
  · cases h
theorem run_first0 {n m sz : Nat} {x x' : Value} (hx : VR μ n x x') (h : lenL x = some m) (w : World) : (Builtin.firstCells sz 0 x').run P w = .ok #[] w := by
  unfold lenL at h
  split at h
  · rename_i a l c
    cases a with
    | none => obtain ⟨rfl, rfl, _⟩ := hx.inv_nilSlice; rfl
    | some a => obtain ⟨_, _, rfl, _⟩ := hx.inv_slice; simp only [Builtin.firstCells, Nat.zero_mul]; rfl
  · obtain rfl := hx.inv_string
    simp only [Builtin.firstCells, Sem.run_pure]
    congr 1
    apply Array.toList_inj.1
    simp
  · cases h
theorem told_cpy (hs : Sim B w0 μ σ w) {x y : Opd} {x' y' : Value} {t e ty : TypeId} {n : Nat} {ats : Array TypeId} (ht : ats[0]? = some t) (hu : P.underlying t = some (.slice e)) (hn : sizeT P e = some n)
    (hx : VR μ σ.size (mev ts x) x') (hy : VR μ σ.size (mev ts y) y') (hm : mop ts σ (.cpy n x y) = some (v, τ)) :
    Told P B w0 μ σ τ v (do pure (.value (← Builtin.copy_ ats ty #[x', y']))) w := by
  have a0 : (#[x', y'] : Array Value)[0]? = some x' := rfl
  have a1 : (#[x', y'] : Array Value)[1]? = some y' := rfl
  simp only [mop] at hm
  split at hm
  · rename_i q e1 e2
    rw [e1] at hx
    obtain ⟨rfl, _, _⟩ := hx.inv_nilSlice
    simp only [Option.some.injEq, Prod.mk.injEq] at hm
    obtain ⟨rfl, rfl⟩ := hm
    have hl := lenL_sound (P := P) hy e2 w
    have hf := run_first0 (P := P) (sz := n) hy e2 w
    refine .same (v' := .int .i64 0) hs ?_ (.int _ _)
    simp only [Builtin.copy_, ht, a0, a1, Sem.run_bind, run_und hu, Result.andThen_ok, hl, run_size hn, Nat.min_zero, hf, goInt]
    simp [hf]
  · rename_i id off len cap q e1 e2
    rw [e1] at hx
    obtain ⟨cap', o', rfl, _, hid, hlc, hc, ho, hz, hex⟩ := hx.inv_slice
    dsimp only at hid ho hz hex
    have hl := lenL_sound (P := P) hy e2 w
    split at hm
    · rename_i vs hf
      cases hp : putRow σ id off vs with
      | none => rw [hp] at hm; cases hm
      | some τ' =>
        rw [hp] at hm
        simp only [Option.map_some, Option.some.injEq, Prod.mk.injEq] at hm
        obtain ⟨rfl, rfl⟩ := hm
        obtain ⟨vs', h1, h2⟩ := run_first (P := P) hs hf e2 (Nat.min_le_left _ _) hy
        obtain ⟨w', h3, h4, h5⟩ := hs.putRow (P := P) h2 hp
        have hst : (storeCells ⟨(μ id).b, o', none⟩ vs').run P w = .ok () w' := by
          rcases Nat.eq_zero_or_pos cap with e | e
          · have : Nat.min q len = 0 := (show min q len = 0 by omega)
            rw [this] at hf
            have hv := firstL_zero hf
            subst hv
            cases h2
            have : (storeCells ⟨(μ id).b, (μ id).o + off, none⟩ []).run P w = .ok () w := rfl
            rw [this] at h3
            cases h3
            rfl
          · rw [ho e]; exact h3
        refine ⟨.int .i64 (Nat.min q len : Nat), w', μ, .inl ?_, h4, .int _ _, .refl _ _, Nat.le_of_eq h5.symm⟩
        simp only [Builtin.copy_, ht, a0, a1, Sem.run_bind, run_und hu, Result.andThen_ok, hl, run_size hn, h1, goInt]
        simp [hst]
    · cases hm
  · cases hm

theorem told_clr (hs : Sim B w0 μ σ w) {x : Opd} {x' : Value} {t e ty : TypeId} {zs : List Value} {ats : Array TypeId} (ht : ats[0]? = some t) (hu : P.underlying t = some (.slice e)) (hz : zeroL P e = some zs) (h0 : zs.length ≠ 0)
    (hx : VR μ σ.size (mev ts x) x') (hm : mop ts σ (.clr zs x) = some (v, τ)) :
    Told P B w0 μ σ τ v (do pure (.value (← Builtin.clear_ ats ty #[x']))) w := by
  obtain ⟨i', z, hi', hz1, hz2, hz3, hz4, hz5⟩ := zeroL_spec hz
  have a0 : (#[x'] : Array Value)[0]? = some x' := rfl
  simp only [mop] at hm
  split at hm
  · rename_i e1
    rw [e1] at hx
    obtain ⟨rfl, _, _⟩ := hx.inv_nilSlice
    simp only [Option.some.injEq, Prod.mk.injEq] at hm
    obtain ⟨rfl, rfl⟩ := hm
    refine .same (v' := undef) hs ?_ (.tuple .nil)
    simp only [Builtin.clear_, ht, a0, Sem.run_bind, run_und hu, Result.andThen_ok, Sem.run_pure]
    rfl
  · rename_i id off len cap e1
    rw [e1] at hx
    obtain ⟨cap', o', rfl, _, hid, hlc, hc, ho, hzz, hex⟩ := hx.inv_slice
    dsimp only at hid ho hzz hex
    split at hm
    · rename_i hl0
      subst hl0
      simp only [Option.some.injEq, Prod.mk.injEq] at hm
      obtain ⟨rfl, rfl⟩ := hm
      refine .same (v' := undef) hs ?_ (.tuple .nil)
      simp only [Builtin.clear_, ht, a0, Sem.run_bind, run_und hu, Result.andThen_ok, Sem.run_pure]
      rfl
    · rename_i hl0
      cases hp : putRow σ id off (repZ zs len) with
      | none => rw [hp] at hm; cases hm
      | some τ' =>
        rw [hp] at hm
        simp only [Option.map_some, Option.some.injEq, Prod.mk.injEq] at hm
        obtain ⟨rfl, rfl⟩ := hm
        obtain ⟨w', h3, h4, h5⟩ := hs.putRow (P := P) (VRs.of_plain (repZ_plain hz3 len)) hp
        rw [← ho (by omega)] at h3
        have hzc : (Builtin.zeroCells z.cells len).toList = repZ zs len := by rw [zeroCells_eq hz2 len h0]
        refine ⟨undef, w', μ, .inl ?_, h4, .tuple .nil, .refl _ _, Nat.le_of_eq h5.symm⟩
        obtain ⟨m, rfl⟩ : ∃ m, len = m + 1 := ⟨len - 1, by omega⟩
        simp only [Builtin.clear_, ht, a0, Sem.run_bind, run_und hu, Result.andThen_ok, hz5, hzc, h3, Sem.run_pure]
        rfl
  · cases hm

section appends
variable {t e t2 ty : TypeId} {d2 : TypeDesc} {i : TypeInfo} {z : Value} {ats : Array TypeId}
theorem append_in (ht : ats[0]? = some t) (ht2 : ats[1]? = some t2) (hu : P.underlying t = some (.slice e)) (hu2 : P.underlying t2 = some d2) (hd2 : ∀ k, d2 ≠ .int k) (hi : P.info? e = some i)
    {a : Addr} {len cap n : Nat} {y' : Value} {w' : World} {vs' : List Value} (hl : (Builtin.lenOf y').run P w = .ok n w) (hc : len + n ≤ cap) (hf : (Builtin.firstCells i.size n y').run P w = .ok vs'.toArray w)
    (hst : (storeCells (a.add (len * i.size)) vs').run P w = .ok () w') : (Builtin.append_ ats ty #[.slice (some a) len cap, y']).run P w = .ok (.slice (some a) (len + n) cap) w' := by
  have a0 : (#[.slice (some a) len cap, y'] : Array Value)[0]? = some (.slice (some a) len cap) := rfl
  have a1 : (#[.slice (some a) len cap, y'] : Array Value)[1]? = some y' := rfl
  have hn : ∀ w, (sizeOf e).run P w = .ok i.size w := run_size (by simp [sizeT, hi])
  cases d2 <;> first | exact absurd rfl (hd2 _) | skip
  all_goals
    simp only [Builtin.append_, ht, a0, a1, ht2, Sem.run_bind, run_und hu, run_und hu2, Result.andThen_ok, hn, Sem.run_pure, Bool.false_eq_true, if_false, Bool.not_false, if_true, hl, hc, hf, hst]
theorem append_nil (ht : ats[0]? = some t) (ht2 : ats[1]? = some t2) (hu : P.underlying t = some (.slice e)) (hu2 : P.underlying t2 = some d2) (hd2 : ∀ k, d2 ≠ .int k) (hi : P.info? e = some i)
    {y' : Value} {vs' : Array Value} (hl : (Builtin.lenOf y').run P w = .ok 0 w) (hf : (Builtin.firstCells i.size 0 y').run P w = .ok vs' w) :
    (Builtin.append_ ats ty #[.slice none 0 0, y']).run P w = .ok (.slice none 0 0) w := by
  have a0 : (#[.slice none 0 0, y'] : Array Value)[0]? = some (.slice none 0 0) := rfl
  have a1 : (#[.slice none 0 0, y'] : Array Value)[1]? = some y' := rfl
  have hn : ∀ w, (sizeOf e).run P w = .ok i.size w := run_size (by simp [sizeT, hi])
  cases d2 <;> first | exact absurd rfl (hd2 _) | skip
  all_goals
    simp only [Builtin.append_, ht, a0, a1, ht2, Sem.run_bind, run_und hu, run_und hu2, Result.andThen_ok, hn, Sem.run_pure, Bool.false_eq_true, if_false, Bool.not_false, if_true, hl, hf, Nat.add_zero, Nat.le_refl]
theorem append_grow (ht : ats[0]? = some t) (ht2 : ats[1]? = some t2) (hu : P.underlying t = some (.slice e)) (hu2 : P.underlying t2 = some d2) (hd2 : ∀ k, d2 ≠ .int k) (hi : P.info? e = some i)
    (hb0 : i.bytes ≠ 0) (hb : i.bytes ≤ 128) (hz5 : ∀ w, (zeroValue e).run P w = .ok z w)
    {base : Option Addr} {len cap n : Nat} {y' : Value} {old new : List Value} (hl : (Builtin.lenOf y').run P w = .ok n w) (hc : ¬ len + n ≤ cap) (hmax : len + n ≤ appMax)
    (ho : (Builtin.firstCells i.size len (.slice base len cap)).run P { w with drawn := w.drawn + 1 } = .ok old.toArray { w with drawn := w.drawn + 1 })
    (hf : (Builtin.firstCells i.size n y').run P { w with drawn := w.drawn + 1 } = .ok new.toArray { w with drawn := w.drawn + 1 }) :
    (Builtin.append_ ats ty #[.slice base len cap, y']).run P w = .ok (.slice (some ⟨w.heap.size, 0, none⟩) (len + n) (capOf w (len + n) cap e))
      { w with drawn := w.drawn + 1, heap := w.heap.push (.cells (old.toArray ++ new.toArray ++ Builtin.zeroCells z.cells (capOf w (len + n) cap e - (len + n))) e (0, 0)) } := by
  have a0 : (#[.slice base len cap, y'] : Array Value)[0]? = some (.slice base len cap) := rfl
  have a1 : (#[.slice base len cap, y'] : Array Value)[1]? = some y' := rfl
  have hn : ∀ w, (sizeOf e).run P w = .ok i.size w := run_size (by simp [sizeT, hi])
  have hov : ¬ (Builtin.nextslicecap (len + n) cap * i.bytes > 2 ^ 48) := by
    have h1 := nextcap_le (need := len + n) (old := cap) (by omega)
    have h2 : Builtin.nextslicecap (len + n) cap * i.bytes ≤ (2 * (len + n) + 192) * 128 := Nat.mul_le_mul h1 hb
    unfold appMax at hmax
    omega
  have hin : ¬ (((len + n : Nat) : Int) > IntKind.i64.max ∧ (False ∨ i.bytes = 0)) := by
    intro h; rcases h.2 with h | h
    · exact h
    · exact hb0 h
  cases d2 <;> first | exact absurd rfl (hd2 _) | skip
  all_goals
    simp only [Builtin.append_, ht, a0, a1, ht2, Sem.run_bind, run_und hu, run_und hu2, Result.andThen_ok, hn, Sem.run_pure, Bool.false_eq_true, if_false, Bool.not_false, if_true, hl, hc, run_info hi, hin, hov,
      run_cap, run_askRoom, ho, hf, hz5, Go.newRow, run_newObj]
end appends

/-- The old object dies, a new one stands for its block's (or another block's) cells. -/
theorem told_app (hs : Sim B w0 μ σ w) {x y : Opd} {x' y' : Value} {t e t2 ty : TypeId} {d2 : TypeDesc} {i : TypeInfo} {zs : List Value} {ats : Array TypeId} (ht : ats[0]? = some t) (ht2 : ats[1]? = some t2)
    (hu : P.underlying t = some (.slice e)) (hu2 : P.underlying t2 = some d2) (hd2 : ∀ k, d2 ≠ .int k) (hi : P.info? e = some i) (hb0 : i.bytes ≠ 0) (hs0 : i.size ≠ 0) (hz : zeroL P e = some zs)
    (hx : VR μ σ.size (mev ts x) x') (hy : VR μ σ.size (mev ts y) y') (hm : mop ts σ (.app i.size i.bytes x y) = some (v, τ)) :
    Told P B w0 μ σ τ v (do pure (.value (← Builtin.append_ ats ty #[x', y']))) w := by
  obtain ⟨i', z, hi', hz1, hz2, hz3, hz4, hz5⟩ := zeroL_spec hz
  rw [hi] at hi'
  cases hi'
  have a0 : (#[x', y'] : Array Value)[0]? = some x' := rfl
  have a1 : (#[x', y'] : Array Value)[1]? = some y' := rfl
  have hn : sizeT P e = some i.size := by simp [sizeT, hi]
  have hnot : (match d2 with | .int _ => true | _ => false) = false := by cases d2 <;> first | rfl | exact absurd rfl (hd2 _)
  have hzc : ∀ k, Builtin.zeroCells z.cells k = (repZ zs k).toArray := fun k => zeroCells_eq hz2 k (by omega)
  simp only [mop] at hm
  split at hm
  · rename_i n e1 e2
    rw [e1] at hx
    obtain ⟨rfl, _, _⟩ := hx.inv_nilSlice
    have hl := lenL_sound (P := P) hy e2 w
    split at hm
    · rename_i hn0
      subst hn0
      simp only [Option.some.injEq, Prod.mk.injEq] at hm
      obtain ⟨rfl, rfl⟩ := hm
      exact .same hs (by rw [Sem.run_bind, append_nil ht ht2 hu hu2 hd2 hi hl (run_first0 hy e2 w)]; rfl) .nilSlice
    · rename_i hn0
      split at hm
      · rename_i hb
        split at hm
        · rename_i vs hf
          simp only [Option.some.injEq, Prod.mk.injEq] at hm
          obtain ⟨rfl, rfl⟩ := hm
          have hs1 : Sim B w0 μ σ { w with drawn := w.drawn + 1 } := hs.drewN 1
          obtain ⟨vs', h1, h2⟩ := run_first (P := P) hs1 hf e2 (Nat.le_refl _) hy
          have hrun := append_grow (P := P) (w := w) (ty := ty) (base := none) (len := 0) (cap := 0) (old := []) ht ht2 hu hu2 hd2 hi hb0 hb.2 hz5 hl (by omega) (by rw [Nat.zero_add]; exact hb.1) (by rfl) h1
          rw [Nat.zero_add] at hrun
          have hle : n ≤ capOf w n 0 e := Nat.le_add_right _ _
          generalize capOf w n 0 e = cap at hrun hle
          rw [hzc] at hrun
          have hcells : (([] : List Value).toArray ++ vs'.toArray ++ (repZ zs (cap - n)).toArray) = (vs' ++ repZ zs (cap - n)).toArray := by apply Array.toList_inj.1; simp
          rw [hcells] at hrun
          have hsim := hs1.newRow (sz := i.size) (more := repZ zs (cap - n)) h2 e (fz := (0, 0)) (unfrozen0 _)
          have hlen : vs'.length = n * i.size := firstL_len hf e2 (Nat.le_refl _) h2
          refine ⟨_, _, _, .inl (by rw [Sem.run_bind, hrun]; rfl), hsim, setMu_slice μ σ.size _ (Nat.le_refl _) hle (fun _ => ?_) (fun hh => ?_), .setMu _ _, by simp⟩
          · simp only [hlen, repZ_length, hz4]
            rw [← Nat.add_mul]
            have : n + (cap - n) = cap := by omega
            rw [this]; omega
          · simp at hh; omega
        · cases hm
      · cases hm
  · rename_i id off len cap n e1 e2
    rw [e1] at hx
    obtain ⟨cap', o', rfl, _, hid, hlc, hc, ho, hz, hex⟩ := hx.inv_slice
    dsimp only at hid ho hz hex
    have hl := lenL_sound (P := P) hy e2 w
    split at hm
    · rename_i hin
      split at hm
      · rename_i vs hf
        cases hp : putRow σ id (off + len * i.size) vs with
        | none => rw [hp] at hm; cases hm
        | some τ' =>
          rw [hp] at hm
          simp only [Option.map_some, Option.some.injEq, Prod.mk.injEq] at hm
          obtain ⟨rfl, rfl⟩ := hm
          obtain ⟨vs', h1, h2⟩ := run_first (P := P) hs hf e2 (Nat.le_refl _) hy
          obtain ⟨w', h3, h4, h5⟩ := hs.putRow (P := P) h2 hp
          have hst : (storeCells ((⟨(μ id).b, o', none⟩ : Addr).add (len * i.size)) vs').run P w = .ok () w' := by
            rcases Nat.eq_zero_or_pos cap with e | e
            · have : n = 0 := by omega
              rw [this] at hf
              have hv := firstL_zero hf
              subst hv
              cases h2
              have : (storeCells ⟨(μ id).b, (μ id).o + (off + len * i.size), none⟩ []).run P w = .ok () w := rfl
              rw [this] at h3
              cases h3
              rfl
            · rw [ho e, addr_add, Nat.add_assoc]; exact h3
          refine ⟨_, w', μ, .inl (by rw [Sem.run_bind, append_in ht ht2 hu hu2 hd2 hi hl (by omega) h1 hst]; rfl), h4, ?_, .refl _ _, Nat.le_of_eq h5.symm⟩
          rw [h5]
          exact .slice hid hin hc ho hz hex
      · cases hm
    · rename_i hin
      split at hm
      · rename_i hb
        split at hm
        · rename_i s cs old vs hg hrow' hf
          split at hm
          · rename_i hone
            simp only [Option.some.injEq, Prod.mk.injEq] at hm
            obtain ⟨rfl, rfl⟩ := hm
            have hsz := (hs.own id s cs hg).1
            have hlold : lenL (mev ts x) = some len := by rw [e1]; rfl
            have hfold : firstL σ i.size len (mev ts x) = some old := by rw [e1]; exact hrow'
            have hx0 : VR μ σ.size (mev ts x) (.slice (some ⟨(μ id).b, o', none⟩) len cap') := by rw [e1]; exact .slice hid hlc hc ho hz hex
            have hlt := H.lt_of_cells hg
            by_cases hreal : len + n ≤ cap'
            · -- the model writes in place
              have hsne : s = i.size := by
                rcases hone.2 with h | h
                · exact h
                · have := hex (hsz.2.2 h); omega
              subst hsne
              obtain ⟨vs', h1, h2⟩ := run_first (P := P) hs hf e2 (Nat.le_refl _) hy
              have hvl : vs'.length = n * i.size := firstL_len hf e2 (Nat.le_refl _) h2
              obtain ⟨_, cs', t', fz, g1, ⟨g2, g3⟩, g4⟩ := hs.own id i.size cs hg
              have hroom : o' + len * i.size + vs'.length ≤ cs'.size := by
                have := hz (by rw [hsz.2.1]; exact hs0)
                rw [hsz.2.1, ← g3] at this
                have h4 : (len + n) * i.size ≤ cap' * i.size := Nat.mul_le_mul_right _ hreal
                rw [Nat.add_mul] at h4
                omega
              have hvone : vs'.all one = true := by
                rw [h2.one_all]
                have := hone.1
                rw [List.all_append, Bool.and_eq_true] at this
                exact this.2
              have hst := run_storeRow P (μ id).b o' t' fz vs' (len * i.size) cs' w g1 g2 hroom hvone
              have hst' : (storeCells ((⟨(μ id).b, o', none⟩ : Addr).add (len * i.size)) vs').run P w = .ok () { w with heap := w.heap.setIfInBounds (μ id).b (.cells (splA cs' (o' + len * i.size) vs') t' fz) } := by
                have := run_storeRow P (μ id).b (o' + len * i.size) t' fz vs' 0 cs' w g1 g2 (by omega) hvone
                rw [addr_add]; exact this
              have hsim1 := hs.setOwn (o := .dead) hg (w' := { w with heap := w.heap.setIfInBounds (μ id).b (.cells (splA cs' (o' + len * i.size) vs') t' fz) }) rfl
                ⟨fun j hj => g2 j (by simpa [splA_size] using hj), by rw [splA_size]; exact g3⟩ (.inr rfl)
              have hin2 : (μ id).b < w.heap.size := hs.fin id hlt
              have hsim2 := hsim1.push' (sz := i.size) (cs := old ++ vs) (cs' := splA cs' (o' + len * i.size) vs') (t := t') (fz := fz) (p := ⟨(μ id).b, o', i.size, (μ id).n, false⟩) hsz.1 (by simpa using hin2) rfl
                (fun h => absurd h hs0) (by simp [Array.getElem?_setIfInBounds, hin2]) ⟨fun j hj => g2 j (by simpa [splA_size] using hj), by rw [splA_size]; exact g3⟩
                (fun j u hu => by
                  have hol : old.length = len * i.size := by
                    have hro := hrow'
                    unfold H.row at hro
                    rw [hg] at hro
                    exact (rowL_eq _ _ _ _ hro).1
                  simp only [H.size_set]
                  by_cases hj : j < old.length
                  · rw [List.getElem?_append_left hj] at hu
                    have hpos : 0 < len := by
                      rcases Nat.eq_zero_or_pos len with e | e
                      · rw [e] at hol; omega
                      · exact e
                    have ho2 := ho (by omega)
                    have hro := hrow'
                    unfold H.row at hro
                    rw [hg] at hro
                    have hge := (rowL_eq _ _ _ _ hro).2 j (by omega)
                    rw [hge] at hu
                    obtain ⟨u', k1, k2⟩ := g4 _ _ hu
                    refine ⟨u', ?_, k2⟩
                    rw [splA_get _ _ _ _ hroom, if_neg (by omega), ho2, Nat.add_assoc]
                    exact k1
                  · rw [List.getElem?_append_right (by omega)] at hu
                    obtain ⟨u', k1, k2⟩ := h2.get hu
                    refine ⟨u', ?_, k2⟩
                    have hju : j - old.length < vs'.length := by
                      rcases Nat.lt_or_ge (j - old.length) vs'.length with x | x
                      · exact x
                      · rw [List.getElem?_eq_none x] at k1; cases k1
                    show (splA cs' (o' + len * i.size) vs')[o' + j]? = some u'
                    rw [splA_get _ _ _ _ hroom, if_pos (by omega), show o' + j - (o' + len * i.size) = j - old.length by omega]
                    exact k1)
                (fun k hk => by
                  have hki : k ≠ id := fun e => by subst e; rw [H.get_set_self hlt] at hk; exact hk rfl
                  rw [H.get_set_ne hki] at hk
                  exact Ne.symm (hs.inj id k (by rw [hg]; simp) hk (fun cs => by rw [hg]; simp) (Ne.symm hki)))
              have hrun := append_in (P := P) (ty := ty) ht ht2 hu hu2 hd2 hi hl hreal h1 hst'
              have hvr := setMu_slice μ σ.size ⟨(μ id).b, o', i.size, (μ id).n, false⟩ (len := len + n) (cap := len + n) (cap' := cap') (Nat.le_refl _) hreal
                (fun _ => by have := hz (by rw [hsz.2.1]; exact hs0); rw [hsz.2.1] at this; exact this) (by simp)
              refine ⟨_, _, _, .inl (by rw [Sem.run_bind, hrun]; rfl), hsim2, ?_, ?_, by simp⟩
              · simpa using hvr
              · simpa using Agr.setMu μ (n := σ.size) ⟨(μ id).b, o', i.size, (μ id).n, false⟩
            · have hs1 : Sim B w0 μ σ { w with drawn := w.drawn + 1 } := hs.drewN 1
              obtain ⟨vs', h1, h2⟩ := run_first (P := P) hs1 hf e2 (Nat.le_refl _) hy
              obtain ⟨old', h3, h4⟩ := run_first (P := P) hs1 hfold hlold (Nat.le_refl _) hx0
              have hrun := append_grow (P := P) (w := w) (ty := ty) ht ht2 hu hu2 hd2 hi hb0 hb.2 hz5 hl hreal hb.1 h3 h1
              have hle : len + n ≤ capOf w (len + n) cap' e := Nat.le_add_right _ _
              generalize capOf w (len + n) cap' e = c2 at hrun hle
              rw [hzc] at hrun
              have hcells : (old'.toArray ++ vs'.toArray ++ (repZ zs (c2 - (len + n))).toArray) = ((old' ++ vs') ++ repZ zs (c2 - (len + n))).toArray := by apply Array.toList_inj.1; simp
              rw [hcells] at hrun
              have hsim := (hs1.kill id).newRow (sz := i.size) (cs := old ++ vs) (more := repZ zs (c2 - (len + n))) (by simpa using h4.append h2) e (fz := (0, 0)) (unfrozen0 _)
              have hlen1 : vs'.length = n * i.size := firstL_len hf e2 (Nat.le_refl _) h2
              have hlen2 : old'.length = len * i.size := firstL_len hfold hlold (Nat.le_refl _) h4
              have hvr := setMu_slice μ σ.size ⟨w.heap.size, 0, i.size, (old' ++ vs').length + (repZ zs (c2 - (len + n))).length, i.size == 0⟩ (len := len + n) (cap := len + n) (cap' := c2) (Nat.le_refl _) hle
                (fun _ => by
                  simp only [List.length_append, hlen1, hlen2, repZ_length, hz4]
                  rw [← Nat.add_mul, ← Nat.add_mul]
                  have : len + n + (c2 - (len + n)) = c2 := by omega
                  rw [this]; omega) (fun hh => by simp at hh; omega)
              refine ⟨_, _, _, .inl (by rw [Sem.run_bind, hrun]; rfl), hsim, ?_, ?_, by simp⟩
              · simpa using hvr
              · simpa using Agr.setMu μ (n := σ.size) _
          · cases hm
        · cases hm
      · cases hm
  · cases hm
end
end Go.Mini
