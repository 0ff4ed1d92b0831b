import Derived.Test.YtepjinaomedecaaDoorMiniH
/- The small operations tell what the model's do: append, copy, nil checks, assertions, lengths. -/
namespace Go.Mini
open Go.RowKit (Below)
set_option linter.unusedVariables false
set_option linter.unusedSimpArgs false
section
variable {P : Program} {B : Fz} {w0 w : World} {μ : Nat → Blk} {σ τ : H} {ts : Fr} {v : Value}

theorem run_first (hs : Sim B w0 μ σ w) {sz n m : Nat} {x x' : Value} {vs : List Value} (h : firstL σ sz n x = some vs) (hl : lenL x = some m) (hn : n ≤ m) (hx : VR μ σ.size x x') :
    ∃ vs', (Builtin.firstCells sz n x').run P w = .ok vs'.toArray w ∧ VRs μ σ.size vs vs' := by
  unfold firstL at h
  split at h
  · rename_i id off len cap
    obtain ⟨cap', o', rfl, _, hid, hlc, hc, ho, _, _⟩ := hx.inv_slice
    simp only [lenL, Option.some.injEq] at hl
    dsimp only at ho hid
    obtain ⟨vs', h1, h2⟩ := hs.row (P := P) h
    refine ⟨vs', ?_, h2⟩
    simp only [Builtin.firstCells]
    rcases Nat.eq_zero_or_pos (n * sz) with e | e
    · rw [e] at h1 ⊢
      have : vs' = [] := by
        have := (rowL_eq 0)
        have hl := h2.length
        have : vs = [] := by
          unfold H.row at h
          rw [e] at h
          split at h <;> first | (cases h; done) | skip
          all_goals (simp [rowL] at h; exact h)
        rw [this] at hl
        exact List.length_eq_zero_iff.1 hl
      subst this
      rfl
    · have : 0 < n := Nat.pos_of_mul_pos_right e
      rw [ho (by omega)]
      exact h1
  · obtain ⟨rfl, _, _⟩ := hx.inv_nilSlice
    simp only [Option.some.injEq] at h
    subst h
    exact ⟨[], rfl, .nil⟩
  · obtain rfl := hx.inv_string
    have h9 := h
    split at h9
    rotate_left
    · cases h9
    simp only [Option.some.injEq] at h9
    subst h9
    rename_i s _
    refine ⟨bytesL (s.extract 0 n).data.toList, ?_, .of_plain (by unfold bytesL; rw [List.all_map, List.all_eq_true]; intro _ _; rfl)⟩
    simp only [Builtin.firstCells, Sem.run_pure]
    congr 1
    apply Array.toList_inj.1
    simp [bytesL]
  · cases h
theorem lenL_sound {n m : Nat} {x x' : Value} (hx : VR μ n x x') (h : lenL x = some m) (w : World) : (Builtin.lenOf x').run P w = .ok m w := by
  unfold lenL at h
  split at h
  · rename_i a l c
    simp only [Option.some.injEq] at h
    subst h
    cases a with
    | none => obtain ⟨rfl, rfl, _⟩ := hx.inv_nilSlice; rfl
    | some a => obtain ⟨_, _, rfl, _⟩ := hx.inv_slice; rfl
  · obtain rfl := hx.inv_string
    simp only [Option.some.injEq] at h
    subst h
    rfl
  · cases h

theorem nextcap_le {need old : Nat} (h : old < need) : Builtin.nextslicecap need old ≤ 2 * need + 192 := by
  unfold Builtin.nextslicecap
  split
  · omega
  · split
    · omega
    · have g : ∀ r c, c ≤ 2 * need + 192 → (c < need → True) → Builtin.growBy need r c ≤ 2 * need + 192 := by
        intro r
        induction r with
        | zero => intro c hc _; simpa [Builtin.growBy] using hc
        | succ r ih =>
          intro c hc _
          simp only [Builtin.growBy]
          split
          · exact hc
          · exact ih _ (by omega) (fun _ => trivial)
      exact g 4 old (by omega) (fun _ => trivial)

theorem told_len (hs : Sim B w0 μ σ w) {x : Opd} {x' : Value} {str : Bool} {t ty : TypeId} {ats : Array TypeId} {d : TypeDesc} (ht : ats[0]? = some t) (hu : P.underlying t = some d)
    (hd : (str = true ∧ d = .string) ∨ (str = false ∧ ∃ e, d = .slice e)) (hx : VR μ σ.size (mev ts x) x') (hm : mop ts σ (.len str x) = some (v, τ)) :
    Told P B w0 μ σ τ v (do pure (.value (← Builtin.len_ ats ty #[x']))) w := by
  simp only [mop] at hm
  split at hm
  · rename_i s e
    rw [e] at hx
    obtain rfl := hx.inv_string
    simp only [Option.some.injEq, Prod.mk.injEq] at hm
    obtain ⟨rfl, rfl⟩ := hm
    rcases hd with ⟨_, rfl⟩ | ⟨h, _⟩
    · exact .same hs (by simp [Builtin.len_, ht, run_und hu, goInt]) (.int _ _)
    · cases h
  · rename_i a n c e
    rw [e] at hx
    simp only [Option.some.injEq, Prod.mk.injEq] at hm
    obtain ⟨rfl, rfl⟩ := hm
    rcases hd with ⟨h, _⟩ | ⟨_, e', rfl⟩
    · cases h
    · cases a with
      | none => obtain ⟨rfl, rfl, rfl⟩ := hx.inv_nilSlice; exact .same hs (by simp [Builtin.len_, ht, run_und hu, goInt]) (.int _ _)
      | some a => obtain ⟨_, _, rfl, _⟩ := hx.inv_slice; exact .same hs (by simp [Builtin.len_, ht, run_und hu, goInt]) (.int _ _)
  · cases hm
theorem told_nilck (hs : Sim B w0 μ σ w) {x : Opd} {x' : Value} (hx : VR μ σ.size (mev ts x) x') (hm : mop ts σ (.nilck x) = some (v, τ)) {o : Oper} {y : Operand} {ρ : Operand → Value} (ho : o.op = .nilCheck y) (hy : ρ y = x') :
    Told P B w0 μ σ τ v (execOp ρ o) w := by
  simp only [mop] at hm
  split at hm
  · rename_i a e
    rw [e] at hx
    obtain ⟨h1, h2, rfl⟩ := hx.inv_ptrA
    simp only [Option.some.injEq, Prod.mk.injEq] at hm
    obtain ⟨rfl, rfl⟩ := hm
    exact .same hs (by simp only [execOp, ho, hy]; rfl) hx
  · rename_i k f c e
    rw [e] at hx
    obtain ⟨f', c', rfl, _, _⟩ := hx.inv_func
    simp only [Option.some.injEq, Prod.mk.injEq] at hm
    obtain ⟨rfl, rfl⟩ := hm
    exact .same hs (by simp only [execOp, ho, hy]; rfl) hx
  · rename_i t u e
    rw [e] at hx
    obtain ⟨u', rfl, _⟩ := hx.inv_iface
    simp only [Option.some.injEq, Prod.mk.injEq] at hm
    obtain ⟨rfl, rfl⟩ := hm
    exact .same hs (by simp only [execOp, ho, hy]; rfl) hx
  · cases hm
theorem told_tasI (hs : Sim B w0 μ σ w) {x : Opd} {x' z : Value} {xt t : TypeId} {ok : Bool} {d : TypeDesc} (hu : P.underlying t = some d) (hd : ∀ ms, d ≠ .interface ms) (hz : zero1 P t = some z)
    (hx : VR μ σ.size (mev ts x) x') (hm : mop ts σ (.tasI t ok z x) = some (v, τ)) : Told P B w0 μ σ τ v (do pure (.value (← Instr.typeAssert x' xt t ok))) w := by
  obtain ⟨hz1, hz2⟩ := zero1_spec hz
  have vz : VR μ σ.size z z := .of_closed hz1
  simp only [mop] at hm
  split at hm
  · rename_i u y e
    rw [e] at hx
    obtain ⟨y', rfl, hy⟩ := hx.inv_iface
    split at hm
    · rename_i hut
      subst hut
      simp only [Option.some.injEq, Prod.mk.injEq] at hm
      obtain ⟨rfl, rfl⟩ := hm
      refine .same (v' := if ok then .tuple #[y', .bool true] else y') hs ?_ ?_
      · cases d <;> first | exact absurd rfl (hd _) | (simp [Instr.typeAssert, run_und hu])
      · cases ok
        · simpa using hy
        · exact .tuple (.cons hy (.cons (.bool _) .nil))
    · rename_i hut
      split at hm
      · rename_i hok
        subst hok
        simp only [Option.some.injEq, Prod.mk.injEq] at hm
        obtain ⟨rfl, rfl⟩ := hm
        refine .same (v' := .tuple #[z, .bool false]) hs ?_ (.tuple (.cons vz (.cons (.bool _) .nil)))
        cases d <;> first | exact absurd rfl (hd _) | (simp [Instr.typeAssert, run_und hu, hut, hz2])
      · cases hm
  · rename_i e
    rw [e] at hx
    obtain rfl := hx.inv_nilIface
    split at hm
    · rename_i hok
      subst hok
      simp only [Option.some.injEq, Prod.mk.injEq] at hm
      obtain ⟨rfl, rfl⟩ := hm
      refine .same (v' := .tuple #[z, .bool false]) hs ?_ (.tuple (.cons vz (.cons (.bool _) .nil)))
      cases d <;> first | exact absurd rfl (hd _) | (simp [Instr.typeAssert, run_und hu, hz2])
    · cases hm
  · cases hm

theorem firstL_len {sz n m : Nat} {x : Value} {vs vs' : List Value} {k : Nat} (h : firstL σ sz n x = some vs) (hl : lenL x = some m) (hn : n ≤ m) (hv : VRs μ k vs vs') : vs'.length = n * sz := by
  rw [hv.length]
  unfold firstL at h
  split at h
  · unfold H.row at h
    split at h <;> first | (cases h; done) | skip
    all_goals exact (rowL_eq _ _ _ _ h).1
  · simp only [Option.some.injEq] at h; subst h
    simp only [lenL, Option.some.injEq] at hl
    have : n = 0 := by omega
    simp [this]
  · rename_i s
    split at h
    · rename_i h1
      simp only [Option.some.injEq] at h; subst h
      simp only [lenL, Option.some.injEq] at hl
      have : (s.extract 0 n).data.size = n := by
        show (s.extract 0 n).size = n
        rw [ByteArray.size_extract]; omega
      simp [bytesL, h1]
      omega
    · cases h
  · cases h
theorem splA_get : ∀ (vs : List Value) (c : Array Value) (k i : Nat), k + vs.length ≤ c.size → (splA c k vs)[i]? = if k ≤ i ∧ i < k + vs.length then vs[i - k]? else c[i]?
  | [], c, k, i, h => by simp only [splA, List.length_nil]; rw [if_neg (by omega)]
  | v :: vs, c, k, i, h => by
    simp only [List.length_cons] at h
    simp only [splA, List.length_cons]
    rw [splA_get vs _ (k + 1) i (by simp; omega)]
    by_cases h1 : k + 1 ≤ i ∧ i < k + 1 + vs.length
    · rw [if_pos h1, if_pos (by omega), show i - k = (i - (k + 1)) + 1 by omega, List.getElem?_cons_succ]
    · rw [if_neg h1, Array.getElem?_setIfInBounds]
      by_cases h2 : k = i
      · subst h2; rw [if_pos rfl, if_pos (by omega), if_pos (by omega)]; simp
      · rw [if_neg h2, if_neg (by omega)]
theorem Sim.kill (h : Sim B w0 μ σ w) (k : Nat) : Sim B w0 μ (σ.set k .dead) w := by
  have live : ∀ {i o}, (σ.set k .dead).get i = o → o ≠ .dead → σ.get i = o := by
    intro i o hi ho
    by_cases e : i = k
    · subst e
      rcases Nat.lt_or_ge i σ.size with x | x
      · rw [H.get_set_self x] at hi; exact absurd hi.symm ho
      · rw [(σ.set i .dead).wf i (by simpa using x)] at hi; exact absurd hi.symm ho
    · rwa [H.get_set_ne e] at hi
  refine ⟨h.below, h.base, h.fx, h.wh, h.fin, fun i sz cs hc => ?_, fun i cs hc => ?_, fun i es c hc => ?_, fun i R hc => ?_, fun i T cs hc => ?_, fun i j hi hj hr hne => ?_⟩
  · simpa using h.own i sz cs (live hc (by simp))
  · simpa using h.ro i cs (live hc (by simp))
  · simpa using h.map i es c (live hc (by simp))
  · simpa using h.oth i R (live hc (by simp))
  · simpa using h.typ i T cs (live hc (by simp))
  · have ei := live rfl hi
    have ej := live rfl hj
    exact h.inj i j (by rw [ei]; exact hi) (by rw [ej]; exact hj) (fun cs => by rw [ei]; exact hr cs) hne
theorem firstL_zero {sz : Nat} {x : Value} {vs : List Value} (h : firstL σ sz 0 x = some vs) : vs = [] := by
  unfold firstL at h
  split at h
  · simp only [Nat.zero_mul] at h
    unfold H.row at h
    split at h <;> first | (cases h; done) | skip
    all_goals (simp [rowL] at h; exact h)
  · simpa using h.symm
  · split at h
    · simp only [Option.some.injEq] at h; subst h; simp [bytesL]
    · cases h
  · cases h
theorem run_first0 {n m sz : Nat} {x x' : Value} (hx : VR μ n x x') (h : lenL x = some m) (w : World) : (Builtin.firstCells sz 0 x').run P w = .ok #[] w := by
  unfold lenL at h
  split at h
  · rename_i a l c
    cases a with
    | none => obtain ⟨rfl, rfl, _⟩ := hx.inv_nilSlice; rfl
    | some a => obtain ⟨_, _, rfl, _⟩ := hx.inv_slice; simp only [Builtin.firstCells, Nat.zero_mul]; rfl
  · obtain rfl := hx.inv_string
    simp only [Builtin.firstCells, Sem.run_pure]
    congr 1
    apply Array.toList_inj.1
    simp
  · cases h
theorem told_cpy (hs : Sim B w0 μ σ w) {x y : Opd} {x' y' : Value} {t e ty : TypeId} {n : Nat} {ats : Array TypeId} (ht : ats[0]? = some t) (hu : P.underlying t = some (.slice e)) (hn : sizeT P e = some n)
    (hx : VR μ σ.size (mev ts x) x') (hy : VR μ σ.size (mev ts y) y') (hm : mop ts σ (.cpy n x y) = some (v, τ)) :
    Told P B w0 μ σ τ v (do pure (.value (← Builtin.copy_ ats ty #[x', y']))) w := by
  have a0 : (#[x', y'] : Array Value)[0]? = some x' := rfl
  have a1 : (#[x', y'] : Array Value)[1]? = some y' := rfl
  simp only [mop] at hm
  split at hm
  · rename_i q e1 e2
    rw [e1] at hx
    obtain ⟨rfl, _, _⟩ := hx.inv_nilSlice
    simp only [Option.some.injEq, Prod.mk.injEq] at hm
    obtain ⟨rfl, rfl⟩ := hm
    have hl := lenL_sound (P := P) hy e2 w
    have hf := run_first0 (P := P) (sz := n) hy e2 w
    refine .same (v' := .int .i64 0) hs ?_ (.int _ _)
    simp only [Builtin.copy_, ht, a0, a1, Sem.run_bind, run_und hu, Result.andThen_ok, hl, run_size hn, Nat.min_zero, hf, goInt]
    simp [hf]
  · rename_i id off len cap q e1 e2
    rw [e1] at hx
    obtain ⟨cap', o', rfl, _, hid, hlc, hc, ho, hz, hex⟩ := hx.inv_slice
    dsimp only at hid ho hz hex
    have hl := lenL_sound (P := P) hy e2 w
    split at hm
    · rename_i vs hf
      cases hp : putRow σ id off vs with
      | none => rw [hp] at hm; cases hm
      | some τ' =>
        rw [hp] at hm
        simp only [Option.map_some, Option.some.injEq, Prod.mk.injEq] at hm
        obtain ⟨rfl, rfl⟩ := hm
        obtain ⟨vs', h1, h2⟩ := run_first (P := P) hs hf e2 (Nat.min_le_left _ _) hy
        obtain ⟨w', h3, h4, h5⟩ := hs.putRow (P := P) h2 hp
        have hst : (storeCells ⟨(μ id).b, o', none⟩ vs').run P w = .ok () w' := by
          rcases Nat.eq_zero_or_pos cap with e | e
          · have : Nat.min q len = 0 := (show min q len = 0 by omega)
            rw [this] at hf
            have hv := firstL_zero hf
            subst hv
            cases h2
            have : (storeCells ⟨(μ id).b, (μ id).o + off, none⟩ []).run P w = .ok () w := rfl
            rw [this] at h3
            cases h3
            rfl
          · rw [ho e]; exact h3
        refine ⟨.int .i64 (Nat.min q len : Nat), w', μ, .inl ?_, h4, .int _ _, .refl _ _, Nat.le_of_eq h5.symm⟩
        simp only [Builtin.copy_, ht, a0, a1, Sem.run_bind, run_und hu, Result.andThen_ok, hl, run_size hn, h1, goInt]
        simp [hst]
    · cases hm
  · cases hm

theorem told_clr (hs : Sim B w0 μ σ w) {x : Opd} {x' : Value} {t e ty : TypeId} {zs : List Value} {ats : Array TypeId} (ht : ats[0]? = some t) (hu : P.underlying t = some (.slice e)) (hz : zeroL P e = some zs) (h0 : zs.length ≠ 0)
    (hx : VR μ σ.size (mev ts x) x') (hm : mop ts σ (.clr zs x) = some (v, τ)) :
    Told P B w0 μ σ τ v (do pure (.value (← Builtin.clear_ ats ty #[x']))) w := by
  obtain ⟨i', z, hi', hz1, hz2, hz3, hz4, hz5⟩ := zeroL_spec hz
  have a0 : (#[x'] : Array Value)[0]? = some x' := rfl
  simp only [mop] at hm
  split at hm
  · rename_i e1
    rw [e1] at hx
    obtain ⟨rfl, _, _⟩ := hx.inv_nilSlice
    simp only [Option.some.injEq, Prod.mk.injEq] at hm
    obtain ⟨rfl, rfl⟩ := hm
    refine .same (v' := undef) hs ?_ (.tuple .nil)
    simp only [Builtin.clear_, ht, a0, Sem.run_bind, run_und hu, Result.andThen_ok, Sem.run_pure]
    rfl
  · rename_i id off len cap e1
    rw [e1] at hx
    obtain ⟨cap', o', rfl, _, hid, hlc, hc, ho, hzz, hex⟩ := hx.inv_slice
    dsimp only at hid ho hzz hex
    split at hm
    · rename_i hl0
      subst hl0
      simp only [Option.some.injEq, Prod.mk.injEq] at hm
      obtain ⟨rfl, rfl⟩ := hm
      refine .same (v' := undef) hs ?_ (.tuple .nil)
      simp only [Builtin.clear_, ht, a0, Sem.run_bind, run_und hu, Result.andThen_ok, Sem.run_pure]
      rfl
    · rename_i hl0
      cases hp : putRow σ id off (repZ zs len) with
      | none => rw [hp] at hm; cases hm
      | some τ' =>
        rw [hp] at hm
        simp only [Option.map_some, Option.some.injEq, Prod.mk.injEq] at hm
        obtain ⟨rfl, rfl⟩ := hm
        obtain ⟨w', h3, h4, h5⟩ := hs.putRow (P := P) (VRs.of_plain (repZ_plain hz3 len)) hp
        rw [← ho (by omega)] at h3
        have hzc : (Builtin.zeroCells z.cells len).toList = repZ zs len := by rw [zeroCells_eq hz2 len h0]
        refine ⟨undef, w', μ, .inl ?_, h4, .tuple .nil, .refl _ _, Nat.le_of_eq h5.symm⟩
        obtain ⟨m, rfl⟩ : ∃ m, len = m + 1 := ⟨len - 1, by omega⟩
        simp only [Builtin.clear_, ht, a0, Sem.run_bind, run_und hu, Result.andThen_ok, hz5, hzc, h3, Sem.run_pure]
        rfl
  · cases hm

section appends
variable {t e t2 ty : TypeId} {d2 : TypeDesc} {i : TypeInfo} {z : Value} {ats : Array TypeId}
theorem append_in (ht : ats[0]? = some t) (ht2 : ats[1]? = some t2) (hu : P.underlying t = some (.slice e)) (hu2 : P.underlying t2 = some d2) (hd2 : ∀ k, d2 ≠ .int k) (hi : P.info? e = some i)
    {a : Addr} {len cap n : Nat} {y' : Value} {w' : World} {vs' : List Value} (hl : (Builtin.lenOf y').run P w = .ok n w) (hc : len + n ≤ cap) (hf : (Builtin.firstCells i.size n y').run P w = .ok vs'.toArray w)
    (hst : (storeCells (a.add (len * i.size)) vs').run P w = .ok () w') : (Builtin.append_ ats ty #[.slice (some a) len cap, y']).run P w = .ok (.slice (some a) (len + n) cap) w' := by
  have a0 : (#[.slice (some a) len cap, y'] : Array Value)[0]? = some (.slice (some a) len cap) := rfl
  have a1 : (#[.slice (some a) len cap, y'] : Array Value)[1]? = some y' := rfl
  have hn : ∀ w, (sizeOf e).run P w = .ok i.size w := run_size (by simp [sizeT, hi])
  cases d2 <;> first | exact absurd rfl (hd2 _) | skip
  all_goals
    simp only [Builtin.append_, ht, a0, a1, ht2, Sem.run_bind, run_und hu, run_und hu2, Result.andThen_ok, hn, Sem.run_pure, Bool.false_eq_true, if_false, Bool.not_false, if_true, hl, hc, hf, hst]
theorem append_nil (ht : ats[0]? = some t) (ht2 : ats[1]? = some t2) (hu : P.underlying t = some (.slice e)) (hu2 : P.underlying t2 = some d2) (hd2 : ∀ k, d2 ≠ .int k) (hi : P.info? e = some i)
    {y' : Value} {vs' : Array Value} (hl : (Builtin.lenOf y').run P w = .ok 0 w) (hf : (Builtin.firstCells i.size 0 y').run P w = .ok vs' w) :
    (Builtin.append_ ats ty #[.slice none 0 0, y']).run P w = .ok (.slice none 0 0) w := by
  have a0 : (#[.slice none 0 0, y'] : Array Value)[0]? = some (.slice none 0 0) := rfl
  have a1 : (#[.slice none 0 0, y'] : Array Value)[1]? = some y' := rfl
  have hn : ∀ w, (sizeOf e).run P w = .ok i.size w := run_size (by simp [sizeT, hi])
  cases d2 <;> first | exact absurd rfl (hd2 _) | skip
  all_goals
    simp only [Builtin.append_, ht, a0, a1, ht2, Sem.run_bind, run_und hu, run_und hu2, Result.andThen_ok, hn, Sem.run_pure, Bool.false_eq_true, if_false, Bool.not_false, if_true, hl, hf, Nat.add_zero, Nat.le_refl]
theorem append_grow (ht : ats[0]? = some t) (ht2 : ats[1]? = some t2) (hu : P.underlying t = some (.slice e)) (hu2 : P.underlying t2 = some d2) (hd2 : ∀ k, d2 ≠ .int k) (hi : P.info? e = some i)
    (hb0 : i.bytes ≠ 0) (hb : i.bytes ≤ 128) (hz5 : ∀ w, (zeroValue e).run P w = .ok z w)
    {base : Option Addr} {len cap n : Nat} {y' : Value} {old new : List Value} (hl : (Builtin.lenOf y').run P w = .ok n w) (hc : ¬ len + n ≤ cap) (hmax : len + n ≤ appMax)
    (ho : (Builtin.firstCells i.size len (.slice base len cap)).run P { w with drawn := w.drawn + 1 } = .ok old.toArray { w with drawn := w.drawn + 1 })
    (hf : (Builtin.firstCells i.size n y').run P { w with drawn := w.drawn + 1 } = .ok new.toArray { w with drawn := w.drawn + 1 }) :
    (Builtin.append_ ats ty #[.slice base len cap, y']).run P w = .ok (.slice (some ⟨w.heap.size, 0, none⟩) (len + n) (capOf w (len + n) cap e))
      { w with drawn := w.drawn + 1, heap := w.heap.push (.cells (old.toArray ++ new.toArray ++ Builtin.zeroCells z.cells (capOf w (len + n) cap e - (len + n))) e (0, 0)) } := by
  have a0 : (#[.slice base len cap, y'] : Array Value)[0]? = some (.slice base len cap) := rfl
  have a1 : (#[.slice base len cap, y'] : Array Value)[1]? = some y' := rfl
  have hn : ∀ w, (sizeOf e).run P w = .ok i.size w := run_size (by simp [sizeT, hi])
  have hov : ¬ (Builtin.nextslicecap (len + n) cap * i.bytes > 2 ^ 48) := by
    have h1 := nextcap_le (need := len + n) (old := cap) (by omega)
    have h2 : Builtin.nextslicecap (len + n) cap * i.bytes ≤ (2 * (len + n) + 192) * 128 := Nat.mul_le_mul h1 hb
    unfold appMax at hmax
    omega
  have hin : ¬ (((len + n : Nat) : Int) > IntKind.i64.max ∧ (False ∨ i.bytes = 0)) := by
    intro h; rcases h.2 with h | h
    · exact h
    · exact hb0 h
  cases d2 <;> first | exact absurd rfl (hd2 _) | skip
  all_goals
    simp only [Builtin.append_, ht, a0, a1, ht2, Sem.run_bind, run_und hu, run_und hu2, Result.andThen_ok, hn, Sem.run_pure, Bool.false_eq_true, if_false, Bool.not_false, if_true, hl, hc, run_info hi, hin, hov,
      run_cap, run_askRoom, ho, hf, hz5, Go.newRow, run_newObj]
end appends

/-- The old object dies, a new one stands for its block's (or another block's) cells. -/
theorem told_app (hs : Sim B w0 μ σ w) {x y : Opd} {x' y' : Value} {t e t2 ty : TypeId} {d2 : TypeDesc} {i : TypeInfo} {zs : List Value} {ats : Array TypeId} (ht : ats[0]? = some t) (ht2 : ats[1]? = some t2)
    (hu : P.underlying t = some (.slice e)) (hu2 : P.underlying t2 = some d2) (hd2 : ∀ k, d2 ≠ .int k) (hi : P.info? e = some i) (hb0 : i.bytes ≠ 0) (hs0 : i.size ≠ 0) (hz : zeroL P e = some zs)
    (hx : VR μ σ.size (mev ts x) x') (hy : VR μ σ.size (mev ts y) y') (hm : mop ts σ (.app i.size i.bytes x y) = some (v, τ)) :
    Told P B w0 μ σ τ v (do pure (.value (← Builtin.append_ ats ty #[x', y']))) w := by
  obtain ⟨i', z, hi', hz1, hz2, hz3, hz4, hz5⟩ := zeroL_spec hz
  rw [hi] at hi'
  cases hi'
  have a0 : (#[x', y'] : Array Value)[0]? = some x' := rfl
  have a1 : (#[x', y'] : Array Value)[1]? = some y' := rfl
  have hn : sizeT P e = some i.size := by simp [sizeT, hi]
  have hnot : (match d2 with | .int _ => true | _ => false) = false := by cases d2 <;> first | rfl | exact absurd rfl (hd2 _)
  have hzc : ∀ k, Builtin.zeroCells z.cells k = (repZ zs k).toArray := fun k => zeroCells_eq hz2 k (by omega)
  simp only [mop] at hm
  split at hm
  · rename_i n e1 e2
    rw [e1] at hx
    obtain ⟨rfl, _, _⟩ := hx.inv_nilSlice
    have hl := lenL_sound (P := P) hy e2 w
    split at hm
    · rename_i hn0
      subst hn0
      simp only [Option.some.injEq, Prod.mk.injEq] at hm
      obtain ⟨rfl, rfl⟩ := hm
      exact .same hs (by rw [Sem.run_bind, append_nil ht ht2 hu hu2 hd2 hi hl (run_first0 hy e2 w)]; rfl) .nilSlice
    · rename_i hn0
      split at hm
      · rename_i hb
        split at hm
        · rename_i vs hf
          simp only [Option.some.injEq, Prod.mk.injEq] at hm
          obtain ⟨rfl, rfl⟩ := hm
          have hs1 : Sim B w0 μ σ { w with drawn := w.drawn + 1 } := hs.drewN 1
          obtain ⟨vs', h1, h2⟩ := run_first (P := P) hs1 hf e2 (Nat.le_refl _) hy
          have hrun := append_grow (P := P) (w := w) (ty := ty) (base := none) (len := 0) (cap := 0) (old := []) ht ht2 hu hu2 hd2 hi hb0 hb.2 hz5 hl (by omega) (by rw [Nat.zero_add]; exact hb.1) (by rfl) h1
          rw [Nat.zero_add] at hrun
          have hle : n ≤ capOf w n 0 e := Nat.le_add_right _ _
          generalize capOf w n 0 e = cap at hrun hle
          rw [hzc] at hrun
          have hcells : (([] : List Value).toArray ++ vs'.toArray ++ (repZ zs (cap - n)).toArray) = (vs' ++ repZ zs (cap - n)).toArray := by apply Array.toList_inj.1; simp
          rw [hcells] at hrun
          have hsim := hs1.newRow (sz := i.size) (more := repZ zs (cap - n)) h2 e (fz := (0, 0)) (unfrozen0 _)
          have hlen : vs'.length = n * i.size := firstL_len hf e2 (Nat.le_refl _) h2
          refine ⟨_, _, _, .inl (by rw [Sem.run_bind, hrun]; rfl), hsim, setMu_slice μ σ.size _ (Nat.le_refl _) hle (fun _ => ?_) (fun hh => ?_), .setMu _ _, by simp⟩
          · simp only [hlen, repZ_length, hz4]
            rw [← Nat.add_mul]
            have : n + (cap - n) = cap := by omega
            rw [this]; omega
          · simp at hh; omega
        · cases hm
      · cases hm
  · rename_i id off len cap n e1 e2
    rw [e1] at hx
    obtain ⟨cap', o', rfl, _, hid, hlc, hc, ho, hz, hex⟩ := hx.inv_slice
    dsimp only at hid ho hz hex
    have hl := lenL_sound (P := P) hy e2 w
    split at hm
    · rename_i hin
      split at hm
      · rename_i vs hf
        cases hp : putRow σ id (off + len * i.size) vs with
        | none => rw [hp] at hm; cases hm
        | some τ' =>
          rw [hp] at hm
          simp only [Option.map_some, Option.some.injEq, Prod.mk.injEq] at hm
          obtain ⟨rfl, rfl⟩ := hm
          obtain ⟨vs', h1, h2⟩ := run_first (P := P) hs hf e2 (Nat.le_refl _) hy
          obtain ⟨w', h3, h4, h5⟩ := hs.putRow (P := P) h2 hp
          have hst : (storeCells ((⟨(μ id).b, o', none⟩ : Addr).add (len * i.size)) vs').run P w = .ok () w' := by
            rcases Nat.eq_zero_or_pos cap with e | e
            · have : n = 0 := by omega
              rw [this] at hf
              have hv := firstL_zero hf
              subst hv
              cases h2
              have : (storeCells ⟨(μ id).b, (μ id).o + (off + len * i.size), none⟩ []).run P w = .ok () w := rfl
              rw [this] at h3
              cases h3
              rfl
            · rw [ho e, addr_add, Nat.add_assoc]; exact h3
          refine ⟨_, w', μ, .inl (by rw [Sem.run_bind, append_in ht ht2 hu hu2 hd2 hi hl (by omega) h1 hst]; rfl), h4, ?_, .refl _ _, Nat.le_of_eq h5.symm⟩
          rw [h5]
          exact .slice hid hin hc ho hz hex
      · cases hm
    · rename_i hin
      split at hm
      · rename_i hb
        split at hm
        · rename_i s cs old vs hg hrow' hf
          split at hm
          · rename_i hone
            simp only [Option.some.injEq, Prod.mk.injEq] at hm
            obtain ⟨rfl, rfl⟩ := hm
            have hsz := (hs.own id s cs hg).1
            have hlold : lenL (mev ts x) = some len := by rw [e1]; rfl
            have hfold : firstL σ i.size len (mev ts x) = some old := by rw [e1]; exact hrow'
            have hx0 : VR μ σ.size (mev ts x) (.slice (some ⟨(μ id).b, o', none⟩) len cap') := by rw [e1]; exact .slice hid hlc hc ho hz hex
            have hlt := H.lt_of_cells hg
            by_cases hreal : len + n ≤ cap'
            · -- the model writes in place
              have hsne : s = i.size := by
                rcases hone.2 with h | h
                · exact h
                · have := hex (hsz.2.2 h); omega
              subst hsne
              obtain ⟨vs', h1, h2⟩ := run_first (P := P) hs hf e2 (Nat.le_refl _) hy
              have hvl : vs'.length = n * i.size := firstL_len hf e2 (Nat.le_refl _) h2
              obtain ⟨_, cs', t', fz, g1, ⟨g2, g3⟩, g4⟩ := hs.own id i.size cs hg
              have hroom : o' + len * i.size + vs'.length ≤ cs'.size := by
                have := hz (by rw [hsz.2.1]; exact hs0)
                rw [hsz.2.1, ← g3] at this
                have h4 : (len + n) * i.size ≤ cap' * i.size := Nat.mul_le_mul_right _ hreal
                rw [Nat.add_mul] at h4
                omega
              have hvone : vs'.all one = true := by
                rw [h2.one_all]
                have := hone.1
                rw [List.all_append, Bool.and_eq_true] at this
                exact this.2
              have hst := run_storeRow P (μ id).b o' t' fz vs' (len * i.size) cs' w g1 g2 hroom hvone
              have hst' : (storeCells ((⟨(μ id).b, o', none⟩ : Addr).add (len * i.size)) vs').run P w = .ok () { w with heap := w.heap.setIfInBounds (μ id).b (.cells (splA cs' (o' + len * i.size) vs') t' fz) } := by
                have := run_storeRow P (μ id).b (o' + len * i.size) t' fz vs' 0 cs' w g1 g2 (by omega) hvone
                rw [addr_add]; exact this
              have hsim1 := hs.setOwn (o := .dead) hg (w' := { w with heap := w.heap.setIfInBounds (μ id).b (.cells (splA cs' (o' + len * i.size) vs') t' fz) }) rfl
                ⟨fun j hj => g2 j (by simpa [splA_size] using hj), by rw [splA_size]; exact g3⟩ (.inr rfl)
              have hin2 : (μ id).b < w.heap.size := hs.fin id hlt
              have hsim2 := hsim1.push' (sz := i.size) (cs := old ++ vs) (cs' := splA cs' (o' + len * i.size) vs') (t := t') (fz := fz) (p := ⟨(μ id).b, o', i.size, (μ id).n, false⟩) hsz.1 (by simpa using hin2) rfl
                (fun h => absurd h hs0) (by simp [Array.getElem?_setIfInBounds, hin2]) ⟨fun j hj => g2 j (by simpa [splA_size] using hj), by rw [splA_size]; exact g3⟩
                (fun j u hu => by
                  have hol : old.length = len * i.size := by
                    have hro := hrow'
                    unfold H.row at hro
                    rw [hg] at hro
                    exact (rowL_eq _ _ _ _ hro).1
                  simp only [H.size_set]
                  by_cases hj : j < old.length
                  · rw [List.getElem?_append_left hj] at hu
                    have hpos : 0 < len := by
                      rcases Nat.eq_zero_or_pos len with e | e
                      · rw [e] at hol; omega
                      · exact e
                    have ho2 := ho (by omega)
                    have hro := hrow'
                    unfold H.row at hro
                    rw [hg] at hro
                    have hge := (rowL_eq _ _ _ _ hro).2 j (by omega)
                    rw [hge] at hu
                    obtain ⟨u', k1, k2⟩ := g4 _ _ hu
                    refine ⟨u', ?_, k2⟩
                    rw [splA_get _ _ _ _ hroom, if_neg (by omega), ho2, Nat.add_assoc]
                    exact k1
                  · rw [List.getElem?_append_right (by omega)] at hu
                    obtain ⟨u', k1, k2⟩ := h2.get hu
                    refine ⟨u', ?_, k2⟩
                    have hju : j - old.length < vs'.length := by
                      rcases Nat.lt_or_ge (j - old.length) vs'.length with x | x
                      · exact x
                      · rw [List.getElem?_eq_none x] at k1; cases k1
                    show (splA cs' (o' + len * i.size) vs')[o' + j]? = some u'
                    rw [splA_get _ _ _ _ hroom, if_pos (by omega), show o' + j - (o' + len * i.size) = j - old.length by omega]
                    exact k1)
                (fun k hk => by
                  have hki : k ≠ id := fun e => by subst e; rw [H.get_set_self hlt] at hk; exact hk rfl
                  rw [H.get_set_ne hki] at hk
                  exact Ne.symm (hs.inj id k (by rw [hg]; simp) hk (fun cs => by rw [hg]; simp) (Ne.symm hki)))
              have hrun := append_in (P := P) (ty := ty) ht ht2 hu hu2 hd2 hi hl hreal h1 hst'
              have hvr := setMu_slice μ σ.size ⟨(μ id).b, o', i.size, (μ id).n, false⟩ (len := len + n) (cap := len + n) (cap' := cap') (Nat.le_refl _) hreal
                (fun _ => by have := hz (by rw [hsz.2.1]; exact hs0); rw [hsz.2.1] at this; exact this) (by simp)
              refine ⟨_, _, _, .inl (by rw [Sem.run_bind, hrun]; rfl), hsim2, ?_, ?_, by simp⟩
              · simpa using hvr
              · simpa using Agr.setMu μ (n := σ.size) ⟨(μ id).b, o', i.size, (μ id).n, false⟩
            · have hs1 : Sim B w0 μ σ { w with drawn := w.drawn + 1 } := hs.drewN 1
              obtain ⟨vs', h1, h2⟩ := run_first (P := P) hs1 hf e2 (Nat.le_refl _) hy
              obtain ⟨old', h3, h4⟩ := run_first (P := P) hs1 hfold hlold (Nat.le_refl _) hx0
              have hrun := append_grow (P := P) (w := w) (ty := ty) ht ht2 hu hu2 hd2 hi hb0 hb.2 hz5 hl hreal hb.1 h3 h1
              have hle : len + n ≤ capOf w (len + n) cap' e := Nat.le_add_right _ _
              generalize capOf w (len + n) cap' e = c2 at hrun hle
              rw [hzc] at hrun
              have hcells : (old'.toArray ++ vs'.toArray ++ (repZ zs (c2 - (len + n))).toArray) = ((old' ++ vs') ++ repZ zs (c2 - (len + n))).toArray := by apply Array.toList_inj.1; simp
              rw [hcells] at hrun
              have hsim := (hs1.kill id).newRow (sz := i.size) (cs := old ++ vs) (more := repZ zs (c2 - (len + n))) (by simpa using h4.append h2) e (fz := (0, 0)) (unfrozen0 _)
              have hlen1 : vs'.length = n * i.size := firstL_len hf e2 (Nat.le_refl _) h2
              have hlen2 : old'.length = len * i.size := firstL_len hfold hlold (Nat.le_refl _) h4
              have hvr := setMu_slice μ σ.size ⟨w.heap.size, 0, i.size, (old' ++ vs').length + (repZ zs (c2 - (len + n))).length, i.size == 0⟩ (len := len + n) (cap := len + n) (cap' := c2) (Nat.le_refl _) hle
                (fun _ => by
                  simp only [List.length_append, hlen1, hlen2, repZ_length, hz4]
                  rw [← Nat.add_mul, ← Nat.add_mul]
                  have : len + n + (c2 - (len + n)) = c2 := by omega
                  rw [this]; omega) (fun hh => by simp at hh; omega)
              refine ⟨_, _, _, .inl (by rw [Sem.run_bind, hrun]; rfl), hsim, ?_, ?_, by simp⟩
              · simpa using hvr
              · simpa using Agr.setMu μ (n := σ.size) _
          · cases hm
        · cases hm
      · cases hm
  · cases hm
end
end Go.Mini
/- The small operations tell what the model's do: maps; '==' of structs and arrays. -/
namespace Go.Mini
open Go.RowKit (Below)
set_option linter.unusedVariables false
set_option linter.unusedSimpArgs false
section
variable {P : Program} {B : Fz} {w0 w : World} {μ : Nat → Blk} {σ τ : H} {ts : Fr} {v : Value}

theorem EntriesR.mono {μ μ' : Nat → Blk} {n n' : Nat} (hn : n ≤ n') (hm : ∀ i, i < n → μ' i = μ i) {es : List (Value × Value)} {es' : Array MapEntry} (h : EntriesR μ n es es') : EntriesR μ' n' es es' :=
  ⟨h.1, fun j k v e => let ⟨e', a, b, c⟩ := h.2 j k v e; ⟨e', a, b.mono hn hm, c.mono hn hm⟩⟩

/-- A new map. -/
theorem Sim.pushMap (h : Sim B w0 μ σ w) : Sim B w0 (setMu μ σ.size ⟨w.heap.size, 0, 0, 0, true⟩) (σ.push (.map [] 0)) { w with heap := w.heap.push (.map #[] 0) } := by
  have hb : Below w.heap.size w { w with heap := w.heap.push (.map #[] 0) } :=
    ⟨rfl, rfl, rfl, by simp, fun k hk => by simp [Array.getElem?_push]; intro e; omega⟩
  have hag : Agr σ.size μ (setMu μ σ.size ⟨w.heap.size, 0, 0, 0, true⟩) := .setMu μ _
  have hs : σ.size ≤ (σ.push (.map [] 0)).size := by simp
  have h' := h.of_grown hb
  refine ⟨h'.below, h'.base, h'.fx, h'.wh, ?_, ?_, ?_, ?_, ?_, ?_, ?_⟩
  · intro i hi
    simp only [H.size_push] at hi
    by_cases e : i = σ.size
    · subst e; rw [setMu_self]; simp
    · rw [hag i (by omega)]; exact h'.fin i (by omega)
  · intro i s ds hd
    by_cases e : i = σ.size
    · subst e; rw [H.get_push_self] at hd; cases hd
    · rw [H.get_push_ne e] at hd
      have hi := H.lt_of_cells hd
      rw [hag i hi]
      obtain ⟨h1, ds', t', fz', h2, h3, h4⟩ := h'.own i s ds hd
      exact ⟨h1, ds', t', fz', h2, h3, h4.mono hs hag⟩
  · intro i ds hd
    by_cases e : i = σ.size
    · subst e; rw [H.get_push_self] at hd; cases hd
    · rw [H.get_push_ne e] at hd
      have hi := H.lt_of_live (σ := σ) (i := i) (by rw [hd]; simp)
      rw [hag i hi]
      obtain ⟨h0, ds', t', fz', h2, h4⟩ := h'.ro i ds hd
      exact ⟨h0, ds', t', fz', h2, h4.mono hs hag⟩
  · intro i es c hd
    by_cases e : i = σ.size
    · subst e
      rw [H.get_push_self] at hd
      cases hd
      rw [setMu_self]
      exact ⟨h.next, #[], by simp, rfl, fun j k v e => by simp at e⟩
    · rw [H.get_push_ne e] at hd
      have hi := H.lt_of_live (σ := σ) (i := i) (by rw [hd]; simp)
      rw [hag i hi]
      obtain ⟨h1, es', h2, h3⟩ := h'.map i es c hd
      exact ⟨h1, es', h2, h3.mono hs hag⟩
  · intro i R hd
    by_cases e : i = σ.size
    · subst e; rw [H.get_push_self] at hd; cases hd
    · rw [H.get_push_ne e] at hd
      have hi := H.lt_of_live (σ := σ) (i := i) (by rw [hd]; simp)
      rw [hag i hi]
      obtain ⟨h1, o, h2, h3⟩ := h'.oth i R hd
      exact ⟨h1, o, h2, R.mono hs hag h3⟩
  · intro i T ds hd
    by_cases e : i = σ.size
    · subst e; rw [H.get_push_self] at hd; cases hd
    · rw [H.get_push_ne e] at hd
      have hi := H.lt_of_live (σ := σ) (i := i) (by rw [hd]; simp)
      rw [hag i hi]
      obtain ⟨h1, h0, ds', h2, h3, h4⟩ := h'.typ i T ds hd
      exact ⟨h1, h0, ds', h2, h3, h4.mono hs hag⟩
  · intro i j hi hj hr hne
    by_cases ei : i = σ.size
    · subst ei
      have ej : j ≠ σ.size := fun e => hne e.symm
      rw [H.get_push_ne ej] at hj
      have hj' := H.lt_of_live hj
      rw [setMu_self, hag j hj']
      have := h.fin j hj'
      show w.heap.size ≠ _
      omega
    · rw [H.get_push_ne ei] at hi
      have hi' := H.lt_of_live hi
      by_cases ej : j = σ.size
      · subst ej
        rw [setMu_self, hag i hi']
        have := h.fin i hi'
        show _ ≠ w.heap.size
        omega
      · rw [H.get_push_ne ej] at hj
        rw [hag i hi', hag j (H.lt_of_live hj)]
        exact h.inj i j hi hj (fun cs => by have := hr cs; rwa [H.get_push_ne ei] at this) hne

/-- A map of the call's own is written. -/
theorem Sim.setMap {k c c2 : Nat} {es es2 : List (Value × Value)} {es2' : Array MapEntry} (h : Sim B w0 μ σ w) (hk : σ.get k = .map es c) (he : EntriesR μ σ.size es2 es2') :
    Sim B w0 μ (σ.set k (.map es2 c2)) { w with heap := w.heap.setIfInBounds (μ k).b (.map es2' c2) } := by
  have hlt := H.lt_of_live (σ := σ) (i := k) (by rw [hk]; simp)
  obtain ⟨hB, _, hold, _⟩ := h.map k es c hk
  have hin : (μ k).b < w.heap.size := h.fin k hlt
  have other : ∀ b, b ≠ (μ k).b → ({ w with heap := w.heap.setIfInBounds (μ k).b (.map es2' c2) } : World).heap[b]? = w.heap[b]? := fun b hb => by
    simp [Array.getElem?_setIfInBounds, Ne.symm hb]
  have same : ({ w with heap := w.heap.setIfInBounds (μ k).b (.map es2' c2) } : World).heap[(μ k).b]? = some (.map es2' c2) := by simp [Array.getElem?_setIfInBounds, hin]
  have apart : ∀ i, i ≠ k → σ.get i ≠ .dead → (μ i).b ≠ (μ k).b := fun i hi hd => Ne.symm (h.inj k i (by rw [hk]; simp) hd (fun cs => by rw [hk]; simp) (Ne.symm hi))
  refine ⟨h.below.trans ⟨rfl, rfl, rfl, by simp, fun b hb => other b (by have := hB.1; omega)⟩, by simpa using h.base, fun k' o e => by rw [other k' (fun e2 => by have := hB.2; rw [← e2, e] at this; cases this)]; exact h.fx k' o e, h.wh, by simpa using h.fin, ?_, ?_, ?_, ?_, ?_, ?_⟩
  · intro i s ds hd
    by_cases e : i = k
    · subst e; rw [H.get_set_self hlt] at hd; cases hd
    · rw [H.get_set_ne e] at hd
      obtain ⟨h1, ds', t', fz', h2, h3, h4⟩ := h.own i s ds hd
      exact ⟨h1, ds', t', fz', by rw [other _ (apart i e (by rw [hd]; simp))]; exact h2, h3, by simpa using h4⟩
  · intro i ds hd
    by_cases e : i = k
    · subst e; rw [H.get_set_self hlt] at hd; cases hd
    · rw [H.get_set_ne e] at hd
      obtain ⟨h0, ds', t', fz', h2, h4⟩ := h.ro i ds hd
      exact ⟨h0, ds', t', fz', by rw [other _ (apart i e (by rw [hd]; simp))]; exact h2, by simpa using h4⟩
  · intro i es3 c3 hd
    by_cases e : i = k
    · subst e
      rw [H.get_set_self hlt] at hd
      cases hd
      exact ⟨hB, es2', same, by simpa using he⟩
    · rw [H.get_set_ne e] at hd
      obtain ⟨h1, es', h2, h3⟩ := h.map i es3 c3 hd
      exact ⟨h1, es', by rw [other _ (apart i e (by rw [hd]; simp))]; exact h2, by simpa using h3⟩
  · intro i R hd
    by_cases e : i = k
    · subst e; rw [H.get_set_self hlt] at hd; cases hd
    · rw [H.get_set_ne e] at hd
      obtain ⟨h1, o, h2, h3⟩ := h.oth i R hd
      exact ⟨h1, o, by rw [other _ (apart i e (by rw [hd]; simp))]; exact h2, by simpa using h3⟩
  · intro i T ds hd
    by_cases e : i = k
    · subst e; rw [H.get_set_self hlt] at hd
      cases hd
    · rw [H.get_set_ne e] at hd
      obtain ⟨h1, h0, ds', h2, h3, h4⟩ := h.typ i T ds hd
      exact ⟨h1, h0, ds', by rw [other _ (apart i e (by rw [hd]; simp))]; exact h2, h3, by simpa using h4⟩
  · intro i j hi hj hr hne
    have live : ∀ x, (σ.set k (.map es2 c2)).get x ≠ .dead → σ.get x ≠ .dead := fun x hx => by
      by_cases e : x = k
      · subst e; rw [hk]; simp
      · rwa [H.get_set_ne e] at hx
    refine h.inj i j (live i hi) (live j hj) (fun ds => ?_) hne
    by_cases e : i = k
    · subst e; rw [hk]; simp
    · have := hr ds; rwa [H.get_set_ne e] at this

theorem bytes_eq {a b : ByteArray} (h : (a == b) = true) : a = b := by
  rw [beq_toListBytes] at h
  have h' := eq_of_beq h
  rw [ByteArray.toList_eq, ByteArray.toList_eq] at h'
  obtain ⟨⟨a⟩⟩ := a
  obtain ⟨⟨b⟩⟩ := b
  simp at h'
  rw [h']
theorem bytes_refl (a : ByteArray) : (a == a) = true := by rw [beq_toListBytes]; simp
def KeyT : TypeDesc → Prop
  | .int _ | .string | .bool => True
  | _ => False
theorem keyEq_plain {a b : Value} {r : Bool} (h : keyEq a b = some r) : plain a = true ∧ plain b = true := by
  unfold keyEq at h
  split at h <;> first | exact ⟨rfl, rfl⟩ | cases h
/-- Which keys a type's map takes. -/
def keyIs : TypeDesc → Value → Bool
  | .int _, .int _ _ => true
  | .string, .string _ => true
  | .bool, .bool _ => true
  | _, _ => false
theorem sameNow_of {d : TypeDesc} {a b : Value} {r : Bool} (h : keyEq a b = some r) (hd : keyIs d a = true) : Instr.sameNow d a b = some r := by
  unfold keyEq at h
  split at h
  · split at h
    · rename_i hk
      simp only [Option.some.injEq] at h
      cases d <;> simp [keyIs] at hd
      simp [Instr.sameNow, hk, h]
    · cases h
  · cases d <;> simp [keyIs] at hd
    simpa [Instr.sameNow] using h
  · cases d <;> simp [keyIs] at hd
    simpa [Instr.sameNow] using h
  · cases h
theorem lookL_sound {n : Nat} {d : TypeDesc} {k : Value} (hd : keyIs d k = true) : ∀ {es : List (Value × Value)} {es' : List MapEntry} {i : Nat} {r : Option (Nat × Value)}, lookL k es i = some r →
    es'.length = es.length → (∀ (j : Nat) (a b : Value), es[j]? = some (a, b) → ∃ e' : MapEntry, es'[j]? = some e' ∧ VR μ n a e'.key ∧ VR μ n b e'.val) →
    ∃ r', Instr.findNow d k es' i = some r' ∧ (match r, r' with
      | none, none => True
      | some (q, u), some (q', u') => q = q' ∧ VR μ n u u' ∧ i ≤ q ∧ q - i < es.length ∧ ∃ e', es'[q - i]? = some e' ∧ plain k = true ∧ e'.key = k
      | _, _ => False)
  | [], [], i, r, h, _, _ => by simp only [lookL, Option.some.injEq] at h; subst h; exact ⟨none, rfl, trivial⟩
  | [], _ :: _, _, _, _, h, _ => by simp at h
  | _ :: _, [], _, _, _, h, _ => by simp at h
  | (a, b) :: es, e' :: es', i, r, h, hl, hg => by
    obtain ⟨e0, h0, hka, hvb⟩ := hg 0 a b rfl
    simp only [List.getElem?_cons_zero, Option.some.injEq] at h0
    subst h0
    simp only [lookL] at h
    split at h
    · rename_i hk
      simp only [Option.some.injEq] at h
      subst h
      obtain ⟨hp1, hp2⟩ := keyEq_plain hk
      have hke : e'.key = a := hka.eq_of_plain hp2
      refine ⟨some (i, e'.val), ?_, rfl, hvb, Nat.le_refl _, by simp, e', by simp, hp1, ?_⟩
      · simp only [Instr.findNow, hke, sameNow_of hk hd]
      · rw [hke]
        unfold keyEq at hk
        split at hk
        · split at hk
          · rename_i hkk; simp only [Option.some.injEq, beq_iff_eq] at hk; rw [hkk, hk]
          · cases hk
        · simp only [Option.some.injEq] at hk; rw [bytes_eq hk]
        · simp only [Option.some.injEq, beq_iff_eq] at hk; rw [hk]
        · cases hk
    · rename_i hk
      obtain ⟨hp1, hp2⟩ := keyEq_plain hk
      have hke : e'.key = a := hka.eq_of_plain hp2
      obtain ⟨r', h1, h2⟩ := lookL_sound hd (es := es) (es' := es') h (by simpa using hl) (fun j x y hxy => by simpa using hg (j + 1) x y (by simpa using hxy))
      refine ⟨r', by simp only [Instr.findNow, hke, sameNow_of hk hd]; exact h1, ?_⟩
      cases r with
      | none => cases r' <;> first | trivial | exact h2
      | some q =>
        cases r' with
        | none => exact h2
        | some q' =>
          obtain ⟨q1, q2⟩ := q
          obtain ⟨q1', q2'⟩ := q'
          obtain ⟨a1, a2, a3, a4, e2, a5, a6, a7⟩ := h2
          refine ⟨a1, a2, by omega, by simp; omega, e2, ?_, a6, a7⟩
          rw [show q1 - i = (q1 - (i + 1)) + 1 by omega, List.getElem?_cons_succ]
          exact a5
    · cases h
theorem run_checkKey' {t : TypeId} {d : TypeDesc} (hu : P.underlying t = some d) {k : Value} (hd : keyIs d k = true) (b : Bool) (n : Nat) (w : World) : (Instr.checkKey b (n + 1) t k).run P w = .ok () w := by
  simp only [Instr.checkKey, Sem.run_bind, run_und hu, Result.andThen_ok]
  cases d <;> simp [keyIs] at hd <;> cases k <;> first | rfl | (simp at hd)
theorem run_checkKey {t : TypeId} {d : TypeDesc} (hu : P.underlying t = some d) {k : Value} (hd : keyIs d k = true) (b : Bool) (w : World) : (Instr.checkKey b 10000 t k).run P w = .ok () w :=
  run_checkKey' hu hd b 9999 w
theorem sameBits_refl {d : TypeDesc} {k : Value} (hd : keyIs d k = true) (n : Nat) : Instr.sameBits n k k = true := by
  cases d <;> simp [keyIs] at hd <;> cases k <;> first | (simp at hd; done) | (cases n <;> simp [Instr.sameBits, bytes_refl])

theorem keyIs_of {d : TypeDesc} {kd : KD} {k : Value} (h : keyKD d = some kd) (hk : kd.has k = true) : keyIs d k = true := by
  cases d <;> simp [keyKD] at h <;> subst h <;> cases k <;> first | rfl | simp [KD.has] at hk
theorem told_mkmap (hs : Sim B w0 μ σ w) {t : TypeId} (hm : mop ts σ .mkmap = some (v, τ)) : Told P B w0 μ σ τ v (do pure (.value (← Instr.makeMap t none))) w := by
  simp only [mop, Option.some.injEq, Prod.mk.injEq] at hm
  obtain ⟨rfl, rfl⟩ := hm
  refine ⟨.map (some w.heap.size), _, _, .inl (by simp [Instr.makeMap]), hs.pushMap, ?_, .setMu _ _, by simp⟩
  have := VR.map (μ := setMu μ σ.size ⟨w.heap.size, 0, 0, 0, true⟩) (n := σ.size + 1) (id := σ.size) (by omega)
  rw [setMu_self] at this
  exact this
theorem told_mlen (hs : Sim B w0 μ σ w) {x : Opd} {x' : Value} {t ty a b : TypeId} {ats : Array TypeId} (ht : ats[0]? = some t) (hu : P.underlying t = some (.map a b)) (hx : VR μ σ.size (mev ts x) x')
    (hm : mop ts σ (.mlen x) = some (v, τ)) : Told P B w0 μ σ τ v (do pure (.value (← Builtin.len_ ats ty #[x']))) w := by
  simp only [mop] at hm
  split at hm
  · rename_i e
    rw [e] at hx
    obtain rfl := hx.inv_nilMap
    simp only [Option.some.injEq, Prod.mk.injEq] at hm
    obtain ⟨rfl, rfl⟩ := hm
    exact .same hs (by simp [Builtin.len_, ht, run_und hu, goInt]) (.int _ _)
  · rename_i r e
    rw [e] at hx
    obtain ⟨hr, rfl⟩ := hx.inv_map
    split at hm
    · rename_i es c hg
      simp only [Option.some.injEq, Prod.mk.injEq] at hm
      obtain ⟨rfl, rfl⟩ := hm
      obtain ⟨_, es', h1, h2⟩ := hs.map r es c hg
      refine .same (v' := .int .i64 es'.size) hs ?_ (by rw [h2.1]; exact .int _ _)
      simp [Builtin.len_, ht, run_und hu, goInt, getObj, Sem.run, h1]
    · cases hm
  · cases hm
theorem told_mlook (hs : Sim B w0 μ σ w) {x y : Opd} {x' y' z : Value} {t kt e : TypeId} {d : TypeDesc} {kd : KD} {ok : Bool} (hu : P.underlying t = some (.map kt e)) (hk : P.underlying kt = some d) (hz : zero1 P e = some z)
    (hx : VR μ σ.size (mev ts x) x') (hy : VR μ σ.size (mev ts y) y') (hkd : keyKD d = some kd) (hm : mop ts σ (.mlook kd ok z x y) = some (v, τ)) :
    Told P B w0 μ σ τ v (do pure (.value (← Instr.lookup t x' y' ok))) w := by
  obtain ⟨hz1, hz2⟩ := zero1_spec hz
  have vz : VR μ σ.size z z := .of_closed hz1
  by_cases hh : kd.has (mev ts y) = true
  rotate_left
  · simp only [mop, hh] at hm
    split at hm <;> first | (cases hm; done) | skip
    split at hm <;> first | (cases hm; done) | (simp at hm; done)
  have hd := keyIs_of hkd hh
  have hyp : y' = mev ts y := hy.eq_of_plain (by generalize mev ts y = q at hd; cases d <;> simp [keyIs] at hd <;> cases q <;> first | rfl | (simp [keyIs] at hd))
  subst hyp
  simp only [mop, hh, if_true] at hm
  split at hm
  · rename_i r e1
    rw [e1] at hx
    obtain ⟨hr, rfl⟩ := hx.inv_map
    split at hm
    · rename_i es c hg
      obtain ⟨_, es', h1, h2, h3⟩ := hs.map r es c hg
      have hobj : (getObj (μ r).b).run P w = .ok (.map es' c) w := by simp [getObj, Sem.run, h1]
      have look : ∀ q, lookL (mev ts y) es 0 = some q → ∃ q', (Instr.findKey kt (mev ts y) es'.toList).run P w = .ok q' w ∧ (match q, q' with | none, none => True | some (_, u), some (_, u') => VR μ σ.size u u' | _, _ => False) := by
        intro q hq
        obtain ⟨r', a1, a2⟩ := lookL_sound (μ := μ) (n := σ.size) hd hq (by rw [Array.length_toList]; exact h2) (fun j a b hab => by obtain ⟨e', x1, x2, x3⟩ := h3 j a b hab; exact ⟨e', by simpa using x1, x2, x3⟩)
        refine ⟨r', by simp [Instr.findKey, run_und hk, a1], ?_⟩
        cases q <;> cases r' <;> first | trivial | exact a2 | exact a2.2.1
      split at hm
      · rename_i i u hl
        simp only [Option.some.injEq, Prod.mk.injEq] at hm
        obtain ⟨rfl, rfl⟩ := hm
        obtain ⟨q', b1, b2⟩ := look _ hl
        cases q' with
        | none => exact b2.elim
        | some q' =>
          obtain ⟨qi, u'⟩ := q'
          refine .same (v' := if ok then .tuple #[u', .bool true] else u') hs ?_ ?_
          · simp [Instr.lookup, run_und hu, hobj, run_checkKey hk hd, b1]
          · cases ok
            · exact b2
            · exact .tuple (.cons b2 (.cons (.bool _) .nil))
      · rename_i hl
        simp only [Option.some.injEq, Prod.mk.injEq] at hm
        obtain ⟨rfl, rfl⟩ := hm
        obtain ⟨q', b1, b2⟩ := look _ hl
        cases q' with
        | some q' => exact b2.elim
        | none =>
          refine .same (v' := if ok then .tuple #[z, .bool false] else z) hs ?_ ?_
          · simp [Instr.lookup, run_und hu, hobj, run_checkKey hk hd, b1, hz2]
          · cases ok
            · exact vz
            · exact .tuple (.cons vz (.cons (.bool _) .nil))
      · cases hm
    · cases hm
  · cases hm
theorem run_setObj {r c c2 : Nat} {es es2 : Array MapEntry} {w : World} (h : w.heap[r]? = some (.map es c)) : (setObj r (.map es2 c2)).run P w = .ok () { w with heap := w.heap.setIfInBounds r (.map es2 c2) } := by
  simp [setObj, Sem.run, h]
theorem told_mupd (hs : Sim B w0 μ σ w) {x y u : Opd} {x' y' u' : Value} {t kt e : TypeId} {d : TypeDesc} {kd : KD} (hu : P.underlying t = some (.map kt e)) (hk : P.underlying kt = some d)
    (hx : VR μ σ.size (mev ts x) x') (hy : VR μ σ.size (mev ts y) y') (hv : VR μ σ.size (mev ts u) u') (hkd : keyKD d = some kd) (hm : mop ts σ (.mupd kd x y u) = some (v, τ)) :
    Told P B w0 μ σ τ v (do Instr.mapUpdate t x' y' u'; pure .skip) w := by
  by_cases hh : kd.has (mev ts y) = true
  rotate_left
  · simp only [mop, hh] at hm
    split at hm <;> first | (cases hm; done) | skip
    split at hm <;> first | (cases hm; done) | (simp at hm; done)
  have hd := keyIs_of hkd hh
  have hpl : plain (mev ts y) = true := by generalize mev ts y = q at hd; cases d <;> simp [keyIs] at hd <;> cases q <;> first | rfl | (simp [keyIs] at hd)
  have hyp : y' = mev ts y := hy.eq_of_plain hpl
  subst hyp
  simp only [mop, hh, if_true] at hm
  split at hm
  · rename_i r e1
    rw [e1] at hx
    obtain ⟨hr, rfl⟩ := hx.inv_map
    split at hm
    · rename_i es c hg
      obtain ⟨hB, es', h1, h2, h3⟩ := hs.map r es c hg
      have hobj : (getObj (μ r).b).run P w = .ok (.map es' c) w := by simp [getObj, Sem.run, h1]
      split at hm
      · rename_i i q hl
        simp only [Option.some.injEq, Prod.mk.injEq] at hm
        obtain ⟨rfl, rfl⟩ := hm
        obtain ⟨r', a1, a2⟩ := lookL_sound (μ := μ) (n := σ.size) hd hl (by rw [Array.length_toList]; exact h2) (fun j a b hab => by obtain ⟨e', x1, x2, x3⟩ := h3 j a b hab; exact ⟨e', by simpa using x1, x2, x3⟩)
        cases r' with
        | none => exact a2.elim
        | some r' =>
          obtain ⟨i', q'⟩ := r'
          obtain ⟨rfl, b2, b3, b4, e', b5, b6, b7⟩ := a2
          rw [Nat.sub_zero] at b5
          have hfind : (Instr.findKey kt (mev ts y) es'.toList).run P w = .ok (some (i, q')) w := by simp [Instr.findKey, run_und hk, a1]
          have hb5 : es'[i]? = some e' := by simpa using b5
          have hsame : (Instr.keyThatStays e'.key (mev ts y)).run P w = .ok (mev ts y) w := by
            rw [b7]
            have : Instr.sameBits 10000 (mev ts y) (mev ts y) = true := sameBits_refl hd _
            simp [Instr.keyThatStays, this]
          refine ⟨undef, _, μ, .inr ⟨?_, rfl⟩, hs.setMap (c2 := c) hg (es2' := es'.modify i fun e => { e with key := mev ts y, val := u' }) ?_, .tuple .nil, .refl _ _, by simp⟩
          · simp only [Instr.mapUpdate, Sem.run_bind, run_und hu, Result.andThen_ok, hobj, run_checkKey hk hd, hfind, hb5, Option.map_some, Option.getD_some, hsame, run_setObj h1, Sem.run_pure]
          · refine ⟨by simp [h2], fun j a b hab => ?_⟩
            rw [List.getElem?_modify] at hab
            cases hj : es[j]? with
            | none => simp [hj] at hab
            | some p =>
              obtain ⟨a0, b0⟩ := p
              obtain ⟨e2, x1, x2, x3⟩ := h3 j a0 b0 hj
              rw [hj] at hab
              by_cases hij : i = j
              · subst hij
                simp at hab
                obtain ⟨rfl, rfl⟩ := hab
                exact ⟨{ e2 with key := mev ts y, val := u' }, by simp [Array.getElem?_modify, x1], .of_plain hpl, hv⟩
              · simp [hij] at hab
                obtain ⟨rfl, rfl⟩ := hab
                exact ⟨e2, by rw [Array.getElem?_modify, if_neg hij]; exact x1, x2, x3⟩
      · rename_i hl
        simp only [Option.some.injEq, Prod.mk.injEq] at hm
        obtain ⟨rfl, rfl⟩ := hm
        obtain ⟨r', a1, a2⟩ := lookL_sound (μ := μ) (n := σ.size) hd hl (by rw [Array.length_toList]; exact h2) (fun j a b hab => by obtain ⟨e', x1, x2, x3⟩ := h3 j a b hab; exact ⟨e', by simpa using x1, x2, x3⟩)
        cases r' with
        | some r' => exact a2.elim
        | none =>
          have hfind : (Instr.findKey kt (mev ts y) es'.toList).run P w = .ok none w := by simp [Instr.findKey, run_und hk, a1]
          refine ⟨undef, _, μ, .inr ⟨?_, rfl⟩, hs.setMap (c2 := c + 1) hg (es2' := es'.push { key := mev ts y, val := u', born := c }) ?_, .tuple .nil, .refl _ _, by simp⟩
          · simp only [Instr.mapUpdate, Sem.run_bind, run_und hu, Result.andThen_ok, hobj, run_checkKey hk hd, hfind, run_setObj h1, Sem.run_pure]
          · refine ⟨by simp [h2], fun j a b hab => ?_⟩
            by_cases hj : j < es.length
            · rw [List.getElem?_append_left hj] at hab
              obtain ⟨e2, x1, x2, x3⟩ := h3 j a b hab
              exact ⟨e2, by rw [Array.getElem?_push, if_neg (by omega)]; exact x1, x2, x3⟩
            · rw [List.getElem?_append_right (by omega)] at hab
              have hj0 : j - es.length = 0 := by
                rcases Nat.eq_zero_or_pos (j - es.length) with e | e
                · exact e
                · rw [List.getElem?_eq_none (by simp; omega)] at hab; cases hab
              rw [hj0] at hab
              simp at hab
              obtain ⟨rfl, rfl⟩ := hab
              refine ⟨{ key := mev ts y, val := u', born := c }, ?_, .of_plain hpl, hv⟩
              have : j = es'.size := by omega
              subst this
              simp
      · cases hm
    · cases hm
  · cases hm
end
end Go.Mini
