/- The small operations tell what the model's do: maps; '==' of structs and arrays. -/
import Derived.Test.YtgfmphjccnemmaaDoorMiniI
namespace Go.Mini
open Go.RowKit (Below)
set_option linter.unusedVariables false
set_option linter.unusedSimpArgs false
section
variable {P : Program} {B : Nat} {w0 w : World} {μ : Nat → Blk} {σ τ : H} {ts : Fr} {v : Value}

theorem EntriesR.mono {μ μ' : Nat → Blk} {n n' : Nat} (hn : n ≤ n') (hm : ∀ i, i < n → μ' i = μ i) {es : List (Value × Value)} {es' : Array MapEntry} (h : EntriesR μ n es es') : EntriesR μ' n' es es' :=
  ⟨h.1, fun j k v e => let ⟨e', a, b, c⟩ := h.2 j k v e; ⟨e', a, b.mono hn hm, c.mono hn hm⟩⟩

/-- A new map. -/
theorem Sim.pushMap (h : Sim B w0 μ σ w) : Sim B w0 (setMu μ σ.size ⟨w.heap.size, 0, 0, 0, true⟩) (σ.push (.map [] 0)) { w with heap := w.heap.push (.map #[] 0) } := by
  have hb : Below w.heap.size w { w with heap := w.heap.push (.map #[] 0) } :=
    ⟨rfl, rfl, rfl, by simp, fun k hk => by simp [Array.getElem?_push]; intro e; omega⟩
  have hag : Agr σ.size μ (setMu μ σ.size ⟨w.heap.size, 0, 0, 0, true⟩) := .setMu μ _
  have hs : σ.size ≤ (σ.push (.map [] 0)).size := by simp
  have h' := h.of_grown hb
  refine ⟨h'.below, h'.base, ?_, ?_, ?_, ?_, ?_⟩
  · intro i hi
    simp only [H.size_push] at hi
    by_cases e : i = σ.size
    · subst e; rw [setMu_self]; simp
    · rw [hag i (by omega)]; exact h'.fin i (by omega)
  · intro i s ds hd
    by_cases e : i = σ.size
    · subst e; rw [H.get_push_self] at hd; cases hd
    · rw [H.get_push_ne e] at hd
      have hi := H.lt_of_cells hd
      rw [hag i hi]
      obtain ⟨h1, ds', t', fz', h2, h3, h4⟩ := h'.own i s ds hd
      exact ⟨h1, ds', t', fz', h2, h3, h4.mono hs hag⟩
  · intro i ds hd
    by_cases e : i = σ.size
    · subst e; rw [H.get_push_self] at hd; cases hd
    · rw [H.get_push_ne e] at hd
      have hi := H.lt_of_live (σ := σ) (i := i) (by rw [hd]; simp)
      rw [hag i hi]
      obtain ⟨h0, ds', t', fz', h2, h4⟩ := h'.ro i ds hd
      exact ⟨h0, ds', t', fz', h2, h4.mono hs hag⟩
  · intro i es c hd
    by_cases e : i = σ.size
    · subst e
      rw [H.get_push_self] at hd
      cases hd
      rw [setMu_self]
      exact ⟨h.base, #[], by simp, rfl, fun j k v e => by simp at e⟩
    · rw [H.get_push_ne e] at hd
      have hi := H.lt_of_live (σ := σ) (i := i) (by rw [hd]; simp)
      rw [hag i hi]
      obtain ⟨h1, es', h2, h3⟩ := h'.map i es c hd
      exact ⟨h1, es', h2, h3.mono hs hag⟩
  · intro i j hi hj hr hne
    by_cases ei : i = σ.size
    · subst ei
      have ej : j ≠ σ.size := fun e => hne e.symm
      rw [H.get_push_ne ej] at hj
      have hj' := H.lt_of_live hj
      rw [setMu_self, hag j hj']
      have := h.fin j hj'
      show w.heap.size ≠ _
      omega
    · rw [H.get_push_ne ei] at hi
      have hi' := H.lt_of_live hi
      by_cases ej : j = σ.size
      · subst ej
        rw [setMu_self, hag i hi']
        have := h.fin i hi'
        show _ ≠ w.heap.size
        omega
      · rw [H.get_push_ne ej] at hj
        rw [hag i hi', hag j (H.lt_of_live hj)]
        exact h.inj i j hi hj (fun cs => by have := hr cs; rwa [H.get_push_ne ei] at this) hne

/-- A map of the call's own is written. -/
theorem Sim.setMap {k c c2 : Nat} {es es2 : List (Value × Value)} {es2' : Array MapEntry} (h : Sim B w0 μ σ w) (hk : σ.get k = .map es c) (he : EntriesR μ σ.size es2 es2') :
    Sim B w0 μ (σ.set k (.map es2 c2)) { w with heap := w.heap.setIfInBounds (μ k).b (.map es2' c2) } := by
  have hlt := H.lt_of_live (σ := σ) (i := k) (by rw [hk]; simp)
  obtain ⟨hB, _, hold, _⟩ := h.map k es c hk
  have hin : (μ k).b < w.heap.size := h.fin k hlt
  have other : ∀ b, b ≠ (μ k).b → ({ w with heap := w.heap.setIfInBounds (μ k).b (.map es2' c2) } : World).heap[b]? = w.heap[b]? := fun b hb => by
    simp [Array.getElem?_setIfInBounds, Ne.symm hb]
  have same : ({ w with heap := w.heap.setIfInBounds (μ k).b (.map es2' c2) } : World).heap[(μ k).b]? = some (.map es2' c2) := by simp [Array.getElem?_setIfInBounds, hin]
  have apart : ∀ i, i ≠ k → σ.get i ≠ .dead → (μ i).b ≠ (μ k).b := fun i hi hd => Ne.symm (h.inj k i (by rw [hk]; simp) hd (fun cs => by rw [hk]; simp) (Ne.symm hi))
  refine ⟨h.below.trans ⟨rfl, rfl, rfl, by simp, fun b hb => other b (by omega)⟩, by simpa using h.base, by simpa using h.fin, ?_, ?_, ?_, ?_⟩
  · intro i s ds hd
    by_cases e : i = k
    · subst e; rw [H.get_set_self hlt] at hd; cases hd
    · rw [H.get_set_ne e] at hd
      obtain ⟨h1, ds', t', fz', h2, h3, h4⟩ := h.own i s ds hd
      exact ⟨h1, ds', t', fz', by rw [other _ (apart i e (by rw [hd]; simp))]; exact h2, h3, by simpa using h4⟩
  · intro i ds hd
    by_cases e : i = k
    · subst e; rw [H.get_set_self hlt] at hd; cases hd
    · rw [H.get_set_ne e] at hd
      obtain ⟨h0, ds', t', fz', h2, h4⟩ := h.ro i ds hd
      exact ⟨h0, ds', t', fz', by rw [other _ (apart i e (by rw [hd]; simp))]; exact h2, by simpa using h4⟩
  · intro i es3 c3 hd
    by_cases e : i = k
    · subst e
      rw [H.get_set_self hlt] at hd
      cases hd
      exact ⟨hB, es2', same, by simpa using he⟩
    · rw [H.get_set_ne e] at hd
      obtain ⟨h1, es', h2, h3⟩ := h.map i es3 c3 hd
      exact ⟨h1, es', by rw [other _ (apart i e (by rw [hd]; simp))]; exact h2, by simpa using h3⟩
  · intro i j hi hj hr hne
    have live : ∀ x, (σ.set k (.map es2 c2)).get x ≠ .dead → σ.get x ≠ .dead := fun x hx => by
      by_cases e : x = k
      · subst e; rw [hk]; simp
      · rwa [H.get_set_ne e] at hx
    refine h.inj i j (live i hi) (live j hj) (fun ds => ?_) hne
    by_cases e : i = k
    · subst e; rw [hk]; simp
    · have := hr ds; rwa [H.get_set_ne e] at this

theorem bytes_eq {a b : ByteArray} (h : (a == b) = true) : a = b := by
  rw [beq_toListBytes] at h
  have h' := eq_of_beq h
  rw [ByteArray.toList_eq, ByteArray.toList_eq] at h'
  obtain ⟨⟨a⟩⟩ := a
  obtain ⟨⟨b⟩⟩ := b
  simp at h'
  rw [h']
theorem bytes_refl (a : ByteArray) : (a == a) = true := by rw [beq_toListBytes]; simp
def KeyT : TypeDesc → Prop
  | .int _ | .string | .bool => True
  | _ => False
theorem keyEq_plain {a b : Value} {r : Bool} (h : keyEq a b = some r) : plain a = true ∧ plain b = true := by
  unfold keyEq at h
  split at h <;> first | exact ⟨rfl, rfl⟩ | cases h
/-- Which keys a type's map takes. -/
def keyIs : TypeDesc → Value → Bool
  | .int _, .int _ _ => true
  | .string, .string _ => true
  | .bool, .bool _ => true
  | _, _ => false
theorem sameNow_of {d : TypeDesc} {a b : Value} {r : Bool} (h : keyEq a b = some r) (hd : keyIs d a = true) : Instr.sameNow d a b = some r := by
  unfold keyEq at h
  split at h
  · split at h
    · rename_i hk
      simp only [Option.some.injEq] at h
      cases d <;> simp [keyIs] at hd
      simp [Instr.sameNow, hk, h]
    · cases h
  · cases d <;> simp [keyIs] at hd
    simpa [Instr.sameNow] using h
  · cases d <;> simp [keyIs] at hd
    simpa [Instr.sameNow] using h
  · cases h
theorem lookL_sound {n : Nat} {d : TypeDesc} {k : Value} (hd : keyIs d k = true) : ∀ {es : List (Value × Value)} {es' : List MapEntry} {i : Nat} {r : Option (Nat × Value)}, lookL k es i = some r →
    es'.length = es.length → (∀ (j : Nat) (a b : Value), es[j]? = some (a, b) → ∃ e' : MapEntry, es'[j]? = some e' ∧ VR μ n a e'.key ∧ VR μ n b e'.val) →
    ∃ r', Instr.findNow d k es' i = some r' ∧ (match r, r' with
      | none, none => True
      | some (q, u), some (q', u') => q = q' ∧ VR μ n u u' ∧ i ≤ q ∧ q - i < es.length ∧ ∃ e', es'[q - i]? = some e' ∧ plain k = true ∧ e'.key = k
      | _, _ => False)
  | [], [], i, r, h, _, _ => by simp only [lookL, Option.some.injEq] at h; subst h; exact ⟨none, rfl, trivial⟩
  | [], _ :: _, _, _, _, h, _ => by simp at h
  | _ :: _, [], _, _, _, h, _ => by simp at h
  | (a, b) :: es, e' :: es', i, r, h, hl, hg => by
    obtain ⟨e0, h0, hka, hvb⟩ := hg 0 a b rfl
    simp only [List.getElem?_cons_zero, Option.some.injEq] at h0
    subst h0
    simp only [lookL] at h
    split at h
    · rename_i hk
      simp only [Option.some.injEq] at h
      subst h
      obtain ⟨hp1, hp2⟩ := keyEq_plain hk
      have hke : e'.key = a := hka.eq_of_plain hp2
      refine ⟨some (i, e'.val), ?_, rfl, hvb, Nat.le_refl _, by simp, e', by simp, hp1, ?_⟩
      · simp only [Instr.findNow, hke, sameNow_of hk hd]
      · rw [hke]
        unfold keyEq at hk
        split at hk
        · split at hk
          · rename_i hkk; simp only [Option.some.injEq, beq_iff_eq] at hk; rw [hkk, hk]
          · cases hk
        · simp only [Option.some.injEq] at hk; rw [bytes_eq hk]
        · simp only [Option.some.injEq, beq_iff_eq] at hk; rw [hk]
        · cases hk
    · rename_i hk
      obtain ⟨hp1, hp2⟩ := keyEq_plain hk
      have hke : e'.key = a := hka.eq_of_plain hp2
      obtain ⟨r', h1, h2⟩ := lookL_sound hd (es := es) (es' := es') h (by simpa using hl) (fun j x y hxy => by simpa using hg (j + 1) x y (by simpa using hxy))
      refine ⟨r', by simp only [Instr.findNow, hke, sameNow_of hk hd]; exact h1, ?_⟩
      cases r with
      | none => cases r' <;> first | trivial | exact h2
      | some q =>
        cases r' with
        | none => exact h2
        | some q' =>
          obtain ⟨q1, q2⟩ := q
          obtain ⟨q1', q2'⟩ := q'
          obtain ⟨a1, a2, a3, a4, e2, a5, a6, a7⟩ := h2
          refine ⟨a1, a2, by omega, by simp; omega, e2, ?_, a6, a7⟩
          rw [show q1 - i = (q1 - (i + 1)) + 1 by omega, List.getElem?_cons_succ]
          exact a5
    · cases h
theorem run_checkKey' {t : TypeId} {d : TypeDesc} (hu : P.underlying t = some d) {k : Value} (hd : keyIs d k = true) (b : Bool) (n : Nat) (w : World) : (Instr.checkKey b (n + 1) t k).run P w = .ok () w := by
  simp only [Instr.checkKey, Sem.run_bind, run_und hu, Result.andThen_ok]
  cases d <;> simp [keyIs] at hd <;> cases k <;> first | rfl | (simp at hd)
theorem run_checkKey {t : TypeId} {d : TypeDesc} (hu : P.underlying t = some d) {k : Value} (hd : keyIs d k = true) (b : Bool) (w : World) : (Instr.checkKey b 10000 t k).run P w = .ok () w :=
  run_checkKey' hu hd b 9999 w
theorem sameBits_refl {d : TypeDesc} {k : Value} (hd : keyIs d k = true) (n : Nat) : Instr.sameBits n k k = true := by
  cases d <;> simp [keyIs] at hd <;> cases k <;> first | (simp at hd; done) | (cases n <;> simp [Instr.sameBits, bytes_refl])

theorem keyIs_of {d : TypeDesc} {kd : KD} {k : Value} (h : keyKD d = some kd) (hk : kd.has k = true) : keyIs d k = true := by
  cases d <;> simp [keyKD] at h <;> subst h <;> cases k <;> first | rfl | simp [KD.has] at hk
theorem told_mkmap (hs : Sim B w0 μ σ w) {t : TypeId} (hm : mop ts σ .mkmap = some (v, τ)) : Told P B w0 μ σ τ v (do pure (.value (← Instr.makeMap t none))) w := by
  simp only [mop, Option.some.injEq, Prod.mk.injEq] at hm
  obtain ⟨rfl, rfl⟩ := hm
  refine ⟨.map (some w.heap.size), _, _, .inl (by simp [Instr.makeMap]), hs.pushMap, ?_, .setMu _ _, by simp⟩
  have := VR.map (μ := setMu μ σ.size ⟨w.heap.size, 0, 0, 0, true⟩) (n := σ.size + 1) (id := σ.size) (by omega)
  rw [setMu_self] at this
  exact this
theorem told_mlen (hs : Sim B w0 μ σ w) {x : Opd} {x' : Value} {t ty a b : TypeId} {ats : Array TypeId} (ht : ats[0]? = some t) (hu : P.underlying t = some (.map a b)) (hx : VR μ σ.size (mev ts x) x')
    (hm : mop ts σ (.mlen x) = some (v, τ)) : Told P B w0 μ σ τ v (do pure (.value (← Builtin.len_ ats ty #[x']))) w := by
  simp only [mop] at hm
  split at hm
  · rename_i e
    rw [e] at hx
    obtain rfl := hx.inv_nilMap
    simp only [Option.some.injEq, Prod.mk.injEq] at hm
    obtain ⟨rfl, rfl⟩ := hm
    exact .same hs (by simp [Builtin.len_, ht, run_und hu, goInt]) (.int _ _)
  · rename_i r e
    rw [e] at hx
    obtain ⟨hr, rfl⟩ := hx.inv_map
    split at hm
    · rename_i es c hg
      simp only [Option.some.injEq, Prod.mk.injEq] at hm
      obtain ⟨rfl, rfl⟩ := hm
      obtain ⟨_, es', h1, h2⟩ := hs.map r es c hg
      refine .same (v' := .int .i64 es'.size) hs ?_ (by rw [h2.1]; exact .int _ _)
      simp [Builtin.len_, ht, run_und hu, goInt, getObj, Sem.run, h1]
    · cases hm
  · cases hm
theorem told_mlook (hs : Sim B w0 μ σ w) {x y : Opd} {x' y' z : Value} {t kt e : TypeId} {d : TypeDesc} {kd : KD} {ok : Bool} (hu : P.underlying t = some (.map kt e)) (hk : P.underlying kt = some d) (hz : zero1 P e = some z)
    (hx : VR μ σ.size (mev ts x) x') (hy : VR μ σ.size (mev ts y) y') (hkd : keyKD d = some kd) (hm : mop ts σ (.mlook kd ok z x y) = some (v, τ)) :
    Told P B w0 μ σ τ v (do pure (.value (← Instr.lookup t x' y' ok))) w := by
  obtain ⟨hz1, hz2⟩ := zero1_spec hz
  have vz : VR μ σ.size z z := .of_closed hz1
  by_cases hh : kd.has (mev ts y) = true
  rotate_left
  · simp only [mop, hh] at hm
    split at hm <;> first | (cases hm; done) | skip
    split at hm <;> first | (cases hm; done) | (simp at hm; done)
  have hd := keyIs_of hkd hh
  have hyp : y' = mev ts y := hy.eq_of_plain (by generalize mev ts y = q at hd; cases d <;> simp [keyIs] at hd <;> cases q <;> first | rfl | (simp [keyIs] at hd))
  subst hyp
  simp only [mop, hh, if_true] at hm
  split at hm
  · rename_i r e1
    rw [e1] at hx
    obtain ⟨hr, rfl⟩ := hx.inv_map
    split at hm
    · rename_i es c hg
      obtain ⟨_, es', h1, h2, h3⟩ := hs.map r es c hg
      have hobj : (getObj (μ r).b).run P w = .ok (.map es' c) w := by simp [getObj, Sem.run, h1]
      have look : ∀ q, lookL (mev ts y) es 0 = some q → ∃ q', (Instr.findKey kt (mev ts y) es'.toList).run P w = .ok q' w ∧ (match q, q' with | none, none => True | some (_, u), some (_, u') => VR μ σ.size u u' | _, _ => False) := by
        intro q hq
        obtain ⟨r', a1, a2⟩ := lookL_sound (μ := μ) (n := σ.size) hd hq (by rw [Array.length_toList]; exact h2) (fun j a b hab => by obtain ⟨e', x1, x2, x3⟩ := h3 j a b hab; exact ⟨e', by simpa using x1, x2, x3⟩)
        refine ⟨r', by simp [Instr.findKey, run_und hk, a1], ?_⟩
        cases q <;> cases r' <;> first | trivial | exact a2 | exact a2.2.1
      split at hm
      · rename_i i u hl
        simp only [Option.some.injEq, Prod.mk.injEq] at hm
        obtain ⟨rfl, rfl⟩ := hm
        obtain ⟨q', b1, b2⟩ := look _ hl
        cases q' with
        | none => exact b2.elim
        | some q' =>
          obtain ⟨qi, u'⟩ := q'
          refine .same (v' := if ok then .tuple #[u', .bool true] else u') hs ?_ ?_
          · simp [Instr.lookup, run_und hu, hobj, run_checkKey hk hd, b1]
          · cases ok
            · exact b2
            · exact .tuple (.cons b2 (.cons (.bool _) .nil))
      · rename_i hl
        simp only [Option.some.injEq, Prod.mk.injEq] at hm
        obtain ⟨rfl, rfl⟩ := hm
        obtain ⟨q', b1, b2⟩ := look _ hl
        cases q' with
        | some q' => exact b2.elim
        | none =>
          refine .same (v' := if ok then .tuple #[z, .bool false] else z) hs ?_ ?_
          · simp [Instr.lookup, run_und hu, hobj, run_checkKey hk hd, b1, hz2]
          · cases ok
            · exact vz
            · exact .tuple (.cons vz (.cons (.bool _) .nil))
      · cases hm
    · cases hm
  · cases hm
theorem run_setObj {r c c2 : Nat} {es es2 : Array MapEntry} {w : World} (h : w.heap[r]? = some (.map es c)) : (setObj r (.map es2 c2)).run P w = .ok () { w with heap := w.heap.setIfInBounds r (.map es2 c2) } := by
  simp [setObj, Sem.run, h]
theorem told_mupd (hs : Sim B w0 μ σ w) {x y u : Opd} {x' y' u' : Value} {t kt e : TypeId} {d : TypeDesc} {kd : KD} (hu : P.underlying t = some (.map kt e)) (hk : P.underlying kt = some d)
    (hx : VR μ σ.size (mev ts x) x') (hy : VR μ σ.size (mev ts y) y') (hv : VR μ σ.size (mev ts u) u') (hkd : keyKD d = some kd) (hm : mop ts σ (.mupd kd x y u) = some (v, τ)) :
    Told P B w0 μ σ τ v (do Instr.mapUpdate t x' y' u'; pure .skip) w := by
  by_cases hh : kd.has (mev ts y) = true
  rotate_left
  · simp only [mop, hh] at hm
    split at hm <;> first | (cases hm; done) | skip
    split at hm <;> first | (cases hm; done) | (simp at hm; done)
  have hd := keyIs_of hkd hh
  have hpl : plain (mev ts y) = true := by generalize mev ts y = q at hd; cases d <;> simp [keyIs] at hd <;> cases q <;> first | rfl | (simp [keyIs] at hd)
  have hyp : y' = mev ts y := hy.eq_of_plain hpl
  subst hyp
  simp only [mop, hh, if_true] at hm
  split at hm
  · rename_i r e1
    rw [e1] at hx
    obtain ⟨hr, rfl⟩ := hx.inv_map
    split at hm
    · rename_i es c hg
      obtain ⟨hB, es', h1, h2, h3⟩ := hs.map r es c hg
      have hobj : (getObj (μ r).b).run P w = .ok (.map es' c) w := by simp [getObj, Sem.run, h1]
      split at hm
      · rename_i i q hl
        simp only [Option.some.injEq, Prod.mk.injEq] at hm
        obtain ⟨rfl, rfl⟩ := hm
        obtain ⟨r', a1, a2⟩ := lookL_sound (μ := μ) (n := σ.size) hd hl (by rw [Array.length_toList]; exact h2) (fun j a b hab => by obtain ⟨e', x1, x2, x3⟩ := h3 j a b hab; exact ⟨e', by simpa using x1, x2, x3⟩)
        cases r' with
        | none => exact a2.elim
        | some r' =>
          obtain ⟨i', q'⟩ := r'
          obtain ⟨rfl, b2, b3, b4, e', b5, b6, b7⟩ := a2
          rw [Nat.sub_zero] at b5
          have hfind : (Instr.findKey kt (mev ts y) es'.toList).run P w = .ok (some (i, q')) w := by simp [Instr.findKey, run_und hk, a1]
          have hb5 : es'[i]? = some e' := by simpa using b5
          have hsame : (Instr.keyThatStays e'.key (mev ts y)).run P w = .ok (mev ts y) w := by
            rw [b7]
            have : Instr.sameBits 10000 (mev ts y) (mev ts y) = true := sameBits_refl hd _
            simp [Instr.keyThatStays, this]
          refine ⟨undef, _, μ, .inr ⟨?_, rfl⟩, hs.setMap (c2 := c) hg (es2' := es'.modify i fun e => { e with key := mev ts y, val := u' }) ?_, .tuple .nil, .refl _ _, by simp⟩
          · simp only [Instr.mapUpdate, Sem.run_bind, run_und hu, Result.andThen_ok, hobj, run_checkKey hk hd, hfind, hb5, Option.map_some, Option.getD_some, hsame, run_setObj h1, Sem.run_pure]
          · refine ⟨by simp [h2], fun j a b hab => ?_⟩
            rw [List.getElem?_modify] at hab
            cases hj : es[j]? with
            | none => simp [hj] at hab
            | some p =>
              obtain ⟨a0, b0⟩ := p
              obtain ⟨e2, x1, x2, x3⟩ := h3 j a0 b0 hj
              rw [hj] at hab
              by_cases hij : i = j
              · subst hij
                simp at hab
                obtain ⟨rfl, rfl⟩ := hab
                exact ⟨{ e2 with key := mev ts y, val := u' }, by simp [Array.getElem?_modify, x1], .of_plain hpl, hv⟩
              · simp [hij] at hab
                obtain ⟨rfl, rfl⟩ := hab
                exact ⟨e2, by rw [Array.getElem?_modify, if_neg hij]; exact x1, x2, x3⟩
      · rename_i hl
        simp only [Option.some.injEq, Prod.mk.injEq] at hm
        obtain ⟨rfl, rfl⟩ := hm
        obtain ⟨r', a1, a2⟩ := lookL_sound (μ := μ) (n := σ.size) hd hl (by rw [Array.length_toList]; exact h2) (fun j a b hab => by obtain ⟨e', x1, x2, x3⟩ := h3 j a b hab; exact ⟨e', by simpa using x1, x2, x3⟩)
        cases r' with
        | some r' => exact a2.elim
        | none =>
          have hfind : (Instr.findKey kt (mev ts y) es'.toList).run P w = .ok none w := by simp [Instr.findKey, run_und hk, a1]
          refine ⟨undef, _, μ, .inr ⟨?_, rfl⟩, hs.setMap (c2 := c + 1) hg (es2' := es'.push { key := mev ts y, val := u', born := c }) ?_, .tuple .nil, .refl _ _, by simp⟩
          · simp only [Instr.mapUpdate, Sem.run_bind, run_und hu, Result.andThen_ok, hobj, run_checkKey hk hd, hfind, run_setObj h1, Sem.run_pure]
          · refine ⟨by simp [h2], fun j a b hab => ?_⟩
            by_cases hj : j < es.length
            · rw [List.getElem?_append_left hj] at hab
              obtain ⟨e2, x1, x2, x3⟩ := h3 j a b hab
              exact ⟨e2, by rw [Array.getElem?_push, if_neg (by omega)]; exact x1, x2, x3⟩
            · rw [List.getElem?_append_right (by omega)] at hab
              have hj0 : j - es.length = 0 := by
                rcases Nat.eq_zero_or_pos (j - es.length) with e | e
                · exact e
                · rw [List.getElem?_eq_none (by simp; omega)] at hab; cases hab
              rw [hj0] at hab
              simp at hab
              obtain ⟨rfl, rfl⟩ := hab
              refine ⟨{ key := mev ts y, val := u', born := c }, ?_, .of_plain hpl, hv⟩
              have : j = es'.size := by omega
              subst this
              simp
      · cases hm
    · cases hm
  · cases hm
end
end Go.Mini
