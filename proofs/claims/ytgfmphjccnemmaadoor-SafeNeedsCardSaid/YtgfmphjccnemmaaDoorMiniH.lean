/- The small operations tell what the model's do: []T{..}, T{..}, append, copy, nil checks, assertions, lengths, maps. -/
import Derived.Test.YtgfmphjccnemmaaDoorMiniG
namespace Go.Mini
open Go.RowKit (Below)
set_option linter.unusedVariables false
set_option linter.unusedSimpArgs false
section
variable {P : Program} {B : Nat} {w0 w : World} {μ : Nat → Blk} {σ τ : H} {ts : Fr} {v : Value}

theorem foldl_spl : ∀ (l : List Value) (k off : Nat) (c : Array Value), ((l.zipIdx k).foldl (fun cs (p : Value × Nat) => cs.setIfInBounds (off + p.2) p.1) c) = splA c (off + k) l
  | [], _, _, _ => rfl
  | v :: l, k, off, c => by
    simp only [List.zipIdx_cons, List.foldl_cons, splA]
    rw [foldl_spl l (k + 1) off]
    rfl
theorem fill_sound {n : Nat} {place : Nat → Option (Nat × Nat)} : ∀ {ps : List (Nat × Nat × Value)} {qs : List (Nat × Value)} {cs cs2 : List Value} {ca : Array Value},
    fillL cs ps = some cs2 → VRs μ n cs ca.toList → ps.length = qs.length →
    (∀ (j off sz : Nat) (v : Value), ps[j]? = some (off, sz, v) → ∃ (i : Nat) (v' : Value), qs[j]? = some (i, v') ∧ place i = some (off, sz) ∧ VR μ n v v') →
    ∃ ca2, Instr.fill place ca qs = some ca2 ∧ VRs μ n cs2 ca2.toList
  | [], [], cs, cs2, ca, h, hc, _, _ => by simp only [fillL, Option.some.injEq] at h; subst h; exact ⟨ca, rfl, hc⟩
  | [], _ :: _, _, _, _, _, _, h, _ => by simp at h
  | _ :: _, [], _, _, _, _, _, h, _ => by simp at h
  | (off, sz, v) :: ps, (i, v') :: qs, cs, cs2, ca, h, hc, hl, hg => by
    simp only [fillL] at h
    split at h
    · rename_i hcond
      obtain ⟨i0, v0, e0, hp, hv⟩ := hg 0 off sz v rfl
      simp only [List.getElem?_cons_zero, Option.some.injEq, Prod.mk.injEq] at e0
      obtain ⟨rfl, rfl⟩ := e0
      have hsz : v'.cells.size = sz := by rw [hv.cells_size]; exact hcond.1
      have hca : ca.size = cs.length := by simpa using hc.length
      have hfold : (v'.cells.zipIdx.foldl (fun cs (p : Value × Nat) => cs.setIfInBounds (off + p.2) p.1) ca) = splA ca off v'.cells.toList := by
        rw [← Array.foldl_toList, Array.toList_zipIdx, foldl_spl]; rfl
      have hspl : VRs μ n (spl cs off v.cells.toList) (splA ca off v'.cells.toList).toList := by
        have hcr : CellsR μ n cs ca 0 := fun j u hu => by
          obtain ⟨u', h1, h2⟩ := hc.get hu
          exact ⟨u', by rw [Nat.zero_add]; simpa using h1, h2⟩
        have := CellsR.spl (o := 0) (k := off) hv.cells hcr (by rw [Array.length_toList, hcond.1]; exact hcond.2)
        rw [Nat.zero_add] at this
        refine .of_get (by rw [Array.length_toList, splA_size, spl_length, hca]) fun j u hu => ?_
        obtain ⟨u', h1, h2⟩ := this j u hu
        exact ⟨u', by rw [Nat.zero_add] at h1; simpa using h1, h2⟩
      obtain ⟨ca2, r1, r2⟩ := fill_sound (place := place) (qs := qs) h hspl (by simpa using hl) (fun j o s u hu => by simpa using hg (j + 1) o s u (by simpa using hu))
      refine ⟨ca2, ?_, r2⟩
      have hbad : (decide (v'.cells.size ≠ sz) || decide (off + v'.cells.size > ca.size)) = false := by
        have h1 : decide (v'.cells.size ≠ sz) = false := by simp [hsz]
        have h2 : decide (off + v'.cells.size > ca.size) = false := by simp [hsz, hca]; have := hcond.2; omega
        rw [h1, h2]; rfl
      simp only [Instr.fill, hp]
      rw [if_neg (by rw [hbad]; simp)]
      have : (v'.cells.zipIdx.foldl (fun cs (x : Value × Nat) => match x with | (c, j) => cs.setIfInBounds (off + j) c) ca) = splA ca off v'.cells.toList := hfold
      rw [this]
      exact r1
    · cases h

theorem told_bsl (hs : Sim B w0 μ σ w) {t e : TypeId} {n len : Nat} {zs : List Value} {parts : List (Nat × Opd)} {parts' : Array (Nat × Value)} (hu : P.underlying t = some (.slice e)) (hz : zeroL P e = some zs)
    (hn : sizeT P e = some n) (h0 : n ≠ 0) (hlen : ¬ len * n > 2 ^ 24) (hpl : parts.length = parts'.size)
    (hp : ∀ (j i : Nat) (x : Opd), parts[j]? = some (i, x) → i < len ∧ ∃ x' : Value, parts'[j]? = some (i, x') ∧ VR μ σ.size (mev ts x) x')
    (hm : mop ts σ (.bsl n len zs parts) = some (v, τ)) : Told P B w0 μ σ τ v (do pure (.value (← Instr.buildSlice t len parts'))) w := by
  obtain ⟨i, z, hi, hz1, hz2, hz3, hz4, hz5⟩ := zeroL_spec hz
  have hni : n = i.size := by simpa [sizeT, hi] using hn.symm
  simp only [mop] at hm
  split at hm
  · rename_i cs hfill
    simp only [Option.some.injEq, Prod.mk.injEq] at hm
    obtain ⟨rfl, rfl⟩ := hm
    have hzl : zs.length = n := by omega
    have hze := zeros_eq hz2 len (by omega)
    rw [hzl] at hze
    obtain ⟨ca2, r1, r2⟩ := fill_sound (μ := μ) (n := σ.size) (place := fun i => some (i * n, n)) (qs := parts'.toList) (ca := (repZ zs len).toArray) hfill (by simpa using VRs.of_plain (repZ_plain hz3 len)) (by simpa using hpl)
      (fun j off sz u hu => by
        rw [List.getElem?_map] at hu
        cases hj : parts[j]? with
        | none => simp [hj] at hu
        | some p =>
          obtain ⟨i, x⟩ := p
          simp only [hj, Option.map_some, Option.some.injEq, Prod.mk.injEq] at hu
          obtain ⟨rfl, rfl, rfl⟩ := hu
          obtain ⟨_, x', h1, h2⟩ := hp j i x hj
          exact ⟨i, x', by simpa using h1, rfl, h2⟩)
    refine ⟨.slice (some ⟨w.heap.size, 0, none⟩) len len, { w with heap := w.heap.push (.cells ca2 e (0, 0)) }, _, .inl ?_, ?_, setMu_slice μ σ.size ⟨w.heap.size, 0, n, ca2.size, n == 0⟩ (Nat.le_refl _) (Nat.le_refl _) (fun _ => ?_) (fun _ => rfl), .setMu _ _, by simp⟩
    · simp only [Instr.buildSlice, Sem.run_bind, run_und hu, Result.andThen_ok, run_size hn]
      rw [if_neg hlen]
      by_cases hl0 : len = 0
      · subst hl0
        simp only [Nat.zero_mul, if_true, Sem.run_pure, Result.andThen_ok]
        have he : (Array.map (fun i => (#[] : Array Value)[i % (#[] : Array Value).size]!) (Array.range 0)) = #[] := by apply Array.toList_inj.1; simp
        simp only [repZ] at r1
        simp only [Sem.run_bind, Sem.run_pure, Result.andThen_ok, he, r1, Go.newRow, run_newObj]
      · have : ¬ (len * n = 0) := by intro h; rcases Nat.mul_eq_zero.1 h with h | h; exact hl0 h; exact h0 h
        simp only [this, if_false, Sem.run_bind, Sem.run_pure, hz5, Result.andThen_ok, hze, r1, Go.newRow, run_newObj]
    · have := hs.newRow (sz := n) (more := []) r2 e (fz := (0, 0)) (unfrozen0 _)
      simpa using this
    · have hl1 : ca2.size = cs.length := by simpa using r2.length
      have hl2 : ∀ {ps : List (Nat × Nat × Value)} {c c2 : List Value}, fillL c ps = some c2 → c2.length = c.length := by
        intro ps
        induction ps with
        | nil => intro c c2 h; simp only [fillL, Option.some.injEq] at h; rw [h]
        | cons p ps ih =>
          intro c c2 h
          obtain ⟨o, s, u⟩ := p
          simp only [fillL] at h
          split at h
          · rw [ih h, spl_length]
          · cases h
      have := hl2 hfill
      rw [repZ_length, hzl] at this
      simp only; omega
  · cases hm

theorem told_bldA (hs : Sim B w0 μ σ w) {t e : TypeId} {n k : Nat} {zs : List Value} {parts : List (Nat × Nat × Opd)} {parts' : Array (Nat × Value)} (hu : P.underlying t = some (.array k e)) (hz : zeroL P t = some zs)
    (hn : sizeT P e = some n) (hpl : parts.length = parts'.size)
    (hp : ∀ (j o s : Nat) (x : Opd), parts[j]? = some (o, s, x) → ∃ (i : Nat) (x' : Value), parts'[j]? = some (i, x') ∧ (o, s) = (i * n, n) ∧ VR μ σ.size (mev ts x) x')
    (hm : mop ts σ (.bld zs parts) = some (v, τ)) : Told P B w0 μ σ τ v (do pure (.value (← Instr.build t parts'))) w := by
  obtain ⟨i, z, hi, hz1, hz2, hz3, hz4, hz5⟩ := zeroL_spec hz
  simp only [mop] at hm
  cases hfill : fillL zs (parts.map fun (off, sz, x) => (off, sz, mev ts x)) with
  | none => rw [hfill] at hm; cases hm
  | some cs =>
    rw [hfill] at hm
    simp only [Option.map_some, Option.some.injEq, Prod.mk.injEq] at hm
    obtain ⟨rfl, rfl⟩ := hm
    obtain ⟨ca2, r1, r2⟩ := fill_sound (μ := μ) (n := σ.size) (place := fun i => some (i * n, n)) (qs := parts'.toList) (ca := z.cells) hfill (by rw [hz2]; exact VRs.of_plain hz3) (by simpa using hpl)
      (fun j off sz u hu => by
        rw [List.getElem?_map] at hu
        cases hj : parts[j]? with
        | none => simp [hj] at hu
        | some p =>
          obtain ⟨o, s, x⟩ := p
          simp only [hj, Option.map_some, Option.some.injEq, Prod.mk.injEq] at hu
          obtain ⟨rfl, rfl, rfl⟩ := hu
          obtain ⟨i, x', h1, h2, h3⟩ := hp j o s x hj
          exact ⟨i, x', by simpa using h1, by rw [← h2], h3⟩)
    exact .same (v' := .agg ca2) hs (by simp [Instr.build, hz5, run_und hu, run_size hn, r1]) (.agg (by simpa using r2))

theorem run_places {fs : List Field} (h : ∀ f : Field, f ∈ fs → (sizeT P f.type).isSome) (w : World) :
    (fs.mapM (fun f => do pure (f.offset, ← sizeOf f.type) : Field → Sem (Nat × Nat))).run P w = .ok (fs.map fun f => (f.offset, (sizeT P f.type).getD 0)) w := by
  induction fs with
  | nil => simp
  | cons f fs ih =>
    obtain ⟨n, hn⟩ := Option.isSome_iff_exists.1 (h f (by simp))
    have ih' := ih (fun g hg => h g (by simp [hg]))
    rw [List.mapM_cons]
    simp only [Sem.run_bind, run_size hn, Result.andThen_ok, Sem.run_pure, ih', List.map_cons, hn, Option.getD_some]

theorem told_bldS (hs : Sim B w0 μ σ w) {t : TypeId} {fs : Array Field} {zs : List Value} {parts : List (Nat × Nat × Opd)} {parts' : Array (Nat × Value)} (hu : P.underlying t = some (.struct fs)) (hz : zeroL P t = some zs)
    (hall : ∀ f : Field, f ∈ fs.toList → (sizeT P f.type).isSome) (hpl : parts.length = parts'.size)
    (hp : ∀ (j o s : Nat) (x : Opd), parts[j]? = some (o, s, x) → ∃ (i : Nat) (f : Field) (x' : Value), parts'[j]? = some (i, x') ∧ fs[i]? = some f ∧ o = f.offset ∧ sizeT P f.type = some s ∧ VR μ σ.size (mev ts x) x')
    (hm : mop ts σ (.bld zs parts) = some (v, τ)) : Told P B w0 μ σ τ v (do pure (.value (← Instr.build t parts'))) w := by
  obtain ⟨i, z, hi, hz1, hz2, hz3, hz4, hz5⟩ := zeroL_spec hz
  simp only [mop] at hm
  cases hfill : fillL zs (parts.map fun (off, sz, x) => (off, sz, mev ts x)) with
  | none => rw [hfill] at hm; cases hm
  | some cs =>
    rw [hfill] at hm
    simp only [Option.map_some, Option.some.injEq, Prod.mk.injEq] at hm
    obtain ⟨rfl, rfl⟩ := hm
    let places : Array (Nat × Nat) := (fs.toList.map fun (f : Field) => (f.offset, (sizeT P f.type).getD 0)).toArray
    obtain ⟨ca2, r1, r2⟩ := fill_sound (μ := μ) (n := σ.size) (place := fun i => places[i]?) (qs := parts'.toList) (ca := z.cells) hfill (by rw [hz2]; exact VRs.of_plain hz3) (by simpa using hpl)
      (fun j off sz u hu => by
        rw [List.getElem?_map] at hu
        cases hj : parts[j]? with
        | none => simp [hj] at hu
        | some p =>
          obtain ⟨o, s, x⟩ := p
          simp only [hj, Option.map_some, Option.some.injEq, Prod.mk.injEq] at hu
          obtain ⟨rfl, rfl, rfl⟩ := hu
          obtain ⟨i, f, x', h1, h2, rfl, h4, h3⟩ := hp j o s x hj
          refine ⟨i, x', by simpa using h1, ?_, h3⟩
          simp only [places, List.getElem?_toArray, List.getElem?_map, Array.getElem?_toList, h2, Option.map_some, h4, Option.getD_some])
    have hplaces : (fs.mapM (fun f => do pure (f.offset, ← sizeOf f.type) : Field → Sem (Nat × Nat))).run P w = .ok places w := by
      have := run_places (P := P) hall w
      rw [← Array.toArray_toList (xs := fs), List.mapM_toArray]
      simp only [Sem.run_map, this, Result.andThen_ok]
      rfl
    refine .same (v' := .agg ca2) hs ?_ (.agg (by simpa using r2))
    simp only [Instr.build, Sem.run_bind, hz5, Result.andThen_ok, run_und hu]
    rw [hplaces]
    simp [r1]
end
end Go.Mini
