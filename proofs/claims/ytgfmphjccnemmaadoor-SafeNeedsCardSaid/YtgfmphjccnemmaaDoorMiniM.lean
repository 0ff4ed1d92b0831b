/- All the small operations tell what the model's do: the theorem. -/
import Derived.Test.YtgfmphjccnemmaaDoorMiniL
namespace Go.Mini
open Go.RowKit (Below)
set_option linter.unusedVariables false
set_option linter.unusedSimpArgs false
section
variable {P : Program} {B : Nat} {w0 w : World} {μ : Nat → Blk} {σ τ : H} {ts : Fr} {v : Value} {a : Act}

set_option maxHeartbeats 1000000 in
theorem cop1_sound {o : Oper} {m : MOp} (hc : cop1 P o.op = some m) (hs : Sim B w0 μ σ w) (hf : ∀ i, VR μ σ.size (ts i) (a.tmps.getD i undef)) (hm : mop ts σ m = some (v, τ)) :
    Told P B w0 μ σ τ v (execOp a.eval o) w := by
  cases ho : o.op with
  | move x =>
    rw [ho] at hc
    simp only [cop1, Option.map_eq_some_iff] at hc
    obtain ⟨x', hx, rfl⟩ := hc
    exact told_mv hs (copd_sound hf hx) hm (by simp only [execOp, ho]; rfl)
  | assign x =>
    rw [ho] at hc
    simp only [cop1, Option.map_eq_some_iff] at hc
    obtain ⟨x', hx, rfl⟩ := hc
    exact told_mv hs (copd_sound hf hx) hm (by simp only [execOp, ho]; rfl)
  | pick c x y =>
    rw [ho] at hc
    simp only [cop1, bind, Option.bind_eq_some_iff, pure, Option.some.injEq] at hc
    obtain ⟨c', h1, x', h2, y', h3, rfl⟩ := hc
    exact (told_pick hs (copd_sound hf h1) (copd_sound hf h2) (copd_sound hf h3) hm).congr (by simp only [execOp, ho])
  | box t x =>
    rw [ho] at hc
    simp only [cop1, Option.map_eq_some_iff] at hc
    obtain ⟨x', hx, rfl⟩ := hc
    exact (told_box (t := t) hs (copd_sound hf hx) hm).congr (by simp only [execOp, ho])
  | alloc t =>
    rw [ho] at hc
    simp only [cop1, Option.map_eq_some_iff] at hc
    obtain ⟨zs, hz, rfl⟩ := hc
    exact (told_alloc hs hz hm).congr (by simp only [execOp, ho])
  | load t x =>
    rw [ho] at hc
    simp only [cop1, bind, Option.bind_eq_some_iff, pure, Option.some.injEq] at hc
    obtain ⟨x', hx, g, hg, n, hn, rfl⟩ := hc
    cases g
    · exact (told_load1 hs (copd_sound hf hx) hg hm).congr (by simp only [execOp, ho])
    · exact (told_loadN hs (copd_sound hf hx) hg hn hm).congr (by simp only [execOp, ho])
  | store t x y =>
    rw [ho] at hc
    simp only [cop1, bind, Option.bind_eq_some_iff, pure, Option.some.injEq] at hc
    obtain ⟨n, hn, x', hx, y', hy, rfl⟩ := hc
    exact (told_store hs (copd_sound hf hx) (copd_sound hf hy) hn hm).congr (by simp only [execOp, ho])
  | fieldAddr s x f =>
    rw [ho] at hc
    simp only [cop1, bind, Option.bind_eq_some_iff] at hc
    obtain ⟨x', hx, hc⟩ := hc
    split at hc
    · rename_i fs hu
      split at hc
      · rename_i fl hf'
        split at hc
        · cases hc
        · rename_i n hn0 hn
          simp only [Option.some.injEq] at hc; subst hc
          obtain ⟨k, rfl⟩ : ∃ k, n = k + 1 := ⟨n - 1, by
            have : n ≠ 0 := hn0
            omega⟩
          exact (told_fadd hs (copd_sound hf hx) hu hf' hn hm).congr (by simp only [execOp, ho])
        · cases hc
      · cases hc
    · cases hc
  | indexAddr t x i =>
    rw [ho] at hc
    simp only [cop1, bind, Option.bind_eq_some_iff] at hc
    obtain ⟨x', hx, i', hi, hc⟩ := hc
    split at hc
    · rename_i e hu
      split at hc
      · rename_i n hn
        simp only [Option.some.injEq] at hc; subst hc
        exact (told_iaS hs (copd_sound hf hx) (copd_sound hf hi) hu hn hm).congr (by simp only [execOp, ho])
      · cases hc
    · rename_i len e hu
      split at hc
      · rename_i n hn
        simp only [Option.some.injEq] at hc; subst hc
        exact (told_iaA hs (copd_sound hf hx) (copd_sound hf hi) hu hn hm).congr (by simp only [execOp, ho])
      · cases hc
    · cases hc
  | index t x i =>
    rw [ho] at hc
    simp only [cop1, bind, Option.bind_eq_some_iff] at hc
    obtain ⟨x', hx, i', hi, hc⟩ := hc
    split at hc
    · rename_i hu
      simp only [Option.some.injEq] at hc; subst hc
      exact (told_idxS hs (copd_sound hf hx) (copd_sound hf hi) hu hm).congr (by simp only [execOp, ho])
    · rename_i len e hu
      split at hc
      · rename_i n g hn hg
        simp only [Option.some.injEq] at hc; subst hc
        exact (told_idxA hs (copd_sound hf hx) (copd_sound hf hi) hu hn hg hm).congr (by simp only [execOp, ho])
      · cases hc
    · cases hc
  | field t x f =>
    rw [ho] at hc
    simp only [cop1, bind, Option.bind_eq_some_iff] at hc
    obtain ⟨x', hx, hc⟩ := hc
    split at hc
    · rename_i fs hu
      split at hc
      · rename_i fl hf'
        split at hc
        · rename_i n g hn hg
          simp only [Option.some.injEq] at hc; subst hc
          exact (told_fld hs (copd_sound hf hx) hu hf' hn hg hm).congr (by simp only [execOp, ho])
        · cases hc
      · cases hc
    · cases hc
  | binOp op t x y yt =>
    rw [ho] at hc
    exact (cbin_sound hc hs hf hm).congr (by simp only [execOp, ho])
  | unOp op t x =>
    rw [ho] at hc
    cases op <;> simp only [cop1, Option.map_eq_some_iff] at hc
    case not =>
      obtain ⟨x', hx, rfl⟩ := hc
      exact (told_not hs (copd_sound hf hx) hm).congr (by simp only [execOp, ho])
    case neg =>
      obtain ⟨x', hx, rfl⟩ := hc
      exact (told_neg hs (copd_sound hf hx) hm).congr (by simp only [execOp, ho])
    all_goals (cases hc)
  | convert src dst x =>
    rw [ho] at hc
    simp only [cop1, bind, Option.bind_eq_some_iff] at hc
    obtain ⟨x', hx, hc⟩ := hc
    split at hc
    · rename_i j k h1 h2
      simp only [Option.some.injEq] at hc; subst hc
      exact (told_conv hs h1 h2 (copd_sound hf hx) hm).congr (by simp only [execOp, ho])
    · rename_i e h1 h2
      split at hc
      · rename_i h3
        simp only [Option.some.injEq] at hc; subst hc
        exact (told_s2b hs h1 h2 h3 (copd_sound hf hx) hm).congr (by simp only [execOp, ho])
      · cases hc
    · rename_i e h1 h2
      split at hc
      · rename_i h3
        simp only [Option.some.injEq] at hc; subst hc
        exact (told_b2s hs h1 h2 h3 (copd_sound hf hx) hm).congr (by simp only [execOp, ho])
      · cases hc
    · cases hc
  | makeInterface t x =>
    rw [ho] at hc
    simp only [cop1, bind, Option.bind_eq_some_iff] at hc
    obtain ⟨x', hx, hc⟩ := hc
    split at hc
    · cases hc
    · rename_i d hd hu
      simp only [Option.some.injEq] at hc; subst hc
      exact (told_mki hs hu (fun ms e => hd ms e) (copd_sound hf hx) hm).congr (by simp only [execOp, ho])
    · cases hc
  | makeFunc fn first cap =>
    rw [ho] at hc
    simp only [cop1, bind, Option.bind_eq_some_iff, pure, Option.some.injEq] at hc
    obtain ⟨f', h1, c', h2, rfl⟩ := hc
    simp only [mop, Option.some.injEq, Prod.mk.injEq] at hm
    obtain ⟨rfl, rfl⟩ := hm
    refine .same (v' := .func fn (first.map a.eval) (cap.map a.eval)) hs (by simp only [execOp, ho, Instr.makeFunc, Sem.run_bind, Sem.run_pure, Result.andThen_ok]) (.func ?_ ?_)
    · simpa using copds_sound hf h1
    · simpa using copds_sound hf h2
  | makeSlice t l c =>
    rw [ho] at hc
    simp only [cop1, bind, Option.bind_eq_some_iff] at hc
    obtain ⟨l', hl, c', hcc, hc⟩ := hc
    split at hc
    · rename_i e hu
      split at hc
      · rename_i zs i hz hi
        split at hc
        · cases hc
        · rename_i h0
          simp only [Option.some.injEq] at hc; subst hc
          exact (told_mks hs hu hz hi h0 (copd_sound hf hl) (copd_sound hf hcc) hm).congr (by simp only [execOp, ho])
      · cases hc
    · cases hc
  | buildSlice t len parts =>
    rw [ho] at hc
    simp only [cop1] at hc
    split at hc
    · rename_i e hu
      split at hc
      · rename_i zs n hz hn
        split at hc
        · cases hc
        · rename_i h0
          simp only [Option.bind_eq_some_iff] at hc
          obtain ⟨ps, hps, hc⟩ := hc
          split at hc
          · rename_i hall
            simp only [Option.some.injEq] at hc; subst hc
            obtain ⟨g1, g2⟩ := mapM_get hps
            refine (told_bsl (parts' := parts.map fun (i, x) => (i, a.eval x)) hs hu hz hn (fun h => h0 (.inr h)) (fun h => h0 (.inl h)) (by rw [g1]; simp) (fun j i x hj => ?_) hm).congr (by simp only [execOp, ho])
            obtain ⟨p, h1, h2⟩ := g2 j (i, x) hj
            simp only [Option.map_eq_some_iff, Prod.mk.injEq] at h2
            obtain ⟨y, h3, h4, rfl⟩ := h2
            have hi : i < len := by
              have := List.all_eq_true.1 hall (i, y) (List.mem_of_getElem? hj)
              simpa using this
            refine ⟨hi, a.eval p.2, ?_, copd_sound hf h3⟩
            simp only [Array.getElem?_toList] at h1
            simp [h1, h4]
          · cases hc
      · cases hc
    · cases hc
  | build t parts =>
    rw [ho] at hc
    simp only [cop1] at hc
    split at hc
    · cases hc
    · rename_i zs hz
      split at hc
      · rename_i fs hu
        simp only [Option.bind_eq_some_iff] at hc
        obtain ⟨ps, hps, hc⟩ := hc
        split at hc
        · rename_i hall
          simp only [Option.some.injEq] at hc; subst hc
          obtain ⟨g1, g2⟩ := mapM_get hps
          refine (told_bldS (parts' := parts.map fun (i, x) => (i, a.eval x)) hs hu hz (fun f hf => List.all_eq_true.1 hall f hf) (by rw [g1]; simp) (fun j o s x hj => ?_) hm).congr (by simp only [execOp, ho])
          obtain ⟨p, h1, h2⟩ := g2 j (o, s, x) hj
          simp only [Array.getElem?_toList] at h1
          split at h2
          · rename_i f hfs
            split at h2
            · rename_i n hn
              simp only [Option.map_eq_some_iff, Prod.mk.injEq] at h2
              obtain ⟨y, h3, rfl, rfl, rfl⟩ := h2
              exact ⟨p.1, f, a.eval p.2, by simp [h1], hfs, rfl, hn, copd_sound hf h3⟩
            · cases h2
          · cases h2
        · cases hc
      · rename_i k e hu
        split at hc
        · rename_i n hn
          simp only [Option.map_eq_some_iff] at hc
          obtain ⟨ps, hps, rfl⟩ := hc
          obtain ⟨g1, g2⟩ := mapM_get hps
          refine (told_bldA (parts' := parts.map fun (i, x) => (i, a.eval x)) hs hu hz hn (by rw [g1]; simp) (fun j o s x hj => ?_) hm).congr (by simp only [execOp, ho])
          obtain ⟨p, h1, h2⟩ := g2 j (o, s, x) hj
          simp only [Array.getElem?_toList] at h1
          simp only [Option.map_eq_some_iff, Prod.mk.injEq] at h2
          obtain ⟨y, h3, rfl, rfl, rfl⟩ := h2
          exact ⟨p.1, a.eval p.2, by simp [h1], rfl, copd_sound hf h3⟩
        · cases hc
      · cases hc
  | slice t x lo hi mx =>
    rw [ho] at hc
    simp only [cop1, bind, Option.bind_eq_some_iff] at hc
    obtain ⟨x', hx, lo', hlo, hi', hhi, mx', hmx, hc⟩ := hc
    have hl := oopd_sound hf hlo
    have hh := oopd_sound hf hhi
    split at hc
    · rename_i hu
      split at hc
      · rename_i hn
        simp only [Option.some.injEq] at hc; subst hc
        obtain rfl := oopd_none hmx hn
        exact (told_slcS hs hu (copd_sound hf hx) hl hh hm).congr (by simp only [execOp, ho, Option.map_none])
      · cases hc
    · rename_i e hu
      split at hc
      · rename_i n hn
        simp only [Option.some.injEq] at hc; subst hc
        exact (told_slc hs hu hn (copd_sound hf hx) hl hh (oopd_sound hf hmx) hm).congr (by simp only [execOp, ho])
      · cases hc
    · rename_i k e hu
      split at hc
      · rename_i n hn
        split at hc
        · rename_i hnn
          simp only [Option.some.injEq] at hc; subst hc
          obtain rfl := oopd_none hmx hnn
          exact (told_slcA hs hu hn (copd_sound hf hx) hl hh hm).congr (by simp only [execOp, ho, Option.map_none])
        · cases hc
      · cases hc
    · cases hc
  | extract x i =>
    rw [ho] at hc
    simp only [cop1, Option.map_eq_some_iff] at hc
    obtain ⟨x', hx, rfl⟩ := hc
    exact (told_ext hs (copd_sound hf hx) hm).congr (by simp only [execOp, ho])
  | nilCheck x =>
    rw [ho] at hc
    simp only [cop1, Option.map_eq_some_iff] at hc
    obtain ⟨x', hx, rfl⟩ := hc
    exact told_nilck hs (copd_sound hf hx) hm ho rfl
  | typeAssert x xt t ok =>
    rw [ho] at hc
    simp only [cop1, bind, Option.bind_eq_some_iff] at hc
    obtain ⟨x', hx, hc⟩ := hc
    split at hc
    · cases hc
    · rename_i d hd hu
      simp only [Option.map_eq_some_iff] at hc
      obtain ⟨z, hz, rfl⟩ := hc
      exact (told_tasI (xt := xt) hs hu (fun ms e => hd ms e) hz (copd_sound hf hx) hm).congr (by simp only [execOp, ho])
    · cases hc
  | makeMap t r =>
    rw [ho] at hc
    cases r with
    | some r => simp [cop1] at hc
    | none =>
      simp only [cop1] at hc
      split at hc
      · simp only [Option.some.injEq] at hc; subst hc
        exact (told_mkmap (t := t) hs hm).congr (by simp only [execOp, ho, Option.map_none])
      · cases hc
  | lookup t x k ok =>
    rw [ho] at hc
    simp only [cop1, bind, Option.bind_eq_some_iff] at hc
    obtain ⟨x', hx, k', hk, hc⟩ := hc
    split at hc
    · rename_i kt e hu
      split at hc
      · rename_i kd z hkd hz
        simp only [Option.some.injEq] at hc; subst hc
        obtain ⟨d, hd, hkd⟩ := Option.bind_eq_some_iff.1 hkd
        exact (told_mlook hs hu hd hz (copd_sound hf hx) (copd_sound hf hk) hkd hm).congr (by simp only [execOp, ho])
      · cases hc
    · cases hc
  | mapUpdate t x k u =>
    rw [ho] at hc
    simp only [cop1, bind, Option.bind_eq_some_iff] at hc
    obtain ⟨x', hx, k', hk, u', hv, hc⟩ := hc
    split at hc
    · rename_i kt e hu
      split at hc
      · rename_i kd hkd
        simp only [Option.some.injEq] at hc; subst hc
        obtain ⟨d, hd, hkd⟩ := Option.bind_eq_some_iff.1 hkd
        exact (told_mupd hs hu hd (copd_sound hf hx) (copd_sound hf hk) (copd_sound hf hv) hkd hm).congr (by simp only [execOp, ho])
      · cases hc
    · cases hc
  | insert t x k u =>
    rw [ho] at hc
    simp only [cop1, bind, Option.bind_eq_some_iff] at hc
    obtain ⟨x', hx, k', hk, u', hv, hc⟩ := hc
    split at hc
    · rename_i kt e hu
      split at hc
      · rename_i kd hkd
        simp only [Option.some.injEq] at hc; subst hc
        obtain ⟨d, hd, hkd⟩ := Option.bind_eq_some_iff.1 hkd
        exact (told_mupd hs hu hd (copd_sound hf hx) (copd_sound hf hk) (copd_sound hf hv) hkd hm).congr (by simp only [execOp, ho])
      · cases hc
    · cases hc
  | call c =>
    rw [ho] at hc
    exact ccall_sound ho hc hs hf hm
  | _ => rw [ho] at hc; simp [cop1] at hc
theorem cop_sound {o : Oper} {m : MOp} (hc : cop P o.op = some m) (hs : Sim B w0 μ σ w) (hf : ∀ i, VR μ σ.size (ts i) (a.tmps.getD i undef)) (hm : mop ts σ m = some (v, τ)) :
    Told P B w0 μ σ τ v (execOp a.eval o) w := by
  unfold cop at hc
  split at hc
  · rename_i m' h
    simp only [Option.some.injEq] at hc; subst hc
    exact cop1_sound h hs hf hm
  · simp only [Option.some.injEq] at hc; subst hc; simp [mop] at hm
end
end Go.Mini
