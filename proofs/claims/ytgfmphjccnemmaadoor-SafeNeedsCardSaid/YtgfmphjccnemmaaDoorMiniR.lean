/- Regions that draw their order: whichever order is taken, what the one order tells holds. -/
import Derived.Test.YtgfmphjccnemmaaDoorMiniQ
namespace Go.Mini
open Go.RowKit (Below)
set_option linter.unusedVariables false
set_option linter.unusedSimpArgs false
section
variable {P : Program} {ops : Array Oper} {T : List Nat} {B : Nat} {w0 : World} {N : Nat} {μ0 : Nat → Blk} {n0 : Nat}

/-- What is told of the check of the whole. -/
structure Full (P : Program) (N : Nat) (ops : Array Oper) (T : List Nat) (full : List DI) : Prop where
  tab : tabOk ops T = true
  ok : okAll ops T [] none full = true
  comp : ∀ i, i < ops.size → ∃ d ∈ full, d.ix = i
  cmi : ∀ d ∈ full, ∃ o, ops[d.ix]? = some o ∧ cMI P N ops o = some d.mi
theorem Full.at {full : List DI} (h : Full P N ops T full) {a c : List DI} {b : DI} (e : full = a ++ b :: c) : Fit ops T a b ∧ ∀ i, lastLoud a none = some i → rch T i b.ix = true := by
  have := h.ok
  rw [e] at this
  have := okAll_split this
  rw [List.nil_append] at this
  exact okOne_fit this

structure J (P : Program) (ops : Array Oper) (B : Nat) (w0 : World) (N : Nat) (μ0 : Nat → Blk) (n0 : Nat) (full : List DI) (K : Fr → H → Prop) (pre rest : List DI) (listed : Array Bool) (ts : Fr) (σ : H) (a : Act) (w : World) : Prop where
  split : full = pre ++ rest
  size : listed.size = ops.size
  sub : ∀ i, Lst listed i → ∃ d ∈ pre, d.ix = i
  closed : Closed ops listed
  loudL : ∀ d ∈ pre, d.loud = true → Lst listed d.ix
  pend : ∀ d ∈ pre, ¬ Lst listed d.ix → PV d.mi ts σ
  run : mld P rest K ts σ
  st : ∃ ts2 μ, St B w0 N μ0 n0 μ ts2 σ a w ∧ ∀ s, (∀ d ∈ pre, ¬ Lst listed d.ix → d.mi.dst ≠ some s) → ts2 s = ts s

theorem quiet_mstep {ts : Fr} {σ : H} {op : MOp} {K : Value → H → Prop} (hq : quietM op = true) (h : mstep P ts σ op K) : ∃ v, mop ts σ op = some (v, σ) ∧ K v σ := by
  have : ∃ v τ, mop ts σ op = some (v, τ) ∧ K v τ := by
    cases op <;> first | (simp [quietM] at hq; done) | exact h
  obtain ⟨v, τ, h1, h2⟩ := this
  obtain ⟨rfl, _⟩ := quiet_ext hq h1
  exact ⟨v, h1, h2⟩

/-- The quiet ones that stand next are told at once. -/
theorem J.advance {full : List DI} {K : Fr → H → Prop} (hF : Full P N ops T full) : ∀ {rest pre : List DI} {listed : Array Bool} {ts : Fr} {σ : H} {a : Act} {w : World}, J P ops B w0 N μ0 n0 full K pre rest listed ts σ a w →
    ∃ pre' rest' ts', J P ops B w0 N μ0 n0 full K pre' rest' listed ts' σ a w ∧ ∀ h tl, rest' = h :: tl → h.loud = true
  | [], pre, listed, ts, σ, a, w, j => ⟨pre, [], ts, j, fun _ _ e => by cases e⟩
  | b :: rest, pre, listed, ts, σ, a, w, j => by
    by_cases hl : b.loud = true
    · exact ⟨pre, b :: rest, ts, j, fun h tl e => by cases e; exact hl⟩
    · obtain ⟨fit, _⟩ := hF.at j.split
      obtain ⟨hq, hself⟩ := fit.quiet.resolve_left hl
      have hnl : ¬ Lst listed b.ix := fun h => by
        obtain ⟨d, hd, e⟩ := j.sub _ h
        exact fit.ne d hd e
      have main : ∀ v, mld P rest K (updO ts b.mi.dst v) σ → PV b.mi (updO ts b.mi.dst v) σ → J P ops B w0 N μ0 n0 full K (pre ++ [b]) rest listed (updO ts b.mi.dst v) σ a w := by
        intro v hrun hpv
        refine ⟨by rw [j.split]; simp, j.size, fun i hi => ?_, j.closed, fun d hd hdl => ?_, fun d hd hdl => ?_, hrun, ?_⟩
        · obtain ⟨d, hd, e⟩ := j.sub i hi
          exact ⟨d, by simp [hd], e⟩
        · rcases List.mem_append.1 hd with h | h
          · exact j.loudL d h hdl
          · simp at h; subst h; exact absurd hdl hl
        · rcases List.mem_append.1 hd with h | h
          · have fr := (fit.fresh d h).resolve_left hl
            exact (j.pend d h hdl).upd (fun x hx => (fr x hx).1) (fun x hx => (fr x hx).2)
          · simp at h; subst h; exact hpv
        · obtain ⟨ts2, μ, st, hs⟩ := j.st
          refine ⟨ts2, μ, st, fun s hp => ?_⟩
          rw [hs s fun d hd hdl => hp d (by simp [hd]) hdl]
          have := hp b (by simp) hnl
          cases hd : b.mi.dst with
          | none => rfl
          | some x =>
            rw [hd] at this
            have hsx : s ≠ x := fun e => this (by rw [e])
            simp [updO, Mini.upd, hsx]
      have same : ∀ v, ∀ s ∈ rdI b.mi, ts s = updO ts b.mi.dst v s := fun v s hs => by
        cases hd : b.mi.dst with
        | none => rfl
        | some x =>
          have : s ≠ x := fun e => hself x hd (e ▸ hs)
          simp [updO, Mini.upd, this]
      have hrun := j.run
      simp only [mld] at hrun
      split at hrun
      · rename_i hw
        obtain ⟨v, hm, _, hk⟩ := quiet_mstep hq hrun
        refine J.advance hF (main v hk (.inl ⟨?_, v, ?_, fun d hd => ?_⟩))
        · rw [← wantM_congr (g := b.mi.g) fun s hs => same v s (by simp [rdI, hs])]; exact hw
        · rw [← mop_congr fun s hs => same v s (by simp [rdI, hs])]; exact hm
        · rw [hd]; simp [updO, Mini.upd]
      · rename_i hw
        refine J.advance hF (main undef hrun (.inr ⟨?_, fun d hd => ?_⟩))
        · rw [← wantM_congr (g := b.mi.g) fun s hs => same undef s (by simp [rdI, hs])]; simpa using hw
        · rw [hd]; simp [updO, Mini.upd]

theorem lst_set {listed : Array Bool} {i j : Nat} (hi : i < listed.size) : Lst (listed.setIfInBounds i true) j ↔ (j = i ∨ Lst listed j) := by
  unfold Lst
  simp only [Array.getD_eq_getD_getElem?, Array.getElem?_setIfInBounds]
  by_cases e : i = j
  · subst e; simp [hi]
  · have : j ≠ i := fun x => e x.symm
    simp [e, this]
theorem filter_lt {α : Type} {p q : α → Bool} : ∀ {l : List α}, (∀ x ∈ l, q x = true → p x = true) → (∃ x ∈ l, p x = true ∧ q x = false) → (l.filter q).length < (l.filter p).length
  | [], _, h => by obtain ⟨x, hx, _⟩ := h; cases hx
  | a :: l, h1, h2 => by
    have hle : ∀ {l : List α}, (∀ x ∈ l, q x = true → p x = true) → (l.filter q).length ≤ (l.filter p).length := by
      intro l
      induction l with
      | nil => intro _; simp
      | cons a l ih =>
        intro h
        have ih' := ih fun x hx => h x (by simp [hx])
        have ha := h a (by simp)
        by_cases hq : q a = true
        · simp [List.filter_cons, hq, ha hq, ih']
        · by_cases hp : p a = true
          · simp [List.filter_cons, hq, hp]; omega
          · simp [List.filter_cons, hq, hp, ih']
    have ha := h1 a (by simp)
    obtain ⟨x, hx, hp, hq⟩ := h2
    rcases List.mem_cons.1 hx with e | hx'
    · subst e
      have := hle (l := l) fun y hy => h1 y (by simp [hy])
      simp [List.filter_cons, hp, hq]; omega
    · have ih := filter_lt (l := l) (fun y hy => h1 y (by simp [hy])) ⟨x, hx', hp, hq⟩
      by_cases hqa : q a = true
      · simp [List.filter_cons, hqa, ha hqa, ih]
      · by_cases hpa : p a = true
        · simp [List.filter_cons, hqa, hpa]; omega
        · simp [List.filter_cons, hqa, hpa, ih]

theorem drawn {full : List DI} {K : Fr → H → Prop} {Q : Exit → Act → World → Prop} (hF : Full P N ops T full)
    (hK : ∀ ts σ μ a w, K ts σ → St B w0 N μ0 n0 μ ts σ a w → Q .normal a w) : ∀ (fuel : Nat) {pre rest : List DI} {listed : Array Bool} {ts : Fr} {σ : H} {a : Act} {w : World},
    J P ops B w0 N μ0 n0 full K pre rest listed ts σ a w → (full.filter fun d => !listed.getD d.ix false).length ≤ fuel → wpAny P .any ops Q fuel listed a w := by
  intro fuel
  -- all have come up
  have done : ∀ {pre rest : List DI} {listed : Array Bool} {ts : Fr} {σ : H} {a : Act} {w : World}, J P ops B w0 N μ0 n0 full K pre rest listed ts σ a w → (∀ d ∈ full, Lst listed d.ix) → Q .normal a w := by
    intro pre rest listed ts σ a w j hall
    have hrest : rest = [] := by
      cases hr : rest with
      | nil => rfl
      | cons h tl =>
        exfalso
        have e := j.split
        rw [hr] at e
        have := hall h (by rw [e]; simp)
        obtain ⟨d, hd, he⟩ := j.sub _ this
        exact (hF.at e).1.ne d hd he
    subst hrest
    obtain ⟨ts2, μ, st, hs⟩ := j.st
    have : ts2 = ts := funext fun s => hs s fun d hd hdl => absurd (hall d (by rw [j.split]; simp [hd])) hdl
    subst this
    exact hK _ _ _ _ _ j.run st
  -- none can come up: all have
  have idle : ∀ {pre rest : List DI} {listed : Array Bool} {ts : Fr} {σ : H} {a : Act} {w : World}, J P ops B w0 N μ0 n0 full K pre rest listed ts σ a w → Region.ready .any ops listed = [] → ∀ d ∈ full, Lst listed d.ix := by
    intro pre rest listed ts σ a w j hr
    have : ∀ (n : Nat) (l c : List DI), l.length = n → full = l ++ c → ∀ d ∈ l, Lst listed d.ix := by
      intro n
      induction n with
      | zero => intro l c h0 _ d hd; rw [List.length_eq_zero_iff.1 h0] at hd; cases hd
      | succ n ih0 =>
        intro l0 c h0 e d hd
        obtain ⟨l, b, rfl⟩ : ∃ l b, l0 = l ++ [b] := by
          rcases List.eq_nil_or_concat l0 with h | ⟨l, b, h⟩
          · subst h; simp at h0
          · exact ⟨l, b, by simpa using h⟩
        have ih : ∀ c, full = l ++ c → ∀ d ∈ l, Lst listed d.ix := fun c => ih0 l c (by simpa using h0)
        have e' : full = l ++ b :: c := by rw [e]; simp
        have hl := ih (b :: c) e'
        rcases List.mem_append.1 hd with h | h
        · exact hl d h
        · simp at h
          subst h
          obtain ⟨o, ho, hd⟩ := (hF.at e').1.deps
          apply Classical.byContradiction
          intro hn
          have hlt : d.ix < ops.size := by
            rcases Nat.lt_or_ge d.ix ops.size with x | x
            · exact x
            · rw [Array.getElem?_eq_none x] at ho; cases ho
          have hmem : d.ix ∈ Region.ready .any ops listed := mem_ready.2 ⟨by
              have hsz : d.ix < listed.size := by rw [j.size]; exact hlt
              unfold Lst at hn
              rw [Array.getD_eq_getD_getElem?, Array.getElem?_eq_getElem hsz] at hn ⊢
              simpa using hn, o, ho, fun e' he' hb => by
                obtain ⟨x, hx, ex⟩ := hd e' he' hb
                rw [← ex]; exact hl x hx⟩
          rw [hr] at hmem
          cases hmem
    exact this full.length full [] rfl (by simp)
  induction fuel with
  | zero =>
    intro pre rest listed ts σ a w j hm
    have hall : ∀ d ∈ full, Lst listed d.ix := by
      intro d hd
      apply Classical.byContradiction
      intro hn
      have h0 : (full.filter fun d => !listed.getD d.ix false) = [] := List.length_eq_zero_iff.1 (by omega)
      have : d ∈ full.filter fun d => !listed.getD d.ix false := List.mem_filter.2 ⟨hd, by unfold Lst at hn; simpa using hn⟩
      rw [h0] at this
      cases this
    refine ⟨?_, done j hall⟩
    apply Classical.byContradiction
    intro hne
    obtain ⟨i, hi⟩ := List.exists_mem_of_ne_nil _ hne
    obtain ⟨h1, o, ho, _⟩ := mem_ready.1 hi
    have hlt : i < ops.size := by
      rcases Nat.lt_or_ge i ops.size with x | x
      · exact x
      · rw [Array.getElem?_eq_none x] at ho; cases ho
    obtain ⟨d, hd, e⟩ := hF.comp i hlt
    have := hall d hd
    unfold Lst at this
    rw [e] at this
    have hsz : i < listed.size := by rw [j.size]; exact hlt
    rw [Array.getD_eq_getD_getElem?, Array.getElem?_eq_getElem hsz] at h1 this
    simp at h1 this
    rw [h1] at this; cases this
  | succ fuel ih =>
    intro pre rest listed ts σ a w j0 hm
    obtain ⟨pre, rest, ts, j, hhead⟩ := j0.advance hF
    clear j0
    refine ⟨fun hr => done j (idle j hr), fun i hi => ?_⟩
    obtain ⟨h1, o, ho, hdeps⟩ := mem_ready.1 hi
    have hlt : i < ops.size := by
      rcases Nat.lt_or_ge i ops.size with x | x
      · exact x
      · rw [Array.getElem?_eq_none x] at ho; cases ho
    have hsz : i < listed.size := by rw [j.size]; exact hlt
    have hni : ¬ Lst listed i := by
      unfold Lst
      rw [Array.getD_eq_getD_getElem?, Array.getElem?_eq_getElem hsz] at h1 ⊢
      simp at h1 ⊢; exact h1
    obtain ⟨d, hd, e⟩ := hF.comp i hlt
    obtain ⟨o', ho', hcmi⟩ := hF.cmi d hd
    rw [e, ho] at ho'
    cases ho'
    obtain ⟨c1, c2, c3, c4, c5⟩ := cMI_spec hcmi
    obtain ⟨ts2, μ, st, hs⟩ := j.st
    have hmeas : ∀ {l' : Array Bool}, l' = listed.setIfInBounds i true → (full.filter fun d => !l'.getD d.ix false).length ≤ fuel := by
      intro l' el
      subst el
      have := filter_lt (l := full) (p := fun d => !listed.getD d.ix false) (q := fun d => !(listed.setIfInBounds i true).getD d.ix false) (fun x _ hx => by
        have hx' : ¬ Lst (listed.setIfInBounds i true) x.ix := by unfold Lst; simpa using hx
        have : ¬ Lst listed x.ix := fun h => hx' ((lst_set hsz).2 (.inr h))
        unfold Lst at this
        simpa using this) ⟨d, hd, by rw [e]; unfold Lst at hni; simpa using hni, by
          have : Lst (listed.setIfInBounds i true) d.ix := (lst_set hsz).2 (.inl e)
          unfold Lst at this
          simpa using this⟩
      omega
    have hclosed : Closed ops (listed.setIfInBounds i true) := by
      intro k ok hk hok e' he' hb
      refine (lst_set hsz).2 ?_
      rcases (lst_set hsz).1 hk with h | h
      · subst h
        rw [ho] at hok
        cases hok
        exact .inr (hdeps e' he' hb)
      · exact .inr (j.closed k ok h hok e' he' hb)
    have hsz' : (listed.setIfInBounds i true).size = ops.size := by simpa using j.size
    have hreach : ∀ x, rch T x i = true → Lst listed x := fun x hx => dst_listed hF.tab j.closed _ hx ho hdeps
    -- slots that d reads hold what the small frame holds
    have read : ∀ {l c : List DI}, full = l ++ d :: c → (∀ x ∈ pre, ¬ Lst listed x.ix → x.loud ≠ true) → (∀ x ∈ pre, ¬ Lst listed x.ix → x = d ∨ x ∈ l ∨ x ∈ c) → (d.loud = true → ∀ x ∈ pre, x ∈ l) → ∀ s ∈ rdI d.mi, (d.loud = true ∨ quietM d.mi.op = true) → ts2 s = ts s := by
      intro l c ef hq hpos hpl s hsr _
      refine hs s fun x hx hxl hdst => ?_
      rcases hpos x hx hxl with h | h | h
      · subst h
        by_cases hl : x.loud = true
        · exact hq x hx hxl hl
        · exact ((hF.at ef).1.quiet.resolve_left hl).2 s hdst hsr
      · rcases (hF.at ef).1.pair x h with h2 | ⟨_, h2⟩
        · rw [e] at h2; exact hxl (hreach _ h2)
        · exact h2 s hdst hsr
      · obtain ⟨c1, c2, rfl⟩ := List.append_of_mem h
        have ef2 : full = (l ++ d :: c1) ++ x :: c2 := by rw [ef]; simp
        have := ((hF.at ef2).1.fresh d (by simp)).resolve_left (hq x hx hxl)
        exact (this s hdst).1 hsr
    have hpq : ∀ x ∈ pre, ¬ Lst listed x.ix → x.loud ≠ true := fun x hx hxl hl => hxl (j.loudL x hx hl)
    have hmem : d ∈ pre ∨ d ∈ rest := by
      have := hd
      rw [j.split] at this
      exact List.mem_append.1 this
    have hdn : ¬ Lst listed d.ix := by rw [e]; exact hni
    -- whether it is wanted
    have hwant : (∀ s ∈ rdI d.mi, ts2 s = ts s) → Region.wanted o (yielded ops a.tmps) = wantM ts d.mi.g := fun h => by
      rw [want_eq st.fr c2]
      exact wantM_congr fun s hs => h s (by simp [rdI, hs])
    unfold wpOp
    simp only [ho]
    rcases hmem with hpre | hrest
    · -- pending, quiet
      obtain ⟨p1, p2, ep⟩ := List.append_of_mem hpre
      have ef : full = p1 ++ d :: (p2 ++ rest) := by rw [j.split, ep]; simp
      have hdl : d.loud ≠ true := hpq d hpre hdn
      have hq := ((hF.at ef).1.quiet.resolve_left hdl).1
      have hrd : ∀ s ∈ rdI d.mi, ts2 s = ts s := fun s hs' => read ef hpq (fun x hx _ => by
        rw [ep] at hx
        rcases List.mem_append.1 hx with h | h
        · exact .inr (.inl h)
        · rcases List.mem_cons.1 h with h | h
          · exact .inl h
          · exact .inr (.inr (by simp [h]))) (fun h => absurd h hdl) s hs' (.inr hq)
      rw [hwant hrd]
      have fin : ∀ {v v' : Value} {w' : World} {μ' : Nat → Blk}, Sim B w0 μ' σ w' → VR μ' σ.size v v' → Agr σ.size μ μ' → (∀ x, d.mi.dst = some x → ts x = v) → wpAny P .any ops Q fuel (listed.setIfInBounds i true) (a.put o.dst v') w' := by
        intro v v' w' μ' hsim hv hag hval
        refine ih (pre := pre) (rest := rest) (ts := ts) (σ := σ) ⟨j.split, hsz', fun k hk => ?_, hclosed, fun x hx hl => (lst_set hsz).2 (.inr (j.loudL x hx hl)), fun x hx hxl => j.pend x hx fun h => hxl ((lst_set hsz).2 (.inr h)), j.run, ?_⟩ (hmeas rfl)
        · rcases (lst_set hsz).1 hk with h | h
          · exact ⟨d, hpre, by rw [e, h]⟩
          · exact j.sub k h
        · refine ⟨updO ts2 o.dst v, μ', st.put c4 hsim hv hag (Nat.le_refl _), fun s hp => ?_⟩
          rw [← c3]
          by_cases hsd : d.mi.dst = some s
          · rw [hsd]; simp [updO, Mini.upd]; exact (hval s hsd).symm
          · have h2 : updO ts2 d.mi.dst v s = ts2 s := by
              cases hdd : d.mi.dst with
              | none => rfl
              | some x =>
                have : s ≠ x := fun ee => hsd (by rw [hdd, ee])
                simp [updO, Mini.upd, this]
            rw [h2]
            refine hs s fun x hx hxl hdst => ?_
            by_cases hxd : x.ix = i
            · -- the same operation
              have : x = d := by
                apply Classical.byContradiction
                intro hne
                rw [ep] at hx
                rcases List.mem_append.1 hx with h | h
                · exact (hF.at ef).1.ne x h (by rw [hxd, e])
                · rcases List.mem_cons.1 h with h | h
                  · exact hne h
                  · obtain ⟨c1, c2, rfl⟩ := List.append_of_mem h
                    have ef2 : full = (p1 ++ d :: c1) ++ x :: (c2 ++ rest) := by rw [ef]; simp
                    exact (hF.at ef2).1.ne d (by simp) (by rw [hxd, e])
              subst this
              exact hsd hdst
            · exact hp x hx (fun h => by
                rcases (lst_set hsz).1 h with h | h
                · exact hxd h
                · exact hxl h) hdst
      rcases j.pend d hpre hdn with ⟨hw, v, hm, hval⟩ | ⟨hw, hval⟩
      · rw [hw]
        simp only [if_true]
        left
        have hm2 : mop ts2 σ d.mi.op = some (v, σ) := by rw [mop_congr fun s hs => hrd s (by simp [rdI, hs])]; exact hm
        obtain ⟨v', w', μ', hrun, hsim, hv, hag, _⟩ := cop_sound c1 st.sim st.fr.2 hm2
        unfold Oper.wp
        rcases hrun with hrun | ⟨hrun, rfl⟩
        · rw [hrun]; exact fin hsim hv hag hval
        · rw [hrun]; exact fin hsim hv hag hval
      · rw [hw]
        simp only [Bool.false_eq_true, if_false]
        exact fin st.sim (.tuple .nil) (.refl _ _) hval
    · -- the next loud one
      cases hr : rest with
      | nil => rw [hr] at hrest; cases hrest
      | cons h tl =>
        have hhl := hhead h tl hr
        have hdh : d = h := by
          rw [hr] at hrest
          rcases List.mem_cons.1 hrest with x | x
          · exact x
          · exfalso
            obtain ⟨t1, t2, rfl⟩ := List.append_of_mem x
            have ef : full = (pre ++ h :: t1) ++ d :: t2 := by rw [j.split, hr]; simp
            obtain ⟨k, hk⟩ := lastLoud_some t1 h.ix
            have hlast : lastLoud (pre ++ h :: t1) none = some k := by
              rw [lastLoud_append]
              simp only [lastLoud, hhl, if_true]
              exact hk
            have hdk := (hF.at ef).2 k hlast
            rw [e] at hdk
            have hkl := hreach k hdk
            obtain ⟨q, hq, eq⟩ := j.sub k hkl
            rcases lastLoud_mem t1 _ hk with ⟨y, hy, ey⟩ | ey
            · obtain ⟨y1, y2, rfl⟩ := List.append_of_mem hy
              have ef2 : full = (pre ++ h :: y1) ++ y :: (y2 ++ d :: t2) := by rw [ef]; simp
              exact (hF.at ef2).1.ne q (by simp [hq]) (by rw [eq, ey])
            · simp only [Option.some.injEq] at ey
              have ef2 : full = pre ++ h :: (t1 ++ d :: t2) := by rw [ef]; simp
              exact (hF.at ef2).1.ne q hq (by rw [eq, ey])
        subst hdh
        have ef : full = pre ++ d :: tl := by rw [j.split, hr]
        obtain ⟨fit, _⟩ := hF.at ef
        have hrd : ∀ s ∈ rdI d.mi, ts2 s = ts s := fun s hs' => read ef hpq (fun x hx _ => .inr (.inl hx)) (fun _ x hx => hx) s hs' (.inl hhl)
        rw [hwant hrd]
        have hrun := j.run
        rw [hr] at hrun
        simp only [mld] at hrun
        -- behind it
        have fin : ∀ {v : Value} {τ : H} {μ' : Nat → Blk} {a' : Act} {w' : World}, ((d.ext = true → Ext σ τ)) → mld P tl K (updO ts d.mi.dst v) τ → St B w0 N μ0 n0 μ' (updO ts2 o.dst v) τ a' w' → wpAny P .any ops Q fuel (listed.setIfInBounds i true) a' w' := by
          intro v τ μ' a' w' hext hk st'
          refine ih (pre := pre ++ [d]) (rest := tl) (ts := updO ts d.mi.dst v) (σ := τ) ⟨by rw [ef]; simp, hsz', fun k hk => ?_, hclosed, fun x hx hl => ?_, fun x hx hxl => ?_, hk, ?_⟩ (hmeas rfl)
          · rcases (lst_set hsz).1 hk with h | h
            · exact ⟨d, by simp, by rw [e, h]⟩
            · obtain ⟨x, hx, ex⟩ := j.sub k h
              exact ⟨x, by simp [hx], ex⟩
          · rcases List.mem_append.1 hx with h | h
            · exact (lst_set hsz).2 (.inr (j.loudL x h hl))
            · simp at h; subst h; exact (lst_set hsz).2 (.inl e)
          · have hxp : x ∈ pre := by
              rcases List.mem_append.1 hx with h | h
              · exact h
              · simp at h; subst h; exact absurd ((lst_set hsz).2 (.inl e)) hxl
            have hxn : ¬ Lst listed x.ix := fun h => hxl ((lst_set hsz).2 (.inr h))
            have hxq : quietM x.mi.op = true := by
              obtain ⟨q1, q2, eq⟩ := List.append_of_mem hxp
              have ef2 : full = q1 ++ x :: (q2 ++ d :: tl) := by rw [ef, eq]; simp
              exact ((hF.at ef2).1.quiet.resolve_left (hpq x hxp hxn)).1
            have hnd : ¬ rch T x.ix d.ix = true := fun h => by rw [e] at h; exact hxn (hreach _ h)
            have hE : PV x.mi ts τ := by
              rcases fit.ext hhl with h | h
              · exact (j.pend x hxp hxn).ext hxq (hext h)
              · rcases h x hxp with h | h
                · exact (j.pend x hxp hxn).pure h
                · exact absurd h hnd
            have hp := (fit.pair x hxp).resolve_left hnd
            exact hE.upd (fun y hy => (hp.1 y hy).1) (fun y hy => (hp.1 y hy).2)
          · refine ⟨updO ts2 o.dst v, μ', st', fun s hp => ?_⟩
            rw [← c3]
            cases hdd : d.mi.dst with
            | none =>
              exact hs s fun x hx hxl => hp x (by simp [hx]) (fun h => by
                rcases (lst_set hsz).1 h with h | h
                · exact fit.ne x hx (by rw [h, e])
                · exact hxl h)
            | some y =>
              by_cases hsy : s = y
              · subst hsy; simp [updO, Mini.upd]
              · simp only [updO, Mini.upd, hsy, if_false]
                exact hs s fun x hx hxl => hp x (by simp [hx]) (fun h => by
                  rcases (lst_set hsz).1 h with h | h
                  · exact fit.ne x hx (by rw [h, e])
                  · exact hxl h)
        split at hrun
        · rename_i hw
          rw [hw]
          simp only [if_true]
          left
          have hms := mstep_congr (P := P) (ts' := ts2) (fun s hs' => (hrd s (by simp [rdI, hs'])).symm) hrun
          refine mstep_sound (d := d.mi.dst) c1 c5 c4 st hms ?_
          intro v τ μ' a' w' hk st'
          exact fin hk.1 hk.2 st'
        · rename_i hw
          have hwf : wantM ts d.mi.g = false := by simpa using hw
          rw [hwf]
          simp only [Bool.false_eq_true, if_false]
          refine fin (v := undef) (μ' := μ) (fun _ => Ext.refl σ) hrun ?_
          exact st.put c4 st.sim (.tuple .nil) (.refl _ _) (Nat.le_refl _)
end
end Go.Mini
