import Derived.Test.YtepjinaomedecaaDoorMiniB
/- The small operations tell what the model's do: memory. -/
namespace Go.Mini
open Go.RowKit (Below)
set_option linter.unusedVariables false
set_option linter.unusedSimpArgs false

section inv
variable {μ : Nat → Blk} {n : Nat} {y : Value}
theorem VR.inv_bool {b : Bool} (h : VR μ n (.bool b) y) : y = .bool b := by cases h; rfl
theorem VR.inv_int {k : IntKind} {x : Int} (h : VR μ n (.int k x) y) : y = .int k x := by cases h; rfl
theorem VR.inv_string {s : ByteArray} (h : VR μ n (.string s) y) : y = .string s := by cases h; rfl
theorem VR.inv_nilPtr (h : VR μ n (.pointer none) y) : y = .pointer none := by cases h; rfl
theorem VR.inv_nilMap (h : VR μ n (.map none) y) : y = .map none := by cases h; rfl
theorem VR.inv_nilIface (h : VR μ n .nilIface y) : y = .nilIface := by cases h; rfl
theorem VR.inv_nilFunc (h : VR μ n .nilFunc y) : y = .nilFunc := by cases h; rfl
theorem VR.inv_nilSlice {l c : Nat} (h : VR μ n (.slice none l c) y) : y = .slice none 0 0 ∧ l = 0 ∧ c = 0 := by cases h; exact ⟨rfl, rfl, rfl⟩
theorem VR.inv_ptr {id off : Nat} (h : VR μ n (.pointer (some ⟨id, off, none⟩)) y) : id < n ∧ y = .pointer (some ⟨(μ id).b, (μ id).o + off, none⟩) := by
  cases h with | ptr h => exact ⟨h, rfl⟩
theorem VR.inv_ptrA {a : Addr} (h : VR μ n (.pointer (some a)) y) : a.block < n ∧ a.spot = none ∧ y = .pointer (some ⟨(μ a.block).b, (μ a.block).o + a.off, none⟩) := by
  cases h with | ptr h => exact ⟨h, rfl, rfl⟩
theorem VR.inv_map {id : Nat} (h : VR μ n (.map (some id)) y) : id < n ∧ y = .map (some (μ id).b) := by cases h with | map h => exact ⟨h, rfl⟩
theorem VR.inv_slice {a : Addr} {len cap : Nat} (h : VR μ n (.slice (some a) len cap) y) :
    ∃ cap' o', y = .slice (some ⟨(μ a.block).b, o', none⟩) len cap' ∧ a.spot = none ∧ a.block < n ∧ len ≤ cap ∧ cap ≤ cap' ∧ (0 < cap → o' = (μ a.block).o + a.off) ∧
      ((μ a.block).sz ≠ 0 → o' + cap' * (μ a.block).sz ≤ (μ a.block).n) ∧ ((μ a.block).ex = true → cap' = cap) := by
  cases h with | slice h hl hc ho hz he => exact ⟨_, _, rfl, rfl, h, hl, hc, ho, hz, he⟩
theorem VR.inv_agg {c : Array Value} (h : VR μ n (.agg c) y) : ∃ c', y = .agg c' ∧ VRs μ n c.toList c'.toList := by cases h with | agg h => exact ⟨_, rfl, h⟩
theorem VR.inv_tuple {c : Array Value} (h : VR μ n (.tuple c) y) : ∃ c', y = .tuple c' ∧ VRs μ n c.toList c'.toList := by cases h with | tuple h => exact ⟨_, rfl, h⟩
theorem VR.inv_iface {t : TypeId} {v : Value} (h : VR μ n (.iface t v) y) : ∃ v', y = .iface t v' ∧ VR μ n v v' := by cases h with | iface h => exact ⟨_, rfl, h⟩
theorem VR.inv_func {fn : Fn} {f c : Array Value} (h : VR μ n (.func fn f c) y) :
    ∃ f' c', y = .func fn f' c' ∧ VRs μ n f.toList f'.toList ∧ VRs μ n c.toList c'.toList := by cases h with | func a b => exact ⟨_, _, rfl, a, b⟩
theorem VR.one_eq {v : Value} (h : VR μ n v y) : one y = one v := by cases h <;> rfl
theorem VR.cells_size {v : Value} (h : VR μ n v y) : y.cells.size = v.cells.size := by have := h.cells.length; simpa using this
theorem VRs.one_all : ∀ {l l' : List Value}, VRs μ n l l' → l'.all one = l.all one
  | _, _, .nil => rfl
  | _, _, .cons h hs => by simp only [List.all_cons, h.one_eq, VRs.one_all hs]
theorem VR.of_closed {v : Value} (h : closed v = true) : VR μ n v v := by
  cases v with
  | agg cs => exact .agg (.of_plain (by simpa [closed] using h))
  | tuple cs => exact .tuple (.of_plain (by simpa [closed] using h))
  | iface t v => exact .iface (.of_plain (by simpa [closed] using h))
  | _ => exact .of_plain (by simpa [closed] using h)
end inv

theorem copd_sound {μ : Nat → Blk} {n : Nat} {ts : Fr} {a : Act} (hf : ∀ i, VR μ n (ts i) (a.tmps.getD i undef)) {x : Operand} {x' : Opd} (h : copd x = some x') :
    VR μ n (mev ts x') (a.eval x) := by
  cases x with
  | tmp t => simp only [copd, Option.some.injEq] at h; subst h; exact hf t
  | const v =>
    simp only [copd] at h
    split at h
    · rename_i hc; simp only [Option.some.injEq] at h; subst h; exact .of_closed hc
    · cases h
  | global g => simp [copd] at h
  | func f => simp only [copd, Option.some.injEq] at h; subst h; exact .func (.nil) (.nil)
theorem copds_sound {μ : Nat → Blk} {n : Nat} {ts : Fr} {a : Act} (hf : ∀ i, VR μ n (ts i) (a.tmps.getD i undef)) :
    ∀ {xs : List Operand} {xs' : List Opd}, xs.mapM copd = some xs' → VRs μ n (xs'.map (mev ts)) (xs.map a.eval)
  | [], xs', h => by simp at h; subst h; exact .nil
  | x :: xs, xs', h => by
    rw [List.mapM_cons] at h
    cases hx : copd x with
    | none => simp [hx] at h
    | some x' =>
      cases hxs : xs.mapM copd with
      | none => simp [hx, hxs] at h
      | some ys =>
        simp [hx, hxs] at h
        subst h
        exact .cons (copd_sound hf hx) (copds_sound hf hxs)

/-! ## Rows -/
theorem rowL_eq : ∀ (n k : Nat) (cs vs : List Value), rowL cs k n = some vs → vs.length = n ∧ ∀ j, j < n → vs[j]? = cs[k + j]?
  | 0, k, cs, vs, h => by simp [rowL] at h; subst h; exact ⟨rfl, fun j hj => by omega⟩
  | n + 1, k, cs, vs, h => by
    simp only [rowL] at h
    split at h
    · rename_i v hv
      cases hr : rowL cs (k + 1) n with
      | none => simp [hr] at h
      | some ws =>
        simp [hr] at h
        subst h
        obtain ⟨h1, h2⟩ := rowL_eq n (k + 1) cs ws hr
        refine ⟨by simp [h1], fun j hj => ?_⟩
        cases j with
        | zero => simp [hv]
        | succ j =>
          simp only [List.getElem?_cons_succ]
          rw [h2 j (by omega), show k + 1 + j = k + (j + 1) by omega]
    · cases h
theorem rowL_some : ∀ (n k : Nat) (cs : List Value), k + n ≤ cs.length → rowL cs k n = some ((cs.drop k).take n)
  | 0, k, cs, h => by simp [rowL]
  | n + 1, k, cs, h => by
    have hk : k < cs.length := by omega
    simp only [rowL, List.getElem?_eq_getElem hk, rowL_some n (k + 1) cs (by omega), Option.map_some]
    rw [List.drop_eq_getElem_cons hk, List.take_succ_cons]

theorem Sim.rowOf {B : Fz} {w0 w : World} {μ : Nat → Blk} {σ : H} (hs : Sim B w0 μ σ w) {id : Nat} {cs : List Value}
    (h : (∃ sz, σ.get id = .cells sz cs) ∨ σ.get id = .ro cs ∨ ∃ T, σ.get id = .typ T cs) : ∃ cs' t fz, w.heap[(μ id).b]? = some (.cells cs' t fz) ∧ CellsR μ σ.size cs cs' (μ id).o := by
  rcases h with ⟨sz, h⟩ | h | ⟨T, h⟩
  · obtain ⟨_, cs', t, fz, h1, _, h2⟩ := hs.own id sz cs h; exact ⟨cs', t, fz, h1, h2⟩
  · exact (hs.ro id cs h).2
  · obtain ⟨_, _, cs', h1, _, h2⟩ := hs.typ id T cs h; exact ⟨cs', T, (0, 0), h1, h2⟩
theorem Sim.cell {B : Fz} {w0 w : World} {μ : Nat → Blk} {σ : H} (hs : Sim B w0 μ σ w) {id off : Nat} {v : Value} (h : σ.cell id off = some v) :
    ∃ v', w.cell? ⟨(μ id).b, (μ id).o + off, none⟩ = some v' ∧ VR μ σ.size v v' := by
  unfold H.cell at h
  split at h
  all_goals first | cases h | skip
  all_goals
    rename_i cs hc
    obtain ⟨cs', t, fz, h1, h2⟩ := hs.rowOf (by first | exact .inl ⟨_, hc⟩ | exact .inr (.inl hc) | exact .inr (.inr ⟨_, hc⟩))
    obtain ⟨v', h3, h4⟩ := h2 off v h
    exact ⟨v', by simp [World.cell?, h1, h3], h4⟩
theorem Sim.row {B : Fz} {w0 w : World} {μ : Nat → Blk} {σ : H} (hs : Sim B w0 μ σ w) {P : Program} {id off n : Nat} {vs : List Value} (h : σ.row id off n = some vs) :
    ∃ vs', (loadCells ⟨(μ id).b, (μ id).o + off, none⟩ n).run P w = .ok vs'.toArray w ∧ VRs μ σ.size vs vs' := by
  unfold H.row at h
  split at h
  all_goals first | cases h | skip
  all_goals
    rename_i cs hc
    obtain ⟨cs', t, fz, h1, h2⟩ := hs.rowOf (by first | exact .inl ⟨_, hc⟩ | exact .inr (.inl hc) | exact .inr (.inr ⟨_, hc⟩))
    obtain ⟨hl, hg⟩ := rowL_eq n off cs vs h
    have hin : (μ id).o + off + n ≤ cs'.size ∨ n = 0 := by
      rcases Nat.eq_zero_or_pos n with e | e
      · exact .inr e
      · left
        have hv : vs[n - 1]? = some vs[n - 1] := List.getElem?_eq_getElem (by omega)
        rw [hg (n - 1) (by omega)] at hv
        obtain ⟨v', h3, _⟩ := h2 _ _ hv
        rcases Nat.lt_or_ge ((μ id).o + (off + (n - 1))) cs'.size with x | x
        · omega
        · rw [Array.getElem?_eq_none x] at h3; cases h3
    have hlen : ((cs'.toList.drop ((μ id).o + off)).take n).length = n := by
      rw [List.length_take, List.length_drop, Array.length_toList]; omega
    refine ⟨(cs'.toList.drop ((μ id).o + off)).take n, ?_, .of_get (by rw [hlen, hl]) fun i v hv => ?_⟩
    · have := run_loadCells_list (P := P) (w := w) ⟨(μ id).b, (μ id).o + off, none⟩ ((cs'.toList.drop ((μ id).o + off)).take n) (fun j v hv => by
        rw [List.getElem?_take] at hv
        split at hv
        · rw [List.getElem?_drop, Array.getElem?_toList] at hv
          unfold Addr.add
          split
          · rename_i e; subst e; simp [World.cell?, h1]; simpa using hv
          · simp [World.cell?, h1]; exact hv
        · cases hv)
      rw [hlen] at this
      exact this
    · have hi : i < n := by
        rcases Nat.lt_or_ge i n with x | x
        · exact x
        · rw [List.getElem?_eq_none (by omega)] at hv; cases hv
      rw [hg i hi] at hv
      obtain ⟨v', h3, h4⟩ := h2 _ _ hv
      refine ⟨v', ?_, h4⟩
      rw [List.getElem?_take, if_pos hi, List.getElem?_drop, Array.getElem?_toList, Nat.add_assoc]
      exact h3

/-! ## Stores -/
def splA (c : Array Value) : Nat → List Value → Array Value
  | _, [] => c
  | k, v :: vs => splA (c.setIfInBounds k v) (k + 1) vs
theorem splA_size : ∀ (vs : List Value) (c : Array Value) (k : Nat), (splA c k vs).size = c.size
  | [], _, _ => rfl
  | v :: vs, c, k => by simp [splA, splA_size vs]
theorem spl_length : ∀ (vs cs : List Value) (k : Nat), (spl cs k vs).length = cs.length
  | [], _, _ => rfl
  | v :: vs, cs, k => by simp [spl, spl_length vs]
theorem CellsR.spl {μ : Nat → Blk} {n o : Nat} : ∀ {vs vs' : List Value} {cs : List Value} {cs' : Array Value} {k : Nat}, VRs μ n vs vs' → CellsR μ n cs cs' o → k + vs.length ≤ cs.length →
    CellsR μ n (Mini.spl cs k vs) (splA cs' (o + k) vs') o
  | _, _, cs, cs', k, .nil, h, _ => h
  | _, _, cs, cs', k, .cons (v := v) (v' := v') (l := l) hv hs, h, hk => by
    simp only [Mini.spl, splA]
    have h1 : CellsR μ n (cs.set k v) (cs'.setIfInBounds (o + k) v') o := by
      intro j u hu
      by_cases e : k = j
      · subst e
        have hlt : k < cs.length := by simp at hk; omega
        rw [List.getElem?_set_self hlt] at hu
        cases hu
        obtain ⟨x, hx, _⟩ := h k cs[k] (List.getElem?_eq_getElem hlt)
        have hin : o + k < cs'.size := by
          rcases Nat.lt_or_ge (o + k) cs'.size with y | y
          · exact y
          · rw [Array.getElem?_eq_none y] at hx; cases hx
        exact ⟨v', by simp [Array.getElem?_setIfInBounds, hin], hv⟩
      · rw [List.getElem?_set_ne e] at hu
        obtain ⟨x, hx, hr⟩ := h j u hu
        exact ⟨x, by rw [Array.getElem?_setIfInBounds, if_neg (by omega)]; exact hx, hr⟩
    have := CellsR.spl (k := k + 1) hs h1 (by simp at hk ⊢; omega)
    rwa [← Nat.add_assoc] at this
theorem run_storeRow (P : Program) (b o : Nat) (t : TypeId) (fz : Nat × Nat) : ∀ (vs : List Value) (i : Nat) (cur : Array Value) (w : World),
    w.heap[b]? = some (.cells cur t fz) → Unfrozen cur fz → o + i + vs.length ≤ cur.size → vs.all one = true →
    (storeCells ⟨b, o, none⟩ vs i).run P w = .ok () { w with heap := w.heap.setIfInBounds b (.cells (splA cur (o + i) vs) t fz) }
  | [], i, cur, w, h, _, _, _ => by
    have hb : b < w.heap.size := by
      rcases Nat.lt_or_ge b w.heap.size with y | y
      · exact y
      · rw [Array.getElem?_eq_none y] at h; cases h
    have : w.heap.setIfInBounds b (.cells cur t fz) = w.heap := by
      apply Array.ext_getElem?
      intro k
      rw [Array.getElem?_setIfInBounds]
      split
      · rename_i e; subst e; exact h.symm
      · rfl
    simp [storeCells, splA, this]
  | v :: vs, i, cur, w, h, hz, hl, ho => by
    have hb : b < w.heap.size := by
      rcases Nat.lt_or_ge b w.heap.size with y | y
      · exact y
      · rw [Array.getElem?_eq_none y] at h; cases h
    simp only [List.all_cons, Bool.and_eq_true] at ho
    simp only [List.length_cons] at hl
    have hadd : (⟨b, o, none⟩ : Addr).add i = ⟨b, o + i, none⟩ := by
      unfold Addr.add
      split
      · rename_i e; subst e; rfl
      · rfl
    have hv' : v.oneCell' = true := by cases v <;> first | rfl | simp [one] at ho
    have hc : w.cell? ⟨b, o + i, none⟩ = some cur[o + i] := by simp [World.cell?, h]
    have hfz : w.frozen? ⟨b, o + i, none⟩ = false := by
      simp only [World.frozen?, h]
      have := hz (o + i) (by omega)
      simp only [Bool.and_eq_false_iff, decide_eq_false_iff_not]
      rcases Nat.lt_or_ge (o + i) fz.1 with y | y
      · exact .inl (by omega)
      · exact .inr (fun x => this ⟨y, x⟩)
    have hset : w.setCell ⟨b, o + i, none⟩ v = { w with heap := w.heap.setIfInBounds b (.cells (cur.setIfInBounds (o + i) v) t fz) } := by
      unfold World.setCell
      congr 1
      apply Array.ext_getElem?
      intro k
      rw [Array.getElem?_modify, Array.getElem?_setIfInBounds]
      split
      · rename_i e; subst e; show Option.map _ (w.heap[b]?) = _; rw [h]; rfl
      · rfl
    have ih := run_storeRow P b o t fz vs (i + 1) (cur.setIfInBounds (o + i) v) (w.setCell ⟨b, o + i, none⟩ v) (by rw [hset]; simp [Array.getElem?_setIfInBounds, hb])
      (fun j hj => hz j (by simpa using hj)) (by simp; omega) ho.2
    simp only [storeCells, hadd, Sem.run_bind]
    rw [run_store P w _ v .plain hv', hc]
    simp only [hfz, Bool.false_eq_true, if_false, Result.andThen_ok]
    rw [ih, hset]
    simp only [splA, ← Nat.add_assoc]
    congr 2
    apply Array.ext_getElem?
    intro k
    simp only [Array.getElem?_setIfInBounds]
    split <;> simp_all
theorem Sim.putRow {B : Fz} {w0 w : World} {μ : Nat → Blk} {σ τ : H} (hs : Sim B w0 μ σ w) {P : Program} {id off : Nat} {vs vs' : List Value} (hv : VRs μ σ.size vs vs')
    (h : Mini.putRow σ id off vs = some τ) : ∃ w', (storeCells ⟨(μ id).b, (μ id).o + off, none⟩ vs').run P w = .ok () w' ∧ Sim B w0 μ τ w' ∧ τ.size = σ.size := by
  unfold Mini.putRow at h
  split at h
  · rename_i sz cs hc
    split at h
    · rename_i hcond
      simp only [Option.some.injEq] at h
      subst h
      obtain ⟨h1, cs', t, fz, h2, ⟨h3, h3'⟩, h4⟩ := hs.own id sz cs hc
      have hsz : (μ id).o + off + vs'.length ≤ cs'.size ∨ vs' = [] := by
        rcases Nat.eq_zero_or_pos vs.length with e | e
        · right
          have := hv.length
          rw [e] at this
          exact List.length_eq_zero_iff.1 this
        · left
          have hlt : off + (vs.length - 1) < cs.length := by omega
          obtain ⟨x, hx, _⟩ := h4 _ _ (List.getElem?_eq_getElem hlt)
          rcases Nat.lt_or_ge ((μ id).o + (off + (vs.length - 1))) cs'.size with y | y
          · rw [hv.length]; omega
          · rw [Array.getElem?_eq_none y] at hx; cases hx
      refine ⟨{ w with heap := w.heap.setIfInBounds (μ id).b (.cells (splA cs' ((μ id).o + off) vs') t fz) }, ?_, ?_, by simp⟩
      · rcases hsz with hsz | hsz
        · exact run_storeRow P _ _ t fz vs' 0 cs' w h2 h3 (by simpa using hsz) (by rw [hv.one_all]; exact hcond.2)
        · subst hsz
          have hb : (μ id).b < w.heap.size := hs.fin id (H.lt_of_cells hc)
          have : w.heap.setIfInBounds (μ id).b (.cells cs' t fz) = w.heap := by
            apply Array.ext_getElem?
            intro k
            rw [Array.getElem?_setIfInBounds]
            split
            · rename_i e; subst e; exact h2.symm
            · rfl
          simp [storeCells, splA, this]
      · exact hs.setOwn hc rfl ⟨fun j hj => h3 j (by simpa [splA_size] using hj), by rw [splA_size]; exact h3'⟩ (.inl ⟨_, rfl, .spl hv h4 hcond.1⟩)
    · cases h
  · rename_i T cs hc
    split at h
    · rename_i hcond
      simp only [Option.some.injEq] at h
      subst h
      obtain ⟨h1, ⟨h0, _⟩, cs', h2, h3', h4⟩ := hs.typ id T cs hc
      have h3 : Unfrozen cs' (0, 0) := fun j hj => by omega
      have hvl := hv.length
      refine ⟨{ w with heap := w.heap.setIfInBounds (μ id).b (.cells (splA cs' ((μ id).o + off) vs') T (0, 0)) }, ?_, ?_, by simp⟩
      · exact run_storeRow P _ _ T (0, 0) vs' 0 cs' w h2 h3 (by simp; omega) (by rw [hv.one_all]; exact hcond.2)
      · exact hs.setTyp hc (by rw [splA_size, h3', spl_length]) (.spl hv h4 hcond.1)
    · cases h
  · cases h
end Go.Mini
/- The small operations tell what the model's do: the operations, first part. -/
namespace Go.Mini
open Go.RowKit (Below)
set_option linter.unusedVariables false
set_option linter.unusedSimpArgs false

def Told (P : Program) (B : Fz) (w0 : World) (μ : Nat → Blk) (σ τ : H) (v : Value) (s : Sem Next) (w : World) : Prop :=
  ∃ v' w' μ', (s.run P w = .ok (.value v') w' ∨ (s.run P w = .ok .skip w' ∧ v' = undef)) ∧ Sim B w0 μ' τ w' ∧ VR μ' τ.size v v' ∧ Agr σ.size μ μ' ∧ σ.size ≤ τ.size

section
variable {P : Program} {B : Fz} {w0 w : World} {μ : Nat → Blk} {σ τ : H}

theorem Told.same {v v' : Value} {s : Sem Next} (hs : Sim B w0 μ σ w) (h : s.run P w = .ok (.value v') w) (hv : VR μ σ.size v v') : Told P B w0 μ σ σ v s w :=
  ⟨v', w, μ, .inl h, hs, hv, .refl _ _, Nat.le_refl _⟩

theorem run_und {t : TypeId} {d : TypeDesc} (h : P.underlying t = some d) (w : World) : (underlying t).run P w = .ok d w := by
  simp [underlying, h]
theorem run_size {t : TypeId} {n : Nat} (h : sizeT P t = some n) (w : World) : (sizeOf t).run P w = .ok n w := by
  unfold sizeT at h
  cases hi : P.info? t with
  | none => simp [hi] at h
  | some i => simp [hi] at h; simp [sizeOf, typeInfo, hi, h]
theorem run_agg {t : TypeId} {g : Bool} (h : isAggT P t = some g) (w : World) : (isAgg t).run P w = .ok g w := by
  unfold isAggT at h
  cases hd : P.underlying t with
  | none => simp [hd] at h
  | some d =>
    simp only [isAgg, Sem.run_bind, run_und hd, Result.andThen_ok]
    cases d <;> simp [hd] at h <;> subst h <;> rfl
theorem run_info {t : TypeId} {i : TypeInfo} (h : P.info? t = some i) (w : World) : (typeInfo t).run P w = .ok i w := by simp [typeInfo, h]
theorem zeroL_spec {t : TypeId} {zs : List Value} (h : zeroL P t = some zs) : ∃ i z, P.info? t = some i ∧ i.zero = some z ∧ z.cells.toList = zs ∧ zs.all plain = true ∧ zs.length = i.size ∧
    ∀ w, (zeroValue t).run P w = .ok z w := by
  unfold zeroL at h
  cases hi : P.info? t with
  | none => simp [hi] at h
  | some i =>
    cases hz : i.zero with
    | none => simp [hi, hz] at h
    | some z =>
      simp only [hi, hz] at h
      split at h
      · rename_i hc
        simp only [Option.some.injEq] at h
        subst h
        exact ⟨i, z, rfl, hz, rfl, hc.1, by simpa using hc.2, fun w => by simp [zeroValue, typeInfo, hi, hz]⟩
      · cases h
theorem zero1_spec {t : TypeId} {z : Value} (h : zero1 P t = some z) : closed z = true ∧ ∀ w, (zeroValue t).run P w = .ok z w := by
  unfold zero1 at h
  cases hi : P.info? t with
  | none => simp [hi] at h
  | some i =>
    cases hz : i.zero with
    | none => simp [hi, hz] at h
    | some z' =>
      simp only [hi, hz] at h
      split at h
      · rename_i hc
        simp only [Option.some.injEq] at h
        subst h
        exact ⟨hc, fun w => by simp [zeroValue, typeInfo, hi, hz]⟩
      · cases h
theorem plain_one {v : Value} (h : plain v = true) : one v = true := by cases v <;> first | rfl | simp [plain] at h
theorem plains_one {vs : List Value} (h : vs.all plain = true) : vs.all one = true := by
  simp only [List.all_eq_true] at h ⊢
  exact fun v hv => plain_one (h v hv)

/-- A new object of cells, made by the model's 'newRow'. -/
theorem Sim.newRow {sz : Nat} {cs cs' : List Value} {more : List Value} (hs : Sim B w0 μ σ w) (h : VRs μ σ.size cs cs') (t : TypeId) {fz : Nat × Nat} (hz : Unfrozen (cs' ++ more).toArray fz) :
    Sim B w0 (setMu μ σ.size ⟨w.heap.size, 0, sz, cs'.length + more.length, sz == 0⟩) (σ.push (.cells sz cs)) { w with heap := w.heap.push (.cells (cs' ++ more).toArray t fz) } := by
  have := hs.push (sz := sz) (t := t) hz (cs := cs) fun j v hv => by
    obtain ⟨v', h1, h2⟩ := h.get hv
    refine ⟨v', ?_, h2⟩
    simp only [Nat.zero_add, List.getElem?_toArray]
    rw [List.getElem?_append_left]
    · exact h1
    · rcases Nat.lt_or_ge j cs'.length with x | x
      · exact x
      · rw [List.getElem?_eq_none x] at h1; cases h1
  simpa using this
theorem unfrozen0 (c : Array Value) : Unfrozen c (0, 0) := fun j _ h => by simp at h
theorem setMu_ptr (μ : Nat → Blk) (k : Nat) (p : Blk) (ho : p.o = 0) : VR (setMu μ k p) (k + 1) (.pointer (some ⟨k, 0, none⟩)) (.pointer (some ⟨p.b, 0, none⟩)) := by
  have := VR.ptr (μ := setMu μ k p) (n := k + 1) (id := k) (off := 0) (by omega)
  rw [setMu_self, ho] at this
  exact this
theorem setMu_slice (μ : Nat → Blk) (k : Nat) (p : Blk) {len cap cap' : Nat} (hl : len ≤ cap) (hc : cap ≤ cap') (hz : p.sz ≠ 0 → p.o + cap' * p.sz ≤ p.n) (he : p.ex = true → cap' = cap) :
    VR (setMu μ k p) (k + 1) (.slice (some ⟨k, 0, none⟩) len cap) (.slice (some ⟨p.b, p.o, none⟩) len cap') := by
  have := VR.slice (μ := setMu μ k p) (n := k + 1) (id := k) (off := 0) (len := len) (cap := cap) (cap' := cap') (o' := p.o) (by omega) hl hc (fun _ => by rw [setMu_self]; rfl)
    (by rw [setMu_self]; exact hz) (by rw [setMu_self]; exact he)
  rw [setMu_self] at this
  exact this

variable {ts : Fr} {ρ : Operand → Value} {v : Value}

theorem told_mv (hs : Sim B w0 μ σ w) {x' : Opd} {u : Value} (hx : VR μ σ.size (mev ts x') u) (hm : mop ts σ (.mv x') = some (v, τ)) {s : Sem Next}
    (hr : s.run P w = .ok (.value u) w) : Told P B w0 μ σ τ v s w := by
  simp only [mop, Option.some.injEq, Prod.mk.injEq] at hm
  obtain ⟨rfl, rfl⟩ := hm
  exact .same hs hr hx

theorem told_pick (hs : Sim B w0 μ σ w) {c a b : Opd} {c' a' b' : Value} (hc : VR μ σ.size (mev ts c) c') (ha : VR μ σ.size (mev ts a) a') (hb : VR μ σ.size (mev ts b) b')
    (hm : mop ts σ (.pick c a b) = some (v, τ)) : Told P B w0 μ σ τ v (do pure (.value (if ← asBool c' then a' else b'))) w := by
  simp only [mop] at hm
  split at hm
  · rename_i t e
    rw [e] at hc
    obtain rfl := hc.inv_bool
    simp only [Option.some.injEq, Prod.mk.injEq] at hm
    obtain ⟨rfl, rfl⟩ := hm
    refine .same (v' := if t then a' else b') hs (by simp [asBool]) ?_
    cases t
    · simpa using hb
    · simpa using ha
  · cases hm

theorem told_box (hs : Sim B w0 μ σ w) {x : Opd} {x' : Value} {t : TypeId} (hx : VR μ σ.size (mev ts x) x') (hm : mop ts σ (.box x) = some (v, τ)) :
    Told P B w0 μ σ τ v (do pure (.value (← Instr.box t x'))) w := by
  simp only [mop, Option.some.injEq, Prod.mk.injEq] at hm
  obtain ⟨rfl, rfl⟩ := hm
  refine ⟨.pointer (some ⟨w.heap.size, 0, none⟩), _, _, .inl (by simp [Instr.box, newVar, Go.newRow]; rfl), ?_, setMu_ptr _ _ ⟨w.heap.size, 0, 0, x'.cells.size, true⟩ rfl, .setMu _ _, by simp⟩
  have := hs.newRow (sz := 0) (more := []) hx.cells t (fz := (0, 0)) (unfrozen0 _)
  simpa using this

theorem told_alloc (hs : Sim B w0 μ σ w) {zs : List Value} {t : TypeId} (hz : zeroL P t = some zs) (hm : mop ts σ (.alloc zs) = some (v, τ)) :
    Told P B w0 μ σ τ v (do pure (.value (← Instr.alloc t true (.tuple #[])))) w := by
  simp only [mop, Option.some.injEq, Prod.mk.injEq] at hm
  obtain ⟨rfl, rfl⟩ := hm
  obtain ⟨i, z, hi, hz1, hz2, hz3, hz4, hz5⟩ := zeroL_spec hz
  refine ⟨.pointer (some ⟨w.heap.size, 0, none⟩), _, _, .inl (by simp [Instr.alloc, newVar, Go.newRow, hz5]; rfl), ?_, setMu_ptr _ _ ⟨w.heap.size, 0, 0, zs.length, true⟩ rfl, .setMu _ _, by simp⟩
  have := hs.newRow (sz := 0) (more := []) (VRs.of_plain hz3) t (fz := (0, 0)) (unfrozen0 _)
  rw [← hz2] at this ⊢
  simpa using this

theorem told_allocT (hs : Sim B w0 μ σ w) {zs : List Value} {t : TypeId} (hz : zeroL P t = some zs) (hm : mop ts σ (.allocT t zs) = some (v, τ)) :
    Told P B w0 μ σ τ v (do pure (.value (← Instr.alloc t true (.tuple #[])))) w := by
  simp only [mop, Option.some.injEq, Prod.mk.injEq] at hm
  obtain ⟨rfl, rfl⟩ := hm
  obtain ⟨i, z, hi, hz1, hz2, hz3, hz4, hz5⟩ := zeroL_spec hz
  refine ⟨.pointer (some ⟨w.heap.size, 0, none⟩), _, _, .inl (by simp [Instr.alloc, newVar, Go.newRow, hz5]; rfl), ?_, setMu_ptr _ _ ⟨w.heap.size, 0, 0, zs.length, true⟩ rfl, .setMu _ _, by simp⟩
  have hr : VRs μ σ.size zs zs := VRs.of_plain hz3
  have := hs.pushTyp (T := t) (cs := zs) (cs' := zs.toArray) (by simp) (fun j v hv => ⟨v, by simpa using hv, by obtain ⟨v', h1, h2⟩ := hr.get hv; rw [hv] at h1; cases h1; exact h2⟩)
  rw [← hz2] at this ⊢
  simpa using this

theorem told_load1 (hs : Sim B w0 μ σ w) {x : Opd} {x' : Value} {t : TypeId} (hx : VR μ σ.size (mev ts x) x') (hg : isAggT P t = some false) (hm : mop ts σ (.load1 x) = some (v, τ)) :
    Told P B w0 μ σ τ v (do pure (.value (← Instr.loadAt t x'))) w := by
  simp only [mop] at hm
  split at hm
  · rename_i id off e
    rw [e] at hx
    obtain ⟨hid, rfl⟩ := hx.inv_ptr
    cases hc : σ.cell id off with
    | none => simp [hc] at hm
    | some u =>
      simp [hc] at hm
      obtain ⟨rfl, rfl⟩ := hm
      obtain ⟨u', h1, h2⟩ := hs.cell hc
      exact .same hs (by simp [Instr.loadAt, Instr.sureAddr, loadVar, run_agg hg, h1]) h2
  · cases hm

theorem told_loadN (hs : Sim B w0 μ σ w) {x : Opd} {x' : Value} {t : TypeId} {n : Nat} (hx : VR μ σ.size (mev ts x) x') (hg : isAggT P t = some true) (hn : sizeT P t = some n)
    (hm : mop ts σ (.loadN n x) = some (v, τ)) : Told P B w0 μ σ τ v (do pure (.value (← Instr.loadAt t x'))) w := by
  simp only [mop] at hm
  split at hm
  · rename_i id off e
    rw [e] at hx
    obtain ⟨hid, rfl⟩ := hx.inv_ptr
    cases hc : σ.row id off n with
    | none => simp [hc] at hm
    | some u =>
      simp [hc] at hm
      obtain ⟨rfl, rfl⟩ := hm
      obtain ⟨u', h1, h2⟩ := hs.row (P := P) hc
      exact .same hs (by simp [Instr.loadAt, Instr.sureAddr, loadVar, run_agg hg, run_size hn, h1]; rfl) (.agg (by simpa using h2))
  · cases hm

theorem told_store (hs : Sim B w0 μ σ w) {x y : Opd} {x' y' : Value} {t : TypeId} {n : Nat} (hx : VR μ σ.size (mev ts x) x') (hy : VR μ σ.size (mev ts y) y') (hn : sizeT P t = some n)
    (hm : mop ts σ (.store n x y) = some (v, τ)) : Told P B w0 μ σ τ v (do Instr.storeAt t x' y'; pure .skip) w := by
  simp only [mop] at hm
  split at hm
  · rename_i id off e
    rw [e] at hx
    obtain ⟨hid, rfl⟩ := hx.inv_ptr
    split at hm
    · rename_i hsz
      cases hp : putRow σ id off (mev ts y).cells.toList with
      | none => simp [hp] at hm
      | some τ' =>
        simp [hp] at hm
        obtain ⟨rfl, rfl⟩ := hm
        obtain ⟨w', h1, h2, h3⟩ := hs.putRow (P := P) hy.cells hp
        refine ⟨undef, w', μ, .inr ⟨?_, rfl⟩, h2, .tuple .nil, .refl _ _, by omega⟩
        have hsz' : y'.cells.size = n := by rw [hy.cells_size, hsz]
        simp [Instr.storeAt, Instr.sureAddr, storeVar, run_size hn, hsz', h1]
    · cases hm
  · cases hm

theorem told_fadd (hs : Sim B w0 μ σ w) {x : Opd} {x' : Value} {t : TypeId} {fs : Array Field} {f : Nat} {fl : Field} {n : Nat} (hx : VR μ σ.size (mev ts x) x') (hu : P.underlying t = some (.struct fs))
    (hf : fs[f]? = some fl) (hn : sizeT P fl.type = some (n + 1)) (hm : mop ts σ (.fadd fl.offset x) = some (v, τ)) : Told P B w0 μ σ τ v (do pure (.value (← Instr.fieldAt t x' f))) w := by
  simp only [mop] at hm
  split at hm
  · rename_i id off e
    rw [e] at hx
    obtain ⟨hid, rfl⟩ := hx.inv_ptr
    simp only [Option.some.injEq, Prod.mk.injEq] at hm
    obtain ⟨rfl, rfl⟩ := hm
    refine .same (v' := .pointer (some ⟨(μ id).b, (μ id).o + off + fl.offset, none⟩)) hs ?_ (by rw [Nat.add_assoc]; exact .ptr hid)
    have : (⟨(μ id).b, (μ id).o + off, none⟩ : Addr).add fl.offset = ⟨(μ id).b, (μ id).o + off + fl.offset, none⟩ := by
      unfold Addr.add; split
      · rename_i e; rw [e]; rfl
      · rfl
    simp [Instr.fieldAt, Instr.sureAddr, run_und hu, hf, fieldPlace, run_size hn, this]
  · cases hm

theorem addr_add (b o k : Nat) : (⟨b, o, none⟩ : Addr).add k = ⟨b, o + k, none⟩ := by
  unfold Addr.add; split
  · rename_i e; rw [e]; rfl
  · rfl

theorem told_iaS (hs : Sim B w0 μ σ w) {x y : Opd} {x' y' : Value} {t e : TypeId} {n : Nat} (hx : VR μ σ.size (mev ts x) x') (hy : VR μ σ.size (mev ts y) y') (hu : P.underlying t = some (.slice e))
    (hn : sizeT P e = some n) (hm : mop ts σ (.iaS n x y) = some (v, τ)) : Told P B w0 μ σ τ v (do pure (.value (← Instr.indexAt t x' y'))) w := by
  simp only [mop] at hm
  split at hm
  · rename_i id off len cap k q e1 e2
    rw [e1] at hx
    rw [e2] at hy
    obtain rfl := hy.inv_int
    obtain ⟨cap', o', rfl, _, hid, hl, hc, ho, _, _⟩ := hx.inv_slice
    split at hm
    · rename_i hb
      simp only [Option.some.injEq, Prod.mk.injEq] at hm
      obtain ⟨rfl, rfl⟩ := hm
      have ho' := ho (by omega)
      dsimp only at ho' hid ⊢
      refine .same (v' := .pointer (some ⟨(μ id).b, (μ id).o + off + q.toNat * n, none⟩)) hs ?_ (by rw [Nat.add_assoc]; exact .ptr hid)
      simp [Instr.indexAt, asIntOf, run_und hu, run_size hn, hb, addr_add, ho']
    · cases hm
  · cases hm

theorem told_iaA (hs : Sim B w0 μ σ w) {x y : Opd} {x' y' : Value} {t e : TypeId} {len n : Nat} (hx : VR μ σ.size (mev ts x) x') (hy : VR μ σ.size (mev ts y) y') (hu : P.underlying t = some (.array len e))
    (hn : sizeT P e = some n) (hm : mop ts σ (.iaA len n x y) = some (v, τ)) : Told P B w0 μ σ τ v (do pure (.value (← Instr.indexAt t x' y'))) w := by
  simp only [mop] at hm
  split at hm
  · rename_i id off k q e1 e2
    rw [e1] at hx
    rw [e2] at hy
    obtain rfl := hy.inv_int
    obtain ⟨hid, rfl⟩ := hx.inv_ptr
    split at hm
    · rename_i hb
      simp only [Option.some.injEq, Prod.mk.injEq] at hm
      obtain ⟨rfl, rfl⟩ := hm
      refine .same (v' := .pointer (some ⟨(μ id).b, (μ id).o + off + q.toNat * n, none⟩)) hs ?_ (by rw [Nat.add_assoc]; exact .ptr hid)
      simp [Instr.indexAt, asIntOf, Instr.sureAddr, run_und hu, run_size hn, hb, addr_add]
    · cases hm
  · cases hm

theorem told_idxS (hs : Sim B w0 μ σ w) {x y : Opd} {x' y' : Value} {t : TypeId} (hx : VR μ σ.size (mev ts x) x') (hy : VR μ σ.size (mev ts y) y') (hu : P.underlying t = some .string)
    (hm : mop ts σ (.idxS x y) = some (v, τ)) : Told P B w0 μ σ τ v (do pure (.value (← Instr.index t x' y'))) w := by
  simp only [mop] at hm
  split at hm
  · rename_i s k q e1 e2
    rw [e1] at hx
    rw [e2] at hy
    obtain rfl := hy.inv_int
    obtain rfl := hx.inv_string
    split at hm
    · rename_i hb
      simp only [Option.some.injEq, Prod.mk.injEq] at hm
      obtain ⟨rfl, rfl⟩ := hm
      have hlt : q.toNat < s.size := by omega
      refine .same (v' := .int .u8 (s.data.toList.getD q.toNat 0).toNat) hs ?_ (.int _ _)
      have hg : s[q.toNat]? = some s[q.toNat] := getElem?_pos s q.toNat hlt
      have hd : s.data.toList.getD q.toNat 0 = s[q.toNat] := by
        rw [List.getD_eq_getElem?_getD, Array.getElem?_toList, Array.getElem?_eq_getElem hlt]; rfl
      have hd' : s.data[q.toNat]?.getD 0 = s[q.toNat] := by rw [Array.getElem?_eq_getElem hlt]; rfl
      simp [Instr.index, asIntOf, run_und hu, hb.1, hg, hd']
    · cases hm
  · cases hm

theorem run_part {t : TypeId} {g : Bool} {n off : Nat} {c : Array Value} (hg : isAggT P t = some g) (hn : sizeT P t = some n) :
    (part t c off).run P w = if g then .ok (.agg (c.extract off (off + n))) w else match c[off]? with | some v => .ok v w | none => .halt (.stuck "part: no such cell") w := by
  unfold part
  simp only [Sem.run_bind, run_agg hg, Result.andThen_ok]
  cases g
  · simp; cases c[off]? <;> rfl
  · simp [run_size hn]
theorem extract_list (c : Array Value) (off n : Nat) : (c.extract off (off + n)).toList = (c.toList.drop off).take n := by
  rw [Array.toList_extract, List.extract_eq_take_drop, show off + n - off = n by omega]

theorem told_part (hs : Sim B w0 μ σ w) {t : TypeId} {g : Bool} {n off : Nat} {c c' : Array Value} (h : VRs μ σ.size c.toList c'.toList) (hg : isAggT P t = some g) (hn : sizeT P t = some n)
    (hm : (if g then some (Value.agg ((c.toList.drop off).take n).toArray, σ) else (c.toList[off]?).map fun v => (v, σ)) = some (v, τ)) :
    τ = σ ∧ ∃ v', (part t c' off).run P w = .ok v' w ∧ VR μ σ.size v v' := by
  rw [run_part hg hn]
  cases g
  · simp only [Bool.false_eq_true, if_false] at hm ⊢
    cases hc : c.toList[off]? with
    | none => simp [hc] at hm
    | some u =>
      simp only [hc, Option.map_some, Option.some.injEq, Prod.mk.injEq] at hm
      obtain ⟨rfl, rfl⟩ := hm
      obtain ⟨u', h1, h2⟩ := h.get hc
      rw [Array.getElem?_toList] at h1
      exact ⟨rfl, u', by simp [h1], h2⟩
  · simp only [if_true, Option.some.injEq, Prod.mk.injEq] at hm ⊢
    obtain ⟨rfl, rfl⟩ := hm
    exact ⟨rfl, _, rfl, .agg (by rw [extract_list]; simpa using (h.drop off).take n)⟩

theorem told_idxA (hs : Sim B w0 μ σ w) {x y : Opd} {x' y' : Value} {t e : TypeId} {len n : Nat} {g : Bool} (hx : VR μ σ.size (mev ts x) x') (hy : VR μ σ.size (mev ts y) y')
    (hu : P.underlying t = some (.array len e)) (hn : sizeT P e = some n) (hg : isAggT P e = some g) (hm : mop ts σ (.idxA len n g x y) = some (v, τ)) :
    Told P B w0 μ σ τ v (do pure (.value (← Instr.index t x' y'))) w := by
  simp only [mop] at hm
  split at hm
  · rename_i cs k q e1 e2
    rw [e1] at hx
    rw [e2] at hy
    obtain rfl := hy.inv_int
    obtain ⟨c', rfl, hc⟩ := hx.inv_agg
    split at hm
    · rename_i hb
      obtain ⟨rfl, v', h1, h2⟩ := told_part (P := P) (w := w) hs (off := q.toNat * n) hc hg hn hm
      exact .same hs (by simp [Instr.index, asIntOf, run_und hu, run_size hn, hb, h1]) h2
    · cases hm
  · cases hm

theorem told_fld (hs : Sim B w0 μ σ w) {x : Opd} {x' : Value} {t : TypeId} {fs : Array Field} {f : Nat} {fl : Field} {n : Nat} {g : Bool} (hx : VR μ σ.size (mev ts x) x')
    (hu : P.underlying t = some (.struct fs)) (hf : fs[f]? = some fl) (hn : sizeT P fl.type = some n) (hg : isAggT P fl.type = some g) (hm : mop ts σ (.fld fl.offset n g x) = some (v, τ)) :
    Told P B w0 μ σ τ v (do pure (.value (← Instr.field t x' f))) w := by
  simp only [mop] at hm
  split at hm
  · rename_i cs e1
    rw [e1] at hx
    obtain ⟨c', rfl, hc⟩ := hx.inv_agg
    obtain ⟨rfl, v', h1, h2⟩ := told_part (P := P) (w := w) hs (off := fl.offset) hc hg hn hm
    exact .same hs (by simp [Instr.field, run_und hu, hf, asAgg, h1]) h2
  · cases hm

theorem told_not (hs : Sim B w0 μ σ w) {x : Opd} {x' : Value} (hx : VR μ σ.size (mev ts x) x') (hm : mop ts σ (.not x) = some (v, τ)) : Told P B w0 μ σ τ v (do pure (.value (← Op.unary .not x'))) w := by
  simp only [mop] at hm
  split at hm
  · rename_i b e
    rw [e] at hx
    obtain rfl := hx.inv_bool
    simp only [Option.some.injEq, Prod.mk.injEq] at hm
    obtain ⟨rfl, rfl⟩ := hm
    exact .same hs (by simp [Op.unary]) (.bool _)
  · cases hm
theorem told_neg (hs : Sim B w0 μ σ w) {x : Opd} {x' : Value} (hx : VR μ σ.size (mev ts x) x') (hm : mop ts σ (.neg x) = some (v, τ)) : Told P B w0 μ σ τ v (do pure (.value (← Op.unary .neg x'))) w := by
  simp only [mop] at hm
  split at hm
  · rename_i k n e
    rw [e] at hx
    obtain rfl := hx.inv_int
    simp only [Option.some.injEq, Prod.mk.injEq] at hm
    obtain ⟨rfl, rfl⟩ := hm
    exact .same hs (by simp [Op.unary, Op.intArith]) (.int _ _)
  · cases hm
theorem told_conv (hs : Sim B w0 μ σ w) {x : Opd} {x' : Value} {s d : TypeId} {j k : IntKind} (h1 : P.underlying s = some (.int j)) (h2 : P.underlying d = some (.int k)) (hx : VR μ σ.size (mev ts x) x')
    (hm : mop ts σ (.conv k x) = some (v, τ)) : Told P B w0 μ σ τ v (do pure (.value (← convert s d x'))) w := by
  simp only [mop] at hm
  split at hm
  · rename_i q n e
    rw [e] at hx
    obtain rfl := hx.inv_int
    simp only [Option.some.injEq, Prod.mk.injEq] at hm
    obtain ⟨rfl, rfl⟩ := hm
    exact .same hs (by simp [convert, run_und h1, run_und h2, Conv.intToInt]) (.int _ _)
  · cases hm
theorem told_convS (hs : Sim B w0 μ σ w) {x : Opd} {x' : Value} {s d : TypeId} (h1 : P.underlying s = some .string) (h2 : P.underlying d = some .string) {u : ByteArray} (hu : mev ts x = .string u) (hx : VR μ σ.size (mev ts x) x')
    (hm : mop ts σ (.mv x) = some (v, τ)) : Told P B w0 μ σ τ v (do pure (.value (← convert s d x'))) w := by
  simp only [mop, Option.some.injEq, Prod.mk.injEq] at hm
  obtain ⟨rfl, rfl⟩ := hm
  rw [hu] at hx ⊢
  obtain rfl := hx.inv_string
  exact .same hs (by simp [convert, run_und h1, run_und h2]) (.string _)
theorem told_mki (hs : Sim B w0 μ σ w) {x : Opd} {x' : Value} {t : TypeId} {d : TypeDesc} (h1 : P.underlying t = some d) (hd : ∀ ms, d ≠ .interface ms) (hx : VR μ σ.size (mev ts x) x')
    (hm : mop ts σ (.mki t x) = some (v, τ)) : Told P B w0 μ σ τ v (do pure (.value (← Instr.makeInterface t x'))) w := by
  simp only [mop, Option.some.injEq, Prod.mk.injEq] at hm
  obtain ⟨rfl, rfl⟩ := hm
  refine .same (v' := .iface t x') hs ?_ (.iface hx)
  cases d <;> first | exact absurd rfl (hd _) | simp [Instr.makeInterface, run_und h1]
theorem told_ext (hs : Sim B w0 μ σ w) {x : Opd} {x' : Value} {i : Nat} (hx : VR μ σ.size (mev ts x) x')
    (hm : mop ts σ (.ext x i) = some (v, τ)) : Told P B w0 μ σ τ v (do pure (.value (← Instr.extract x' i))) w := by
  simp only [mop] at hm
  split at hm
  · rename_i vs e
    rw [e] at hx
    obtain ⟨c', rfl, hc⟩ := hx.inv_tuple
    cases hg : vs.toList[i]? with
    | none => simp only [hg, Option.map_none] at hm; cases hm
    | some u =>
      simp only [hg, Option.map_some, Option.some.injEq, Prod.mk.injEq] at hm
      obtain ⟨rfl, rfl⟩ := hm
      obtain ⟨u', h1, h2⟩ := hc.get hg
      rw [Array.getElem?_toList] at h1
      exact .same hs (by simp [Instr.extract, h1]) h2
  · cases hm
theorem told_min (hs : Sim B w0 μ σ w) {x y : Opd} {x' y' : Value} {ats : Array TypeId} {t : TypeId} (hx : VR μ σ.size (mev ts x) x') (hy : VR μ σ.size (mev ts y) y')
    (hm : mop ts σ (.min2 x y) = some (v, τ)) : Told P B w0 μ σ τ v (do pure (.value (← Builtin.min_ ats t #[x', y']))) w := by
  simp only [mop] at hm
  split at hm
  · rename_i k a k' b e1 e2
    rw [e1] at hx
    rw [e2] at hy
    obtain rfl := hx.inv_int
    obtain rfl := hy.inv_int
    simp only [Option.some.injEq, Prod.mk.injEq] at hm
    obtain ⟨rfl, rfl⟩ := hm
    exact .same hs (by simp [Builtin.min_, Builtin.min2]) (.int _ _)
  · cases hm
theorem told_max (hs : Sim B w0 μ σ w) {x y : Opd} {x' y' : Value} {ats : Array TypeId} {t : TypeId} (hx : VR μ σ.size (mev ts x) x') (hy : VR μ σ.size (mev ts y) y')
    (hm : mop ts σ (.max2 x y) = some (v, τ)) : Told P B w0 μ σ τ v (do pure (.value (← Builtin.max_ ats t #[x', y']))) w := by
  simp only [mop] at hm
  split at hm
  · rename_i k a k' b e1 e2
    rw [e1] at hx
    rw [e2] at hy
    obtain rfl := hx.inv_int
    obtain rfl := hy.inv_int
    simp only [Option.some.injEq, Prod.mk.injEq] at hm
    obtain ⟨rfl, rfl⟩ := hm
    exact .same hs (by simp [Builtin.max_, Builtin.max2]) (.int _ _)
  · cases hm
end
end Go.Mini
