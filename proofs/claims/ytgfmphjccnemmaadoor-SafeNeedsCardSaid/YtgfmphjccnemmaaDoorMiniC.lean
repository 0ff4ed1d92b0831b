/- The small operations tell what the model's do: memory. -/
import Derived.Test.YtgfmphjccnemmaaDoorMiniB
namespace Go.Mini
open Go.RowKit (Below)
set_option linter.unusedVariables false
set_option linter.unusedSimpArgs false

section inv
variable {μ : Nat → Blk} {n : Nat} {y : Value}
theorem VR.inv_bool {b : Bool} (h : VR μ n (.bool b) y) : y = .bool b := by cases h; rfl
theorem VR.inv_int {k : IntKind} {x : Int} (h : VR μ n (.int k x) y) : y = .int k x := by cases h; rfl
theorem VR.inv_string {s : ByteArray} (h : VR μ n (.string s) y) : y = .string s := by cases h; rfl
theorem VR.inv_nilPtr (h : VR μ n (.pointer none) y) : y = .pointer none := by cases h; rfl
theorem VR.inv_nilMap (h : VR μ n (.map none) y) : y = .map none := by cases h; rfl
theorem VR.inv_nilIface (h : VR μ n .nilIface y) : y = .nilIface := by cases h; rfl
theorem VR.inv_nilFunc (h : VR μ n .nilFunc y) : y = .nilFunc := by cases h; rfl
theorem VR.inv_nilSlice {l c : Nat} (h : VR μ n (.slice none l c) y) : y = .slice none 0 0 ∧ l = 0 ∧ c = 0 := by cases h; exact ⟨rfl, rfl, rfl⟩
theorem VR.inv_ptr {id off : Nat} (h : VR μ n (.pointer (some ⟨id, off, none⟩)) y) : id < n ∧ y = .pointer (some ⟨(μ id).b, (μ id).o + off, none⟩) := by
  cases h with | ptr h => exact ⟨h, rfl⟩
theorem VR.inv_ptrA {a : Addr} (h : VR μ n (.pointer (some a)) y) : a.block < n ∧ a.spot = none ∧ y = .pointer (some ⟨(μ a.block).b, (μ a.block).o + a.off, none⟩) := by
  cases h with | ptr h => exact ⟨h, rfl, rfl⟩
theorem VR.inv_map {id : Nat} (h : VR μ n (.map (some id)) y) : id < n ∧ y = .map (some (μ id).b) := by cases h with | map h => exact ⟨h, rfl⟩
theorem VR.inv_slice {a : Addr} {len cap : Nat} (h : VR μ n (.slice (some a) len cap) y) :
    ∃ cap' o', y = .slice (some ⟨(μ a.block).b, o', none⟩) len cap' ∧ a.spot = none ∧ a.block < n ∧ len ≤ cap ∧ cap ≤ cap' ∧ (0 < cap → o' = (μ a.block).o + a.off) ∧
      ((μ a.block).sz ≠ 0 → o' + cap' * (μ a.block).sz ≤ (μ a.block).n) ∧ ((μ a.block).ex = true → cap' = cap) := by
  cases h with | slice h hl hc ho hz he => exact ⟨_, _, rfl, rfl, h, hl, hc, ho, hz, he⟩
theorem VR.inv_agg {c : Array Value} (h : VR μ n (.agg c) y) : ∃ c', y = .agg c' ∧ VRs μ n c.toList c'.toList := by cases h with | agg h => exact ⟨_, rfl, h⟩
theorem VR.inv_tuple {c : Array Value} (h : VR μ n (.tuple c) y) : ∃ c', y = .tuple c' ∧ VRs μ n c.toList c'.toList := by cases h with | tuple h => exact ⟨_, rfl, h⟩
theorem VR.inv_iface {t : TypeId} {v : Value} (h : VR μ n (.iface t v) y) : ∃ v', y = .iface t v' ∧ VR μ n v v' := by cases h with | iface h => exact ⟨_, rfl, h⟩
theorem VR.inv_func {fn : Fn} {f c : Array Value} (h : VR μ n (.func fn f c) y) :
    ∃ f' c', y = .func fn f' c' ∧ VRs μ n f.toList f'.toList ∧ VRs μ n c.toList c'.toList := by cases h with | func a b => exact ⟨_, _, rfl, a, b⟩
theorem VR.one_eq {v : Value} (h : VR μ n v y) : one y = one v := by cases h <;> rfl
theorem VR.cells_size {v : Value} (h : VR μ n v y) : y.cells.size = v.cells.size := by have := h.cells.length; simpa using this
theorem VRs.one_all : ∀ {l l' : List Value}, VRs μ n l l' → l'.all one = l.all one
  | _, _, .nil => rfl
  | _, _, .cons h hs => by simp only [List.all_cons, h.one_eq, VRs.one_all hs]
theorem VR.of_closed {v : Value} (h : closed v = true) : VR μ n v v := by
  cases v with
  | agg cs => exact .agg (.of_plain (by simpa [closed] using h))
  | tuple cs => exact .tuple (.of_plain (by simpa [closed] using h))
  | iface t v => exact .iface (.of_plain (by simpa [closed] using h))
  | _ => exact .of_plain (by simpa [closed] using h)
end inv

theorem copd_sound {μ : Nat → Blk} {n : Nat} {ts : Fr} {a : Act} (hf : ∀ i, VR μ n (ts i) (a.tmps.getD i undef)) {x : Operand} {x' : Opd} (h : copd x = some x') :
    VR μ n (mev ts x') (a.eval x) := by
  cases x with
  | tmp t => simp only [copd, Option.some.injEq] at h; subst h; exact hf t
  | const v =>
    simp only [copd] at h
    split at h
    · rename_i hc; simp only [Option.some.injEq] at h; subst h; exact .of_closed hc
    · cases h
  | global g => simp [copd] at h
  | func f => simp only [copd, Option.some.injEq] at h; subst h; exact .func (.nil) (.nil)
theorem copds_sound {μ : Nat → Blk} {n : Nat} {ts : Fr} {a : Act} (hf : ∀ i, VR μ n (ts i) (a.tmps.getD i undef)) :
    ∀ {xs : List Operand} {xs' : List Opd}, xs.mapM copd = some xs' → VRs μ n (xs'.map (mev ts)) (xs.map a.eval)
  | [], xs', h => by simp at h; subst h; exact .nil
  | x :: xs, xs', h => by
    rw [List.mapM_cons] at h
    cases hx : copd x with
    | none => simp [hx] at h
    | some x' =>
      cases hxs : xs.mapM copd with
      | none => simp [hx, hxs] at h
      | some ys =>
        simp [hx, hxs] at h
        subst h
        exact .cons (copd_sound hf hx) (copds_sound hf hxs)

/-! ## Rows -/
theorem rowL_eq : ∀ (n k : Nat) (cs vs : List Value), rowL cs k n = some vs → vs.length = n ∧ ∀ j, j < n → vs[j]? = cs[k + j]?
  | 0, k, cs, vs, h => by simp [rowL] at h; subst h; exact ⟨rfl, fun j hj => by omega⟩
  | n + 1, k, cs, vs, h => by
    simp only [rowL] at h
    split at h
    · rename_i v hv
      cases hr : rowL cs (k + 1) n with
      | none => simp [hr] at h
      | some ws =>
        simp [hr] at h
        subst h
        obtain ⟨h1, h2⟩ := rowL_eq n (k + 1) cs ws hr
        refine ⟨by simp [h1], fun j hj => ?_⟩
        cases j with
        | zero => simp [hv]
        | succ j =>
          simp only [List.getElem?_cons_succ]
          rw [h2 j (by omega), show k + 1 + j = k + (j + 1) by omega]
    · cases h
theorem rowL_some : ∀ (n k : Nat) (cs : List Value), k + n ≤ cs.length → rowL cs k n = some ((cs.drop k).take n)
  | 0, k, cs, h => by simp [rowL]
  | n + 1, k, cs, h => by
    have hk : k < cs.length := by omega
    simp only [rowL, List.getElem?_eq_getElem hk, rowL_some n (k + 1) cs (by omega), Option.map_some]
    rw [List.drop_eq_getElem_cons hk, List.take_succ_cons]

theorem Sim.rowOf {B : Nat} {w0 w : World} {μ : Nat → Blk} {σ : H} (hs : Sim B w0 μ σ w) {id : Nat} {cs : List Value}
    (h : (∃ sz, σ.get id = .cells sz cs) ∨ σ.get id = .ro cs) : ∃ cs' t fz, w.heap[(μ id).b]? = some (.cells cs' t fz) ∧ CellsR μ σ.size cs cs' (μ id).o := by
  rcases h with ⟨sz, h⟩ | h
  · obtain ⟨_, cs', t, fz, h1, _, h2⟩ := hs.own id sz cs h; exact ⟨cs', t, fz, h1, h2⟩
  · exact (hs.ro id cs h).2
theorem Sim.cell {B : Nat} {w0 w : World} {μ : Nat → Blk} {σ : H} (hs : Sim B w0 μ σ w) {id off : Nat} {v : Value} (h : σ.cell id off = some v) :
    ∃ v', w.cell? ⟨(μ id).b, (μ id).o + off, none⟩ = some v' ∧ VR μ σ.size v v' := by
  unfold H.cell at h
  split at h
  all_goals first | cases h | skip
  all_goals
    rename_i cs hc
    obtain ⟨cs', t, fz, h1, h2⟩ := hs.rowOf (by first | exact .inl ⟨_, hc⟩ | exact .inr hc)
    obtain ⟨v', h3, h4⟩ := h2 off v h
    exact ⟨v', by simp [World.cell?, h1, h3], h4⟩
theorem Sim.row {B : Nat} {w0 w : World} {μ : Nat → Blk} {σ : H} (hs : Sim B w0 μ σ w) {P : Program} {id off n : Nat} {vs : List Value} (h : σ.row id off n = some vs) :
    ∃ vs', (loadCells ⟨(μ id).b, (μ id).o + off, none⟩ n).run P w = .ok vs'.toArray w ∧ VRs μ σ.size vs vs' := by
  unfold H.row at h
  split at h
  all_goals first | cases h | skip
  all_goals
    rename_i cs hc
    obtain ⟨cs', t, fz, h1, h2⟩ := hs.rowOf (by first | exact .inl ⟨_, hc⟩ | exact .inr hc)
    obtain ⟨hl, hg⟩ := rowL_eq n off cs vs h
    have hin : (μ id).o + off + n ≤ cs'.size ∨ n = 0 := by
      rcases Nat.eq_zero_or_pos n with e | e
      · exact .inr e
      · left
        have hv : vs[n - 1]? = some vs[n - 1] := List.getElem?_eq_getElem (by omega)
        rw [hg (n - 1) (by omega)] at hv
        obtain ⟨v', h3, _⟩ := h2 _ _ hv
        rcases Nat.lt_or_ge ((μ id).o + (off + (n - 1))) cs'.size with x | x
        · omega
        · rw [Array.getElem?_eq_none x] at h3; cases h3
    have hlen : ((cs'.toList.drop ((μ id).o + off)).take n).length = n := by
      rw [List.length_take, List.length_drop, Array.length_toList]; omega
    refine ⟨(cs'.toList.drop ((μ id).o + off)).take n, ?_, .of_get (by rw [hlen, hl]) fun i v hv => ?_⟩
    · have := run_loadCells_list (P := P) (w := w) ⟨(μ id).b, (μ id).o + off, none⟩ ((cs'.toList.drop ((μ id).o + off)).take n) (fun j v hv => by
        rw [List.getElem?_take] at hv
        split at hv
        · rw [List.getElem?_drop, Array.getElem?_toList] at hv
          unfold Addr.add
          split
          · rename_i e; subst e; simp [World.cell?, h1]; simpa using hv
          · simp [World.cell?, h1]; exact hv
        · cases hv)
      rw [hlen] at this
      exact this
    · have hi : i < n := by
        rcases Nat.lt_or_ge i n with x | x
        · exact x
        · rw [List.getElem?_eq_none (by omega)] at hv; cases hv
      rw [hg i hi] at hv
      obtain ⟨v', h3, h4⟩ := h2 _ _ hv
      refine ⟨v', ?_, h4⟩
      rw [List.getElem?_take, if_pos hi, List.getElem?_drop, Array.getElem?_toList, Nat.add_assoc]
      exact h3

/-! ## Stores -/
def splA (c : Array Value) : Nat → List Value → Array Value
  | _, [] => c
  | k, v :: vs => splA (c.setIfInBounds k v) (k + 1) vs
theorem splA_size : ∀ (vs : List Value) (c : Array Value) (k : Nat), (splA c k vs).size = c.size
  | [], _, _ => rfl
  | v :: vs, c, k => by simp [splA, splA_size vs]
theorem spl_length : ∀ (vs cs : List Value) (k : Nat), (spl cs k vs).length = cs.length
  | [], _, _ => rfl
  | v :: vs, cs, k => by simp [spl, spl_length vs]
theorem CellsR.spl {μ : Nat → Blk} {n o : Nat} : ∀ {vs vs' : List Value} {cs : List Value} {cs' : Array Value} {k : Nat}, VRs μ n vs vs' → CellsR μ n cs cs' o → k + vs.length ≤ cs.length →
    CellsR μ n (Mini.spl cs k vs) (splA cs' (o + k) vs') o
  | _, _, cs, cs', k, .nil, h, _ => h
  | _, _, cs, cs', k, .cons (v := v) (v' := v') (l := l) hv hs, h, hk => by
    simp only [Mini.spl, splA]
    have h1 : CellsR μ n (cs.set k v) (cs'.setIfInBounds (o + k) v') o := by
      intro j u hu
      by_cases e : k = j
      · subst e
        have hlt : k < cs.length := by simp at hk; omega
        rw [List.getElem?_set_self hlt] at hu
        cases hu
        obtain ⟨x, hx, _⟩ := h k cs[k] (List.getElem?_eq_getElem hlt)
        have hin : o + k < cs'.size := by
          rcases Nat.lt_or_ge (o + k) cs'.size with y | y
          · exact y
          · rw [Array.getElem?_eq_none y] at hx; cases hx
        exact ⟨v', by simp [Array.getElem?_setIfInBounds, hin], hv⟩
      · rw [List.getElem?_set_ne e] at hu
        obtain ⟨x, hx, hr⟩ := h j u hu
        exact ⟨x, by rw [Array.getElem?_setIfInBounds, if_neg (by omega)]; exact hx, hr⟩
    have := CellsR.spl (k := k + 1) hs h1 (by simp at hk ⊢; omega)
    rwa [← Nat.add_assoc] at this
theorem run_storeRow (P : Program) (b o : Nat) (t : TypeId) (fz : Nat × Nat) : ∀ (vs : List Value) (i : Nat) (cur : Array Value) (w : World),
    w.heap[b]? = some (.cells cur t fz) → Unfrozen cur fz → o + i + vs.length ≤ cur.size → vs.all one = true →
    (storeCells ⟨b, o, none⟩ vs i).run P w = .ok () { w with heap := w.heap.setIfInBounds b (.cells (splA cur (o + i) vs) t fz) }
  | [], i, cur, w, h, _, _, _ => by
    have hb : b < w.heap.size := by
      rcases Nat.lt_or_ge b w.heap.size with y | y
      · exact y
      · rw [Array.getElem?_eq_none y] at h; cases h
    have : w.heap.setIfInBounds b (.cells cur t fz) = w.heap := by
      apply Array.ext_getElem?
      intro k
      rw [Array.getElem?_setIfInBounds]
      split
      · rename_i e; subst e; exact h.symm
      · rfl
    simp [storeCells, splA, this]
  | v :: vs, i, cur, w, h, hz, hl, ho => by
    have hb : b < w.heap.size := by
      rcases Nat.lt_or_ge b w.heap.size with y | y
      · exact y
      · rw [Array.getElem?_eq_none y] at h; cases h
    simp only [List.all_cons, Bool.and_eq_true] at ho
    simp only [List.length_cons] at hl
    have hadd : (⟨b, o, none⟩ : Addr).add i = ⟨b, o + i, none⟩ := by
      unfold Addr.add
      split
      · rename_i e; subst e; rfl
      · rfl
    have hv' : v.oneCell' = true := by cases v <;> first | rfl | simp [one] at ho
    have hc : w.cell? ⟨b, o + i, none⟩ = some cur[o + i] := by simp [World.cell?, h]
    have hfz : w.frozen? ⟨b, o + i, none⟩ = false := by
      simp only [World.frozen?, h]
      have := hz (o + i) (by omega)
      simp only [Bool.and_eq_false_iff, decide_eq_false_iff_not]
      rcases Nat.lt_or_ge (o + i) fz.1 with y | y
      · exact .inl (by omega)
      · exact .inr (fun x => this ⟨y, x⟩)
    have hset : w.setCell ⟨b, o + i, none⟩ v = { w with heap := w.heap.setIfInBounds b (.cells (cur.setIfInBounds (o + i) v) t fz) } := by
      unfold World.setCell
      congr 1
      apply Array.ext_getElem?
      intro k
      rw [Array.getElem?_modify, Array.getElem?_setIfInBounds]
      split
      · rename_i e; subst e; show Option.map _ (w.heap[b]?) = _; rw [h]; rfl
      · rfl
    have ih := run_storeRow P b o t fz vs (i + 1) (cur.setIfInBounds (o + i) v) (w.setCell ⟨b, o + i, none⟩ v) (by rw [hset]; simp [Array.getElem?_setIfInBounds, hb])
      (fun j hj => hz j (by simpa using hj)) (by simp; omega) ho.2
    simp only [storeCells, hadd, Sem.run_bind]
    rw [run_store P w _ v .plain hv', hc]
    simp only [hfz, Bool.false_eq_true, if_false, Result.andThen_ok]
    rw [ih, hset]
    simp only [splA, ← Nat.add_assoc]
    congr 2
    apply Array.ext_getElem?
    intro k
    simp only [Array.getElem?_setIfInBounds]
    split <;> simp_all
theorem Sim.putRow {B : Nat} {w0 w : World} {μ : Nat → Blk} {σ τ : H} (hs : Sim B w0 μ σ w) {P : Program} {id off : Nat} {vs vs' : List Value} (hv : VRs μ σ.size vs vs')
    (h : Mini.putRow σ id off vs = some τ) : ∃ w', (storeCells ⟨(μ id).b, (μ id).o + off, none⟩ vs').run P w = .ok () w' ∧ Sim B w0 μ τ w' ∧ τ.size = σ.size := by
  unfold Mini.putRow at h
  split at h
  · rename_i sz cs hc
    split at h
    · rename_i hcond
      simp only [Option.some.injEq] at h
      subst h
      obtain ⟨h1, cs', t, fz, h2, ⟨h3, h3'⟩, h4⟩ := hs.own id sz cs hc
      have hsz : (μ id).o + off + vs'.length ≤ cs'.size ∨ vs' = [] := by
        rcases Nat.eq_zero_or_pos vs.length with e | e
        · right
          have := hv.length
          rw [e] at this
          exact List.length_eq_zero_iff.1 this
        · left
          have hlt : off + (vs.length - 1) < cs.length := by omega
          obtain ⟨x, hx, _⟩ := h4 _ _ (List.getElem?_eq_getElem hlt)
          rcases Nat.lt_or_ge ((μ id).o + (off + (vs.length - 1))) cs'.size with y | y
          · rw [hv.length]; omega
          · rw [Array.getElem?_eq_none y] at hx; cases hx
      refine ⟨{ w with heap := w.heap.setIfInBounds (μ id).b (.cells (splA cs' ((μ id).o + off) vs') t fz) }, ?_, ?_, by simp⟩
      · rcases hsz with hsz | hsz
        · exact run_storeRow P _ _ t fz vs' 0 cs' w h2 h3 (by simpa using hsz) (by rw [hv.one_all]; exact hcond.2)
        · subst hsz
          have hb : (μ id).b < w.heap.size := hs.fin id (H.lt_of_cells hc)
          have : w.heap.setIfInBounds (μ id).b (.cells cs' t fz) = w.heap := by
            apply Array.ext_getElem?
            intro k
            rw [Array.getElem?_setIfInBounds]
            split
            · rename_i e; subst e; exact h2.symm
            · rfl
          simp [storeCells, splA, this]
      · exact hs.setOwn hc rfl ⟨fun j hj => h3 j (by simpa [splA_size] using hj), by rw [splA_size]; exact h3'⟩ (.inl ⟨_, rfl, .spl hv h4 hcond.1⟩)
    · cases h
  · cases h
end Go.Mini
