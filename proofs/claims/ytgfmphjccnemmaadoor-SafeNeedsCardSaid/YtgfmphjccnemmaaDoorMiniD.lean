/- The small operations tell what the model's do: the operations, first part. -/
import Derived.Test.YtgfmphjccnemmaaDoorMiniC
namespace Go.Mini
open Go.RowKit (Below)
set_option linter.unusedVariables false
set_option linter.unusedSimpArgs false

def Told (P : Program) (B : Nat) (w0 : World) (μ : Nat → Blk) (σ τ : H) (v : Value) (s : Sem Next) (w : World) : Prop :=
  ∃ v' w' μ', (s.run P w = .ok (.value v') w' ∨ (s.run P w = .ok .skip w' ∧ v' = undef)) ∧ Sim B w0 μ' τ w' ∧ VR μ' τ.size v v' ∧ Agr σ.size μ μ' ∧ σ.size ≤ τ.size

section
variable {P : Program} {B : Nat} {w0 w : World} {μ : Nat → Blk} {σ τ : H}

theorem Told.same {v v' : Value} {s : Sem Next} (hs : Sim B w0 μ σ w) (h : s.run P w = .ok (.value v') w) (hv : VR μ σ.size v v') : Told P B w0 μ σ σ v s w :=
  ⟨v', w, μ, .inl h, hs, hv, .refl _ _, Nat.le_refl _⟩

theorem run_und {t : TypeId} {d : TypeDesc} (h : P.underlying t = some d) (w : World) : (underlying t).run P w = .ok d w := by
  simp [underlying, h]
theorem run_size {t : TypeId} {n : Nat} (h : sizeT P t = some n) (w : World) : (sizeOf t).run P w = .ok n w := by
  unfold sizeT at h
  cases hi : P.info? t with
  | none => simp [hi] at h
  | some i => simp [hi] at h; simp [sizeOf, typeInfo, hi, h]
theorem run_agg {t : TypeId} {g : Bool} (h : isAggT P t = some g) (w : World) : (isAgg t).run P w = .ok g w := by
  unfold isAggT at h
  cases hd : P.underlying t with
  | none => simp [hd] at h
  | some d =>
    simp only [isAgg, Sem.run_bind, run_und hd, Result.andThen_ok]
    cases d <;> simp [hd] at h <;> subst h <;> rfl
theorem run_info {t : TypeId} {i : TypeInfo} (h : P.info? t = some i) (w : World) : (typeInfo t).run P w = .ok i w := by simp [typeInfo, h]
theorem zeroL_spec {t : TypeId} {zs : List Value} (h : zeroL P t = some zs) : ∃ i z, P.info? t = some i ∧ i.zero = some z ∧ z.cells.toList = zs ∧ zs.all plain = true ∧ zs.length = i.size ∧
    ∀ w, (zeroValue t).run P w = .ok z w := by
  unfold zeroL at h
  cases hi : P.info? t with
  | none => simp [hi] at h
  | some i =>
    cases hz : i.zero with
    | none => simp [hi, hz] at h
    | some z =>
      simp only [hi, hz] at h
      split at h
      · rename_i hc
        simp only [Option.some.injEq] at h
        subst h
        exact ⟨i, z, rfl, hz, rfl, hc.1, by simpa using hc.2, fun w => by simp [zeroValue, typeInfo, hi, hz]⟩
      · cases h
theorem zero1_spec {t : TypeId} {z : Value} (h : zero1 P t = some z) : closed z = true ∧ ∀ w, (zeroValue t).run P w = .ok z w := by
  unfold zero1 at h
  cases hi : P.info? t with
  | none => simp [hi] at h
  | some i =>
    cases hz : i.zero with
    | none => simp [hi, hz] at h
    | some z' =>
      simp only [hi, hz] at h
      split at h
      · rename_i hc
        simp only [Option.some.injEq] at h
        subst h
        exact ⟨hc, fun w => by simp [zeroValue, typeInfo, hi, hz]⟩
      · cases h
theorem plain_one {v : Value} (h : plain v = true) : one v = true := by cases v <;> first | rfl | simp [plain] at h
theorem plains_one {vs : List Value} (h : vs.all plain = true) : vs.all one = true := by
  simp only [List.all_eq_true] at h ⊢
  exact fun v hv => plain_one (h v hv)

/-- A new object of cells, made by the model's 'newRow'. -/
theorem Sim.newRow {sz : Nat} {cs cs' : List Value} {more : List Value} (hs : Sim B w0 μ σ w) (h : VRs μ σ.size cs cs') (t : TypeId) {fz : Nat × Nat} (hz : Unfrozen (cs' ++ more).toArray fz) :
    Sim B w0 (setMu μ σ.size ⟨w.heap.size, 0, sz, cs'.length + more.length, sz == 0⟩) (σ.push (.cells sz cs)) { w with heap := w.heap.push (.cells (cs' ++ more).toArray t fz) } := by
  have := hs.push (sz := sz) (t := t) hz (cs := cs) fun j v hv => by
    obtain ⟨v', h1, h2⟩ := h.get hv
    refine ⟨v', ?_, h2⟩
    simp only [Nat.zero_add, List.getElem?_toArray]
    rw [List.getElem?_append_left]
    · exact h1
    · rcases Nat.lt_or_ge j cs'.length with x | x
      · exact x
      · rw [List.getElem?_eq_none x] at h1; cases h1
  simpa using this
theorem unfrozen0 (c : Array Value) : Unfrozen c (0, 0) := fun j _ h => by simp at h
theorem setMu_ptr (μ : Nat → Blk) (k : Nat) (p : Blk) (ho : p.o = 0) : VR (setMu μ k p) (k + 1) (.pointer (some ⟨k, 0, none⟩)) (.pointer (some ⟨p.b, 0, none⟩)) := by
  have := VR.ptr (μ := setMu μ k p) (n := k + 1) (id := k) (off := 0) (by omega)
  rw [setMu_self, ho] at this
  exact this
theorem setMu_slice (μ : Nat → Blk) (k : Nat) (p : Blk) {len cap cap' : Nat} (hl : len ≤ cap) (hc : cap ≤ cap') (hz : p.sz ≠ 0 → p.o + cap' * p.sz ≤ p.n) (he : p.ex = true → cap' = cap) :
    VR (setMu μ k p) (k + 1) (.slice (some ⟨k, 0, none⟩) len cap) (.slice (some ⟨p.b, p.o, none⟩) len cap') := by
  have := VR.slice (μ := setMu μ k p) (n := k + 1) (id := k) (off := 0) (len := len) (cap := cap) (cap' := cap') (o' := p.o) (by omega) hl hc (fun _ => by rw [setMu_self]; rfl)
    (by rw [setMu_self]; exact hz) (by rw [setMu_self]; exact he)
  rw [setMu_self] at this
  exact this

variable {ts : Fr} {ρ : Operand → Value} {v : Value}

theorem told_mv (hs : Sim B w0 μ σ w) {x' : Opd} {u : Value} (hx : VR μ σ.size (mev ts x') u) (hm : mop ts σ (.mv x') = some (v, τ)) {s : Sem Next}
    (hr : s.run P w = .ok (.value u) w) : Told P B w0 μ σ τ v s w := by
  simp only [mop, Option.some.injEq, Prod.mk.injEq] at hm
  obtain ⟨rfl, rfl⟩ := hm
  exact .same hs hr hx

theorem told_pick (hs : Sim B w0 μ σ w) {c a b : Opd} {c' a' b' : Value} (hc : VR μ σ.size (mev ts c) c') (ha : VR μ σ.size (mev ts a) a') (hb : VR μ σ.size (mev ts b) b')
    (hm : mop ts σ (.pick c a b) = some (v, τ)) : Told P B w0 μ σ τ v (do pure (.value (if ← asBool c' then a' else b'))) w := by
  simp only [mop] at hm
  split at hm
  · rename_i t e
    rw [e] at hc
    obtain rfl := hc.inv_bool
    simp only [Option.some.injEq, Prod.mk.injEq] at hm
    obtain ⟨rfl, rfl⟩ := hm
    refine .same (v' := if t then a' else b') hs (by simp [asBool]) ?_
    cases t
    · simpa using hb
    · simpa using ha
  · cases hm

theorem told_box (hs : Sim B w0 μ σ w) {x : Opd} {x' : Value} {t : TypeId} (hx : VR μ σ.size (mev ts x) x') (hm : mop ts σ (.box x) = some (v, τ)) :
    Told P B w0 μ σ τ v (do pure (.value (← Instr.box t x'))) w := by
  simp only [mop, Option.some.injEq, Prod.mk.injEq] at hm
  obtain ⟨rfl, rfl⟩ := hm
  refine ⟨.pointer (some ⟨w.heap.size, 0, none⟩), _, _, .inl (by simp [Instr.box, newVar, Go.newRow]; rfl), ?_, setMu_ptr _ _ ⟨w.heap.size, 0, 0, x'.cells.size, true⟩ rfl, .setMu _ _, by simp⟩
  have := hs.newRow (sz := 0) (more := []) hx.cells t (fz := (0, 0)) (unfrozen0 _)
  simpa using this

theorem told_alloc (hs : Sim B w0 μ σ w) {zs : List Value} {t : TypeId} (hz : zeroL P t = some zs) (hm : mop ts σ (.alloc zs) = some (v, τ)) :
    Told P B w0 μ σ τ v (do pure (.value (← Instr.alloc t true (.tuple #[])))) w := by
  simp only [mop, Option.some.injEq, Prod.mk.injEq] at hm
  obtain ⟨rfl, rfl⟩ := hm
  obtain ⟨i, z, hi, hz1, hz2, hz3, hz4, hz5⟩ := zeroL_spec hz
  refine ⟨.pointer (some ⟨w.heap.size, 0, none⟩), _, _, .inl (by simp [Instr.alloc, newVar, Go.newRow, hz5]; rfl), ?_, setMu_ptr _ _ ⟨w.heap.size, 0, 0, zs.length, true⟩ rfl, .setMu _ _, by simp⟩
  have := hs.newRow (sz := 0) (more := []) (VRs.of_plain hz3) t (fz := (0, 0)) (unfrozen0 _)
  rw [← hz2] at this ⊢
  simpa using this

theorem told_load1 (hs : Sim B w0 μ σ w) {x : Opd} {x' : Value} {t : TypeId} (hx : VR μ σ.size (mev ts x) x') (hg : isAggT P t = some false) (hm : mop ts σ (.load1 x) = some (v, τ)) :
    Told P B w0 μ σ τ v (do pure (.value (← Instr.loadAt t x'))) w := by
  simp only [mop] at hm
  split at hm
  · rename_i id off e
    rw [e] at hx
    obtain ⟨hid, rfl⟩ := hx.inv_ptr
    cases hc : σ.cell id off with
    | none => simp [hc] at hm
    | some u =>
      simp [hc] at hm
      obtain ⟨rfl, rfl⟩ := hm
      obtain ⟨u', h1, h2⟩ := hs.cell hc
      exact .same hs (by simp [Instr.loadAt, Instr.sureAddr, loadVar, run_agg hg, h1]) h2
  · cases hm

theorem told_loadN (hs : Sim B w0 μ σ w) {x : Opd} {x' : Value} {t : TypeId} {n : Nat} (hx : VR μ σ.size (mev ts x) x') (hg : isAggT P t = some true) (hn : sizeT P t = some n)
    (hm : mop ts σ (.loadN n x) = some (v, τ)) : Told P B w0 μ σ τ v (do pure (.value (← Instr.loadAt t x'))) w := by
  simp only [mop] at hm
  split at hm
  · rename_i id off e
    rw [e] at hx
    obtain ⟨hid, rfl⟩ := hx.inv_ptr
    cases hc : σ.row id off n with
    | none => simp [hc] at hm
    | some u =>
      simp [hc] at hm
      obtain ⟨rfl, rfl⟩ := hm
      obtain ⟨u', h1, h2⟩ := hs.row (P := P) hc
      exact .same hs (by simp [Instr.loadAt, Instr.sureAddr, loadVar, run_agg hg, run_size hn, h1]; rfl) (.agg (by simpa using h2))
  · cases hm

theorem told_store (hs : Sim B w0 μ σ w) {x y : Opd} {x' y' : Value} {t : TypeId} {n : Nat} (hx : VR μ σ.size (mev ts x) x') (hy : VR μ σ.size (mev ts y) y') (hn : sizeT P t = some n)
    (hm : mop ts σ (.store n x y) = some (v, τ)) : Told P B w0 μ σ τ v (do Instr.storeAt t x' y'; pure .skip) w := by
  simp only [mop] at hm
  split at hm
  · rename_i id off e
    rw [e] at hx
    obtain ⟨hid, rfl⟩ := hx.inv_ptr
    split at hm
    · rename_i hsz
      cases hp : putRow σ id off (mev ts y).cells.toList with
      | none => simp [hp] at hm
      | some τ' =>
        simp [hp] at hm
        obtain ⟨rfl, rfl⟩ := hm
        obtain ⟨w', h1, h2, h3⟩ := hs.putRow (P := P) hy.cells hp
        refine ⟨undef, w', μ, .inr ⟨?_, rfl⟩, h2, .tuple .nil, .refl _ _, by omega⟩
        have hsz' : y'.cells.size = n := by rw [hy.cells_size, hsz]
        simp [Instr.storeAt, Instr.sureAddr, storeVar, run_size hn, hsz', h1]
    · cases hm
  · cases hm

theorem told_fadd (hs : Sim B w0 μ σ w) {x : Opd} {x' : Value} {t : TypeId} {fs : Array Field} {f : Nat} {fl : Field} {n : Nat} (hx : VR μ σ.size (mev ts x) x') (hu : P.underlying t = some (.struct fs))
    (hf : fs[f]? = some fl) (hn : sizeT P fl.type = some (n + 1)) (hm : mop ts σ (.fadd fl.offset x) = some (v, τ)) : Told P B w0 μ σ τ v (do pure (.value (← Instr.fieldAt t x' f))) w := by
  simp only [mop] at hm
  split at hm
  · rename_i id off e
    rw [e] at hx
    obtain ⟨hid, rfl⟩ := hx.inv_ptr
    simp only [Option.some.injEq, Prod.mk.injEq] at hm
    obtain ⟨rfl, rfl⟩ := hm
    refine .same (v' := .pointer (some ⟨(μ id).b, (μ id).o + off + fl.offset, none⟩)) hs ?_ (by rw [Nat.add_assoc]; exact .ptr hid)
    have : (⟨(μ id).b, (μ id).o + off, none⟩ : Addr).add fl.offset = ⟨(μ id).b, (μ id).o + off + fl.offset, none⟩ := by
      unfold Addr.add; split
      · rename_i e; rw [e]; rfl
      · rfl
    simp [Instr.fieldAt, Instr.sureAddr, run_und hu, hf, fieldPlace, run_size hn, this]
  · cases hm

theorem addr_add (b o k : Nat) : (⟨b, o, none⟩ : Addr).add k = ⟨b, o + k, none⟩ := by
  unfold Addr.add; split
  · rename_i e; rw [e]; rfl
  · rfl

theorem told_iaS (hs : Sim B w0 μ σ w) {x y : Opd} {x' y' : Value} {t e : TypeId} {n : Nat} (hx : VR μ σ.size (mev ts x) x') (hy : VR μ σ.size (mev ts y) y') (hu : P.underlying t = some (.slice e))
    (hn : sizeT P e = some n) (hm : mop ts σ (.iaS n x y) = some (v, τ)) : Told P B w0 μ σ τ v (do pure (.value (← Instr.indexAt t x' y'))) w := by
  simp only [mop] at hm
  split at hm
  · rename_i id off len cap k q e1 e2
    rw [e1] at hx
    rw [e2] at hy
    obtain rfl := hy.inv_int
    obtain ⟨cap', o', rfl, _, hid, hl, hc, ho, _, _⟩ := hx.inv_slice
    split at hm
    · rename_i hb
      simp only [Option.some.injEq, Prod.mk.injEq] at hm
      obtain ⟨rfl, rfl⟩ := hm
      have ho' := ho (by omega)
      dsimp only at ho' hid ⊢
      refine .same (v' := .pointer (some ⟨(μ id).b, (μ id).o + off + q.toNat * n, none⟩)) hs ?_ (by rw [Nat.add_assoc]; exact .ptr hid)
      simp [Instr.indexAt, asIntOf, run_und hu, run_size hn, hb, addr_add, ho']
    · cases hm
  · cases hm

theorem told_iaA (hs : Sim B w0 μ σ w) {x y : Opd} {x' y' : Value} {t e : TypeId} {len n : Nat} (hx : VR μ σ.size (mev ts x) x') (hy : VR μ σ.size (mev ts y) y') (hu : P.underlying t = some (.array len e))
    (hn : sizeT P e = some n) (hm : mop ts σ (.iaA len n x y) = some (v, τ)) : Told P B w0 μ σ τ v (do pure (.value (← Instr.indexAt t x' y'))) w := by
  simp only [mop] at hm
  split at hm
  · rename_i id off k q e1 e2
    rw [e1] at hx
    rw [e2] at hy
    obtain rfl := hy.inv_int
    obtain ⟨hid, rfl⟩ := hx.inv_ptr
    split at hm
    · rename_i hb
      simp only [Option.some.injEq, Prod.mk.injEq] at hm
      obtain ⟨rfl, rfl⟩ := hm
      refine .same (v' := .pointer (some ⟨(μ id).b, (μ id).o + off + q.toNat * n, none⟩)) hs ?_ (by rw [Nat.add_assoc]; exact .ptr hid)
      simp [Instr.indexAt, asIntOf, Instr.sureAddr, run_und hu, run_size hn, hb, addr_add]
    · cases hm
  · cases hm

theorem told_idxS (hs : Sim B w0 μ σ w) {x y : Opd} {x' y' : Value} {t : TypeId} (hx : VR μ σ.size (mev ts x) x') (hy : VR μ σ.size (mev ts y) y') (hu : P.underlying t = some .string)
    (hm : mop ts σ (.idxS x y) = some (v, τ)) : Told P B w0 μ σ τ v (do pure (.value (← Instr.index t x' y'))) w := by
  simp only [mop] at hm
  split at hm
  · rename_i s k q e1 e2
    rw [e1] at hx
    rw [e2] at hy
    obtain rfl := hy.inv_int
    obtain rfl := hx.inv_string
    split at hm
    · rename_i hb
      simp only [Option.some.injEq, Prod.mk.injEq] at hm
      obtain ⟨rfl, rfl⟩ := hm
      have hlt : q.toNat < s.size := by omega
      refine .same (v' := .int .u8 (s.data.toList.getD q.toNat 0).toNat) hs ?_ (.int _ _)
      have hg : s[q.toNat]? = some s[q.toNat] := getElem?_pos s q.toNat hlt
      have hd : s.data.toList.getD q.toNat 0 = s[q.toNat] := by
        rw [List.getD_eq_getElem?_getD, Array.getElem?_toList, Array.getElem?_eq_getElem hlt]; rfl
      have hd' : s.data[q.toNat]?.getD 0 = s[q.toNat] := by rw [Array.getElem?_eq_getElem hlt]; rfl
      simp [Instr.index, asIntOf, run_und hu, hb.1, hg, hd']
    · cases hm
  · cases hm

theorem run_part {t : TypeId} {g : Bool} {n off : Nat} {c : Array Value} (hg : isAggT P t = some g) (hn : sizeT P t = some n) :
    (part t c off).run P w = if g then .ok (.agg (c.extract off (off + n))) w else match c[off]? with | some v => .ok v w | none => .halt (.stuck "part: no such cell") w := by
  unfold part
  simp only [Sem.run_bind, run_agg hg, Result.andThen_ok]
  cases g
  · simp; cases c[off]? <;> rfl
  · simp [run_size hn]
theorem extract_list (c : Array Value) (off n : Nat) : (c.extract off (off + n)).toList = (c.toList.drop off).take n := by
  rw [Array.toList_extract, List.extract_eq_take_drop, show off + n - off = n by omega]

theorem told_part (hs : Sim B w0 μ σ w) {t : TypeId} {g : Bool} {n off : Nat} {c c' : Array Value} (h : VRs μ σ.size c.toList c'.toList) (hg : isAggT P t = some g) (hn : sizeT P t = some n)
    (hm : (if g then some (Value.agg ((c.toList.drop off).take n).toArray, σ) else (c.toList[off]?).map fun v => (v, σ)) = some (v, τ)) :
    τ = σ ∧ ∃ v', (part t c' off).run P w = .ok v' w ∧ VR μ σ.size v v' := by
  rw [run_part hg hn]
  cases g
  · simp only [Bool.false_eq_true, if_false] at hm ⊢
    cases hc : c.toList[off]? with
    | none => simp [hc] at hm
    | some u =>
      simp only [hc, Option.map_some, Option.some.injEq, Prod.mk.injEq] at hm
      obtain ⟨rfl, rfl⟩ := hm
      obtain ⟨u', h1, h2⟩ := h.get hc
      rw [Array.getElem?_toList] at h1
      exact ⟨rfl, u', by simp [h1], h2⟩
  · simp only [if_true, Option.some.injEq, Prod.mk.injEq] at hm ⊢
    obtain ⟨rfl, rfl⟩ := hm
    exact ⟨rfl, _, rfl, .agg (by rw [extract_list]; simpa using (h.drop off).take n)⟩

theorem told_idxA (hs : Sim B w0 μ σ w) {x y : Opd} {x' y' : Value} {t e : TypeId} {len n : Nat} {g : Bool} (hx : VR μ σ.size (mev ts x) x') (hy : VR μ σ.size (mev ts y) y')
    (hu : P.underlying t = some (.array len e)) (hn : sizeT P e = some n) (hg : isAggT P e = some g) (hm : mop ts σ (.idxA len n g x y) = some (v, τ)) :
    Told P B w0 μ σ τ v (do pure (.value (← Instr.index t x' y'))) w := by
  simp only [mop] at hm
  split at hm
  · rename_i cs k q e1 e2
    rw [e1] at hx
    rw [e2] at hy
    obtain rfl := hy.inv_int
    obtain ⟨c', rfl, hc⟩ := hx.inv_agg
    split at hm
    · rename_i hb
      obtain ⟨rfl, v', h1, h2⟩ := told_part (P := P) (w := w) hs (off := q.toNat * n) hc hg hn hm
      exact .same hs (by simp [Instr.index, asIntOf, run_und hu, run_size hn, hb, h1]) h2
    · cases hm
  · cases hm

theorem told_fld (hs : Sim B w0 μ σ w) {x : Opd} {x' : Value} {t : TypeId} {fs : Array Field} {f : Nat} {fl : Field} {n : Nat} {g : Bool} (hx : VR μ σ.size (mev ts x) x')
    (hu : P.underlying t = some (.struct fs)) (hf : fs[f]? = some fl) (hn : sizeT P fl.type = some n) (hg : isAggT P fl.type = some g) (hm : mop ts σ (.fld fl.offset n g x) = some (v, τ)) :
    Told P B w0 μ σ τ v (do pure (.value (← Instr.field t x' f))) w := by
  simp only [mop] at hm
  split at hm
  · rename_i cs e1
    rw [e1] at hx
    obtain ⟨c', rfl, hc⟩ := hx.inv_agg
    obtain ⟨rfl, v', h1, h2⟩ := told_part (P := P) (w := w) hs (off := fl.offset) hc hg hn hm
    exact .same hs (by simp [Instr.field, run_und hu, hf, asAgg, h1]) h2
  · cases hm

theorem told_not (hs : Sim B w0 μ σ w) {x : Opd} {x' : Value} (hx : VR μ σ.size (mev ts x) x') (hm : mop ts σ (.not x) = some (v, τ)) : Told P B w0 μ σ τ v (do pure (.value (← Op.unary .not x'))) w := by
  simp only [mop] at hm
  split at hm
  · rename_i b e
    rw [e] at hx
    obtain rfl := hx.inv_bool
    simp only [Option.some.injEq, Prod.mk.injEq] at hm
    obtain ⟨rfl, rfl⟩ := hm
    exact .same hs (by simp [Op.unary]) (.bool _)
  · cases hm
theorem told_neg (hs : Sim B w0 μ σ w) {x : Opd} {x' : Value} (hx : VR μ σ.size (mev ts x) x') (hm : mop ts σ (.neg x) = some (v, τ)) : Told P B w0 μ σ τ v (do pure (.value (← Op.unary .neg x'))) w := by
  simp only [mop] at hm
  split at hm
  · rename_i k n e
    rw [e] at hx
    obtain rfl := hx.inv_int
    simp only [Option.some.injEq, Prod.mk.injEq] at hm
    obtain ⟨rfl, rfl⟩ := hm
    exact .same hs (by simp [Op.unary, Op.intArith]) (.int _ _)
  · cases hm
theorem told_conv (hs : Sim B w0 μ σ w) {x : Opd} {x' : Value} {s d : TypeId} {j k : IntKind} (h1 : P.underlying s = some (.int j)) (h2 : P.underlying d = some (.int k)) (hx : VR μ σ.size (mev ts x) x')
    (hm : mop ts σ (.conv k x) = some (v, τ)) : Told P B w0 μ σ τ v (do pure (.value (← convert s d x'))) w := by
  simp only [mop] at hm
  split at hm
  · rename_i q n e
    rw [e] at hx
    obtain rfl := hx.inv_int
    simp only [Option.some.injEq, Prod.mk.injEq] at hm
    obtain ⟨rfl, rfl⟩ := hm
    exact .same hs (by simp [convert, run_und h1, run_und h2, Conv.intToInt]) (.int _ _)
  · cases hm
theorem told_convS (hs : Sim B w0 μ σ w) {x : Opd} {x' : Value} {s d : TypeId} (h1 : P.underlying s = some .string) (h2 : P.underlying d = some .string) {u : ByteArray} (hu : mev ts x = .string u) (hx : VR μ σ.size (mev ts x) x')
    (hm : mop ts σ (.mv x) = some (v, τ)) : Told P B w0 μ σ τ v (do pure (.value (← convert s d x'))) w := by
  simp only [mop, Option.some.injEq, Prod.mk.injEq] at hm
  obtain ⟨rfl, rfl⟩ := hm
  rw [hu] at hx ⊢
  obtain rfl := hx.inv_string
  exact .same hs (by simp [convert, run_und h1, run_und h2]) (.string _)
theorem told_mki (hs : Sim B w0 μ σ w) {x : Opd} {x' : Value} {t : TypeId} {d : TypeDesc} (h1 : P.underlying t = some d) (hd : ∀ ms, d ≠ .interface ms) (hx : VR μ σ.size (mev ts x) x')
    (hm : mop ts σ (.mki t x) = some (v, τ)) : Told P B w0 μ σ τ v (do pure (.value (← Instr.makeInterface t x'))) w := by
  simp only [mop, Option.some.injEq, Prod.mk.injEq] at hm
  obtain ⟨rfl, rfl⟩ := hm
  refine .same (v' := .iface t x') hs ?_ (.iface hx)
  cases d <;> first | exact absurd rfl (hd _) | simp [Instr.makeInterface, run_und h1]
theorem told_ext (hs : Sim B w0 μ σ w) {x : Opd} {x' : Value} {i : Nat} (hx : VR μ σ.size (mev ts x) x')
    (hm : mop ts σ (.ext x i) = some (v, τ)) : Told P B w0 μ σ τ v (do pure (.value (← Instr.extract x' i))) w := by
  simp only [mop] at hm
  split at hm
  · rename_i vs e
    rw [e] at hx
    obtain ⟨c', rfl, hc⟩ := hx.inv_tuple
    cases hg : vs.toList[i]? with
    | none => simp only [hg, Option.map_none] at hm; cases hm
    | some u =>
      simp only [hg, Option.map_some, Option.some.injEq, Prod.mk.injEq] at hm
      obtain ⟨rfl, rfl⟩ := hm
      obtain ⟨u', h1, h2⟩ := hc.get hg
      rw [Array.getElem?_toList] at h1
      exact .same hs (by simp [Instr.extract, h1]) h2
  · cases hm
theorem told_min (hs : Sim B w0 μ σ w) {x y : Opd} {x' y' : Value} {ats : Array TypeId} {t : TypeId} (hx : VR μ σ.size (mev ts x) x') (hy : VR μ σ.size (mev ts y) y')
    (hm : mop ts σ (.min2 x y) = some (v, τ)) : Told P B w0 μ σ τ v (do pure (.value (← Builtin.min_ ats t #[x', y']))) w := by
  simp only [mop] at hm
  split at hm
  · rename_i k a k' b e1 e2
    rw [e1] at hx
    rw [e2] at hy
    obtain rfl := hx.inv_int
    obtain rfl := hy.inv_int
    simp only [Option.some.injEq, Prod.mk.injEq] at hm
    obtain ⟨rfl, rfl⟩ := hm
    exact .same hs (by simp [Builtin.min_, Builtin.min2]) (.int _ _)
  · cases hm
theorem told_max (hs : Sim B w0 μ σ w) {x y : Opd} {x' y' : Value} {ats : Array TypeId} {t : TypeId} (hx : VR μ σ.size (mev ts x) x') (hy : VR μ σ.size (mev ts y) y')
    (hm : mop ts σ (.max2 x y) = some (v, τ)) : Told P B w0 μ σ τ v (do pure (.value (← Builtin.max_ ats t #[x', y']))) w := by
  simp only [mop] at hm
  split at hm
  · rename_i k a k' b e1 e2
    rw [e1] at hx
    rw [e2] at hy
    obtain rfl := hx.inv_int
    obtain rfl := hy.inv_int
    simp only [Option.some.injEq, Prod.mk.injEq] at hm
    obtain ⟨rfl, rfl⟩ := hm
    exact .same hs (by simp [Builtin.max_, Builtin.max2]) (.int _ _)
  · cases hm
end
end Go.Mini
