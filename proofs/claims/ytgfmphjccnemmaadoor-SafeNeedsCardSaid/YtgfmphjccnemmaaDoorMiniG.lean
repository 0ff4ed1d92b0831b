/- The small operations tell what the model's do: texts' slices, makes, appends, copies. -/
import Derived.Test.YtgfmphjccnemmaaDoorMiniF
namespace Go.Mini
open Go.RowKit (Below)
set_option linter.unusedVariables false
set_option linter.unusedSimpArgs false
section
variable {P : Program} {B : Nat} {w0 w : World} {μ : Nat → Blk} {σ τ : H} {ts : Fr} {v : Value}

theorem told_slcS (hs : Sim B w0 μ σ w) {x : Opd} {x' : Value} {t : TypeId} {lo hi : Option Opd} {lo' hi' : Option Value} (hu : P.underlying t = some .string)
    (hx : VR μ σ.size (mev ts x) x') (hlo : OVR μ σ.size (lo.map (mev ts)) lo') (hhi : OVR μ σ.size (hi.map (mev ts)) hi')
    (hm : mop ts σ (.slcS x lo hi) = some (v, τ)) : Told P B w0 μ σ τ v (do pure (.value (← Instr.sliceAt t x' lo' hi' none))) w := by
  simp only [mop] at hm
  split at hm
  · rename_i s e1
    rw [e1] at hx
    obtain rfl := hx.inv_string
    split at hm
    · rename_i l h m hb
      simp only [Option.some.injEq, Prod.mk.injEq] at hm
      obtain ⟨rfl, rfl⟩ := hm
      obtain ⟨m', hr, a1, a2, a3, a4, a5, a6, a7⟩ := run_bnds (P := P) (isS := false) hb hlo hhi .none (Nat.le_refl _) (Nat.le_refl _) w
      refine .same (v' := .string (s.extract l h)) hs ?_ (.string _)
      simp [Instr.sliceAt, Instr.slice, run_und hu, hr]
    · cases hm
  · cases hm

theorem told_slcA (hs : Sim B w0 μ σ w) {x : Opd} {x' : Value} {t e : TypeId} {k n : Nat} {lo hi : Option Opd} {lo' hi' : Option Value} (hu : P.underlying t = some (.array k e)) (hn : sizeT P e = some n)
    (hx : VR μ σ.size (mev ts x) x') (hlo : OVR μ σ.size (lo.map (mev ts)) lo') (hhi : OVR μ σ.size (hi.map (mev ts)) hi')
    (hm : mop ts σ (.slcA k n x lo hi) = some (v, τ)) : Told P B w0 μ σ τ v (do pure (.value (← Instr.sliceAt t x' lo' hi' none))) w := by
  simp only [mop] at hm
  split at hm
  · rename_i id off e1
    rw [e1] at hx
    obtain ⟨hid, rfl⟩ := hx.inv_ptr
    split at hm
    · rename_i l h m hb
      split at hm
      · rename_i cs hg
        simp only [Option.some.injEq, Prod.mk.injEq] at hm
        obtain ⟨rfl, rfl⟩ := hm
        obtain ⟨m', hr, a1, a2, a3, a4, a5, a6, a7⟩ := run_bnds (P := P) (isS := false) hb hlo hhi .none (Nat.le_refl k) (Nat.le_refl k) w
        obtain ⟨rfl, rfl⟩ := a7 rfl
        have hz := (hs.own id 0 cs hg).1
        refine .same (v' := .slice (some (if m' = l then ⟨(μ id).b, (μ id).o + off, none⟩ else ⟨(μ id).b, (μ id).o + off + l * n, none⟩)) (h - l) (m' - l)) hs ?_ ?_
        · simp only [Instr.sliceAt, Sem.run_bind, run_und hu, Result.andThen_ok, Instr.sureAddr, Sem.run_pure, hr, run_size hn]
          split <;> simp [addr_add]
        · by_cases hml : m' = l
          · rw [if_pos hml, if_pos hml]
            exact .slice hid (by omega) (by omega) (by omega) (fun hne => absurd hz.2.1 hne) (fun _ => rfl)
          · rw [if_neg hml, if_neg hml]
            exact .slice hid (by omega) (by omega) (fun h0 => by rw [Nat.add_assoc]) (fun hne => absurd hz.2.1 hne) (fun _ => rfl)
      · cases hm
    · cases hm
  · cases hm

def capOf (w : World) (need old : Nat) (e : TypeId) : Nat := need + (w.tape w.drawn (.appendCap need old e)) % (2 ^ 63 - need)
theorem run_cap (w : World) (need old : Nat) (e : TypeId) : (choose (.appendCap need old e)).run P w = .ok (capOf w need old e) { w with drawn := w.drawn + 1 } := by
  simp [run_choose, Question.forced, Question.cut, capOf]
theorem run_s2b (w : World) (e : TypeId) (s : ByteArray) : (Conv.stringToBytes e s).run P w =
    .ok (.slice (some ⟨w.heap.size, 0, none⟩) s.size (capOf w s.size 0 e)) { w with drawn := w.drawn + 1, heap := w.heap.push (.cells (bytesL s.data.toList ++ List.replicate (capOf w s.size 0 e - s.size) (Value.int .u8 0)).toArray e (capOf w s.size 0 e, capOf w s.size 0 e + 1)) } := by
  generalize hcap : capOf w s.size 0 e = cap
  have hle : s.size ≤ cap := by rw [← hcap]; exact Nat.le_add_right _ _
  have harr : (s.data.map fun b : UInt8 => Value.int .u8 b.toNat) ++ Array.replicate (cap - s.size) (Value.int .u8 0) = (bytesL s.data.toList ++ List.replicate (cap - s.size) (Value.int .u8 0)).toArray := by
    apply Array.toList_inj.1; simp [bytesL]
  have hsz : ((s.data.map fun b : UInt8 => Value.int .u8 b.toNat) ++ Array.replicate (cap - s.size) (Value.int .u8 0)).size = cap := by
    simp; have : s.data.size = s.size := rfl; omega
  rw [← harr]
  unfold Conv.stringToBytes
  rw [Sem.run_bind, run_cap, Result.andThen_ok, hcap]
  simp only [Go.newRow, Sem.run_bind, run_newObj, Result.andThen_ok, Sem.run_pure, markStringish, run_shape, World.shape?, Array.getElem?_push_size, run_freeze, World.freeze, hsz]
  simp only [Nat.one_ne_zero, if_false]
  congr 2
  apply Array.ext_getElem?
  intro k
  simp only [Array.getElem?_modify, Array.getElem?_push]
  split
  · rename_i h; subst h; simp
  · rename_i h; rw [if_neg (Ne.symm h), if_neg (Ne.symm h)]
theorem told_s2b (hs : Sim B w0 μ σ w) {x : Opd} {x' : Value} {sr d e : TypeId} (h1 : P.underlying sr = some .string) (h2 : P.underlying d = some (.slice e)) (h3 : P.underlying e = some (.int .u8))
    (hx : VR μ σ.size (mev ts x) x') (hm : mop ts σ (.s2b x) = some (v, τ)) : Told P B w0 μ σ τ v (do pure (.value (← convert sr d x'))) w := by
  simp only [mop] at hm
  split at hm
  · rename_i s e1
    rw [e1] at hx
    obtain rfl := hx.inv_string
    simp only [Option.some.injEq, Prod.mk.injEq] at hm
    obtain ⟨rfl, rfl⟩ := hm
    have hrun := run_s2b (P := P) w e s
    have hle : s.size ≤ capOf w s.size 0 e := Nat.le_add_right _ _
    generalize capOf w s.size 0 e = cap at hrun hle
    have hs' : Sim B w0 μ σ { w with drawn := w.drawn + 1 } := hs.drewN 1
    have hlen : ((bytesL s.data.toList) ++ List.replicate (cap - s.size) (Value.int .u8 0)).length = cap := by
      simp [bytesL]; have : s.data.size = s.size := rfl; omega
    have hz : Unfrozen ((bytesL s.data.toList) ++ List.replicate (cap - s.size) (Value.int .u8 0)).toArray (cap, cap + 1) := fun j hj h => by
      rw [List.size_toArray, hlen] at hj
      simp at h; omega
    have hp : VRs μ σ.size (bytesL s.data.toList) (bytesL s.data.toList) := .of_plain (by
      unfold bytesL; rw [List.all_map, List.all_eq_true]; intro _ _; rfl)
    have hsim := hs'.newRow (sz := 1) hp e hz
    refine ⟨.slice (some ⟨w.heap.size, 0, none⟩) s.size cap, _, _, .inl ?_, hsim, ?_, .setMu _ _, by simp⟩
    · have : (convert sr d (.string s)).run P w = (Conv.stringToBytes e s).run P w := by
        unfold convert
        simp only [Sem.run_bind, run_und h1, run_und h2, Result.andThen_ok, run_und h3]
      simp only [Sem.run_bind, this, hrun, Result.andThen_ok, Sem.run_pure]
    · refine setMu_slice μ σ.size _ (Nat.le_refl _) hle (fun _ => ?_) (by simp)
      simp only [← List.length_append, hlen]; omega
  · cases hm

theorem told_b2s (hs : Sim B w0 μ σ w) {x : Opd} {x' : Value} {sr d e : TypeId} (h1 : P.underlying sr = some (.slice e)) (h2 : P.underlying d = some .string) (h3 : P.underlying e = some (.int .u8))
    (hx : VR μ σ.size (mev ts x) x') (hm : mop ts σ (.b2s x) = some (v, τ)) : Told P B w0 μ σ τ v (do pure (.value (← convert sr d x'))) w := by
  have hconv : ∀ a l c, (convert sr d (.slice a l c)).run P w = (Conv.bytesToString (.slice a l c)).run P w := fun a l c => run_convert_bytes_string w sr d e a l c h1 h3 h2
  simp only [mop] at hm
  split at hm
  · rename_i l c e1
    rw [e1] at hx
    obtain ⟨rfl, rfl, rfl⟩ := hx.inv_nilSlice
    simp only [Option.some.injEq, Prod.mk.injEq] at hm
    obtain ⟨rfl, rfl⟩ := hm
    exact .same hs (by simp only [Sem.run_bind, hconv]; rfl) (.string _)
  · rename_i id off n c e1
    rw [e1] at hx
    obtain ⟨cap', o', rfl, _, hid, hl, hc, ho, hz, hex⟩ := hx.inv_slice
    dsimp only at hid ho hz hex
    split at hm
    · rename_i vs hrow
      split at hm
      · rename_i hall
        simp only [Option.some.injEq, Prod.mk.injEq] at hm
        obtain ⟨rfl, rfl⟩ := hm
        obtain ⟨vs', hload, hvs⟩ := hs.row (P := P) hrow
        have hns : ∃ ns : List Int, vs = ns.map (Value.int .u8) := by
          clear hrow hvs hload
          induction vs with
          | nil => exact ⟨[], rfl⟩
          | cons a vs ih =>
            simp only [List.all_cons, Bool.and_eq_true] at hall
            obtain ⟨ns, rfl⟩ := ih hall.2
            cases a with
            | int k n => cases k <;> first | exact ⟨n :: ns, rfl⟩ | simp [isU8] at hall
            | _ => simp [isU8] at hall
        obtain ⟨ns, rfl⟩ := hns
        have hvs' : vs' = ns.map (Value.int .u8) := by
          clear hrow hload hall
          induction ns generalizing vs' with
          | nil => cases hvs; rfl
          | cons a ns ih => cases hvs with | cons h hs => rw [ih _ hs]; rw [h.inv_int]; rfl
        subst hvs'
        have hcell : n = 0 ∨ o' = (μ id).o + off := by
          rcases Nat.eq_zero_or_pos n with e | e
          · exact .inl e
          · exact .inr (ho (by omega))
        have hload' : (loadCells ⟨(μ id).b, o', none⟩ n).run P w = .ok (ns.map (Value.int .u8)).toArray w := by
          rcases hcell with e | e
          · subst e
            have : ns = [] := by
              have := (rowL_eq 0)
              unfold H.row at hrow
              split at hrow <;> first | (cases hrow; done) | skip
              all_goals (simp [rowL] at hrow; exact hrow)
            subst this
            rfl
          · rw [e]; exact hload
        have := run_bytesToString (P := P) w ⟨(μ id).b, o', none⟩ n cap' ns hload'
        refine .same (v' := .string (ns.foldl (fun r n => r.push (UInt8.ofNat n.toNat)) ByteArray.empty)) hs (by simp only [Sem.run_bind, hconv, this]; rfl) ?_
        have hfold : ∀ (ns : List Int) (r : ByteArray), ns.foldl (fun r n => r.push (UInt8.ofNat n.toNat)) r = ⟨r.data ++ (ns.map fun k => UInt8.ofNat k.toNat).toArray⟩ := by
          intro ns
          induction ns with
          | nil => intro r; simp
          | cons a ns ih => intro r; rw [List.foldl_cons, ih]; simp [ByteArray.push]
        rw [hfold]
        simp only [List.map_map]
        have : (toU8 ∘ Value.int IntKind.u8) = fun k : Int => UInt8.ofNat k.toNat := rfl
        rw [this]
        have hd : (ByteArray.empty.data ++ (ns.map fun k => UInt8.ofNat k.toNat).toArray) = (ns.map fun k => UInt8.ofNat k.toNat).toArray := by
          apply Array.toList_inj.1; simp
        rw [hd]
        exact .string _
      · cases hm
    · cases hm
  · cases hm

/-! ## make, []T{..} -/
theorem repZ_length (zs : List Value) : ∀ n, (repZ zs n).length = n * zs.length
  | 0 => by simp [repZ]
  | n + 1 => by simp [repZ, repZ_length zs n, Nat.add_mul, Nat.add_comm]
theorem repZ_get (zs : List Value) : ∀ (n j : Nat), j < n * zs.length → (repZ zs n)[j]? = zs[j % zs.length]?
  | 0, j, h => by simp at h
  | n + 1, j, h => by
    simp only [repZ]
    by_cases hj : j < zs.length
    · rw [List.getElem?_append_left hj, Nat.mod_eq_of_lt hj]
    · rw [List.getElem?_append_right (by omega), repZ_get zs n (j - zs.length) (by rw [Nat.add_mul] at h; omega)]
      congr 1
      exact (Nat.mod_eq_sub_mod (by omega)).symm
theorem repZ_plain {zs : List Value} (h : zs.all plain = true) : ∀ n, (repZ zs n).all plain = true
  | 0 => rfl
  | n + 1 => by simp only [repZ, List.all_append, h, repZ_plain h n, Bool.and_self]
theorem zeros_eq {z : Value} {zs : List Value} (hz : z.cells.toList = zs) (n : Nat) (h0 : zs.length ≠ 0) :
    ((Array.range (n * zs.length)).map (fun i => z.cells[i % z.cells.size]!)) = (repZ zs n).toArray := by
  have hsz : z.cells.size = zs.length := by rw [← hz]; simp
  apply Array.ext_getElem?
  intro j
  by_cases hj : j < n * zs.length
  · have hm : j % zs.length < zs.length := Nat.mod_lt _ (by omega)
    have : zs[j % zs.length]? = some z.cells[j % z.cells.size]! := by
      subst hz
      rw [Array.getElem?_toList, hsz]
      rw [Array.getElem?_eq_getElem (by rw [hsz]; exact hm), getElem!_pos z.cells _ (by rw [hsz]; exact hm)]
    have h2 : (repZ zs n).toArray[j]? = zs[j % zs.length]? := by rw [List.getElem?_toArray]; exact repZ_get zs n j hj
    rw [h2, this]
    simp [hj]
  · simp only [List.getElem?_toArray]
    rw [List.getElem?_eq_none (by rw [repZ_length]; omega), Array.getElem?_eq_none (by simp; omega)]
theorem zeroCells_eq {z : Value} {zs : List Value} (hz : z.cells.toList = zs) (n : Nat) (h0 : zs.length ≠ 0) : Builtin.zeroCells z.cells n = (repZ zs n).toArray := by
  rw [← zeros_eq hz n h0]
  unfold Builtin.zeroCells
  have hsz : z.cells.size = zs.length := by rw [← hz]; simp
  rw [hsz]

theorem told_mks (hs : Sim B w0 μ σ w) {x y : Opd} {x' y' : Value} {t e : TypeId} {zs : List Value} {i : TypeInfo} (hu : P.underlying t = some (.slice e)) (hz : zeroL P e = some zs) (hi : P.info? e = some i) (h0 : i.size ≠ 0)
    (hx : VR μ σ.size (mev ts x) x') (hy : VR μ σ.size (mev ts y) y')
    (hm : mop ts σ (.mks i.size i.bytes zs x y) = some (v, τ)) : Told P B w0 μ σ τ v (do pure (.value (← Instr.makeSlice t x' y'))) w := by
  obtain ⟨i', z, hi', hz1, hz2, hz3, hz4, hz5⟩ := zeroL_spec hz
  rw [hi] at hi'
  cases hi'
  simp only [mop] at hm
  split at hm
  · rename_i k1 l k2 c e1 e2
    rw [e1] at hx
    rw [e2] at hy
    obtain rfl := hx.inv_int
    obtain rfl := hy.inv_int
    split at hm
    · rename_i hc
      simp only [Option.some.injEq, Prod.mk.injEq] at hm
      obtain ⟨rfl, rfl⟩ := hm
      obtain ⟨c1, c2, c3, c4⟩ := hc
      have hw : ∀ q : Int, 0 ≤ q → q ≤ 2 ^ 40 → IntKind.i64.wrap q = q := by
        intro q a b
        have h1 : q % (2 ^ 64 : Int) = q := Int.emod_eq_of_lt a (by omega)
        simp only [IntKind.wrap, IntKind.bits, IntKind.signed, h1]
        rw [if_neg]
        simp; omega
      refine ⟨.slice (some ⟨w.heap.size, 0, none⟩) l.toNat c.toNat, { w with heap := w.heap.push (.cells (repZ zs c.toNat).toArray e (0, 0)) }, _, .inl ?_, ?_, setMu_slice μ σ.size ⟨w.heap.size, 0, i.size, (repZ zs c.toNat).length, i.size == 0⟩ (by omega) (Nat.le_refl _) (fun _ => by simp only [repZ_length, hz4]; omega) (fun _ => rfl), .setMu _ _, by simp⟩
      · have hn0 : zs.length ≠ 0 := by omega
        have hzc := zeros_eq hz2 c.toNat hn0
        have nl : ¬ (l < 0) := by omega
        have nlc : ¬ (l > c) := by omega
        have big : ¬ ((i.bytes : Int) * c > 2 ^ 48) := by
          have : (bytes : Int) → bytes * c ≤ 2 ^ 47 → ¬ bytes * c > 2 ^ 48 := fun b h => by omega
          exact this _ (by exact_mod_cast c4)
        have nc : ¬ (c < 0) := by omega
        simp only [Instr.makeSlice, Sem.run_bind, run_und hu, Result.andThen_ok, asInt, asIntOf, Sem.run_pure, run_info hi, hw l c1 (by omega), hw c (by omega) c3]
        simp only [nl, nlc, nc, big, decide_false, Bool.or_self, Bool.false_or, Bool.or_false, Bool.false_eq_true, if_false]
        simp only [run_askRoom, Sem.run_bind, Result.andThen_ok, sizeOf, run_info hi, Sem.run_pure]
        by_cases hcz : c.toNat * i.size = 0
        · have : c.toNat = 0 := by rcases Nat.mul_eq_zero.1 hcz with h | h; exact h; exact absurd h h0
          simp only [this, Nat.zero_mul, if_true, Sem.run_pure, Result.andThen_ok, Go.newRow, Sem.run_bind, run_newObj, repZ]
          have he : (Array.map (fun i => (#[] : Array Value)[i % (#[] : Array Value).size]!) (Array.range 0)) = #[] := by apply Array.toList_inj.1; simp
          rw [he]
        · simp only [hcz, if_false, Sem.run_bind, hz5, Result.andThen_ok, Sem.run_pure, Go.newRow, run_newObj]
          rw [← hz4, hzc]
      · have := hs.newRow (sz := i.size) (more := []) (VRs.of_plain (repZ_plain hz3 c.toNat)) e (fz := (0, 0)) (unfrozen0 _)
        simpa using this
    · cases hm
  · cases hm
end
end Go.Mini
