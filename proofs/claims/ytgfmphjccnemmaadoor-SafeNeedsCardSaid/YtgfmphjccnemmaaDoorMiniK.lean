/- '==' of structs and arrays; all the small operations together. -/
import Derived.Test.YtgfmphjccnemmaaDoorMiniJ
namespace Go.Mini
open Go.RowKit (Below)
set_option linter.unusedVariables false
set_option linter.unusedSimpArgs false
section
variable {P : Program} {B : Nat} {w0 w : World} {μ : Nat → Blk} {σ τ : H} {ts : Fr} {v : Value}

theorem eqCells_len : ∀ {ks : List KD} {xs ys : List Value} {r : Bool}, eqCells ks xs ys = some r → True := fun _ => trivial
theorem eqCells_append : ∀ {k1 k2 : List KD} {x1 x2 y1 y2 : List Value}, x1.length = k1.length → y1.length = k1.length →
    eqCells (k1 ++ k2) (x1 ++ x2) (y1 ++ y2) = match eqCells k1 x1 y1 with | some true => eqCells k2 x2 y2 | some false => some false | none => none
  | [], k2, x1, x2, y1, y2, hx, hy => by
    obtain rfl := List.length_eq_zero_iff.1 hx
    obtain rfl := List.length_eq_zero_iff.1 hy
    rfl
  | k :: k1, k2, [], x2, y1, y2, hx, _ => by simp at hx
  | k :: k1, k2, _ :: _, x2, [], y2, _, hy => by simp at hy
  | k :: k1, k2, x :: x1, x2, y :: y1, y2, hx, hy => by
    simp only [List.cons_append, eqCells]
    cases eqCell k x y with
    | none => rfl
    | some b =>
      cases b
      · rfl
      · exact eqCells_append (by simpa using hx) (by simpa using hy)
def valOf (g : Bool) (xs : List Value) : Value := if g then .agg xs.toArray else (xs[0]?).getD undef
theorem run_part_val {t : TypeId} {g : Bool} {n off : Nat} {c : Array Value} (hg : isAggT P t = some g) (hn : sizeT P t = some n) (h1 : g = false → n = 1) (hoff : off + n ≤ c.size) :
    (part t c off).run P w = .ok (valOf g ((c.toList.drop off).take n)) w := by
  rw [run_part hg hn]
  cases g
  · have := h1 rfl
    subst this
    have hlt : off < c.size := by omega
    simp only [Bool.false_eq_true, if_false, valOf, Array.getElem?_eq_getElem hlt]
    rw [List.getElem?_take, if_pos (by omega), List.getElem?_drop, Nat.add_zero, Array.getElem?_toList, Array.getElem?_eq_getElem hlt]
    rfl
  · simp only [if_true, valOf]
    congr 2
    apply Array.toList_inj.1
    rw [extract_list]
theorem flatFs_len {g : TypeId → Option (List KD)} : ∀ {fs : List Field} {off : Nat} {ks : List KD}, flatFs g fs off = some ks → True := fun _ => trivial

theorem flatK_info {d : Nat} {t : TypeId} {ks : List KD} (h : flatK P d t = some ks) : sizeT P t = some ks.length ∧ ∃ g, isAggT P t = some g ∧ (g = false → ks.length = 1) := by
  cases d with
  | zero => simp [flatK] at h
  | succ d =>
    simp only [flatK] at h
    split at h
    · rename_i hu
      split at h
      · rename_i hs; simp only [Option.some.injEq] at h; subst h; exact ⟨hs, false, by simp [isAggT, hu], fun _ => rfl⟩
      · cases h
    · rename_i hu
      split at h
      · rename_i hs; simp only [Option.some.injEq] at h; subst h; exact ⟨hs, false, by simp [isAggT, hu], fun _ => rfl⟩
      · cases h
    · rename_i hu
      split at h
      · rename_i hs; simp only [Option.some.injEq] at h; subst h; exact ⟨hs, false, by simp [isAggT, hu], fun _ => rfl⟩
      · cases h
    · rename_i fs hu
      split at h
      · cases h
      · split at h
        · split at h
          · rename_i hs; simp only [Option.some.injEq] at h; subst h; exact ⟨hs, true, by simp [isAggT, hu], fun h => by cases h⟩
          · cases h
        · cases h
    · rename_i n e hu
      split at h
      · split at h
        · rename_i hs; simp only [Option.some.injEq] at h; subst h; exact ⟨hs, true, by simp [isAggT, hu], fun h => by cases h⟩
        · cases h
      · cases h
    · cases h

theorem eqFields_sound {d D : Nat} (ih : ∀ (t : TypeId) (ks : List KD) (g : Bool) (xs ys : List Value) (r : Bool), flatK P d t = some ks → isAggT P t = some g → xs.length = ks.length → ys.length = ks.length →
      eqCells ks xs ys = some r → (Op.equalIn D t (valOf g xs) (valOf g ys)).run P w = .ok r w) (xs ys : Array Value) :
    ∀ (fs : List Field) (off : Nat) (ks : List KD) (r : Bool), flatFs (flatK P d) fs off = some ks → off + ks.length ≤ xs.size → off + ks.length ≤ ys.size →
      eqCells ks ((xs.toList.drop off).take ks.length) ((ys.toList.drop off).take ks.length) = some r → (Op.eqFields D xs ys fs).run P w = .ok r w
  | [], off, ks, r, h, hx, hy, he => by
    simp only [flatFs, Option.some.injEq] at h
    subst h
    simp [eqCells] at he
    subst he
    rfl
  | f :: fs, off, ks, r, h, hx, hy, he => by
    simp only [flatFs] at h
    split at h
    · rename_i hf
      split at h
      · rename_i k1 hk
        cases hr : flatFs (flatK P d) fs (off + k1.length) with
        | none => rw [hr] at h; cases h
        | some k2 =>
          rw [hr] at h
          simp only [Option.map_some, Option.some.injEq] at h
          subst h
          simp only [List.length_append] at hx hy he
          obtain ⟨hsz, g, hg, hg1⟩ := flatK_info hk
          have split : ∀ (zs : List Value), off + (k1.length + k2.length) ≤ zs.length → (zs.drop off).take (k1.length + k2.length) = (zs.drop off).take k1.length ++ (zs.drop (off + k1.length)).take k2.length := by
            intro zs _
            rw [List.take_add, List.drop_drop]
          rw [split _ (by simpa using hx), split _ (by simpa using hy)] at he
          have lx : ((xs.toList.drop off).take k1.length).length = k1.length := by simp only [List.length_take, List.length_drop, Array.size_eq_length_toList] at *; omega
          have ly : ((ys.toList.drop off).take k1.length).length = k1.length := by simp only [List.length_take, List.length_drop, Array.size_eq_length_toList] at *; omega
          rw [eqCells_append lx ly] at he
          have hpx := run_part_val (P := P) (w := w) (c := xs) (off := off) hg hsz hg1 (by omega)
          have hpy := run_part_val (P := P) (w := w) (c := ys) (off := off) hg hsz hg1 (by omega)
          cases hc : eqCells k1 ((xs.toList.drop off).take k1.length) ((ys.toList.drop off).take k1.length) with
          | none => rw [hc] at he; cases he
          | some b =>
            rw [hc] at he
            have h1 := ih f.type k1 g _ _ b hk hg lx ly hc
            simp only [Op.eqFields]
            rw [if_pos hf.1, hf.2]
            simp only [Sem.run_bind, hpx, hpy, h1, Result.andThen_ok]
            cases b
            · simp only [Option.some.injEq] at he; subst he; rfl
            · simp only [Bool.not_true, Bool.false_eq_true, if_false]
              exact eqFields_sound ih xs ys fs (off + k1.length) k2 r hr (by omega) (by omega) he
      · cases h
    · cases h
theorem repK_length (ks : List KD) : ∀ n, (repK ks n).length = n * ks.length
  | 0 => by simp [repK]
  | n + 1 => by simp [repK, repK_length ks n, Nat.add_mul, Nat.add_comm]
theorem eqItems_sound {d D : Nat} {e : TypeId} {k1 : List KD} {g : Bool} (hk : flatK P d e = some k1) (hg : isAggT P e = some g) (ih : ∀ (xs ys : List Value) (r : Bool), xs.length = k1.length → ys.length = k1.length →
      eqCells k1 xs ys = some r → (Op.equalIn D e (valOf g xs) (valOf g ys)).run P w = .ok r w) (xs ys : Array Value) :
    ∀ (n i : Nat) (r : Bool), (i + n) * k1.length ≤ xs.size → (i + n) * k1.length ≤ ys.size →
      eqCells (repK k1 n) ((xs.toList.drop (i * k1.length)).take (n * k1.length)) ((ys.toList.drop (i * k1.length)).take (n * k1.length)) = some r →
      (Op.eqItems D e (P.cellsOf e) xs ys (List.range' i n)).run P w = .ok r w
  | 0, i, r, hx, hy, he => by
    simp [repK, eqCells] at he
    subst he
    rfl
  | n + 1, i, r, hx, hy, he => by
    obtain ⟨hsz, g', hg', hg1⟩ := flatK_info hk
    rw [hg] at hg'
    cases hg'
    have hcell : P.cellsOf e = k1.length := by
      unfold sizeT at hsz
      unfold Program.cellsOf
      rw [hsz]; rfl
    have e1 : (n + 1) * k1.length = k1.length + n * k1.length := by rw [Nat.add_mul, Nat.one_mul, Nat.add_comm]
    have e2 : (i + 1) * k1.length = i * k1.length + k1.length := by rw [Nat.add_mul, Nat.one_mul]
    have e3 : (i + (n + 1)) * k1.length = i * k1.length + (k1.length + n * k1.length) := by rw [Nat.add_mul, e1]
    rw [e3] at hx hy
    have split : ∀ (zs : List Value), (zs.drop (i * k1.length)).take ((n + 1) * k1.length) = (zs.drop (i * k1.length)).take k1.length ++ (zs.drop ((i + 1) * k1.length)).take (n * k1.length) := by
      intro zs
      rw [e1, List.take_add, List.drop_drop, e2]
    rw [split, split] at he
    simp only [repK] at he
    have lx : ((xs.toList.drop (i * k1.length)).take k1.length).length = k1.length := by simp only [List.length_take, List.length_drop, Array.size_eq_length_toList] at *; omega
    have ly : ((ys.toList.drop (i * k1.length)).take k1.length).length = k1.length := by simp only [List.length_take, List.length_drop, Array.size_eq_length_toList] at *; omega
    rw [eqCells_append lx ly] at he
    have hpx := run_part_val (P := P) (w := w) (c := xs) (off := i * k1.length) hg hsz hg1 (by omega)
    have hpy := run_part_val (P := P) (w := w) (c := ys) (off := i * k1.length) hg hsz hg1 (by omega)
    cases hc : eqCells k1 ((xs.toList.drop (i * k1.length)).take k1.length) ((ys.toList.drop (i * k1.length)).take k1.length) with
    | none => rw [hc] at he; cases he
    | some b =>
      rw [hc] at he
      have h1 := ih _ _ b lx ly hc
      rw [List.range'_succ]
      simp only [Op.eqItems, hcell, Sem.run_bind, hpx, hpy, h1, Result.andThen_ok]
      cases b
      · simp only [Option.some.injEq] at he; subst he; rfl
      · simp only [Bool.not_true, Bool.false_eq_true, if_false]
        have := eqItems_sound hk hg ih xs ys n (i + 1) r (by rw [Nat.add_mul, e2]; omega) (by rw [Nat.add_mul, e2]; omega) he
        rw [hcell] at this
        exact this

theorem flat_sound : ∀ (d : Nat) (D : Nat), d ≤ D → ∀ (t : TypeId) (ks : List KD) (g : Bool) (xs ys : List Value) (r : Bool), flatK P d t = some ks → isAggT P t = some g → xs.length = ks.length → ys.length = ks.length →
    eqCells ks xs ys = some r → (Op.equalIn D t (valOf g xs) (valOf g ys)).run P w = .ok r w := by
  intro d
  induction d with
  | zero => intro D _ t ks g xs ys r h; simp [flatK] at h
  | succ d ih =>
    intro D hD t ks g xs ys r h hg hx hy he
    obtain ⟨D, rfl⟩ : ∃ m, D = m + 1 := ⟨D - 1, by omega⟩
    have scalar : ∀ {k : KD} {x y : Value}, ks = [k] → xs = [x] → ys = [y] → eqCell k x y = some r := by
      intro k x y e1 e2 e3
      subst e1 e2 e3
      simp only [eqCells] at he
      cases hc : eqCell k x y with
      | none => rw [hc] at he; cases he
      | some b => rw [hc] at he; cases b <;> simpa using he
    have one1 : ∀ {l : List Value} {k : KD}, l.length = [k].length → ∃ x, l = [x] := by
      intro l k h
      match l, h with
      | [x], _ => exact ⟨x, rfl⟩
    simp only [flatK] at h
    split at h
    · rename_i hu
      split at h
      · simp only [Option.some.injEq] at h
        subst h
        obtain ⟨x, rfl⟩ := one1 hx
        obtain ⟨y, rfl⟩ := one1 hy
        have hc := scalar rfl rfl rfl
        simp only [isAggT, hu, Option.some.injEq] at hg
        subst hg
        cases x <;> cases y <;> first | (simp [eqCell] at hc; done) | skip
        simp only [eqCell, Option.some.injEq] at hc
        subst hc
        exact run_equalIn_bool w D t _ _ hu
      · cases h
    · rename_i k hu
      split at h
      · simp only [Option.some.injEq] at h
        subst h
        obtain ⟨x, rfl⟩ := one1 hx
        obtain ⟨y, rfl⟩ := one1 hy
        have hc := scalar rfl rfl rfl
        simp only [isAggT, hu, Option.some.injEq] at hg
        subst hg
        cases x <;> cases y <;> first | (simp [eqCell] at hc; done) | skip
        simp only [eqCell] at hc
        split at hc
        · rename_i hk
          simp only [Option.some.injEq] at hc
          subst hc
          subst hk
          rename_i k0 a0 b0
          show (Op.equalIn (D + 1) t (.int k0 a0) (.int k0 b0)).run P w = _
          simp only [Op.equalIn, Sem.run_bind, run_und hu, Result.andThen_ok, if_true, Sem.run_pure]
        · cases hc
      · cases h
    · rename_i hu
      split at h
      · simp only [Option.some.injEq] at h
        subst h
        obtain ⟨x, rfl⟩ := one1 hx
        obtain ⟨y, rfl⟩ := one1 hy
        have hc := scalar rfl rfl rfl
        simp only [isAggT, hu, Option.some.injEq] at hg
        subst hg
        cases x <;> cases y <;> first | (simp [eqCell] at hc; done) | skip
        simp only [eqCell, Option.some.injEq] at hc
        subst hc
        exact run_equalIn_string w D t _ _ hu
      · cases h
    · rename_i fs hu
      split at h
      · cases h
      · rename_i hst
        split at h
        · rename_i ks' hfs
          split at h
          · simp only [Option.some.injEq] at h
            subst h
            simp only [isAggT, hu, Option.some.injEq] at hg
            subst hg
            have hfo : P.fieldsOf t = fs := by simp [Program.fieldsOf, hu]
            simp only [valOf, if_true]
            rw [run_equalIn_struct w D t xs.toArray ys.toArray (by rw [hfo]; exact hu) (by simpa using hst), hfo]
            refine eqFields_sound (ih D (by omega)) _ _ fs.toList 0 ks' r hfs (by simpa using Nat.le_of_eq hx.symm) (by simpa using Nat.le_of_eq hy.symm) ?_
            rw [List.drop_zero, List.drop_zero, List.take_of_length_le (by simpa using Nat.le_of_eq hx), List.take_of_length_le (by simpa using Nat.le_of_eq hy)]
            exact he
          · cases h
        · cases h
    · rename_i n e hu
      split at h
      · rename_i k1 hk
        split at h
        · simp only [Option.some.injEq] at h
          subst h
          simp only [isAggT, hu, Option.some.injEq] at hg
          subst hg
          obtain ⟨hsz, g, hg, hg1⟩ := flatK_info hk
          simp only [valOf, if_true]
          rw [repK_length] at hx hy
          have hi : ∃ i, P.info? e = some i := by
            unfold sizeT at hsz
            cases hq : P.info? e with
            | none => simp [hq] at hsz
            | some i => exact ⟨i, rfl⟩
          obtain ⟨i, hi⟩ := hi
          rw [run_equalIn_array w D xs.toArray ys.toArray hu hi, List.range_eq_range']
          refine eqItems_sound hk hg (fun a b r => ih D (by omega) e k1 g a b r hk hg) _ _ n 0 r (by simp [hx]) (by simp [hy]) ?_
          rw [Nat.zero_mul, List.drop_zero, List.drop_zero, List.take_of_length_le (by simp [hx]), List.take_of_length_le (by simp [hy])]
          exact he
        · cases h
      · cases h
    · cases h

theorem eqCells_plain : ∀ {ks : List KD} {xs ys : List Value} {r : Bool}, eqCells ks xs ys = some r → xs.length = ks.length → ∀ {n : Nat} {xs' ys' : List Value}, VRs μ n xs xs' → VRs μ n ys ys' → eqCells ks xs' ys' = some r
  | [], [], [], r, h, _, n, _, _, .nil, .nil => h
  | k :: ks, x :: xs, y :: ys, r, h, hl, n, _, _, .cons (v' := x') h1 h1s, .cons (v' := y') h2 h2s => by
    simp only [eqCells] at h ⊢
    cases hc : eqCell k x y with
    | none => rw [hc] at h; cases h
    | some b =>
      have : x' = x ∧ y' = y := by
        unfold eqCell at hc
        split at hc <;> first | exact ⟨h1.inv_bool, h2.inv_bool⟩ | exact ⟨h1.inv_int, h2.inv_int⟩ | exact ⟨h1.inv_string, h2.inv_string⟩ | cases hc
      rw [this.1, this.2, hc]
      rw [hc] at h
      cases b
      · exact h
      · exact eqCells_plain h (by simpa using hl) h1s h2s
  | [], _ :: _, _, _, _, h, _, _, _, _, _ => by simp at h
  | _ :: _, [], _, _, _, h, _, _, _, _, _ => by simp at h
  | [], [], _ :: _, _, h, _, _, _, _, _, _ => by simp [eqCells] at h
  | _ :: _, _ :: _, [], _, h, _, _, _, _, _, _ => by simp [eqCells] at h

theorem told_eqA (hs : Sim B w0 μ σ w) {x y : Opd} {x' y' : Value} {t : TypeId} {neg : Bool} {ks : List KD} {ox oy : Operand} (hgd : P.eqGuardType P.depth t = false) (hk : flatK P 20 t = some ks) (hg : isAggT P t = some true)
    (hx : VR μ σ.size (mev ts x) x') (hy : VR μ σ.size (mev ts y) y')
    (hm : mop ts σ (.eqA neg ks x y) = some (v, τ)) : Told P B w0 μ σ τ v (do pure (.value (← (do eqGuard (if neg then .neq else .eql) t ox oy x' y'; binOp (if neg then .neq else .eql) t x' y')))) w := by
  simp only [mop] at hm
  split at hm
  · rename_i a b e1 e2
    rw [e1] at hx
    rw [e2] at hy
    obtain ⟨a', rfl, ha⟩ := hx.inv_agg
    obtain ⟨b', rfl, hb⟩ := hy.inv_agg
    split at hm
    · rename_i hl
      cases hc : eqCells ks a.toList b.toList with
      | none => rw [hc] at hm; cases hm
      | some r =>
        rw [hc] at hm
        simp only [Option.map_some, Option.some.injEq, Prod.mk.injEq] at hm
        obtain ⟨rfl, rfl⟩ := hm
        have hc' := eqCells_plain hc hl.1 ha hb
        have := flat_sound (P := P) (w := w) 20 (9999 + 1) (by omega) t ks true _ _ r hk hg (by rw [ha.length]; exact hl.1) (by rw [hb.length]; exact hl.2) hc'
        simp only [valOf, if_true, Array.toArray_toList] at this
        refine .same hs ?_ (.bool _)
        rw [Sem.run_bind, Sem.run_bind, run_eqGuard_agg _ _ _ _ _ _ _ hgd]
        cases neg
        · simp only [Bool.false_eq_true, if_false, Result.andThen_ok]
          rw [run_eql_struct, this]; rfl
        · simp only [if_true, Result.andThen_ok]
          rw [run_neq_struct, this]; rfl
    · cases hm
  · cases hm
end
end Go.Mini
