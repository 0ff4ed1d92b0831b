import Derived.Test.YtcjogomiiinkfaaDoorCode
import Derived.Test.YtcjogomiiinkfaaDoorBase4
import Derived.Test.YtcjogomiiinkfaaDoorShelf
namespace Go.Proofs.YtcjogomiiinkfaaDoor
open Go.Mini
open Go.Proofs.YtcjogomiiinkfaaDoor.Code
set_option linter.unusedVariables false
set_option linter.unusedSimpArgs false
set_option linter.ambiguousOpen false
attribute [local irreducible] mx ml mld mstep MCalls Ex.thn Ex.inb
variable {E : World → Prop}

/-! ## slices.Repeat of one number -/
theorem o_cpy {ts : Fr} {σ : H} {sz : Nat} {d s : Opd} {id off len cap sid soff slen scap m : Nat} {cs vs : List Value} (hd : mev ts d = .slice (some ⟨id, off, none⟩) len cap) (hs : mev ts s = .slice (some ⟨sid, soff, none⟩) slen scap)
    (hm : Nat.min slen len = m) (hr : σ.row sid soff (m * sz) = some vs) (hg : σ.get id = .cells sz cs) (hl : off + vs.length ≤ cs.length) (h1 : vs.all one = true) :
    mop ts σ (.cpy sz d s) = some (.int .i64 m, σ.set id (.cells sz (spl cs off vs))) := by
  simp only [mop, hd, hs, lenL, hm, firstL, hr, putRow, hg, h1, and_true, Option.map_some]
  rw [if_pos hl]; rfl
theorem spl_rep (a b : Value) (k j m : Nat) (h : m ≤ j) : spl (List.replicate k a ++ List.replicate j b) k (List.replicate m a) = List.replicate (k + m) a ++ List.replicate (j - m) b := by
  apply List.ext_getElem?
  intro i
  rw [spl_get _ _ _ _ (by simp; omega)]
  simp only [List.length_replicate]
  by_cases h1 : k ≤ i ∧ i < k + m
  · rw [if_pos h1, List.getElem?_replicate, if_pos (by omega), List.getElem?_append_left (by simp; omega), List.getElem?_replicate, if_pos (by omega)]
  · rw [if_neg h1]
    by_cases h2 : i < k
    · rw [List.getElem?_append_left (by simp; omega), List.getElem?_append_left (by simp; omega), List.getElem?_replicate, List.getElem?_replicate, if_pos h2, if_pos (by omega)]
    · rw [List.getElem?_append_right (by simp; omega), List.getElem?_append_right (by simp; omega)]
      simp only [List.length_replicate, List.getElem?_replicate]
      by_cases h3 : i < k + j
      · rw [if_pos (by omega), if_pos (by omega)]
      · rw [if_neg (by omega), if_neg (by omega)]
theorem repZ_one (b : Value) : ∀ n : Nat, repZ [b] n = List.replicate n b
  | 0 => rfl
  | n + 1 => by simp only [repZ, repZ_one b n, List.replicate_succ, List.cons_append, List.nil_append]
theorem row_rep (a b : Value) (k j m : Nat) (h : m ≤ k) : rowL (List.replicate k a ++ List.replicate j b) 0 m = some (List.replicate m a) := by
  rw [rowL_some _ _ _ (by simp; omega), List.drop_zero]
  congr 1
  apply List.ext_getElem?
  intro i
  rw [List.getElem?_take]
  by_cases h1 : i < m
  · rw [if_pos h1, List.getElem?_append_left (by simp; omega), List.getElem?_replicate, List.getElem?_replicate, if_pos (by omega), if_pos h1]
  · rw [if_neg h1, List.getElem?_replicate, if_neg h1]

theorem repeat_c (σ : H) (tid : Nat) (a : Int) (n : Nat) (ht : σ.get tid = .cells 1 [.int .i64 a]) (h0 : 1 ≤ n) (h1 : n ≤ 100000) :
    MCalls E Tryd.prog 37 [.slice (some ⟨tid, 0, none⟩) 1 1, .int .i64 n] σ (fun v τ => ∃ id, v = .slice (some ⟨id, 0, none⟩) n n ∧ Ext σ τ ∧ σ.size ≤ id ∧ τ.get id = .cells 1 (List.replicate n (.int .i64 a))) := by
  refine mcalls_of fn37 (by simp) ?_
  unfold c37 r37
  have hq1 : 1 * n / 18446744073709551616 = 0 := by omega
  have hq2 : 1 * n % 18446744073709551616 = n := by omega
  have hM : MCalls E Tryd.prog 51 [.int .u64 1, .int .u64 n] σ (fun v τ => v = .tuple #[.int .u64 0, .int .u64 n] ∧ τ = σ) :=
    mcalls_same 0 1 (by kernel_rfl) rfl rfl fun w => (Tryd.bits_Mul 1 n (by omega) (by omega) w).mono fun e w' ⟨he, hw⟩ => ⟨by rw [he, hq1, hq2]; rfl, hw⟩
  refine stepR0 ?_
  refine ml_call Sd0 Sd0 hM ?_
  rintro _ τ ⟨rfl, rfl⟩
  refine stepR0 ?_
  refine ml_op Sd0 (o_mks1 Sd0 Sd0 (by omega) (by omega)) ?_
  refine stepR0 ?_
  have e1 := Ext.push τ (.cells 1 (List.replicate n (.int .i64 0)))
  have hspl := spl_rep (.int .i64 a) (.int .i64 0) 0 n 1 h0
  refine ml_op Sd0 (o_cpy (off := 0) (m := 1) (vs := [.int .i64 a]) Sd0 Sd0 (Nat.min_eq_left h0) (row_of (e1.cells ht) rfl) (H.get_push_self _ _) (by simp; omega) rfl) ?_
  rw [show spl (List.replicate n (Value.int .i64 0)) 0 [.int .i64 a] = List.replicate 1 (.int .i64 a) ++ List.replicate (n - 1) (.int .i64 0) from hspl]
  refine stepR0 ?_
  refine mx_loop (fun m ts τ2 => ∃ k, m = n - k ∧ 1 ≤ k ∧ k ≤ n ∧ ts 7 = .slice (some ⟨τ.size, 0, none⟩) n n ∧ ts 8 = .int .i64 ((k : Nat) : Int) ∧ Ext τ τ2 ∧ τ2.get τ.size = .cells 1 (List.replicate k (.int .i64 a) ++ List.replicate (n - k) (.int .i64 0))) (n - 1) ?_ ?_
  · refine ⟨1, rfl, by omega, h0, Sd0, Sd0, e1.set' (Nat.le_refl _) _, ?_⟩
    rw [H.get_set_self (by simp)]
  rintro m ts τ2 ⟨k, hm, hk1, hk2, t7, t8, e2, g2⟩
  rcases Nat.lt_or_ge k n with hlt | hge
  · (have fx := And.intro t7 t8; refine stepR ?_; clear fx)
    refine mld_op Sd0 (o_slc_lo (have fx := t7; Sd) (have fx := t8; Sd) (by omega) (by omega) g2) ?_
    (have fx := And.intro t7 t8; refine stepR ?_; clear fx)
    refine mld_op Sd0 (o_slc_hi (have fx := t7; Sd) (have fx := t8; Sd) (by omega) (by omega) g2) ?_
    have hj := spl_rep (.int .i64 a) (.int .i64 0) k (n - k) (min k (n - k)) (Nat.min_le_right _ _)
    have hrow := row_rep (.int .i64 a) (.int .i64 0) k (n - k) (min k (n - k)) (Nat.min_le_left _ _)
    refine mld_op Sd0 (o_cpy (off := k) (m := min k (n - k)) (vs := List.replicate (min k (n - k)) (.int .i64 a)) (have fx := And.intro t7 t8; Sd) (have fx := And.intro t7 t8; Sd) rfl (row_of g2 (by rw [Nat.mul_one]; exact hrow)) g2 (by simp; omega) ?_) ?_
    · rw [List.all_replicate]; split <;> rfl
    rw [hj]
    (have fx := And.intro t7 t8; refine stepR ?_; clear fx)
    refine ⟨n - (k + min k (n - k)), ?_, k + min k (n - k), rfl, by omega, by omega, (have fx := t7; Sd), ?_, e2.set' (Nat.le_refl _) _, ?_⟩
    · omega
    · exact (have fx := t8; Sd)
    · rw [H.get_set_self (H.lt_of_cells g2), show n - k - min k (n - k) = n - (k + min k (n - k)) by omega]
  · have hk : k = n := by omega
    subst hk
    (have fx := And.intro t7 t8; refine stepR ?_; clear fx)
    refine fin1 ⟨τ.size, Sd0, e2, Nat.le_refl _, ?_⟩
    rw [g2]; simp
end Go.Proofs.YtcjogomiiinkfaaDoor
