import Derived.Test.YtgfmphjccnemmaaDoorGridG
namespace Go.Proofs.YtgfmphjccnemmaaDoor
open Go.Mini
open Go.Proofs.YtgfmphjccnemmaaDoor.Code
set_option linter.unusedVariables false
set_option linter.unusedSimpArgs false
set_option linter.ambiguousOpen false
attribute [local irreducible] mx ml mld mstep MCalls Ex.thn Ex.inb
section
variable {P : Program} {ts : Fr} {σ τ σ0 : H} {v : Value} {K : Fr → H → Prop} {Q : MQ} {rest : List MI} {drest : List DI}
theorem _root_.Go.Mini.Out.of_ext {sz : Nat} {cs : List Value} (h : Out σ0 σ sz v cs) (e : Ext σ τ) : Out σ0 τ sz v cs := by
  obtain ⟨h1, oid, h2, h3⟩ := h
  exact ⟨h1.trans e, oid, h2.of_ext e, h3⟩
/-- One number more, to a slice of the call's own. -/
theorem ml_appOut {d : Option Nat} {g : Option (Nat × Bool)} {bytes : Nat} {xs xx : Opd} {l : List Int} {n : Int} {tid : Nat} (hw : wantM ts g = true) (hv : mev ts xs = v) (hx : mev ts xx = .slice (some ⟨tid, 0, none⟩) 1 1)
    (ho : Out σ0 σ 1 v (ints l)) (ht : σ.get tid = .cells 1 [.int .i64 n]) (hb : bytes ≤ 128) (hn : l.length < appMax)
    (h : ∀ v' τ, Out σ0 τ 1 v' (ints (l ++ [n])) → (∀ i o, σ.get i = o → o ≠ .dead → (∀ cs, o ≠ .cells 1 cs) → τ.get i = o) → ml P rest K (updO ts d v') τ) :
    ml P (⟨d, .app 1 bytes xs xx, g⟩ :: rest) K ts σ := by
  obtain ⟨e, oid, own, hid⟩ := ho
  refine ml_appI hw hv hx own ht hb hn fun v' τ o2 s2 k2 => h v' τ ⟨⟨by have := e.size; omega, fun i hi => ?_⟩, _, o2, fun id hi => ?_⟩ fun i o h1 h2 h3 => ?_
  · have := e.size
    rw [k2 i (by omega) (fun x => by have := hid i x; omega), e.get i hi]
  · injection hi with hi; have := e.size; omega
  · rw [k2 i (H.lt_of_live (by rw [h1]; exact h2)) (fun x => ?_), h1]
    subst x
    obtain ⟨cs, hc⟩ := own.cells
    exact h3 cs (by rw [← h1, hc])
end

def gkind (S : ByteArray) (kind : UInt8) (b : Bool) : List Int := if b then ((List.range S.size).filter fun i => S.data.toList.getD i 0 == kind).map Int.ofNat else []
def gkindN (S : ByteArray) (kind : UInt8) (n : Nat) : List Int := ((List.range n).filter fun i => S.data.toList.getD i 0 == kind).map Int.ofNat
theorem gkindN_succ (S : ByteArray) (kind : UInt8) (n : Nat) : gkindN S kind (n + 1) = if S.data.toList.getD n 0 == kind then gkindN S kind n ++ [(n : Int)] else gkindN S kind n := by
  unfold gkindN
  rw [List.range_succ, List.filter_append, List.map_append]
  by_cases h : (S.data.toList.getD n 0 == kind) = true
  · rw [if_pos h]; simp only [List.filter_cons, h, if_true, List.filter_nil, List.map_cons, List.map_nil]; rfl
  · rw [if_neg h]; simp only [List.filter_cons, Bool.not_eq_true] at h ⊢; rw [h]; simp
theorem gkindN_len (S : ByteArray) (kind : UInt8) (n : Nat) : (gkindN S kind n).length ≤ n := by
  unfold gkindN; rw [List.length_map]; exact Nat.le_trans (List.length_filter_le _ _) (by simp)

set_option maxHeartbeats 1000000 in
theorem gkind_c (W Hh : Int) (S : ByteArray) (kind : UInt8) (σ : H) : MCalls Tryd.prog 31 [mapV W Hh S, .int .u8 kind.toNat] σ (fun v τ => Out σ τ 1 v (ints (gkind S kind (gr W Hh S)))) := by
  refine mcalls_of fn31 (by simp) ?_
  unfold c31 r31 mapV
  refine stepR0 ?_
  refine ml_call Sd0 Sd0 (right_c W Hh S _) ?_
  rintro _ τ ⟨rfl, e1⟩
  have g1 := e1.cells (H.get_push_self σ _)
  have e1' : Ext σ τ := (Ext.push _ _).trans e1
  unfold gkind
  cases hz : gr W Hh S
  · refine stepR0 ?_
    refine fin1 ?_
    simp only [go_sem, reduceIte, Nat.reduceEqDiff, reduceCtorEq, Nat.reduceAdd, Nat.reduceLeDiff, Int.reduceNeg, Int.reduceToNat, Int.reduceBEq, Int.reduceBNe, Int.reduceLT, Int.reduceLE, Int.reduceAdd, Int.reduceSub]
    exact Out.nil e1'
  · have h1 := gr_size hz
    (have fx := g1; refine stepR ?_; clear fx)
    refine mx_loop (fun n ts τ => ∃ i v, n = S.size - i ∧ i ≤ S.size ∧ ts 1 = .int .u8 kind.toNat ∧ ts 2 = .pointer (some ⟨σ.size, 0, none⟩) ∧ ts 5 = v ∧ ts 12 = .int .i64 S.size ∧ ts 13 = .int .i64 ((i : Nat) : Int) ∧
      τ.get σ.size = .cells 0 (mapC W Hh S) ∧ Out σ τ 1 v (ints (gkindN S kind i))) S.size ?_ ?_
    · exact ⟨0, .slice none 0 0, by omega, by omega, Sd0, Sd0, Sd0, Sd0, Sd0, g1, Out.nil e1'⟩
    rintro n ts τ2 ⟨i, v, hn, hi, t1, t2, t5, t12, t13, g2, out⟩
    rcases Nat.lt_or_ge i S.size with hlt | hge
    · have hlen := gkindN_len S kind i
      cases hk : S.data.toList.getD i 0 == kind
      · have hk2 : (((S.data.toList.getD i 0).toNat : Int) == (kind.toNat : Int)) = false := by
          rw [u8eq _ _ kind.toNat_lt]; simpa using hk
        (have fx := And.intro t1 (And.intro t2 (And.intro t5 (And.intro t12 (And.intro t13 (And.intro g2 hk2))))); refine stepR ?_; clear fx)
        refine ⟨_, ?_, i + 1, v, rfl, by omega, (have fx := t1; Sd), (have fx := t2; Sd), (have fx := t5; Sd), (have fx := t12; Sd), Sd0, g2, ?_⟩
        · omega
        · rw [gkindN_succ, hk]; exact out
      · have hk2 : (((S.data.toList.getD i 0).toNat : Int) == (kind.toNat : Int)) = true := by
          rw [u8eq _ _ kind.toNat_lt]; simpa using hk
        (have fx := And.intro t1 (And.intro t2 (And.intro t5 (And.intro t12 (And.intro t13 (And.intro g2 hk2))))); refine stepR ?_; clear fx)
        refine ml_appOut Sd0 Sd0 Sd0 (out.of_ext (Ext.push _ _)) (H.get_push_self _ _) (by omega) (by simp only [appMax]; omega) fun v' τ3 out3 keep => ?_
        have g3 := keep σ.size _ ((Ext.push _ _).cells g2) (by simp) (by simp)
        (have fx := t13; refine stepR ?_; clear fx)
        refine ⟨_, ?_, i + 1, v', rfl, by omega, (have fx := t1; Sd), (have fx := t2; Sd), Sd0, (have fx := t12; Sd), Sd0, g3, ?_⟩
        · omega
        · rw [gkindN_succ, hk]; exact out3
    · (have fx := And.intro t1 (And.intro t2 (And.intro t5 (And.intro t12 (And.intro t13 g2)))); refine stepR ?_; clear fx)
      refine fin1 ?_
      simp only [go_sem, reduceIte, Nat.reduceEqDiff, reduceCtorEq, Nat.reduceAdd, Nat.reduceLeDiff, Int.reduceNeg, Int.reduceToNat, Int.reduceBEq, Int.reduceBNe, Int.reduceLT, Int.reduceLE, Int.reduceAdd, Int.reduceSub, t5]
      have : i = S.size := by omega
      subst this
      exact out
end Go.Proofs.YtgfmphjccnemmaaDoor
