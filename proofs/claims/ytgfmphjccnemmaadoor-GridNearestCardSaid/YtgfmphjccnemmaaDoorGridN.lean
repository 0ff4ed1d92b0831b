/- GridNearest. -/
import Derived.Test.YtgfmphjccnemmaaDoorGridU
import Derived.Test.YtgfmphjccnemmaaDoorRefD
import Derived.Test.YtgfmphjccnemmaaDoorGridM
namespace Go.Proofs.YtgfmphjccnemmaaDoor
open Go.Mini
open Go.Proofs.YtgfmphjccnemmaaDoor.Code
set_option linter.unusedVariables false
set_option linter.unusedSimpArgs false
set_option linter.ambiguousOpen false
attribute [local irreducible] mx ml mld mstep MCalls Ex.thn Ex.inb
variable {E : World → Prop}

/-- In round r, when the cells below i have been looked at. -/
structure N1 (W : Int) (S : ByteArray) (src : List Int) (r i : Nat) (met : List Bool) : Prop where
  ms : MS W S src met
  cm : MCm W S src r met
  lo : ∀ y : Int, y < i → ∀ k, k ≤ r → Wk W S src k y → ∀ x ∈ nearL W S y, met.getD x.toNat false = true
/-- .. and j neighbours of cell i. -/
structure N2 (W : Int) (S : ByteArray) (src : List Int) (r i j : Nat) (met : List Bool) : Prop where
  n1 : N1 W S src r i met
  nb : ∀ x ∈ (nearL W S i).take j, met.getD x.toNat false = true
section
variable {W : Int} {S : ByteArray} {src : List Int} {met : List Bool} {r i j : Nat}
theorem N1.next (h : N1 W S src r S.size met) (hs : MCm W S src 0 met) : N1 W S src (r + 1) 0 met := by
  refine ⟨h.ms, fun k hk x hw => ?_, fun y hy k hk hw => by have := (opn_lt hw.opn).1; omega⟩
  cases hw with
  | src hx ho => exact h.cm 0 (by omega) x (.src hx ho)
  | @step k y x hw hn => exact h.lo y (opn_lt hw.opn).2 k (by omega) hw x hn
theorem N1.nomet (h : N1 W S src r i met) (hm : met.getD i false = false) : N1 W S src r (i + 1) met := by
  refine ⟨h.ms, h.cm, fun y hy k hk hw x hx => ?_⟩
  by_cases he : y < i
  · exact h.lo y he k hk hw x hx
  · have hy0 := opn_lt hw.opn
    obtain rfl : y = (i : Int) := by omega
    have := h.cm k hk _ hw
    rw [Int.toNat_natCast, hm] at this; cases this
theorem N2.done (h : N2 W S src r i (nearL W S i).length met) : N1 W S src r (i + 1) met := by
  refine ⟨h.n1.ms, h.n1.cm, fun y hy k hk hw x hx => ?_⟩
  by_cases he : y < i
  · exact h.n1.lo y he k hk hw x hx
  · have hy0 := opn_lt hw.opn
    obtain rfl : y = (i : Int) := by omega
    exact h.nb x (by rw [List.take_length]; exact hx)
theorem N2.set (h : N2 W S src r i j met) (hm : met.getD i false = true) (hj : j < (nearL W S i).length) : N2 W S src r i (j + 1) (met.set ((nearL W S i).getD j 0).toNat true) := by
  have hlen := h.n1.ms.len
  obtain ⟨x, hx⟩ : ∃ x, (nearL W S i)[j]? = some x := ⟨_, List.getElem?_eq_getElem hj⟩
  have hxd : (nearL W S i).getD j 0 = x := by rw [List.getD_eq_getElem?_getD, hx]; rfl
  rw [hxd]
  have hxm : x ∈ nearL W S i := List.mem_of_getElem? hx
  have hxo := near_opn hxm
  have hxl := opn_lt hxo
  have hxn : ((x.toNat : Nat) : Int) = x := Int.toNat_of_nonneg hxl.1
  have G : ∀ m : Nat, (met.set x.toNat true).getD m false = if m = x.toNat then true else met.getD m false := fun m => getD_set _ _ _ _ _ (by omega)
  have mono : ∀ {m : Nat}, met.getD m false = true → (met.set x.toNat true).getD m false = true := fun {m} hm => by
    rw [G]; split
    · rfl
    · exact hm
  refine ⟨⟨⟨by simp [hlen], fun m hm2 => ?_⟩, fun k hk y hw => mono (h.n1.cm k hk y hw), fun y hy k hk hw z hz => mono (h.n1.lo y hy k hk hw z hz)⟩, fun y hy => ?_⟩
  · rw [G] at hm2
    split at hm2
    · rename_i e; subst e
      obtain ⟨k, hk⟩ := h.n1.ms.snd i hm
      rw [hxn]
      exact ⟨k + 1, .step hk hxm⟩
    · exact h.n1.ms.snd m hm2
  · rw [List.take_add_one, hx] at hy
    rcases List.mem_append.1 hy with hy | hy
    · exact mono (h.nb y hy)
    · simp at hy; subst hy; rw [G, if_pos rfl]
end
theorem bools_rep (b : Bool) (n : Nat) : bools (List.replicate n b) = List.replicate n (.bool b) := by unfold bools; rw [List.map_replicate]

set_option maxHeartbeats 4000000 in
theorem gridNearest_c (W Hh : Int) (S : ByteArray) (c : Nat) (hc : c < 256) (σ : H) : MCalls E Tryd.prog 10 [mapV W Hh S, .int .u8 c] σ (fun v τ => v = .bool true) := by
  refine mcalls_of fn10 (by simp) ?_
  unfold c10 r10 mapV
  refine stepR0 ?_
  refine ml_call Sd0 Sd0 (gAwake_c _) ?_
  rintro _ τ ⟨rfl, e1⟩
  have g1 := e1.cells (H.get_push_self σ _)
  (have fx := g1; refine stepR ?_; clear fx)
  refine ml_call Sd0 Sd0 (rRight_c W Hh S τ) ?_
  rintro _ τ2 ⟨rfl, e2⟩
  cases hg : gr W Hh S
  · refine stepR0 ?_
    refine ml_call Sd0 Sd0 (gAwake_c _) ?_
    rintro _ τ3 ⟨rfl, e3⟩
    refine stepR0 ?_
    exact fin1 Sd0
  have g2 := e2.cells g1
  have hgs := gr_size hg
  have hW := hgs.1
  obtain ⟨hS1, hS64⟩ := hgs.2.2.2.1
  (have fx := g2; refine stepR ?_; clear fx)
  refine ml_call Sd0 Sd0 (gOf_c W Hh S τ2) ?_
  rintro _ τ3 ⟨rfl, e3⟩
  have g3 := e3.cells g2
  refine stepR0 ?_
  refine ml_init (vs := mapC W Hh S) Sd0 Sd0 Sd0 rfl rfl rfl fun τ4 e4 g5 => ?_
  have g4 := e4.cells g3
  obtain ⟨k, hkl, hkm⟩ : ∃ k : Nat, k < S.size ∧ ((c : Int).tmod (S.size : Int)) = (k : Int) := ⟨c % S.size, Nat.mod_lt _ (by omega), by rw [Int.tmod_eq_emod_of_nonneg (by omega)]; rfl⟩
  have hSne : (S.size : Int) ≠ 0 := by omega
  (have fx := And.intro g4 hkm; refine stepR ?_; clear fx)
  refine ml_op Sd0 (o_mks1 (n := S.size) (k := .i64) (k' := .i64) Sd0 Sd0 (by omega) (by omega)) ?_
  generalize hτ : H.push _ _ = τ5
  have e5 : Ext τ4 τ5 := hτ ▸ Ext.push _ _
  have gb5 : τ5.get τ4.size = .cells 1 (bools (List.replicate S.size false)) := by rw [← hτ, bools_rep]; exact H.get_push_self _ _
  have g55 : τ5.get τ3.size = .cells 0 [.int .i64 W, .int .i64 Hh, .string S] := e5.cells g5
  generalize τ4.size = bid at gb5 ⊢
  generalize τ3.size = xid at g55 ⊢
  clear hτ e5 g5 g4 g3 g2 g1 e1 e2 e3 e4 hSne
  (have fx := g55; refine stepR ?_; clear fx)
  refine ml_call Sd0 Sd0 (gopen_c W Hh S k τ5) ?_
  rintro _ τ6 ⟨rfl, e6⟩
  rw [hg, Bool.true_and]
  have g6 := e6.cells g55
  have gb6 := e6.cells gb5
  clear e6 g55 gb5
  cases ho : opn S k
  · (have fx := g6; refine stepR ?_; clear fx)
    refine ml_call Sd0 Sd0 (gnear_c W Hh S k τ6) ?_
    intro v1 τ7 o1
    have hz : gnear W Hh S k (gr W Hh S) = [] := by simp [gnear, ho]
    rw [hz] at o1
    refine stepR0 ?_
    refine ml_len Sd0 o1.rd Sd0 ?_
    rw [ints_len]
    refine stepR0 ?_
    exact fin1 Sd0
  have hSlen : (List.replicate S.size false).length = S.size := by simp
  refine stepR0 ?_
  refine ml_setB (off := k) (c := true) (id := bid) (out := List.replicate S.size false) Sd0 Sd0 Sd0 gb6 (by omega) fun τ7 s7 => ?_
  have hms : MS W S [(k : Int)] ((List.replicate S.size false).set k true) := by
    refine ⟨by simp, fun i hi => ?_⟩
    rw [getD_set _ _ _ _ _ (by omega)] at hi
    split at hi
    · rename_i e; subst e; exact ⟨0, .src (by simp) ho⟩
    · rw [List.getD_eq_getElem?_getD, List.getElem?_replicate] at hi
      split at hi <;> simp at hi
  have hcm : MCm W S [(k : Int)] 0 ((List.replicate S.size false).set k true) := by
    intro r hr x hw
    obtain rfl : r = 0 := by omega
    cases hw with
    | src hx ho => simp at hx; subst hx; rw [Int.toNat_natCast, getD_set _ _ _ _ _ (by omega), if_pos rfl]
  have hn0 : N1 W S [(k : Int)] 0 0 ((List.replicate S.size false).set k true) := ⟨hms, hcm, fun y hy k hk hw => by have := (opn_lt hw.opn).1; omega⟩
  generalize ((List.replicate S.size false).set k true) = met0 at s7 hn0 hms hcm
  have hxb : xid ≠ bid := fun e => by rw [e, gb6] at g6; cases g6
  have g7 := s7.cells g6 hxb
  have gb7 := s7.self
  clear g6 gb6 s7 hms hcm
  refine stepR0 ?_
  refine mx_loop (fun n ts τ => ∃ r met, n = 64 - r ∧ r ≤ 64 ∧ (N1 W S [(k : Int)] r 0 met ∧ MCm W S [(k : Int)] 0 met) ∧ ts 5 = .pointer (some ⟨xid, 0, none⟩) ∧ ts 7 = .slice (some ⟨bid, 0, none⟩) S.size S.size ∧ ts 8 = .int .i64 ((r : Nat) : Int) ∧
    τ.get xid = .cells 0 [.int .i64 W, .int .i64 Hh, .string S] ∧ τ.get bid = .cells 1 (bools met)) 64 ?_ ?_
  · exact ⟨0, met0, rfl, by omega, ⟨hn0, fun r hr x hw => hn0.cm r hr x hw⟩, Sd0, Sd0, Sd0, g7, gb7⟩
  clear hn0 g7 gb7
  rintro n ts τ ⟨r, met, rfl, hr, ⟨n1, hc0⟩, t5, t7, t8, gx, gb⟩
  rcases Nat.lt_or_ge r 64 with hlt | hge
  · have hlt' : ((r : Nat) : Int) < 64 := by omega
    (have fx := And.intro t5 (And.intro t7 (And.intro t8 hlt')); refine stepR ?_; clear fx)
    refine mx_loop (fun n ts τ => ∃ i met, n = S.size - i ∧ i ≤ S.size ∧ (N1 W S [(k : Int)] r i met ∧ MCm W S [(k : Int)] 0 met) ∧ ts 5 = .pointer (some ⟨xid, 0, none⟩) ∧ ts 7 = .slice (some ⟨bid, 0, none⟩) S.size S.size ∧ ts 8 = .int .i64 ((r : Nat) : Int) ∧ ts 9 = .int .i64 ((i : Nat) : Int) ∧
      τ.get xid = .cells 0 [.int .i64 W, .int .i64 Hh, .string S] ∧ τ.get bid = .cells 1 (bools met)) S.size ?_ ?_
    · exact ⟨0, met, rfl, by omega, ⟨n1, hc0⟩, (have fx := t5; Sd), (have fx := t7; Sd), (have fx := t8; Sd), Sd0, gx, gb⟩
    clear n1 hc0 t5 t7 t8 gx gb met
    rintro n ts τ ⟨i, met, rfl, hi, ⟨n1, hc0⟩, t5, t7, t8, t9, gx, gb⟩
    have hml := n1.ms.len
    rcases Nat.lt_or_ge i S.size with hil | hig
    · have hil' : ((i : Nat) : Int) < (S.size : Int) := by omega
      (have fx := And.intro t5 (And.intro t7 (And.intro t8 (And.intro t9 (And.intro gx hil')))); refine stepR ?_; clear fx)
      refine ml_call Sd0 Sd0 (gnear_c W Hh S i τ) ?_
      intro nv τ2 ⟨e2, oid, own, hid⟩
      have gx2 := e2.cells gx
      have gb2 := e2.cells gb
      cases hmi : met.getD i false
      · refine stepR0 ?_
        refine mx_loop (fun n ts' τ' => n = 0 ∧ τ' = τ2 ∧ ts' 5 = .pointer (some ⟨xid, 0, none⟩) ∧ ts' 7 = .slice (some ⟨bid, 0, none⟩) S.size S.size ∧ ts' 8 = .int .i64 ((r : Nat) : Int) ∧ ts' 9 = .int .i64 ((i : Nat) : Int) ∧ ts' 10 = nv ∧ ts' 11 = .int .i64 0) 0 ?_ ?_
        · exact ⟨rfl, rfl, (have fx := t5; Sd), (have fx := t7; Sd), (have fx := t8; Sd), (have fx := t9; Sd), Sd0, Sd0⟩
        clear t5 t7 t8 t9
        rintro n ts' τ' ⟨rfl, rfl, t5, t7, t8, t9, t10, t11⟩
        (have fx := And.intro t10 t11; refine stepR ?_; clear fx)
        refine ml_len Sd0 own.rd (have fx := t10; Sd) ?_
        rw [ints_len]
        have hfin : N1 W S [(k : Int)] r (i + 1) met := n1.nomet hmi
        by_cases hp : (0 : Int) < ((gnear W Hh S i (gr W Hh S)).length : Int)
        · (have fx := And.intro t7 (And.intro t9 (And.intro t11 hp)); refine stepR ?_; clear fx)
          refine ml_getB (off := i) (have fx := hp; Sd) (have fx := And.intro t7 t9; Sd) gb2 (by omega) ?_
          rw [hmi]
          (have fx := And.intro hp t9; refine stepR ?_; clear fx)
          exact ⟨_, by omega, i + 1, met, rfl, by omega, ⟨hfin, hc0⟩, (have fx := t5; Sd), (have fx := t7; Sd), (have fx := t8; Sd), Sd0, gx2, gb2⟩
        · (have fx := And.intro t7 (And.intro t9 (And.intro t11 hp)); refine stepR ?_; clear fx)
          exact ⟨_, by omega, i + 1, met, rfl, by omega, ⟨hfin, hc0⟩, (have fx := t5; Sd), (have fx := t7; Sd), (have fx := t8; Sd), Sd0, gx2, gb2⟩
      · have hoi : opn S i = true := by obtain ⟨q, hq⟩ := n1.ms.snd i hmi; exact hq.opn
        have hnl : gnear W Hh S i (gr W Hh S) = nearL W S i := by simp [gnear, hg, hoi]
        rw [hnl] at own
        have hob : ∀ id, oid = some id → id ≠ bid := fun id h e => by have h1 := hid id h; have h2 := H.lt_of_cells gb; omega
        refine stepR0 ?_
        refine mx_loop (fun n ts' τ' => ∃ j met', n = (nearL W S i).length - j ∧ j ≤ (nearL W S i).length ∧ (N2 W S [(k : Int)] r i j met' ∧ MCm W S [(k : Int)] 0 met' ∧ met'.getD i false = true) ∧ ts' 5 = .pointer (some ⟨xid, 0, none⟩) ∧ ts' 7 = .slice (some ⟨bid, 0, none⟩) S.size S.size ∧ ts' 8 = .int .i64 ((r : Nat) : Int) ∧ ts' 9 = .int .i64 ((i : Nat) : Int) ∧ ts' 10 = nv ∧ ts' 11 = .int .i64 ((j : Nat) : Int) ∧
          τ'.get xid = .cells 0 [.int .i64 W, .int .i64 Hh, .string S] ∧ τ'.get bid = .cells 1 (bools met') ∧ Own τ' 1 nv oid (ints (nearL W S i))) (nearL W S i).length ?_ ?_
        · exact ⟨0, met, rfl, by omega, ⟨⟨n1, fun x hx => by simp at hx⟩, hc0, hmi⟩, (have fx := t5; Sd), (have fx := t7; Sd), (have fx := t8; Sd), (have fx := t9; Sd), Sd0, Sd0, gx2, gb2, own⟩
        clear t5 t7 t8 t9 gx2 gb2 own n1 hc0 hmi hml gb gx e2
        rintro n ts' τ' ⟨j, met', rfl, hj, ⟨n2, hc0, hmi⟩, t5, t7, t8, t9, t10, t11, gx, gb, own⟩
        have hml := n2.n1.ms.len
        have hl4 : (nearL W S i).length ≤ 4 := by
          rw [nearL_len2]
          have : ∀ b, b2n b ≤ 1 := fun b => by cases b <;> simp [b2n]
          have h1 := this (opn S ((i : Int) - W)); have h2 := this (decide ((i : Int).tmod W > 0) && opn S ((i : Int) - 1))
          have h3 := this (decide ((i : Int).tmod W < W - 1) && opn S ((i : Int) + 1)); have h4 := this (opn S ((i : Int) + W))
          omega
        (have fx := And.intro t10 t11; refine stepR ?_; clear fx)
        refine ml_len Sd0 own.rd (have fx := t10; Sd) ?_
        rw [ints_len]
        rcases Nat.lt_or_ge j (nearL W S i).length with hjl | hjg
        · have hjl' : ((j : Nat) : Int) < ((nearL W S i).length : Int) := by omega
          (have fx := And.intro t7 (And.intro t9 (And.intro t11 hjl')); refine stepR ?_; clear fx)
          refine ml_getB (off := i) (have fx := hjl'; Sd) (have fx := And.intro t7 t9; Sd) gb (by omega) ?_
          rw [hmi]
          have hxo : opn S ((nearL W S i).getD j 0) = true := by
            rw [List.getD_eq_getElem?_getD, List.getElem?_eq_getElem hjl]; exact near_opn (List.getElem_mem hjl)
          have hxl := opn_lt hxo
          have n3 := n2.set hmi hjl
          (have fx := And.intro hjl' (And.intro t7 (And.intro t10 t11)); refine stepR ?_; clear fx)
          refine ml_getS own.rd (have fx := t10; Sd) (have fx := t11; Sd) (by omega) (by rw [Int.toNat_natCast]; exact ints_at hjl) fun p => ?_
          generalize (nearL W S i).getD j 0 = x at hxo hxl n3
          (have fx := t7; refine stepR ?_; clear fx)
          refine ml_setB (off := x.toNat) (c := true) Sd0 Sd0 Sd0 gb (by omega) fun τ3 s3 => ?_
          have G := fun m => getD_set met' x.toNat m true false (by omega)
          have gx3 := s3.cells gx hxb
          (have fx := t11; refine stepR ?_; clear fx)
          refine ⟨_, ?_, j + 1, _, rfl, hjl, ⟨n3, fun q hq y hw => ?_, ?_⟩, (have fx := t5; Sd), (have fx := t7; Sd), (have fx := t8; Sd), (have fx := t9; Sd), (have fx := t10; Sd), Sd0, gx3, s3.self, own.ext fun id hi => s3.other id (hob id hi)⟩
          · omega
          · rw [G]; split
            · rfl
            · exact hc0 q hq y hw
          · rw [G]; split
            · rfl
            · exact hmi
        · obtain rfl : j = (nearL W S i).length := by omega
          have hjl' : ¬ ((nearL W S i).length : Int) < ((nearL W S i).length : Int) := by omega
          (have fx := And.intro t7 (And.intro t9 (And.intro t11 hjl')); refine stepR ?_; clear fx)
          exact ⟨_, by omega, i + 1, met', rfl, by omega, ⟨n2.done, hc0⟩, (have fx := t5; Sd), (have fx := t7; Sd), (have fx := t8; Sd), Sd0, gx, gb⟩
    · obtain rfl : i = S.size := by omega
      have hil' : ¬ (S.size : Int) < (S.size : Int) := by omega
      (have fx := And.intro t5 (And.intro t7 (And.intro t8 (And.intro t9 hil'))); refine stepR ?_; clear fx)
      exact ⟨_, by omega, r + 1, met, rfl, by omega, ⟨n1.next hc0, hc0⟩, (have fx := t5; Sd), (have fx := t7; Sd), Sd0, gx, gb⟩
  · obtain rfl : r = 64 := by omega
    have hall : ∀ i : Nat, i < S.size → met.getD i false = opn S i := by
      intro i hi
      rw [Bool.eq_iff_iff]
      constructor
      · intro h; obtain ⟨q, hq⟩ := n1.ms.snd i h; exact hq.opn
      · intro h
        obtain ⟨hz, c0, hc0l, hC, hrch⟩ := gr_all hg
        have hop : opn S (c0 : Int) = true := by
          simp only [opn, bAt, Int.toNat_natCast, hC]
          have h6 : (c0 : Int) < (S.size : Int) := by omega
          simp [h6]
        have hki : Reach W S k i := ((hrch k ho).symm hW hop).trans (hrch i h)
        obtain ⟨q, hq⟩ := reach_wk ho hki
        have := MCm.all (W := W) (S := S) (src := [(k : Int)]) (met := met) (fun a ha x hx => n1.cm a (by omega) x hx) hq
        rwa [Int.toNat_natCast] at this
    have hml := n1.ms.len
    (have fx := And.intro t5 (And.intro t7 t8); refine stepR ?_; clear fx)
    refine mx_loop (fun n ts τ => ∃ i, n = S.size - i ∧ i ≤ S.size ∧ ts 5 = .pointer (some ⟨xid, 0, none⟩) ∧ ts 7 = .slice (some ⟨bid, 0, none⟩) S.size S.size ∧ ts 12 = .int .i64 ((i : Nat) : Int) ∧
      τ.get xid = .cells 0 [.int .i64 W, .int .i64 Hh, .string S] ∧ τ.get bid = .cells 1 (bools met)) S.size ?_ ?_
    · exact ⟨0, rfl, by omega, (have fx := t5; Sd), (have fx := t7; Sd), Sd0, gx, gb⟩
    clear t5 t7 t8 gx gb
    rintro n ts τ ⟨i, rfl, hi, t5, t7, t12, gx, gb⟩
    rcases Nat.lt_or_ge i S.size with hil | hig
    · have hil' : ((i : Nat) : Int) < (S.size : Int) := by omega
      (have fx := And.intro t5 (And.intro t7 (And.intro t12 (And.intro gx hil'))); refine stepR ?_; clear fx)
      refine mld_getB (off := i) (out := met) (id := bid) Sd0 (have fx := And.intro t7 t12; Sd) gb (by omega) ?_
      rw [hall i hil]
      (have fx := And.intro t5 (And.intro t12 gx); refine stepR ?_; clear fx)
      refine mld_call Sd0 Sd0 (gopen_c W Hh S i τ) (fun _ _ h => h.2) ?_
      rintro _ τ2 ⟨rfl, e2⟩
      rw [hg, Bool.true_and]
      have hee : (opn S i == opn S i) = true := by simp
      (have fx := And.intro hee t12; refine stepR ?_; clear fx)
      exact ⟨_, by omega, i + 1, rfl, by omega, (have fx := t5; Sd), (have fx := t7; Sd), Sd0, e2.cells gx, e2.cells gb⟩
    · obtain rfl : i = S.size := by omega
      have hil' : ¬ (S.size : Int) < (S.size : Int) := by omega
      (have fx := And.intro t5 (And.intro t7 (And.intro t12 hil')); refine stepR ?_; clear fx)
      exact fin1 Sd0
end Go.Proofs.YtgfmphjccnemmaaDoor
