/- text.Read. -/
import Derived.Test.YtepjinaomedecaaDoorTextB
namespace Go.Proofs.YtepjinaomedecaaDoor
open Go.Mini
open Go.Proofs.YtepjinaomedecaaDoor.Code
set_option linter.unusedVariables false
set_option linter.unusedSimpArgs false
set_option linter.ambiguousOpen false
attribute [local irreducible] mx ml mld mstep MCalls Ex.thn Ex.inb
variable {E : World → Prop}

def actV (nm : ByteArray) (a b c : Int) : Value := .agg #[.string nm, .int .i64 a, .int .i64 b, .int .i64 c]
def actC (nm : ByteArray) (a b c : Int) : List Value := [.string nm, .int .i64 a, .int .i64 b, .int .i64 c]
attribute [go_sem] actV actC
/-- What text.Read answers. -/
def readA (line : ByteArray) (σ : H) (v : Value) (τ : H) : Prop := Ext σ τ ∧
  ((∃ nm a b c, v = .tuple #[actV nm a b c, .nilIface] ∧ ReqOf line.data.toList nm a b c) ∨ (∃ ev, v = .tuple #[actV ⟨#[]⟩ 0 0 0, ev] ∧ TagE τ ev textB 2 ∧ ∀ nm a b c, ¬ ReqOf line.data.toList nm a b c))

/-- What of a line that is no request's is amiss. -/
theorem not_req {line : ByteArray} {w : List UInt8} {ws : List (List UInt8)} (hl : line.data.toList = joinW w ws ++ [10]) (h1 : (32 : UInt8) ∉ w) (h2 : ∀ x ∈ ws, (32 : UInt8) ∉ x)
    (h : needsL w = none ∨ ∃ what, needsL w = some what ∧ (ws.length ≠ what.length ∨ ∃ i, i < ws.length ∧ ∀ n, ¬ isNum (ws.getD i []) n)) (nm : ByteArray) (a b c : Int) : ¬ ReqOf line.data.toList nm a b c := fun hr => by
  obtain ⟨what, hr, hn, hw⟩ := req_words hr hl h1 h2
  have hneed := hr.needs
  rw [hn] at hneed
  rcases h with h | ⟨what', h3, h4⟩
  · rw [h] at hneed; cases hneed
  · rw [h3] at hneed
    obtain rfl := Option.some.inj hneed
    rcases h4 with h4 | ⟨i, hi, h5⟩
    · rw [hw] at h4; unfold wordsOf at h4; rw [List.length_map] at h4; exact h4 rfl
    · have hi2 : i < what'.length := by rw [hw] at hi; unfold wordsOf at hi; rwa [List.length_map] at hi
      have hv := hr.val (List.getElem_mem hi2)
      refine h5 (valOf a b c what'[i]).toNat ⟨by omega, ?_⟩
      rw [hw]; unfold wordsOf
      rw [List.getD_eq_getElem?_getD, List.getElem?_map, List.getElem?_eq_getElem hi2]; rfl
theorem req_ends {line : ByteArray} {nm : ByteArray} {a b c : Int} (h : ReqOf line.data.toList nm a b c) : endsNL line = true := by
  obtain ⟨what, _, hl⟩ := h
  have hlen : line.data.toList.length = line.size := Array.length_toList
  unfold layL at hl
  unfold endsNL
  have : line.size = (joinW nm.data.toList (wordsOf what a b c)).length + 1 := by rw [← hlen, hl]; simp
  rw [Bool.and_eq_true, decide_eq_true_eq]
  refine ⟨by omega, ?_⟩
  rw [this, Nat.add_sub_cancel, hl, List.getD_eq_getElem?_getD, List.getElem?_append_right (Nat.le_refl _), Nat.sub_self]; rfl
theorem ends_split {line : ByteArray} (h : endsNL line = true) : line.data.toList = (line.extract 0 (line.size - 1)).data.toList ++ [10] := by
  have hlen : line.data.toList.length = line.size := Array.length_toList
  unfold endsNL at h
  rw [Bool.and_eq_true, decide_eq_true_eq, beq_iff_eq] at h
  rw [ext_list, List.drop_zero, Nat.sub_zero]
  have hlt : line.size - 1 < line.data.toList.length := by omega
  conv => lhs; rw [← List.take_append_drop (line.size - 1) line.data.toList]
  rw [List.drop_eq_getElem_cons hlt, List.drop_eq_nil_of_le (by omega)]
  have := h.2
  rw [List.getD_eq_getElem?_getD, List.getElem?_eq_getElem hlt] at this
  rw [show line.data.toList[line.size - 1] = 10 from this]

theorem spl_act (nm : ByteArray) (a b c : Int) (ch : UInt8) (v : Int) : spl (actC nm a b c) (partOff ch) [.int .i64 v] = actC nm (setV (a, b, c) ch v).1 (setV (a, b, c) ch v).2.1 (setV (a, b, c) ch v).2.2 := by
  unfold partOff setV actC
  split
  · rfl
  · split <;> rfl
theorem part_lt (nm : ByteArray) (a b c : Int) (ch : UInt8) : partOff ch + 1 ≤ (actC nm a b c).length := by
  unfold partOff actC
  split
  · simp
  · split <;> simp
theorem join_len {w : List UInt8} : ∀ {ws : List (List UInt8)} {x : List UInt8}, x ∈ ws → x.length ≤ (joinW w ws).length
  | y :: ws, x, h => by
    have e : (joinW w (y :: ws)).length = w.length + (y.length + 1 + (ws.flatMap (fun x => 32 :: x)).length) := by simp [joinW]; omega
    rcases List.mem_cons.1 h with rfl | h
    · omega
    · have := join_len (w := w) h
      have e2 : (joinW w ws).length = w.length + (ws.flatMap (fun x => 32 :: x)).length := by simp [joinW]
      omega

set_option maxHeartbeats 8000000 in
theorem read_c (hE : ∀ w, E w → TextE w) (line : ByteArray) (hl : line.size ≤ 100000) (σ : H) : MCalls E Tryd.prog 24 [.string line] σ (readA line σ) := by
  refine mcalls_of fn24 (by simp) ?_
  unfold c24 r24
  refine stepR0 ?_
  have gz0 := H.get_push_self σ (.cells 0 [.string ⟨#[]⟩, .int .i64 0, .int .i64 0, .int .i64 0])
  have e0 := Ext.push σ (.cells 0 [.string ⟨#[]⟩, .int .i64 0, .int .i64 0, .int .i64 0])
  generalize hτ0 : σ.push (.cells 0 [.string ⟨#[]⟩, .int .i64 0, .int .i64 0, .int .i64 0]) = τ0 at gz0 e0 ⊢
  clear hτ0
  refine ml_call Sd0 Sd0 (Cut_c line _ (by omega)) ?_
  rintro _ τ1 ⟨rfl, rfl⟩
  generalize hs : (if endsNL line = true then line.extract 0 (line.size - 1) else line) = s
  have hsl : s.size ≤ 1000000 := by rw [← hs]; split <;> (try simp) <;> omega
  refine stepR0 ?_
  refine ml_call Sd0 Sd0 (split_c hE s hsl τ1) ?_
  rintro ov τ2 ⟨bs, w, ws, hbs, hj, hw32, hws32, hov, hτ2⟩
  have e2 : Ext τ1 τ2 := hτ2 ▸ Ext.push _ _
  have gw : τ2.get τ1.size = .cells 1 (bs.map Value.string) := by rw [hτ2]; exact H.get_push_self _ _
  clear hτ2
  have hblen : bs.length = ws.length + 1 := by
    have := congrArg List.length hbs
    rw [List.length_map, List.length_cons] at this; exact this
  obtain ⟨b0, br, rfl⟩ : ∃ b0 br, bs = b0 :: br := by
    cases bs with
    | nil => simp at hblen
    | cons b0 br => exact ⟨b0, br, rfl⟩
  have hb0 : b0.data.toList = w := by simp only [List.map_cons, List.cons.injEq] at hbs; exact hbs.1
  have hbr : br.map (·.data.toList) = ws := by simp only [List.map_cons, List.cons.injEq] at hbs; exact hbs.2
  have rdw : ∀ {τ : H}, τ.get τ1.size = .cells 1 ((b0 :: br).map Value.string) → Rd τ ov ((b0 :: br).map Value.string) := fun h => hov ▸ (Own.full (sz := 1) h (by simp)).rd
  have hrl : ((b0 :: br).map Value.string).length = (b0 :: br).length := List.length_map ..
  generalize hN : (b0 :: br).length = N at hblen hrl
  clear hov
  have gz2 := e2.cells gz0
  refine stepR0 ?_
  refine mld_getS (q := 0) (e := .string b0) Sd0 (rdw gw) Sd0 Sd0 (by omega) rfl (fun p => Sd0) fun p => ?_
  refine stepR0 ?_
  refine mld_call Sd0 Sd0 (needs_c τ2) (fun _ _ h => h.1) ?_
  rintro _ τ3 ⟨e3, rfl, cm, gm⟩
  refine mld_op Sd0 (o_mlookS (q := b0) (l := needT) Sd0 Sd0 gm) ?_
  have hlook := look_needs b0
  rw [hb0] at hlook
  -- what is found
  obtain ⟨found, what, hmatch, hfw⟩ : ∃ found what, lookV (.string ⟨#[]⟩) (lookS b0 needT) = .tuple #[.string ⟨what.toArray⟩, .bool found] ∧ needsL w = (if found = true then some what else none) := by
    cases hn : needsL w with
    | none => rw [hlook, hn]; exact ⟨false, [], rfl, rfl⟩
    | some what => rw [hlook, hn]; exact ⟨true, what, rfl, rfl⟩
  rw [hmatch]
  have e13 := e2.trans e3
  have gz3 := e3.cells gz2
  have gw3 := e3.cells gw
  clear hmatch hlook gm
  generalize hwb : (⟨what.toArray⟩ : ByteArray) = wb
  have hwbl : wb.data.toList = what := by rw [← hwb]
  have hwbs : wb.size = what.length := by rw [← hwb]; rfl
  clear hwb
  have fail : (endsNL line = false ∨ (endsNL line = true ∧ (needsL w = none ∨ ∃ what, needsL w = some what ∧ (ws.length ≠ what.length ∨ ∃ i, i < ws.length ∧ ∀ n, ¬ isNum (ws.getD i []) n)))) → ∀ nm a b c, ¬ ReqOf line.data.toList nm a b c := by
    rintro (h | ⟨h, h2⟩) nm a b c
    · intro hr; rw [req_ends hr] at h; cases h
    · have := ends_split h
      rw [if_pos h] at hs
      rw [hs, hj] at this
      exact not_req this hw32 hws32 h2 nm a b c
  refine stepR0 ?_
  generalize hbad : (!(endsNL line && found && decide (N = 1 + what.length))) = bad
  refine ml_mid (fun ts' τ' => τ' = τ3 ∧ ts' 2 = .pointer (some ⟨σ.size, 0, none⟩) ∧ ts' 6 = ov ∧ ts' 7 = .string wb ∧ ts' 41 = .bool bad) ?_ ?_
  · rcases Bool.eq_false_or_eq_true (endsNL line) with he | he
    · rw [he] at hbad
      cases found
      · rw [← hbad]
        (have fx := he; refine stepR ?_; clear fx)
        exact ⟨rfl, Sd0, Sd0, Sd0, (have fx := he; Sd)⟩
      · have hw3 : wb.size ≤ 3 := by
          rcases (needs_what (show needsL w = some what by simpa using hfw)).1 with h | h | h | h <;> (rw [hwbs, h]; decide)
        by_cases hN1 : N = 1 + what.length
        · have hnb : ((N : Int) != 1 + (wb.size : Int)) = false := by rw [bne_eq_false_iff_eq]; omega
          rw [decide_eq_true hN1] at hbad
          rw [← hbad]
          (have fx := he; refine stepR ?_; clear fx)
          refine ml_len (have fx := he; Sd) (rdw gw3) (have fx := he; Sd) ?_
          rw [hrl]
          (have fx := And.intro he hnb; refine stepR ?_; clear fx)
          exact ⟨rfl, Sd0, Sd0, Sd0, (have fx := And.intro he hnb; Sd)⟩
        · have hnb : ((N : Int) != 1 + (wb.size : Int)) = true := by rw [bne_iff_ne]; omega
          rw [decide_eq_false hN1] at hbad
          rw [← hbad]
          (have fx := he; refine stepR ?_; clear fx)
          refine ml_len (have fx := he; Sd) (rdw gw3) (have fx := he; Sd) ?_
          rw [hrl]
          (have fx := And.intro he hnb; refine stepR ?_; clear fx)
          exact ⟨rfl, Sd0, Sd0, Sd0, (have fx := And.intro he hnb; Sd)⟩
    · rw [he] at hbad
      rw [← hbad]
      (have fx := he; refine stepR ?_; clear fx)
      exact ⟨rfl, Sd0, Sd0, Sd0, (have fx := he; Sd)⟩
  rintro ts τ3' ⟨rfl, t2, t6, t7, t41⟩
  cases bad
  rotate_left
  · have hno : ∀ nm a b c, ¬ ReqOf line.data.toList nm a b c := by
      refine fail ?_
      rcases Bool.eq_false_or_eq_true (endsNL line) with he | he
      · right
        refine ⟨he, ?_⟩
        rw [he] at hbad
        cases found
        · exact .inl (by simpa using hfw)
        · refine .inr ⟨what, by simpa using hfw, .inl fun h => ?_⟩
          rw [decide_eq_true (show N = 1 + what.length by omega)] at hbad
          cases hbad
      · exact .inl he
    (have fx := t41; refine stepR ?_; clear fx)
    refine ml_call Sd0 Sd0 (form_c τ3') ?_
    rintro ev τ4 ⟨he, e4⟩
    have gz4 := e4.cells gz3
    refine ml_storeA (off := 0) (vs := [.string ⟨#[]⟩, .int .i64 0, .int .i64 0, .int .i64 0]) Sd0 (have fx := t2; Sd) Sd0 gz4 rfl (by simp) rfl fun τ5 s5 => ?_
    refine stepR0 ?_
    refine finC1 (id := σ.size) (vs := [.string ⟨#[]⟩, .int .i64 0, .int .i64 0, .int .i64 0]) (have fx := t2; Sd) (row_of s5.self rfl) ?_
    refine ⟨s5.ext ((e0.trans e13).trans e4) (Nat.le_refl _), .inr ⟨ev, Sd0, ?_, hno⟩⟩
    obtain ⟨id, h1, h2⟩ := he
    exact ⟨id, h1, s5.cells h2 (fun e => by rw [e, gz4] at h2; cases h2)⟩
  -- a request, so far
  have hgood : endsNL line = true ∧ found = true ∧ N = 1 + what.length := by
    rw [Bool.not_eq_false', Bool.and_eq_true, Bool.and_eq_true, decide_eq_true_eq] at hbad
    exact ⟨hbad.1.1, hbad.1.2, hbad.2⟩
  obtain ⟨he, rfl, hN1⟩ := hgood
  have hneed : needsL w = some what := by simpa using hfw
  have hw3 : what.length ≤ 3 := by
    rcases (needs_what hneed).1 with h | h | h | h <;> (rw [h]; decide)
  have hwl : ws.length = what.length := by omega
  have hline : line.data.toList = joinW w ws ++ [10] := by
    have := ends_split he
    rw [if_pos he] at hs
    rw [hs, hj] at this
    exact this
  have hlinel : line.data.toList.length = line.size := Array.length_toList
  (have fx := And.intro t41 t6; refine stepR ?_; clear fx)
  refine ml_getS (q := 0) (e := .string b0) (rdw gw3) (have fx := t6; Sd) Sd0 (by omega) rfl fun p => ?_
  refine stepR0 ?_
  refine ml_init (vs := actC b0 0 0 0) Sd0 Sd0 Sd0 rfl rfl rfl fun τ4 e4 g4 => ?_
  have e04 := (e0.trans e13).trans e4
  have gz4 := e4.cells gz3
  have gw4 := e4.cells gw3
  have hAs : σ.size < τ3'.size := Nat.lt_of_lt_of_le (H.lt_of_cells gz0) e13.size
  have hAw : τ1.size < τ3'.size := Nat.lt_of_lt_of_le (Nat.lt_of_lt_of_le (H.lt_of_cells gw) (Nat.le_refl _)) e3.size
  generalize τ3'.size = A at g4 hAs hAw ⊢
  (have fx := t7; refine stepR ?_; clear fx)
  refine mx_loop (fun n ts τ => ∃ vals : List Nat, n = what.length - vals.length ∧ vals.length ≤ what.length ∧ (∀ v ∈ vals, v ≤ 999) ∧ ws.take vals.length = vals.map Lib.decDigits ∧
      Ext σ τ ∧ τ.get σ.size = .cells 0 [.string ⟨#[]⟩, .int .i64 0, .int .i64 0, .int .i64 0] ∧ τ.get τ1.size = .cells 1 ((b0 :: br).map Value.string) ∧ τ.get A = .cells 0 (actC b0 (put what vals).1 (put what vals).2.1 (put what vals).2.2) ∧
      ts 2 = .pointer (some ⟨σ.size, 0, none⟩) ∧ ts 6 = ov ∧ ts 7 = .string wb ∧ ts 9 = .pointer (some ⟨A, 0, none⟩) ∧ ts 49 = .int .i64 (wb.size : Int) ∧ ts 50 = .int .i64 ((vals.length : Nat) : Int)) what.length ?_ ?_
  · have hp0 : put what [] = (0, 0, 0) := by simp [put]
    exact ⟨[], rfl, by simp, by simp, by simp, e04, gz4, gw4, by rw [hp0]; exact g4, (have fx := t2; Sd), (have fx := t6; Sd), (have fx := t7; Sd), Sd0, (have fx := t7; Sd), Sd0⟩
  clear t2 t6 t7 t41 ts gz4 gw4 g4 e04 e4
  rintro n ts τ ⟨vals, rfl, hvl, hv9, htk, eσ, gz, gwd, ga, t2, t6, t7, t9, t49, t50⟩
  rcases Nat.lt_or_ge vals.length what.length with hil | hig
  rotate_left
  · -- all numbers are read
    have hlt' : ¬ ((vals.length : Nat) : Int) < (wb.size : Int) := by omega
    have hvl2 : vals.length = what.length := by omega
    have hb0n : needsL b0.data.toList = some what := by rw [hb0]; exact hneed
    obtain ⟨hra, hwo⟩ := put_right (nm := b0) hb0n hvl2 hv9
    have hreq : ReqOf line.data.toList b0 (put what vals).1 (put what vals).2.1 (put what vals).2.2 := by
      refine ⟨what, hra, ?_⟩
      unfold layL
      rw [hwo, ← htk, hb0, List.take_of_length_le (by omega)]
      exact hline
    generalize (put what vals).1 = a at ga hreq
    generalize (put what vals).2.1 = b at ga hreq
    generalize (put what vals).2.2 = c at ga hreq
    have ga' : τ.get A = .cells 0 [.string b0, .int .i64 a, .int .i64 b, .int .i64 c] := ga
    (have fx := And.intro t50 (And.intro t49 (And.intro hlt' (And.intro t9 ga'))); refine stepR ?_; clear fx)
    refine ml_storeA (off := 0) (vs := [.string b0, .int .i64 a, .int .i64 b, .int .i64 c]) Sd0 (have fx := t2; Sd) Sd0 gz rfl (by simp) rfl fun τ5 s5 => ?_
    refine stepR0 ?_
    refine finC1 (id := σ.size) (vs := [.string b0, .int .i64 a, .int .i64 b, .int .i64 c]) (have fx := t2; Sd) (row_of s5.self rfl) ?_
    exact ⟨s5.ext eσ (Nat.le_refl _), .inl ⟨b0, a, b, c, Sd0, hreq⟩⟩
  have hlt' : ((vals.length : Nat) : Int) < (wb.size : Int) := by omega
  have hbl : br.length = ws.length := by rw [← hbr, List.length_map]
  have hib : vals.length < br.length := by omega
  have hbi : ((b0 :: br).map Value.string)[1 + vals.length]? = some (.string br[vals.length]) := by
    rw [Nat.add_comm, List.map_cons, List.getElem?_cons_succ, List.getElem?_map, List.getElem?_eq_getElem hib]; rfl
  have hwi : ws.getD vals.length [] = br[vals.length].data.toList := by
    rw [← hbr, List.getD_eq_getElem?_getD, List.getElem?_map, List.getElem?_eq_getElem hib]; rfl
  have hbs2 : br[vals.length].size ≤ 1000000 := by
    have h1 : br[vals.length].data.toList ∈ ws := by rw [← hbr]; exact List.mem_map.2 ⟨_, List.getElem_mem hib, rfl⟩
    have h2 := join_len (w := w) h1
    have h3 : br[vals.length].data.toList.length = br[vals.length].size := Array.length_toList
    have h4 := congrArg List.length hline
    rw [hlinel, List.length_append] at h4
    omega
  generalize br[vals.length] = bi at hbi hwi hbs2
  (have fx := And.intro t50 (And.intro t49 (And.intro hlt' t6)); refine stepR ?_; clear fx)
  refine ml_getS (q := 1 + ((vals.length : Nat) : Int)) (rdw gwd) (have fx := t6; Sd) Sd0 (by omega) (by rw [show (1 + ((vals.length : Nat) : Int)).toNat = 1 + vals.length by omega]; exact hbi) fun p => ?_
  refine stepR0 ?_
  refine ml_call Sd0 Sd0 (number_c hE bi hbs2 τ) ?_
  rintro _ τ5 ⟨e5, n, b, rfl, hbt, hbf⟩
  have gz5 := e5.cells gz
  have gw5 := e5.cells gwd
  have ga5 := e5.cells ga
  cases b
  · have hno := fail (.inr ⟨he, .inr ⟨what, hneed, .inr ⟨vals.length, by omega, fun m => by rw [hwi]; exact hbf rfl m⟩⟩⟩)
    refine stepR0 ?_
    refine ml_call Sd0 Sd0 (form_c τ5) ?_
    rintro ev τ6 ⟨hev, e6⟩
    have gz6 := e6.cells gz5
    refine ml_storeA (off := 0) (vs := [.string ⟨#[]⟩, .int .i64 0, .int .i64 0, .int .i64 0]) Sd0 (have fx := t2; Sd) Sd0 gz6 rfl (by simp) rfl fun τ7 s7 => ?_
    refine stepR0 ?_
    refine finC1 (id := σ.size) (vs := [.string ⟨#[]⟩, .int .i64 0, .int .i64 0, .int .i64 0]) (have fx := t2; Sd) (row_of s7.self rfl) ?_
    refine ⟨s7.ext ((eσ.trans e5).trans e6) (Nat.le_refl _), .inr ⟨ev, Sd0, ?_, hno⟩⟩
    obtain ⟨id, h1, h2⟩ := hev
    exact ⟨id, h1, s7.cells h2 (fun e => by rw [e, gz6] at h2; cases h2)⟩
  obtain ⟨m, rfl, hm9, hmd⟩ := hbt rfl
  have hch : wb.data.toList.getD vals.length 0 = what[vals.length] := by
    rw [hwbl, List.getD_eq_getElem?_getD, List.getElem?_eq_getElem hil]; rfl
  (have fx := And.intro t7 (And.intro hch t9); refine stepR ?_; clear fx)
  refine ml_call (have fx := hch; Sd) (have fx := And.intro t9 hch; Sd) (part_c A what[vals.length] τ5) ?_
  rintro _ τ6 ⟨rfl, rfl⟩
  refine stepR0 ?_
  refine ml_storeA (off := partOff what[vals.length]) (vs := [.int .i64 ((m : Nat) : Int)]) Sd0 Sd0 Sd0 ga5 rfl (part_lt ..) rfl fun τ7 s7 => ?_
  have ga7 := s7.self
  rw [spl_act] at ga7
  (have fx := t50; refine stepR ?_; clear fx)
  refine ⟨_, ?_, vals ++ [m], rfl, by simp; omega, fun v hv => ?_, ?_, s7.ext (eσ.trans e5) (by omega), s7.cells gz5 (by omega), s7.cells gw5 (by omega), by rw [put_snoc hil]; exact ga7, (have fx := t2; Sd), (have fx := t6; Sd), (have fx := t7; Sd), (have fx := t9; Sd), (have fx := t49; Sd), ?_⟩
  · simp; omega
  · rcases List.mem_append.1 hv with hv | hv
    · exact hv9 v hv
    · rw [List.mem_singleton] at hv; omega
  · rw [List.length_append, List.length_singleton, List.take_add_one, List.map_append, htk, List.getElem?_eq_getElem (by omega)]
    have : ws[vals.length]'(by omega) = ws.getD vals.length [] := by rw [List.getD_eq_getElem?_getD, List.getElem?_eq_getElem (by omega)]; rfl
    rw [this, hwi, hmd]; rfl
  · rw [List.length_append, List.length_singleton]; exact Sd0
end Go.Proofs.YtepjinaomedecaaDoor
