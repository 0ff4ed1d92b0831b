import Derived.Test.YtepjinaomedecaaDoorCode
import Derived.Test.YtepjinaomedecaaDoorBase4
import Derived.Test.YtepjinaomedecaaDoorNearP
import Derived.Test.YtepjinaomedecaaDoorShelf
import Derived.Test.YtepjinaomedecaaDoorErrC
namespace Go.Proofs.YtepjinaomedecaaDoor
open Go.Mini
open Go.Proofs.YtepjinaomedecaaDoor.Code
set_option linter.unusedVariables false
set_option linter.unusedSimpArgs false
set_option linter.ambiguousOpen false
attribute [local irreducible] mx ml mld mstep MCalls Ex.thn Ex.inb
variable {E : World → Prop}

theorem tNum_nil (σ : H) : MCalls E Tryd.prog 14 [.nilIface] σ (fun v τ => v = .int .i64 0 ∧ τ = σ) := by
  refine mcalls_of fn14 (by simp) ?_
  unfold c14 r14
  refine stepR0 ?_
  exact fin1 ⟨rfl, rfl⟩
theorem strIndexByte_c (s : ByteArray) (c : Nat) (σ : H) : MCalls E Tryd.prog 59 [.string s, .int .u8 c] σ (fun v τ => v = .int .i64 (Lib.indexByte s.data.toList c.toUInt8) ∧ τ = σ) :=
  mcalls_same 0 0 (by kernel_rfl) rfl rfl fun w => Tryd.strings_IndexByte s c w
theorem Lines_c (s : ByteArray) (σ : H) : MCalls E Tryd.prog 36 [.string s] σ (fun v τ => v = .func (.func 58) #[] #[.pointer (some ⟨σ.size, 0, none⟩)] ∧ τ = σ.push (.cells 0 [.string s])) := by
  refine mcalls_of fn36 (by simp) ?_
  unfold c36 r36
  refine stepR0 ?_
  exact fin1 Sd0
theorem mxR_ops_seq {P : Program} {N : Nat} {l : List MI} {b : MR} {Q : RQ3} {ds : List Nat} {ts : Fr} {σ : H} (h : ml E P l (fun ts σ => mxR E P N b Q ds ts σ) ts σ) : mxR E P N (.seq (.plain (.ops l)) b) Q ds ts σ := by
  unfold mxR; unfold mxR; unfold mx; exact h
theorem mxR_seq {P : Program} {N : Nat} {a b : MR} {Q : RQ3} {ds : List Nat} {ts : Fr} {σ : H} (h : mxR E P N a (Ex.thnR (mxR E P N b Q) Q) ds ts σ) : mxR E P N (.seq a b) Q ds ts σ := by
  unfold mxR; exact h
theorem mxR_block {P : Program} {N id : Nat} {b : MR} {Q : RQ3} {ds : List Nat} {ts : Fr} {σ : H} (h : mxR E P N b (Ex.inbR id Q) ds ts σ) : mxR E P N (.block id b) Q ds ts σ := by
  unfold mxR; exact h
theorem mxR_plain {P : Program} {N : Nat} {m : MC} {Q : RQ3} {ds : List Nat} {ts : Fr} {σ : H} (h : mx E P m (fun ex => Q ex ds) ts σ) : mxR E P N (.plain m) Q ds ts σ := by
  unfold mxR; exact h
theorem thnR_nor0 {K : List Nat → Fr → H → Prop} {Q : RQ3} {ds : List Nat} {ts : Fr} {σ : H} (h : K ds ts σ) : Ex.thnR K Q .nor ds ts σ := h

end Go.Proofs.YtepjinaomedecaaDoor
/- grid.Parse: the library's parts at any text. -/
namespace Go.Proofs.YtepjinaomedecaaDoor
open Go.Mini
open Go.Proofs.YtepjinaomedecaaDoor.Code
set_option linter.unusedVariables false
set_option linter.unusedSimpArgs false
set_option linter.ambiguousOpen false
attribute [local irreducible] mx ml mld mstep MCalls MYield Ex.thn Ex.inb mxR Ex.thnR Ex.inbR
variable {E : World → Prop}

theorem mxR_rng {P : Program} {N : Nat} {g : Opd} {ps : Array Tmp} {ca cb : Code} {ma mb : MC} {Q : RQ3} {ds : List Nat} {ts : Fr} {σ : H} {f : FuncId} {first cap : Array Value} (hg : mev ts g = .func (.func f) first cap)
    (h : cC P N ca = some ma → cC P N cb = some mb → ∀ L, MCalls E P f (first.toList ++ [.func (.yield L) #[] #[]] ++ cap.toList) ((σ.push (.oth defdR)).push (.oth (loopR L N ts ps ca cb .ready none)))
        (fun _ τ => ∃ s pend, s ≠ .busy ∧ τ.get (σ.size + 1) = .oth (loopR L N ts ps ca cb s pend) ∧ jumpQ Q (σ.size :: ds) ts (τ.set (σ.size + 1) .dead) pend)) : mxR E P N (.rng g ps ca cb ma mb) Q ds ts σ := by
  unfold mxR; exact fun h1 h2 => ⟨f, first, cap, hg, h h1 h2⟩
theorem thnR_nor' {K : List Nat → Fr → H → Prop} {Q : RQ3} {ds : List Nat} {ts : Fr} {σ : H} (h : K ds ts σ) : Ex.thnR K Q .nor ds ts σ := by unfold Ex.thnR; exact h
theorem thnR_ret {K : List Nat → Fr → H → Prop} {Q : RQ3} {ds : List Nat} {ts : Fr} {σ : H} (h : Q .ret ds ts σ) : Ex.thnR K Q .ret ds ts σ := by unfold Ex.thnR; exact h
theorem inbR_nor {id : Nat} {Q : RQ3} {ds : List Nat} {ts : Fr} {σ : H} (h : Q .nor ds ts σ) : Ex.inbR id Q .nor ds ts σ := by unfold Ex.inbR; exact h
theorem inbR_ret {id : Nat} {Q : RQ3} {ds : List Nat} {ts : Fr} {σ : H} (h : Q .ret ds ts σ) : Ex.inbR id Q .ret ds ts σ := by unfold Ex.inbR; exact h
theorem ml_yield {P : Program} {d : Option Nat} {x : Opd} {L : Nat} {first cap : Array Value} {args : List Opd} {g : Option (Nat × Bool)} {rest : List MI} {K : Fr → H → Prop} {ts : Fr} {σ : H} {al : List Value} (hw : wantM ts g = true)
    (hx : mev ts x = .func (.yield L) first cap) (ha : first.toList ++ args.map (mev ts) = al) {R : Value → H → Prop} (hc : MYield E P L al σ R) (h : ∀ v τ, R v τ → ml E P rest K (updO ts d v) τ) : ml E P (⟨d, .callv x args, g⟩ :: rest) K ts σ := by
  refine ml_any hw ?_
  unfold mstep
  simp only [hx]
  rw [ha]; exact hc.mono h

/-! ## The text's parts -/
def endsNL (s : ByteArray) : Bool := decide (1 ≤ s.size) && (s.data.toList.getD (s.size - 1) 0 == 10)
theorem ext_last (s : ByteArray) (h : 1 ≤ s.size) : (s.extract (s.size - 1) s.size).data.toList = [s.data.toList.getD (s.size - 1) 0] := by
  rw [ext_list]
  have hl : s.data.toList.length = s.size := Array.length_toList
  rw [List.drop_eq_getElem_cons (by omega), show s.size - (s.size - 1) = 1 by omega]
  rw [List.take_succ_cons, List.take_zero, List.getD_eq_getElem?_getD, List.getElem?_eq_getElem (show s.size - 1 < s.data.toList.length by omega)]
  rfl
theorem hasSuffix_c (s : ByteArray) (σ : H) (hl : s.size ≤ 1000000) : MCalls E Tryd.prog 78 [.string s, .string ⟨#[10]⟩] σ (fun v τ => v = .bool (endsNL s) ∧ τ = σ) := by
  refine mcalls_of fn78 (by simp) ?_
  unfold c78 r78
  have h1s : ((ByteArray.mk #[10]).size : Int) = 1 := rfl
  by_cases h : 1 ≤ s.size
  · have h' : (1 : Int) ≤ (s.size : Int) := by omega
    (have fx := And.intro h1s h'; refine stepR ?_; clear fx)
    refine ml_op (have fx := And.intro h1s h'; Sd) (o_slcS_lo (q := (s.size : Int) - 1) (k := .i64) Sd0 Sd0 (by omega) (by omega)) ?_
    have e : (s.extract ((s.size : Int) - 1).toNat s.size).toList = [s.data.toList.getD (s.size - 1) 0] := by
      rw [toList_data, ← ext_last s h]; congr 3; omega
    have e2 : (ByteArray.mk #[10]).toList = [10] := by rw [toList_data]
    (have fx := And.intro h1s (And.intro h' (And.intro e e2)); refine stepR ?_; clear fx)
    refine fin1 ⟨?_, rfl⟩
    simp only [endsNL, h, decide_true, Bool.true_and]
    simp only [go_sem, reduceIte, Nat.reduceEqDiff, reduceCtorEq, Nat.reduceAdd, Nat.reduceLeDiff, Int.reduceNeg, Int.reduceToNat, Int.reduceBEq, Int.reduceBNe, Int.reduceLT, Int.reduceLE, Int.reduceAdd, Int.reduceSub, e, e2]
    simp
  · have h0 : s.size = 0 := by omega
    have h' : ¬ (1 : Int) ≤ (s.size : Int) := by omega
    (have fx := And.intro h1s h'; refine stepR ?_; clear fx)
    refine fin1 ⟨?_, rfl⟩
    simp only [go_sem, reduceIte, Nat.reduceEqDiff, reduceCtorEq, Nat.reduceAdd, Nat.reduceLeDiff, Int.reduceNeg, Int.reduceToNat, Int.reduceBEq, Int.reduceBNe, Int.reduceLT, Int.reduceLE, Int.reduceAdd, Int.reduceSub, endsNL, h]
theorem slCut_c (s : ByteArray) (σ : H) (hl : s.size ≤ 1000000) : MCalls E Tryd.prog 60 [.string s, .string ⟨#[10]⟩] σ (fun v τ => v = .tuple #[.string (if endsNL s then s.extract 0 (s.size - 1) else s), .bool (endsNL s)] ∧ τ = σ) := by
  refine mcalls_of fn60 (by simp) ?_
  unfold c60 r60
  refine stepR0 ?_
  refine ml_call Sd0 Sd0 (hasSuffix_c s _ hl) ?_
  rintro _ τ ⟨rfl, rfl⟩
  have h1s : ((ByteArray.mk #[10]).size : Int) = 1 := rfl
  cases he : endsNL s
  · refine stepR0 ?_
    refine fin2 ⟨?_, rfl⟩
    simp only [go_sem, reduceIte, Nat.reduceEqDiff, reduceCtorEq, Nat.reduceAdd, Nat.reduceLeDiff, Int.reduceNeg, Int.reduceToNat, Int.reduceBEq, Int.reduceBNe, Int.reduceLT, Int.reduceLE, Int.reduceAdd, Int.reduceSub]
  · have h1 : 1 ≤ s.size := by
      simp only [endsNL, Bool.and_eq_true, decide_eq_true_eq] at he; exact he.1
    (have fx := h1s; refine stepR ?_; clear fx)
    refine ml_op Sd0 (o_slcS_hi (q := (s.size : Int) - 1) (k := .i64) Sd0 (have fx := h1s; Sd) (by omega) (by omega)) ?_
    rw [show ((s.size : Int) - 1).toNat = s.size - 1 by omega]
    refine stepR0 ?_
    refine fin2 ⟨?_, rfl⟩
    simp only [go_sem, reduceIte, Nat.reduceEqDiff, reduceCtorEq, Nat.reduceAdd, Nat.reduceLeDiff, Int.reduceNeg, Int.reduceToNat, Int.reduceBEq, Int.reduceBNe, Int.reduceLT, Int.reduceLE, Int.reduceAdd, Int.reduceSub]
theorem Cut_c (s : ByteArray) (σ : H) (hl : s.size ≤ 1000000) : MCalls E Tryd.prog 37 [.string s, .string ⟨#[10]⟩] σ (fun v τ => v = .tuple #[.string (if endsNL s then s.extract 0 (s.size - 1) else s), .bool (endsNL s)] ∧ τ = σ) := by
  refine mcalls_of fn37 (by simp) ?_
  unfold c37 r37
  refine stepR0 ?_
  refine ml_call Sd0 Sd0 (slCut_c s _ hl) ?_
  rintro _ τ ⟨rfl, rfl⟩
  refine stepR0 ?_
  exact fin2 ⟨Sd0, rfl⟩
end Go.Proofs.YtepjinaomedecaaDoor
/- grid.Parse, plainly: a text's lines and a map. -/
namespace Go.Proofs.YtepjinaomedecaaDoor
open Go.Lib
set_option linter.unusedVariables false
set_option linter.unusedSimpArgs false

def flatR (rows : List (List UInt8)) : List UInt8 := rows.flatMap (· ++ [10])
theorem flatR_cons (r : List UInt8) (rows : List (List UInt8)) : flatR (r :: rows) = r ++ 10 :: flatR rows := by simp [flatR]
theorem flatR_append (a b : List (List UInt8)) : flatR (a ++ b) = flatR a ++ flatR b := by simp [flatR]
theorem free_inj : ∀ {a b x y : List UInt8}, (10 : UInt8) ∉ a → (10 : UInt8) ∉ b → a ++ 10 :: x = b ++ 10 :: y → a = b ∧ x = y
  | [], [], _, _, _, _, h => by simpa using h
  | [], c :: b, _, _, _, hb, h => by simp at h; exact absurd h.1.symm (by rintro rfl; simp at hb)
  | c :: a, [], _, _, ha, _, h => by simp at h; exact absurd h.1 (by rintro rfl; simp at ha)
  | c :: a, d :: b, x, y, ha, hb, h => by
    simp only [List.cons_append, List.cons.injEq] at h
    obtain ⟨h1, h2⟩ := free_inj (a := a) (b := b) (fun m => ha (List.mem_cons_of_mem _ m)) (fun m => hb (List.mem_cons_of_mem _ m)) h.2
    exact ⟨by rw [h.1, h1], h2⟩
theorem flatR_nl {rows : List (List UInt8)} (h : flatR rows ≠ []) : (10 : UInt8) ∈ flatR rows := by
  cases rows with
  | nil => exact absurd rfl h
  | cons r rows => rw [flatR_cons]; simp
theorem flatR_nil {rows : List (List UInt8)} (h : flatR rows = []) : rows = [] := by
  cases rows with
  | nil => rfl
  | cons r rows => rw [flatR_cons] at h; simp at h
/-- The first rows are fixed. -/
theorem flatR_pre : ∀ {rows rows' : List (List UInt8)} {x : List UInt8}, (∀ r ∈ rows, (10 : UInt8) ∉ r) → (∀ r ∈ rows', (10 : UInt8) ∉ r) → flatR rows ++ x = flatR rows' → ∃ more, rows' = rows ++ more ∧ x = flatR more
  | [], rows', x, _, _, h => ⟨rows', rfl, by simpa [flatR] using h⟩
  | r :: rows, [], x, _, _, h => by rw [flatR_cons] at h; simp [flatR] at h
  | r :: rows, r' :: rows', x, h1, h2, h => by
    rw [flatR_cons, flatR_cons, List.append_assoc, List.cons_append] at h
    obtain ⟨rfl, h3⟩ := free_inj (h1 r (by simp)) (h2 r' (by simp)) h
    obtain ⟨more, rfl, hx⟩ := flatR_pre (fun q hq => h1 q (by simp [hq])) (fun q hq => h2 q (by simp [hq])) h3
    exact ⟨more, rfl, hx⟩

/-- A text is a right map's. -/
def Parsed (s : List UInt8) (W Hh : Int) (S : ByteArray) : Prop :=
  gr W Hh S = true ∧ ∃ rows, s = flatR rows ∧ (∀ r ∈ rows, (10 : UInt8) ∉ r ∧ (r.length : Int) = W) ∧ (rows.length : Int) = Hh ∧ S.data.toList = rows.flatten
/-- So much of a text has been read. -/
structure PSt (s rest : List UInt8) (rows : List (List UInt8)) (W : Int) (S : ByteArray) : Prop where
  txt : s = flatR rows ++ rest
  row : ∀ r ∈ rows, (10 : UInt8) ∉ r ∧ (r.length : Int) = W
  cells : S.data.toList = rows.flatten
  num : rows.length ≤ 8
  w0 : 0 ≤ W ∧ W ≤ s.length
section
variable {s rest : List UInt8} {rows : List (List UInt8)} {W : Int} {S : ByteArray}
theorem PSt.size (h : PSt s rest rows W S) : (S.size : Int) = W * rows.length := by
  have e : S.size = rows.flatten.length := by rw [← h.cells]; exact Array.length_toList.symm
  rw [e]
  have : ∀ l : List (List UInt8), (∀ r ∈ l, (r.length : Int) = W) → ((l.flatten.length : Nat) : Int) = W * l.length := by
    intro l
    induction l with
    | nil => simp
    | cons r l ih =>
      intro hl
      have := ih fun q hq => hl q (by simp [hq])
      have h1 := hl r (by simp)
      simp only [List.flatten_cons, List.length_append, List.length_cons, Int.natCast_add, this, h1, Int.mul_add, Int.mul_one, Int.natCast_one, Int.ofNat_one]
      omega
  exact this rows fun r hr => (h.row r hr).2
theorem PSt.start (s : List UInt8) : PSt s s [] 0 ⟨#[]⟩ := ⟨by simp [flatR], by simp, rfl, by simp, by simp⟩
/-- What another reading of the text has: these rows first. -/
theorem PSt.other (h : PSt s rest rows W S) {W' Hh' : Int} {S' : ByteArray} (hp : Parsed s W' Hh' S') :
    gr W' Hh' S' = true ∧ ∃ more, rest = flatR more ∧ (∀ r ∈ rows ++ more, (10 : UInt8) ∉ r ∧ (r.length : Int) = W') ∧ ((rows ++ more).length : Int) = Hh' ∧ S'.data.toList = (rows ++ more).flatten := by
  obtain ⟨hg, rows', h1, h2, h3, h4⟩ := hp
  rw [h.txt] at h1
  obtain ⟨more, rfl, hx⟩ := flatR_pre (fun r hr => (h.row r hr).1) (fun r hr => (h2 r hr).1) h1
  exact ⟨hg, more, hx, h2, h3, h4⟩
/-- A last line that isn't ended. -/
theorem PSt.open_ (h : PSt s rest rows W S) (hne : rest ≠ []) (hf : (10 : UInt8) ∉ rest) {W' Hh' : Int} {S' : ByteArray} : ¬ Parsed s W' Hh' S' := fun hp => by
  obtain ⟨_, more, rfl, _⟩ := h.other hp
  exact hf (flatR_nl hne)
/-- A row more. -/
theorem PSt.more (h : PSt s rest rows W S) {row rest' : List UInt8} (hr : rest = row ++ 10 :: rest') (hf : (10 : UInt8) ∉ row) (h1 : rows = [] ∨ (row.length : Int) = W) (h8 : rows.length < 8) {S2 : ByteArray} (hS : S2.data.toList = S.data.toList ++ row) :
    PSt s rest' (rows ++ [row]) row.length S2 := by
  refine ⟨by rw [h.txt, hr, flatR_append, flatR_cons]; simp [flatR], fun r hm => ?_, by rw [hS, h.cells]; simp, by simp; omega, by omega, ?_⟩
  · rcases List.mem_append.1 hm with hm | hm
    · rcases h1 with rfl | h1
      · cases hm
      · exact ⟨(h.row r hm).1, by rw [(h.row r hm).2, h1]⟩
    · simp at hm; subst hm; exact ⟨hf, rfl⟩
  · rw [h.txt, hr]; simp; omega
theorem PSt.bad (h : PSt s rest rows W S) {row rest' : List UInt8} (hr : rest = row ++ 10 :: rest') (hf : (10 : UInt8) ∉ row) (h1 : (rows ≠ [] ∧ (row.length : Int) ≠ W) ∨ rows.length = 8) {W' Hh' : Int} {S' : ByteArray} : ¬ Parsed s W' Hh' S' := fun hp => by
  obtain ⟨hg, more, hm, h2, h3, h4⟩ := h.other hp
  have hgs := gr_size hg
  cases more with
  | nil => rw [hr] at hm; simp [flatR] at hm
  | cons r more =>
    rw [hr, flatR_cons] at hm
    obtain ⟨rfl, _⟩ := free_inj hf (h2 r (by simp)).1 hm
    rcases h1 with ⟨hne, hw⟩ | h8
    · obtain ⟨q, l, rfl⟩ : ∃ q l, rows = q :: l := by cases rows with
        | nil => exact absurd rfl hne
        | cons q l => exact ⟨q, l, rfl⟩
      have e1 := (h.row q (by simp)).2
      have e2 := (h2 q (by simp)).2
      have e3 := (h2 row (by simp)).2
      omega
    · simp only [List.length_append, List.length_cons] at h3; omega
/-- All is read. -/
theorem PSt.done (h : PSt s [] rows W S) : (gr W rows.length S = true → Parsed s W rows.length S) ∧ ∀ {W' Hh' : Int} {S' : ByteArray}, Parsed s W' Hh' S' → gr W rows.length S = true := by
  refine ⟨fun hg => ⟨hg, rows, by rw [h.txt]; simp, h.row, rfl, h.cells⟩, fun {W' Hh' S'} hp => ?_⟩
  obtain ⟨hg, more, hm, h2, h3, h4⟩ := h.other hp
  have := flatR_nil hm.symm
  subst this
  rw [List.append_nil] at h2 h3 h4
  have hgs := gr_size hg
  obtain ⟨q, l, rfl⟩ : ∃ q l, rows = q :: l := by cases rows with
    | nil => simp at h3; omega
    | cons q l => exact ⟨q, l, rfl⟩
  have e1 := (h.row q (by simp)).2
  have e2 := (h2 q (by simp)).2
  have eS : S' = S := by
    have : S'.data.toList = S.data.toList := by rw [h4, h.cells]
    cases S; cases S'; simpa using this
  subst eS
  rw [h3, ← e1, e2]; exact hg
end
theorem indexByte_cases (l : List UInt8) : (Lib.indexByte l 10 = -1 ∧ (10 : UInt8) ∉ l) ∨ ∃ o : Nat, Lib.indexByte l 10 = o ∧ o < l.length ∧ l = l.take o ++ 10 :: l.drop (o + 1) ∧ (10 : UInt8) ∉ l.take o := by
  induction l with
  | nil => exact .inl ⟨rfl, by simp⟩
  | cons b l ih =>
    unfold Lib.indexByte
    by_cases hb : b = 10
    · subst hb; exact .inr ⟨0, by simp, by simp, by simp, by simp⟩
    · rw [if_neg (by simpa using hb)]
      rcases ih with ⟨h1, h2⟩ | ⟨o, h1, h2, h3, h4⟩
      · refine .inl ⟨by rw [h1]; rfl, ?_⟩
        simp only [List.mem_cons, not_or]; exact ⟨Ne.symm hb, h2⟩
      · refine .inr ⟨o + 1, ?_, by simp; omega, ?_, ?_⟩
        · rw [h1, if_neg (by simp; try omega)]; try omega
        · simp only [List.take_succ_cons, List.drop_succ_cons, List.cons_append, List.cons.injEq, true_and]; exact h3
        · simp only [List.take_succ_cons, List.mem_cons, not_or]; exact ⟨Ne.symm hb, h4⟩
end Go.Proofs.YtepjinaomedecaaDoor
