import Derived.Test.YtgfmphjccnemmaaDoorSafeL
namespace Go.Proofs.YtgfmphjccnemmaaDoor
open Go.Mini
open Go.Proofs.YtgfmphjccnemmaaDoor.Code
set_option linter.unusedVariables false
set_option linter.unusedSimpArgs false
set_option linter.ambiguousOpen false
attribute [local irreducible] mx ml mld mstep MCalls Ex.thn Ex.inb

theorem eqCells_refl : ∀ (n : Nat) (a : List Nat), a.length = n → eqCells (List.replicate n .int) (offC a) (offC a) = some true
  | 0, [], _ => rfl
  | n + 1, b :: a, h => by
    simp only [List.replicate_succ, offC, List.map_cons, eqCells, eqCell, beq_self_eq_true, if_true]
    exact eqCells_refl n a (by simpa using h)
theorem o_eqOff {ts : Fr} {σ : H} {x y : Opd} {a : List Nat} (hx : mev ts x = offV a) (hy : mev ts y = offV a) (ha : a.length = 8) : mop ts σ (.eqA false [.int, .int, .int, .int, .int, .int, .int, .int] x y) = some (.bool true, σ) := by
  have := eqCells_refl 8 a ha
  simp only [List.replicate_succ, List.replicate_zero] at this
  simp only [mop, hx, hy, offV, Value.cells, List.toList_toArray, this, Option.map_some]
  rw [if_pos ⟨by rw [offC_len, ha]; rfl, by rw [offC_len, ha]; rfl⟩]; rfl

theorem getD_set8 (o : List Nat) (i m c : Nat) (hi : i < o.length) : (o.set i c).getD m 0 = if m = i then c else o.getD m 0 := getD_set o i m c 0 hi
theorem turn_nat (o : List Nat) (c : Nat) (hc : c < 64) (is : Bool) : turn o c is = o.set (c / 8) (if is then o.getD (c / 8) 0 ||| 2 ^ (c % 8) else o.getD (c / 8) 0 &&& (255 - 2 ^ (c % 8))) := by
  unfold turn; rw [if_pos ⟨by omega, by omega⟩, Int.toNat_natCast]
theorem bit_andNot (b k i : Nat) (hk : k < 8) (hi : i < 8) : (b &&& (255 - 2 ^ k)).testBit i = (b.testBit i && !decide (k = i)) := by
  have h : 255 - 2 ^ k = 2 ^ 8 - (2 ^ k + 1) := by omega
  rw [Nat.testBit_and, h, Nat.testBit_two_pow_sub_succ (by have := pow8 hk; omega), Nat.testBit_two_pow]
  simp [hi]
theorem bit_or (b k i : Nat) : (b ||| 2 ^ k).testBit i = (b.testBit i || decide (k = i)) := by
  rw [Nat.testBit_or, Nat.testBit_two_pow]
theorem byte_ext {a b : Nat} (ha : a < 256) (hb : b < 256) (h : ∀ i, i < 8 → a.testBit i = b.testBit i) : a = b := by
  apply Nat.eq_of_testBit_eq
  intro i
  by_cases hi : i < 8
  · exact h i hi
  · have hp : 256 ≤ 2 ^ i := by
      have : 2 ^ 8 ≤ 2 ^ i := Nat.pow_le_pow_right (by omega) (by omega)
      omega
    rw [Nat.testBit_lt_two_pow (by omega), Nat.testBit_lt_two_pow (by omega)]
/-- What is off behind a turn. -/
theorem isOff_turn {o : List Nat} (hl : o.length = 8) {c i : Nat} (hc : c < 64) (hi : i < 64) (is : Bool) : isOff (turn o c is) i = if i = c then is else isOff o i := by
  rw [turn_nat o c hc]
  unfold isOff
  rw [getD_set8 _ _ _ _ (by omega)]
  have h8 : c % 8 < 8 := Nat.mod_lt _ (by omega)
  have i8 : i % 8 < 8 := Nat.mod_lt _ (by omega)
  by_cases h : i / 8 = c / 8
  · rw [if_pos h, h]
    by_cases e : i = c
    · subst e
      rw [if_pos rfl]
      cases is
      · simp only [Bool.false_eq_true, if_false]; rw [bit_andNot _ _ _ h8 i8]; simp
      · simp only [if_true]; rw [bit_or]; simp
    · rw [if_neg e]
      have hne : ¬ c % 8 = i % 8 := by omega
      cases is
      · simp only [Bool.false_eq_true, if_false]; rw [bit_andNot _ _ _ h8 i8]; simp [hne]
      · simp only [if_true]; rw [bit_or]; simp [hne]
  · rw [if_neg h]
    rw [if_neg (fun e => h (by rw [e]))]
/-- Two rows of bytes that tell the same of each cell are one. -/
theorem offs_ext {a b : List Nat} (ha : a.length = 8) (hb : b.length = 8) (la : ∀ x ∈ a, x < 256) (lb : ∀ x ∈ b, x < 256) (h : ∀ i, i < 64 → isOff a i = isOff b i) : a = b := by
  apply List.ext_getElem?
  intro m
  by_cases hm : m < 8
  · have : a.getD m 0 = b.getD m 0 := byte_ext (getD_lt la m) (getD_lt lb m) fun i hi => by
      have := h (m * 8 + i) (by omega)
      unfold isOff at this
      rw [show (m * 8 + i) / 8 = m by omega, show (m * 8 + i) % 8 = i by omega] at this
      exact this
    rw [List.getD_eq_getElem?_getD, List.getD_eq_getElem?_getD, List.getElem?_eq_getElem (by omega), List.getElem?_eq_getElem (by omega)] at this
    rw [List.getElem?_eq_getElem (by omega), List.getElem?_eq_getElem (by omega)]
    simpa using this
  · rw [List.getElem?_eq_none (by omega), List.getElem?_eq_none (by omega)]

theorem rowC8 {o : List Nat} (h : o.length = 8) : rowL (offC o) 0 8 = some (offC o) := rowC (by rw [offC_len]; exact h)
theorem safeTurns_c {σ : H} {o : List Nat} (hl : o.length = 8) (ho : ∀ b ∈ o, b < 256) (c k : Nat) (hc : c < 256) (hk : k < 256) :
    MCalls Tryd.prog 5 [offV o, .int .u8 c, .int .u8 k] σ (fun v _ => v = .bool true) := by
  refine mcalls_of fn5 (by simp) ?_
  unfold c5 r5 offV
  have hci : (c : Int).tmod 64 = ((c % 64 : Nat) : Int) := by rw [Int.ofNat_tmod]; rfl
  have hki : (k : Int).tmod 64 = ((k % 64 : Nat) : Int) := by rw [Int.ofNat_tmod]; rfl
  have hi : c % 64 < 64 := Nat.mod_lt _ (by omega)
  have hj : k % 64 < 64 := Nat.mod_lt _ (by omega)
  generalize c % 64 = i at hci hi
  generalize k % 64 = j at hki hj
  refine stepR0 ?_
  generalize hτ : H.push _ _ = τ
  have g0 : τ.get σ.size = .cells 0 (offC o) := by rw [← hτ]; exact H.get_push_self _ _
  clear hτ
  generalize σ.size = id0 at g0
  -- a
  refine ml_loadN Sd0 Sd0 (row_of g0 (rowC8 hl)) ?_
  (have fx := And.intro hci hki; refine stepR ?_; clear fx)
  refine ml_call Sd0 Sd0 (turn_c hl ho i true) ?_
  rintro _ τ1 ⟨rfl, e1⟩
  have la := (turn_len o i true).trans hl
  have ha := turn_lt ho i true
  refine stepR0 ?_
  refine ml_init (vs := offC (turn o i true)) Sd0 Sd0 Sd0 (by rw [offC_len, la]) rfl (offC_one _) fun τ2 e2 ga => ?_
  generalize hA : turn o i true = A at la ha ga
  have g02 := (e1.trans e2).cells g0
  generalize τ1.size = ida at ga
  -- b
  refine stepR0 ?_
  refine ml_loadN Sd0 Sd0 (row_of ga (rowC8 la)) ?_
  (have fx := hci; refine stepR ?_; clear fx)
  refine ml_call Sd0 Sd0 (turn_c la ha i false) ?_
  rintro _ τ3 ⟨rfl, e3⟩
  have lb := (turn_len A i false).trans la
  have hb := turn_lt ha i false
  refine stepR0 ?_
  refine ml_init (vs := offC (turn A i false)) Sd0 Sd0 Sd0 (by rw [offC_len, lb]) rfl (offC_one _) fun τ4 e4 gb => ?_
  generalize hB : turn A i false = B at lb hb gb
  have e24 := e3.trans e4
  have g04 := e24.cells g02
  have ga4 := e24.cells ga
  generalize τ3.size = idb at gb
  -- x
  refine stepR0 ?_
  refine ml_loadN Sd0 Sd0 (row_of g04 (rowC8 hl)) ?_
  (have fx := hci; refine stepR ?_; clear fx)
  refine ml_call Sd0 Sd0 (turn_c hl ho i true) ?_
  rintro _ τ5 ⟨rfl, e5⟩
  rw [hA]
  (have fx := hki; refine stepR ?_; clear fx)
  refine ml_call Sd0 Sd0 (turn_c la ha j false) ?_
  rintro _ τ6 ⟨rfl, e6⟩
  have lx := (turn_len A j false).trans la
  have hx := turn_lt ha j false
  refine stepR0 ?_
  refine ml_init (vs := offC (turn A j false)) Sd0 Sd0 Sd0 (by rw [offC_len, lx]) rfl (offC_one _) fun τ7 e7 gx => ?_
  generalize hX : turn A j false = X at lx hx gx
  have e47 := e5.trans (e6.trans e7)
  have g07 := e47.cells g04
  have ga7 := e47.cells ga4
  have gb7 := e47.cells gb
  generalize τ6.size = idx at gx
  -- y
  refine stepR0 ?_
  refine ml_loadN Sd0 Sd0 (row_of g07 (rowC8 hl)) ?_
  (have fx := hki; refine stepR ?_; clear fx)
  refine ml_call Sd0 Sd0 (turn_c hl ho j false) ?_
  rintro _ τ8 ⟨rfl, e8⟩
  have lo2 := (turn_len o j false).trans hl
  have ho2 := turn_lt ho j false
  (have fx := hci; refine stepR ?_; clear fx)
  refine ml_call Sd0 Sd0 (turn_c lo2 ho2 i true) ?_
  rintro _ τ9 ⟨rfl, e9⟩
  have ly := (turn_len (turn o j false) i true).trans lo2
  have hy := turn_lt ho2 i true
  refine stepR0 ?_
  refine ml_init (vs := offC (turn (turn o j false) i true)) Sd0 Sd0 Sd0 (by rw [offC_len, ly]) rfl (offC_one _) fun τa ea gy => ?_
  generalize hY : turn (turn o j false) i true = Y at ly hy gy
  have e7a := e8.trans (e9.trans ea)
  have gaa := e7a.cells ga7
  have gba := e7a.cells gb7
  have gxa := e7a.cells gx
  generalize τ9.size = idy at gy
  -- what they are
  have hBA : turn B i true = A := offs_ext ((turn_len B i true).trans lb) la (turn_lt hb i true) ha fun m hm => by
    rw [isOff_turn lb hi hm, ← hB, isOff_turn la hi hm, ← hA, isOff_turn hl hi hm]
    by_cases e : m = i <;> simp [e]
  have hAA : turn A i true = A := offs_ext ((turn_len A i true).trans la) la (turn_lt ha i true) ha fun m hm => by
    rw [isOff_turn la hi hm, ← hA, isOff_turn hl hi hm]
    by_cases e : m = i <;> simp [e]
  have hXY : i ≠ j → X = Y := fun hne => offs_ext lx ly hx hy fun m hm => by
    rw [← hX, ← hY, isOff_turn la hj hm, ← hA, isOff_turn hl hi hm, isOff_turn lo2 hi hm, isOff_turn hl hj hm]
    by_cases e : m = i
    · subst e; rw [if_neg hne]; simp
    · simp [e]
  -- the answer
  refine stepR0 ?_
  refine mld_callW Sd0 Sd0 (sAwake_c τa) ?_
  rintro _ τb ⟨rfl, eb⟩
  have gab := eb.cells gaa
  have gbb := eb.cells gba
  have gxb := eb.cells gxa
  have gyb := eb.cells gy
  refine stepR0 ?_
  refine mld_loadN Sd0 Sd0 (row_of gbb (rowC8 lb)) ?_
  (have fx := hci; refine stepR ?_; clear fx)
  refine mld_loadN Sd0 Sd0 (row_of gab (rowC8 la)) ?_
  refine stepR0 ?_
  refine mld_call Sd0 Sd0 (turn_c lb hb i true) (fun _ _ h => h.2) ?_
  rintro _ τc ⟨rfl, ec⟩
  rw [hBA]
  have gac := ec.cells gab
  have gxc := ec.cells gxb
  have gyc := ec.cells gyb
  refine mld_op Sd0 (o_eqOff (a := A) Sd0 Sd0 la) ?_
  refine stepR0 ?_
  refine mld_loadN Sd0 Sd0 (row_of gac (rowC8 la)) ?_
  (have fx := hci; refine stepR ?_; clear fx)
  refine mld_loadN Sd0 Sd0 (row_of gac (rowC8 la)) ?_
  refine stepR0 ?_
  refine mld_call Sd0 Sd0 (turn_c la ha i true) (fun _ _ h => h.2) ?_
  rintro _ τd ⟨rfl, ed⟩
  rw [hAA]
  have gxd := ed.cells gxc
  have gyd := ed.cells gyc
  refine mld_op Sd0 (o_eqOff (a := A) Sd0 Sd0 la) ?_
  by_cases hij : i = j
  · have hij' : ((i : Int) == (j : Int)) = true := by rw [hij]; exact beq_self_eq_true _
    (have fx := And.intro hci (And.intro hki hij'); refine stepR ?_; clear fx)
    exact fin1 Sd0
  · have hij' : ((i : Int) == (j : Int)) = false := beq_eq_false_iff_ne.2 (fun e => hij (Int.ofNat.inj e))
    obtain rfl := hXY hij
    (have fx := And.intro hci (And.intro hki hij'); refine stepR ?_; clear fx)
    refine mld_loadN (have fx := hij'; Sd) Sd0 (row_of gxd (rowC8 lx)) ?_
    (have fx := hij'; refine stepR ?_; clear fx)
    refine mld_loadN (have fx := hij'; Sd) Sd0 (row_of gyd (rowC8 lx)) ?_
    (have fx := hij'; refine stepR ?_; clear fx)
    refine mld_op (have fx := hij'; Sd) (o_eqOff (a := X) Sd0 Sd0 lx) ?_
    (have fx := hij'; refine stepR ?_; clear fx)
    exact fin1 Sd0
end Go.Proofs.YtgfmphjccnemmaaDoor
