/- Requests, plainly. -/
import Derived.Lib.SplitLaws
import Derived.Lib.CountLaws
import Derived.Lib.IndexBytes
import Derived.Lib.IndexLaws
import Derived.Lib.ItoaNum
import Derived.Lib.AtoiTie
namespace Go.Proofs.YtepjinaomedecaaDoor
open Go.Lib
set_option linter.unusedVariables false
set_option linter.unusedSimpArgs false

/-! ## Words -/
def joinW (w : List UInt8) (ws : List (List UInt8)) : List UInt8 := w ++ ws.flatMap (fun x => 32 :: x)
theorem free32 : ∀ {a b x y : List UInt8}, (32 : UInt8) ∉ a → (32 : UInt8) ∉ b → a ++ 32 :: x = b ++ 32 :: y → a = b ∧ x = y
  | [], [], _, _, _, _, h => by simpa using h
  | [], c :: b, _, _, _, hb, h => by simp at h; exact absurd h.1.symm (by rintro rfl; simp at hb)
  | c :: a, [], _, _, ha, _, h => by simp at h; exact absurd h.1 (by rintro rfl; simp at ha)
  | c :: a, d :: b, x, y, ha, hb, h => by
    simp only [List.cons_append, List.cons.injEq] at h
    obtain ⟨h1, h2⟩ := free32 (a := a) (b := b) (fun m => ha (List.mem_cons_of_mem _ m)) (fun m => hb (List.mem_cons_of_mem _ m)) h.2
    exact ⟨by rw [h.1, h1], h2⟩
theorem joinW_inj : ∀ {ws ws' : List (List UInt8)} {w w' : List UInt8}, (32 : UInt8) ∉ w → (32 : UInt8) ∉ w' → (∀ x ∈ ws, (32 : UInt8) ∉ x) → (∀ x ∈ ws', (32 : UInt8) ∉ x) → joinW w ws = joinW w' ws' → w = w' ∧ ws = ws'
  | [], [], w, w', _, _, _, _, h => by simpa [joinW] using h
  | [], x :: ws', w, w', h1, _, _, _, h => by
    simp only [joinW, List.flatMap_nil, List.append_nil, List.flatMap_cons] at h
    exact absurd (by rw [h]; simp) h1
  | x :: ws, [], w, w', _, h2, _, _, h => by
    simp only [joinW, List.flatMap_nil, List.append_nil, List.flatMap_cons] at h
    exact absurd (by rw [← h]; simp) h2
  | x :: ws, x' :: ws', w, w', h1, h2, h3, h4, h => by
    simp only [joinW, List.flatMap_cons, List.cons_append] at h
    obtain ⟨rfl, h5⟩ := free32 h1 h2 h
    obtain ⟨rfl, rfl⟩ := joinW_inj (h3 x (by simp)) (h4 x' (by simp)) (fun y hy => h3 y (by simp [hy])) (fun y hy => h4 y (by simp [hy])) h5
    exact ⟨rfl, rfl⟩
def spB : ByteArray := ⟨#[32]⟩
theorem index_sp (s : ByteArray) : indexB s spB = indexByte s.data.toList 32 := by
  rw [Lib.one s spB rfl]; rfl
theorem ext_list' (s : ByteArray) (a b : Nat) : (s.extract a b).data.toList = (s.data.toList.drop a).take (b - a) := by
  rw [ByteArray.data_extract, Array.toList_extract, List.extract_eq_take_drop]
/-- What Split at a blank comes to. -/
theorem split_sp : ∀ (k : Nat) (s : ByteArray), countB s spB = k → ∃ w ws, (splitB spB 0 k s).map (·.data.toList) = w :: ws ∧ s.data.toList = joinW w ws ∧ (32 : UInt8) ∉ w ∧ ∀ x ∈ ws, (32 : UInt8) ∉ x
  | 0, s, h => by
    refine ⟨s.data.toList, [], rfl, by simp [joinW], fun hm => ?_, fun x hx => (by cases hx)⟩
    rcases indexB_cases s spB with h1 | ⟨i, h1, _⟩
    · rw [index_sp] at h1
      obtain ⟨j, hj⟩ := List.getElem?_of_mem hm
      exact indexByte_none h1 j hj
    · rw [countB_hit s spB i (by decide) h1] at h; omega
  | k + 1, s, h => by
    rcases indexB_cases s spB with h1 | ⟨i, h1, hi⟩
    · rw [countB_miss s spB h1] at h; omega
    · have h2 := h
      rw [countB_hit s spB i (by decide) h1] at h2
      have hsz : spB.size = 1 := rfl
      rw [hsz] at h2 hi
      obtain ⟨w, ws, h3, h4, h5, h6⟩ := split_sp k (s.extract (i + 1) s.size) (by omega)
      have hlen : s.data.toList.length = s.size := Array.length_toList
      have h7 := h1
      rw [index_sp] at h7
      obtain ⟨h8, h9⟩ := indexByte_some h7
      refine ⟨s.data.toList.take i, w :: ws, ?_, ?_, fun hm => ?_, fun x hx => ?_⟩
      · rw [splitB_hit spB 0 k s i h1, List.map_cons, hsz, h3, ext_list', Nat.add_zero, Nat.sub_zero, List.drop_zero]
      · rw [ext_list', List.take_of_length_le (by rw [List.length_drop, hlen]; exact Nat.le_refl _)] at h4
        have : joinW (s.data.toList.take i) (w :: ws) = s.data.toList.take i ++ 32 :: joinW w ws := by simp [joinW]
        rw [this, ← h4]
        have h10 : i < s.data.toList.length := by omega
        have h11 : s.data.toList[i] = 32 := by rw [List.getElem?_eq_getElem h10] at h8; exact Option.some.inj h8
        conv => lhs; rw [← List.take_append_drop i s.data.toList]
        rw [List.drop_eq_getElem_cons h10, h11]
      · obtain ⟨j, hj⟩ := List.getElem?_of_mem hm
        rw [List.getElem?_take] at hj
        split at hj
        · rename_i hji; exact h9 j hji hj
        · cases hj
      · rcases List.mem_cons.1 hx with rfl | hx
        · exact h5
        · exact h6 x hx

/-! ## Numbers -/
def od (d : Nat) : UInt8 := UInt8.ofNat (48 + d)
theorem od_nat {d : Nat} (h : d < 10) : (od d).toNat = 48 + d := by
  unfold od; rw [UInt8.toNat_ofNat']; omega
theorem dec3 {n : Nat} (h : n ≤ 999) : decDigits n = if n < 10 then [od n] else if n < 100 then [od (n / 10), od (n % 10)] else [od (n / 10 / 10), od (n / 10 % 10), od (n % 10)] := by
  by_cases h1 : n < 10
  · rw [if_pos h1, decDigits_one h1]; rfl
  · rw [if_neg h1]
    by_cases h2 : n < 100
    · rw [if_pos h2, decDigits_two h1 h2]; rfl
    · rw [if_neg h2, decDigits, dif_neg h1, decDigits_two (by omega) (by omega)]; rfl
theorem dv_od {d : Nat} (h : d < 10) : digitVal (od d) = some d := by
  unfold digitVal; rw [od_nat h, if_pos (by omega)]; simp
theorem od_ne {d : Nat} (h : d < 10) : od d ≠ 32 ∧ od d ≠ 10 ∧ od d ≠ 45 ∧ od d ≠ 43 := by
  refine ⟨?_, ?_, ?_, ?_⟩ <;> (intro e; have := congrArg UInt8.toNat e; rw [od_nat h] at this; revert this; simp; try omega)
theorem dec_mem {n : Nat} (h : n ≤ 999) {c : UInt8} (hc : c ∈ decDigits n) : ∃ d, d < 10 ∧ c = od d := by
  rw [dec3 h] at hc
  split at hc
  · simp at hc; exact ⟨n, by omega, hc⟩
  · split at hc
    · simp at hc
      rcases hc with hc | hc
      · exact ⟨_, by omega, hc⟩
      · exact ⟨_, by omega, hc⟩
    · simp at hc
      rcases hc with hc | hc | hc
      · exact ⟨_, by omega, hc⟩
      · exact ⟨_, by omega, hc⟩
      · exact ⟨_, by omega, hc⟩
theorem dec_no {n : Nat} (h : n ≤ 999) : (32 : UInt8) ∉ decDigits n ∧ (10 : UInt8) ∉ decDigits n := by
  refine ⟨fun hc => ?_, fun hc => ?_⟩ <;> (obtain ⟨d, hd, e⟩ := dec_mem h hc; have := od_ne hd; simp_all)
theorem dec_len {n : Nat} (h : n ≤ 999) : (decDigits n).length ≤ 3 := by
  rw [dec3 h]; split
  · simp
  · split <;> simp
theorem atoi_dec {n : Nat} (h : n ≤ 999) : atoi (decDigits n) = some (n : Int) := by
  have nat : decNat (decDigits n) = some n := by
    rw [dec3 h]
    split
    · rename_i h1
      simp [decNat, decFrom, dv_od h1]
    · split
      · simp only [decNat, List.isEmpty_cons, Bool.false_eq_true, if_false, decFrom, dv_od (show n / 10 < 10 by omega), dv_od (show n % 10 < 10 by omega)]
        congr 1; omega
      · simp only [decNat, List.isEmpty_cons, Bool.false_eq_true, if_false, decFrom, dv_od (show n / 10 / 10 < 10 by omega), dv_od (show n / 10 % 10 < 10 by omega), dv_od (show n % 10 < 10 by omega)]
        congr 1; omega
  cases hd : decDigits n with
  | nil => rw [hd] at nat; simp [decNat] at nat
  | cons b r =>
    obtain ⟨d, hd1, e⟩ := dec_mem h (c := b) (by rw [hd]; simp)
    have := od_ne hd1
    rw [hd] at nat
    simp only [atoi]
    rw [if_neg (by rw [e, beq_iff_eq]; exact this.2.2.1), if_neg (by rw [e, beq_iff_eq]; exact this.2.2.2), nat]; rfl
theorem atoiAll_dec {n : Nat} (h : n ≤ 999) : atoiAll (decDigits n) = .ok (n : Int) := by
  rw [atoiAll_short _ (by have := dec_len h; omega), atoi_dec h]; rfl
theorem itoa_nat (n : Nat) : itoa (n : Int) = decDigits n := by
  unfold itoa; rw [if_neg (by omega), Int.toNat_natCast]
theorem dec_inj {n m : Nat} (hn : n ≤ 999) (hm : m ≤ 999) (h : decDigits n = decDigits m) : n = m := by
  have := atoi_dec hn
  rw [h, atoi_dec hm] at this
  injection this with this; omega
/-- A word is a number's. -/
def isNum (w : List UInt8) (n : Nat) : Prop := n ≤ 999 ∧ w = decDigits n

/-! ## Acts -/
def needsL (nm : List UInt8) : Option (List UInt8) :=
  if nm = [114, 111, 98, 111, 116] then some [97, 98, 99] else if nm = [116, 97, 115, 107] then some [97, 98, 99] else if nm = [111, 102, 102] then some [98] else if nm = [111, 110] then some [98]
  else if nm = [116, 101, 108, 108] then some [97, 98] else if nm = [116, 105, 99, 107] then some [] else none
theorem needs_what {nm what : List UInt8} (h : needsL nm = some what) : (what = [97, 98, 99] ∨ what = [98] ∨ what = [97, 98] ∨ what = []) ∧ (32 : UInt8) ∉ nm ∧ nm.length ≤ 5 := by
  unfold needsL at h
  repeat' split at h
  all_goals cases h
  all_goals (rename_i e; subst e; exact ⟨by simp, by decide, by decide⟩)
def valOf (a b c : Int) (ch : UInt8) : Int := if ch = 97 then a else if ch = 98 then b else c
def wordsOf (what : List UInt8) (a b c : Int) : List (List UInt8) := what.map fun ch => decDigits (valOf a b c ch).toNat
def RightV (what : List UInt8) (ch : UInt8) (v : Int) : Prop := (ch ∈ what → 0 ≤ v ∧ v ≤ 999) ∧ (ch ∉ what → v = 0)
structure RightA (nm : ByteArray) (a b c : Int) (what : List UInt8) : Prop where
  needs : needsL nm.data.toList = some what
  a : RightV what 97 a
  b : RightV what 98 b
  c : RightV what 99 c
def layL (nm : ByteArray) (a b c : Int) (what : List UInt8) : List UInt8 := joinW nm.data.toList (wordsOf what a b c) ++ [10]
/-- A line is an act's. -/
def ReqOf (line : List UInt8) (nm : ByteArray) (a b c : Int) : Prop := ∃ what, RightA nm a b c what ∧ line = layL nm a b c what
theorem RightA.val {nm : ByteArray} {a b c : Int} {what : List UInt8} (h : RightA nm a b c what) {ch : UInt8} (hc : ch ∈ what) : 0 ≤ valOf a b c ch ∧ valOf a b c ch ≤ 999 := by
  have hw := (needs_what h.needs).1
  have h1 := h.a.1; have h2 := h.b.1; have h3 := h.c.1
  rcases hw with rfl | rfl | rfl | rfl <;> simp at hc
  · rcases hc with rfl | rfl | rfl
    · exact h1 (by simp)
    · exact h2 (by simp)
    · exact h3 (by simp)
  · subst hc; exact h2 (by simp)
  · rcases hc with rfl | rfl
    · exact h1 (by simp)
    · exact h2 (by simp)
theorem RightA.no32 {nm : ByteArray} {a b c : Int} {what : List UInt8} (h : RightA nm a b c what) : ∀ x ∈ wordsOf what a b c, (32 : UInt8) ∉ x := fun x hx => by
  obtain ⟨ch, hc, rfl⟩ := List.mem_map.1 hx
  have := h.val hc
  exact (dec_no (by omega)).1
/-- What a line that is an act's is made of. -/
theorem req_words {line : List UInt8} {nm : ByteArray} {a b c : Int} (h : ReqOf line nm a b c) {w : List UInt8} {ws : List (List UInt8)} (hl : line = joinW w ws ++ [10]) (h1 : (32 : UInt8) ∉ w) (h2 : ∀ x ∈ ws, (32 : UInt8) ∉ x) :
    ∃ what, RightA nm a b c what ∧ nm.data.toList = w ∧ ws = wordsOf what a b c := by
  obtain ⟨what, hr, hl2⟩ := h
  rw [hl] at hl2
  unfold layL at hl2
  have := List.append_cancel_right hl2
  obtain ⟨rfl, rfl⟩ := joinW_inj h1 (needs_what hr.needs).2.1 h2 hr.no32 this
  exact ⟨what, hr, rfl, rfl⟩
theorem ba_ext' {a b : ByteArray} (h : a.data.toList = b.data.toList) : a = b := by cases a; cases b; congr 1; exact Array.ext' h
theorem req_uniq {line : List UInt8} {nm nm' : ByteArray} {a b c a' b' c' : Int} (h : ReqOf line nm a b c) (h' : ReqOf line nm' a' b' c') : nm = nm' ∧ a = a' ∧ b = b' ∧ c = c' := by
  obtain ⟨what, hr, hl⟩ := h
  obtain ⟨what', hr', hn, hw⟩ := req_words h' hl (needs_what hr.needs).2.1 hr.no32
  have hn' := hr'.needs
  rw [hn, hr.needs] at hn'
  obtain rfl := Option.some.inj hn'
  refine ⟨ba_ext' hn.symm, ?_⟩
  have key : ∀ ch ∈ what, valOf a b c ch = valOf a' b' c' ch := fun ch hc => by
    have h1 := hr.val hc; have h2 := hr'.val hc
    have : decDigits (valOf a b c ch).toNat = decDigits (valOf a' b' c' ch).toNat := by
      unfold wordsOf at hw
      exact List.map_inj_left.1 hw ch hc
    have := dec_inj (by omega) (by omega) this
    omega
  have z : ∀ (ch : UInt8) (v v' : Int), RightV what ch v → RightV what ch v' → (ch ∈ what → v = v') → v = v' := fun ch v v' h1 h2 h3 => by
    by_cases hc : ch ∈ what
    · exact h3 hc
    · rw [h1.2 hc, h2.2 hc]
  exact ⟨z 97 _ _ hr.a hr'.a fun h => key 97 h, z 98 _ _ hr.b hr'.b fun h => key 98 h, z 99 _ _ hr.c hr'.c fun h => key 99 h⟩

/-! ## What is put together while a line is read -/
def setV (s : Int × Int × Int) (ch : UInt8) (v : Int) : Int × Int × Int := if ch = 97 then (v, s.2.1, s.2.2) else if ch = 98 then (s.1, v, s.2.2) else (s.1, s.2.1, v)
def put (what : List UInt8) (vals : List Nat) : Int × Int × Int := (what.zip vals).foldl (fun s p => setV s p.1 (p.2 : Int)) (0, 0, 0)
theorem zip_snoc {α β : Type} : ∀ {l : List α} {m : List β} {b : β} (h : m.length < l.length), l.zip (m ++ [b]) = l.zip m ++ [(l[m.length], b)]
  | [], _, _, h => by simp at h
  | x :: l, [], b, _ => by simp
  | x :: l, y :: m, b, h => by
    simp only [List.cons_append, List.zip_cons_cons, List.length_cons, List.getElem_cons_succ]
    rw [zip_snoc (l := l) (m := m) (b := b) (by simpa using h)]
theorem put_snoc {what : List UInt8} {vals : List Nat} {n : Nat} (h : vals.length < what.length) : put what (vals ++ [n]) = setV (put what vals) what[vals.length] (n : Int) := by
  unfold put
  rw [zip_snoc h, List.foldl_append]; rfl
theorem put_right {nm : ByteArray} {what : List UInt8} {vals : List Nat} (hn : needsL nm.data.toList = some what) (hl : vals.length = what.length) (hv : ∀ v ∈ vals, v ≤ 999) :
    RightA nm (put what vals).1 (put what vals).2.1 (put what vals).2.2 what ∧ wordsOf what (put what vals).1 (put what vals).2.1 (put what vals).2.2 = vals.map decDigits := by
  rcases (needs_what hn).1 with rfl | rfl | rfl | rfl
  · match vals, hl with
    | [x, y, z], _ =>
      have h1 := hv x (by simp); have h2 := hv y (by simp); have h3 := hv z (by simp)
      exact ⟨⟨hn, ⟨fun _ => by simp [put, setV]; omega, fun h => absurd (by simp) h⟩, ⟨fun _ => by simp [put, setV]; omega, fun h => absurd (by simp) h⟩, ⟨fun _ => by simp [put, setV]; omega, fun h => absurd (by simp) h⟩⟩, by simp [wordsOf, valOf, put, setV]⟩
  · match vals, hl with
    | [x], _ =>
      have h1 := hv x (by simp)
      exact ⟨⟨hn, ⟨fun h => absurd h (by simp), fun _ => by simp [put, setV]⟩, ⟨fun _ => by simp [put, setV]; omega, fun h => absurd (by simp) h⟩, ⟨fun h => absurd h (by simp), fun _ => by simp [put, setV]⟩⟩, by simp [wordsOf, valOf, put, setV]⟩
  · match vals, hl with
    | [x, y], _ =>
      have h1 := hv x (by simp); have h2 := hv y (by simp)
      exact ⟨⟨hn, ⟨fun _ => by simp [put, setV]; omega, fun h => absurd (by simp) h⟩, ⟨fun _ => by simp [put, setV]; omega, fun h => absurd (by simp) h⟩, ⟨fun h => absurd h (by simp), fun _ => by simp [put, setV]⟩⟩, by simp [wordsOf, valOf, put, setV]⟩
  · match vals, hl with
    | [], _ => exact ⟨⟨hn, ⟨fun h => absurd h (by simp), fun _ => rfl⟩, ⟨fun h => absurd h (by simp), fun _ => rfl⟩, ⟨fun h => absurd h (by simp), fun _ => rfl⟩⟩, rfl⟩
end Go.Proofs.YtepjinaomedecaaDoor
