/- A map's text, plainly. -/
import Derived.Test.YtepjinaomedecaaDoorGridR
namespace Go.Proofs.YtepjinaomedecaaDoor
open Go.Lib
set_option linter.unusedVariables false
set_option linter.unusedSimpArgs false

/-- So many rows, each ended. -/
def layT (w : Nat) : Nat → List UInt8 → List UInt8
  | 0, _ => []
  | n + 1, l => layT w n l ++ ((l.drop (n * w)).take w ++ [10])
theorem layT_app (w : Nat) : ∀ (n : Nat) (l x : List UInt8), n * w ≤ l.length → layT w n (l ++ x) = layT w n l
  | 0, _, _, _ => rfl
  | n + 1, l, x, h => by
    rw [Nat.add_mul, Nat.one_mul] at h
    simp only [layT]
    rw [layT_app w n l x (by omega), List.drop_append_of_le_length (by omega), List.take_append_of_le_length (by rw [List.length_drop]; omega)]
theorem layT_rows {w : Nat} : ∀ (rows : List (List UInt8)), (∀ r ∈ rows, r.length = w) → flatR rows = layT w rows.length rows.flatten ∧ rows.flatten.length = rows.length * w := by
  have key : ∀ l : List (List UInt8), (∀ r ∈ l.reverse, r.length = w) → flatR l.reverse = layT w l.reverse.length l.reverse.flatten ∧ l.reverse.flatten.length = l.reverse.length * w := by
    intro l
    induction l with
    | nil => intro _; simp [flatR, layT]
    | cons r l ih =>
      intro h
      rw [List.reverse_cons] at h ⊢
      generalize l.reverse = rs at ih h
      obtain ⟨h1, h2⟩ := ih fun q hq => h q (by simp [hq])
      have hr := h r (by simp)
      refine ⟨?_, ?_⟩
      · rw [flatR_append, List.length_append, List.flatten_append, h1]
        simp only [List.length_cons, List.length_nil, Nat.zero_add, layT, List.flatten_cons, List.flatten_nil, List.append_nil]
        rw [layT_app w _ _ _ (by omega), ← h2, List.drop_left, List.take_of_length_le (by omega)]
        simp [flatR]
      · simp only [List.flatten_append, List.length_append, h2, List.flatten_cons, List.flatten_nil, List.length_cons, List.length_nil, List.append_nil, hr, Nat.add_mul]; omega
  intro rows h
  have := key rows.reverse
  rw [List.reverse_reverse] at this
  exact this h
theorem chunk_flat (w : Nat) (l : List UInt8) : ∀ n, ((List.range n).map fun y => (l.drop (y * w)).take w).flatten = l.take (n * w)
  | 0 => by simp
  | n + 1 => by
    rw [List.range_succ, List.map_append, List.flatten_append, chunk_flat w l n]
    simp only [List.map_cons, List.map_nil, List.flatten_cons, List.flatten_nil, List.append_nil]
    rw [Nat.add_mul, Nat.one_mul, List.take_add]
/-- A right map's text is read as it. -/
theorem lay_parsed {W Hh : Int} {S : ByteArray} (hg : gr W Hh S = true) : Parsed (layT W.toNat Hh.toNat S.data.toList) W Hh S := by
  obtain ⟨hW, hH, hsz, hS, hall⟩ := gr_size hg
  obtain ⟨w, rfl⟩ := Int.eq_ofNat_of_zero_le (show 0 ≤ W by omega)
  obtain ⟨h, rfl⟩ := Int.eq_ofNat_of_zero_le (show 0 ≤ Hh by omega)
  have hsz' : S.data.toList.length = h * w := by
    have : S.data.toList.length = S.size := Array.length_toList
    rw [this, Nat.mul_comm]; exact_mod_cast hsz
  have hlen : ∀ r ∈ (List.range h).map fun y => (S.data.toList.drop (y * w)).take w, r.length = w := fun r hr => by
    obtain ⟨y, hy, rfl⟩ := List.mem_map.1 hr
    have hy := List.mem_range.1 hy
    have : (y + 1) * w ≤ h * w := Nat.mul_le_mul_right _ hy
    rw [Nat.add_mul, Nat.one_mul] at this
    rw [List.length_take, List.length_drop]; omega
  have hfl : ((List.range h).map fun y => (S.data.toList.drop (y * w)).take w).flatten = S.data.toList := by rw [chunk_flat, List.take_of_length_le (by omega)]
  refine ⟨hg, (List.range h).map fun y => (S.data.toList.drop (y * w)).take w, ?_, fun r hr => ⟨fun hm => ?_, by rw [hlen r hr]⟩, by simp, hfl.symm⟩
  · have := (layT_rows _ hlen).1
    rw [hfl] at this
    simpa using this.symm
  · obtain ⟨y, _, rfl⟩ := List.mem_map.1 hr
    have := List.all_eq_true.1 hall _ (List.mem_of_mem_drop (List.mem_of_mem_take hm))
    revert this; decide
/-- What is read is laid as it stands there. -/
theorem parsed_lay {s : List UInt8} {W Hh : Int} {S : ByteArray} (h : Parsed s W Hh S) : s = layT W.toNat Hh.toNat S.data.toList := by
  obtain ⟨hg, rows, rfl, h2, h3, h4⟩ := h
  have := (layT_rows (w := W.toNat) rows fun r hr => by have := (h2 r hr).2; omega).1
  rw [this, h4, ← h3]; rfl
theorem parsed_uniq {s : List UInt8} {W Hh W' Hh' : Int} {S S' : ByteArray} (h : Parsed s W Hh S) (h' : Parsed s W' Hh' S') : W = W' ∧ Hh = Hh' ∧ S = S' := by
  obtain ⟨hg, rows, rfl, h2, h3, h4⟩ := h
  obtain ⟨hg', rows', e, h2', h3', h4'⟩ := h'
  obtain ⟨more, rfl, hm⟩ := flatR_pre (x := []) (fun r hr => (h2 r hr).1) (fun r hr => (h2' r hr).1) (by rw [List.append_nil]; exact e)
  have := flatR_nil hm.symm
  subst this
  rw [List.append_nil] at h2' h3' h4'
  have hgs := gr_size hg
  obtain ⟨q, l, rfl⟩ : ∃ q l, rows = q :: l := by cases rows with
    | nil => simp at h3; omega
    | cons q l => exact ⟨q, l, rfl⟩
  refine ⟨by rw [← (h2 q (by simp)).2, (h2' q (by simp)).2], by rw [← h3, h3'], ?_⟩
  have : S.data.toList = S'.data.toList := by rw [h4, h4']
  cases S; cases S'; simpa using this

/-- So much of a text has been read, of however many rows. -/
structure PS0 (s rest : List UInt8) (rows : List (List UInt8)) (W : Int) (S : ByteArray) : Prop where
  txt : s = flatR rows ++ rest
  row : ∀ r ∈ rows, (10 : UInt8) ∉ r ∧ (r.length : Int) = W
  cells : S.data.toList = rows.flatten
  w0 : 0 ≤ W ∧ W ≤ s.length
section
variable {s rest : List UInt8} {rows : List (List UInt8)} {W : Int} {S : ByteArray}
theorem PS0.start (s : List UInt8) : PS0 s s [] 0 ⟨#[]⟩ := ⟨by simp [flatR], by simp, rfl, by simp⟩
/-- What another reading of the text has: these rows first. -/
theorem PS0.other (h : PS0 s rest rows W S) {W' Hh' : Int} {S' : ByteArray} (hp : Parsed s W' Hh' S') :
    gr W' Hh' S' = true ∧ ∃ more, rest = flatR more ∧ (∀ r ∈ rows ++ more, (10 : UInt8) ∉ r ∧ (r.length : Int) = W') ∧ ((rows ++ more).length : Int) = Hh' ∧ S'.data.toList = (rows ++ more).flatten := by
  obtain ⟨hg, rows', h1, h2, h3, h4⟩ := hp
  rw [h.txt] at h1
  obtain ⟨more, rfl, hx⟩ := flatR_pre (fun r hr => (h.row r hr).1) (fun r hr => (h2 r hr).1) h1
  exact ⟨hg, more, hx, h2, h3, h4⟩
/-- A last line that isn't ended. -/
theorem PS0.open_ (h : PS0 s rest rows W S) (hne : rest ≠ []) (hf : (10 : UInt8) ∉ rest) {W' Hh' : Int} {S' : ByteArray} : ¬ Parsed s W' Hh' S' := fun hp => by
  obtain ⟨_, more, rfl, _⟩ := h.other hp
  exact hf (flatR_nl hne)
/-- A row more. -/
theorem PS0.more (h : PS0 s rest rows W S) {row rest' : List UInt8} (hr : rest = row ++ 10 :: rest') (hf : (10 : UInt8) ∉ row) (h1 : rows = [] ∨ (row.length : Int) = W) {S2 : ByteArray} (hS : S2.data.toList = S.data.toList ++ row) :
    PS0 s rest' (rows ++ [row]) row.length S2 := by
  refine ⟨by rw [h.txt, hr, flatR_append, flatR_cons]; simp [flatR], fun r hm => ?_, by rw [hS, h.cells]; simp, by omega, ?_⟩
  · rcases List.mem_append.1 hm with hm | hm
    · rcases h1 with rfl | h1
      · cases hm
      · exact ⟨(h.row r hm).1, by rw [(h.row r hm).2, h1]⟩
    · simp at hm; subst hm; exact ⟨hf, rfl⟩
  · rw [h.txt, hr]; simp; omega
theorem PS0.bad (h : PS0 s rest rows W S) {row rest' : List UInt8} (hr : rest = row ++ 10 :: rest') (hf : (10 : UInt8) ∉ row) (h1 : rows ≠ [] ∧ (row.length : Int) ≠ W) {W' Hh' : Int} {S' : ByteArray} : ¬ Parsed s W' Hh' S' := fun hp => by
  obtain ⟨hg, more, hm, h2, h3, h4⟩ := h.other hp
  have hgs := gr_size hg
  cases more with
  | nil => rw [hr] at hm; simp [flatR] at hm
  | cons r more =>
    rw [hr, flatR_cons] at hm
    obtain ⟨rfl, _⟩ := free_inj hf (h2 r (by simp)).1 hm
    obtain ⟨hne, hw⟩ := h1
    · obtain ⟨q, l, rfl⟩ : ∃ q l, rows = q :: l := by cases rows with
        | nil => exact absurd rfl hne
        | cons q l => exact ⟨q, l, rfl⟩
      have e1 := (h.row q (by simp)).2
      have e2 := (h2 q (by simp)).2
      have e3 := (h2 row (by simp)).2
      omega
/-- All is read. -/
theorem PS0.done (h : PS0 s [] rows W S) : (gr W rows.length S = true → Parsed s W rows.length S) ∧ ∀ {W' Hh' : Int} {S' : ByteArray}, Parsed s W' Hh' S' → gr W rows.length S = true := by
  refine ⟨fun hg => ⟨hg, rows, by rw [h.txt]; simp, h.row, rfl, h.cells⟩, fun {W' Hh' S'} hp => ?_⟩
  obtain ⟨hg, more, hm, h2, h3, h4⟩ := h.other hp
  have := flatR_nil hm.symm
  subst this
  rw [List.append_nil] at h2 h3 h4
  have hgs := gr_size hg
  obtain ⟨q, l, rfl⟩ : ∃ q l, rows = q :: l := by cases rows with
    | nil => simp at h3; omega
    | cons q l => exact ⟨q, l, rfl⟩
  have e1 := (h.row q (by simp)).2
  have e2 := (h2 q (by simp)).2
  have eS : S' = S := by
    have : S'.data.toList = S.data.toList := by rw [h4, h.cells]
    cases S; cases S'; simpa using this
  subst eS
  rw [h3, ← e1, e2]; exact hg
end
end Go.Proofs.YtepjinaomedecaaDoor
