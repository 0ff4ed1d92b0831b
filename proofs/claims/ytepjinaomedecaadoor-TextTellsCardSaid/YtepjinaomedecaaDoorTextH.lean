/- The document's Dec, Kind, Needs, Right and Lay of requests. -/
import Derived.Test.YtepjinaomedecaaDoorTextG
namespace Go.Proofs.YtepjinaomedecaaDoor
open Go.Mini
open Go.Proofs.YtepjinaomedecaaDoor.Code
set_option linter.unusedVariables false
set_option linter.unusedSimpArgs false
set_option linter.ambiguousOpen false
attribute [local irreducible] mx ml mld mstep MCalls Ex.thn Ex.inb
variable {E : World → Prop}

set_option maxHeartbeats 2000000 in
theorem rDecN_c (n0 : Nat) (h0 : n0 ≤ 9223372036854775807) (σ : H) : MCalls E Tryd.prog 26 [.int .i64 (n0 : Int)] σ (fun v τ => v = .string ⟨(Lib.decDigits n0).toArray⟩ ∧ Ext σ τ) := by
  refine mcalls_of fn26 (by simp) ?_
  unfold c26 r26
  have hneg : ¬ ((n0 : Nat) : Int) < 0 := by omega
  (have fx := hneg; refine stepR ?_; clear fx)
  refine mx_loop (fun n ts τ => ∃ (m : Nat) (s : ByteArray), n = m ∧ m ≤ n0 ∧ Ext σ τ ∧ Lib.decDigits n0 = Lib.decDigits m ++ s.data.toList ∧ s.size + (Lib.decDigits m).length ≤ 30 ∧ ts 0 = .int .i64 ((m : Nat) : Int) ∧ ts 3 = .string s) n0 ?_ ?_
  · refine ⟨n0, ⟨#[]⟩, rfl, Nat.le_refl _, Ext.refl _, by simp, ?_, Sd0, Sd0⟩
    have := decD_len 19 n0 (by omega) (by have : (10 : Nat) ^ 19 = 10000000000000000000 := by decide
                                          omega)
    show 0 + _ ≤ _; omega
  rintro n ts τ ⟨m, s, rfl, hm, e, hd, hsz, t0, t3⟩
  have odI : ∀ d : Nat, d < 10 → (48 + (d : Int)) = ((od d).toNat : Int) := fun d hd => by rw [od_nat hd]; omega
  by_cases h9 : 9 < n
  · have h9' : (9 : Int) < ((n : Nat) : Int) := by omega
    have hrem : ((n : Nat) : Int).tmod 10 = ((n % 10 : Nat) : Int) := by rw [Int.tmod_eq_emod_of_nonneg (by omega)]; rfl
    have hquo : ((n : Nat) : Int).tdiv 10 = ((n / 10 : Nat) : Int) := by rw [Int.tdiv_eq_ediv_of_nonneg (by omega)]; rfl
    have hdd : Lib.decDigits n = Lib.decDigits (n / 10) ++ [od (n % 10)] := by rw [Lib.decDigits, dif_neg (by omega)]; rfl
    have hlt : n % 10 < 10 := by omega
    generalize n % 10 = r at hdd hlt hrem
    have hdl := congrArg List.length hdd
    rw [List.length_append, List.length_singleton] at hdl
    have hdg := odI r hlt
    have h256 : (od r).toNat < 256 := UInt8.toNat_lt _
    (have fx := And.intro t0 (And.intro h9' (And.intro hrem hdg)); refine stepR ?_; clear fx)
    have hrow : (τ.push (.cells 1 [.int .u8 (((od r).toNat : Nat) : Int)])).row τ.size 0 1 = some (bytesL [od r]) := by simp [H.row, rowL, bytesL]
    refine ml_op Sd0 (o_b2sR (L := [od r]) (cap := 1) Sd0 hrow) ?_
    (have fx := t3; refine stepR ?_; clear fx)
    refine ml_op Sd0 (o_cat (a := ⟨[od r].toArray⟩) (b := s) Sd0 Sd0 (by show 1 + s.size ≤ _; omega)) ?_
    have hsl2 : ((⟨[od r].toArray⟩ : ByteArray) ++ s).data.toList = od r :: s.data.toList := by rw [ByteArray.data_append, Array.toList_append]; rfl
    have hsz2 : ((⟨[od r].toArray⟩ : ByteArray) ++ s).size = 1 + s.size := by rw [ByteArray.size_append]; rfl
    generalize (⟨[od r].toArray⟩ : ByteArray) ++ s = s2 at hsl2 hsz2
    (have fx := And.intro t0 hquo; refine stepR ?_; clear fx)
    refine ⟨n / 10, by omega, n / 10, s2, rfl, by omega, e.trans (Ext.push _ _), ?_, by omega, Sd0, Sd0⟩
    rw [hd, hdd, hsl2, List.append_assoc]; rfl
  · have h9' : ¬ (9 : Int) < ((n : Nat) : Int) := by omega
    have hdd : Lib.decDigits n = [od n] := Lib.decDigits_one (by omega)
    have hdg := odI n (by omega)
    have h256 : (od n).toNat < 256 := UInt8.toNat_lt _
    rw [hdd] at hd hsz
    (have fx := And.intro t0 (And.intro h9' hdg); refine stepR ?_; clear fx)
    have hrow : (τ.push (.cells 1 [.int .u8 (((od n).toNat : Nat) : Int)])).row τ.size 0 1 = some (bytesL [od n]) := by simp [H.row, rowL, bytesL]
    refine ml_op Sd0 (o_b2sR (L := [od n]) (cap := 1) Sd0 hrow) ?_
    (have fx := t3; refine stepR ?_; clear fx)
    have hs30 : s.size ≤ 30 := by omega
    refine ml_op Sd0 (o_cat (a := ⟨[od n].toArray⟩) (b := s) Sd0 Sd0 (by show 1 + s.size ≤ _; omega)) ?_
    have hsl2 : ((⟨[od n].toArray⟩ : ByteArray) ++ s) = ⟨(Lib.decDigits n0).toArray⟩ := by
      apply ba_ext'
      rw [ByteArray.data_append, Array.toList_append, hd]
    rw [hsl2]
    refine stepR0 ?_
    exact fin1 ⟨Sd0, e.trans (Ext.push _ _)⟩

def KN : List ByteArray := [⟨#[114, 111, 98, 111, 116]⟩, ⟨#[116, 97, 115, 107]⟩, ⟨#[111, 102, 102]⟩, ⟨#[111, 110]⟩, ⟨#[116, 101, 108, 108]⟩, ⟨#[116, 105, 99, 107]⟩]
def NT : List ByteArray := [⟨#[]⟩, ⟨#[97, 98, 99]⟩, ⟨#[97, 98, 99]⟩, ⟨#[98]⟩, ⟨#[98]⟩, ⟨#[97, 98]⟩, ⟨#[]⟩]
theorem strs_at {l : List ByteArray} {i : Nat} (hi : i < l.length) : (l.map Value.string)[i]? = some (.string (l.getD i ⟨#[]⟩)) := by
  rw [List.getElem?_map, List.getElem?_eq_getElem hi, List.getD_eq_getElem?_getD, List.getElem?_eq_getElem hi]; rfl
def KindR (nm : ByteArray) (k : Nat) : Prop := (k = 0 ∧ ∀ i, i < 6 → KN.getD i ⟨#[]⟩ ≠ nm) ∨ (1 ≤ k ∧ k ≤ 6 ∧ KN.getD (k - 1) ⟨#[]⟩ = nm)
set_option maxHeartbeats 1000000 in
theorem rKind_c (nm : ByteArray) (σ : H) : MCalls E Tryd.prog 46 [.string nm] σ (fun v τ => Ext σ τ ∧ ∃ k : Nat, v = .int .i64 (k : Int) ∧ KindR nm k) := by
  refine mcalls_of fn46 (by simp) ?_
  unfold c46 r46
  refine stepR0 ?_
  have g0 : (σ.push (.cells 1 (KN.map Value.string))).get σ.size = .cells 1 (KN.map Value.string) := H.get_push_self _ _
  have e0 := Ext.push σ (.cells 1 (KN.map Value.string))
  have hrd : Rd (σ.push (.cells 1 (KN.map Value.string))) (.slice (some ⟨σ.size, 0, none⟩) 6 6) (KN.map Value.string) := (Own.full (sz := 1) (n := 6) g0 rfl).rd
  obtain ⟨sv, hsv⟩ : ∃ sv, sv = Value.slice (some ⟨σ.size, 0, none⟩) 6 6 := ⟨_, rfl⟩
  rw [← hsv] at hrd
  obtain ⟨τ0, hτ0⟩ : ∃ τ0, τ0 = σ.push (.cells 1 (KN.map Value.string)) := ⟨_, rfl⟩
  rw [← hτ0] at hrd e0
  refine mx_loop (fun n ts τ => ∃ i, n = 6 - i ∧ i ≤ 6 ∧ τ = τ0 ∧ (∀ j, j < i → KN.getD j ⟨#[]⟩ ≠ nm) ∧ ts 0 = .string nm ∧ ts 3 = sv ∧ ts 4 = .int .i64 ((i : Nat) : Int)) 6 ?_ ?_
  · exact ⟨0, rfl, by omega, by rw [hτ0]; rfl, fun j h => absurd h (Nat.not_lt_zero _), Sd0, by rw [hsv]; exact Sd0, Sd0⟩
  clear hsv hτ0 g0
  rintro n ts τ ⟨i, rfl, hi, rfl, hno, t0, t3, t4⟩
  (have fx := And.intro t3 t4; refine stepR ?_; clear fx)
  refine ml_len Sd0 hrd (have fx := t3; Sd) ?_
  rw [show (KN.map Value.string).length = 6 from rfl]
  rcases Nat.lt_or_ge i 6 with hil | hig
  · have hil' : ((i : Nat) : Int) < ((6 : Nat) : Int) := by omega
    (have fx := And.intro hil' (And.intro t3 t4); refine stepR ?_; clear fx)
    refine ml_getS hrd (have fx := t3; Sd) (have fx := t4; Sd) (by omega) (by rw [Int.toNat_natCast]; exact strs_at hil) fun p => ?_
    by_cases hx : KN.getD i ⟨#[]⟩ = nm
    · have hb : ((KN.getD i ⟨#[]⟩).toList == nm.toList) = true := by rw [hx]; simp
      (have fx := And.intro hb (And.intro t0 t4); refine stepR ?_; clear fx)
      exact fin1 ⟨e0, i + 1, Sd0, .inr ⟨by omega, by omega, hx⟩⟩
    · have hb : ((KN.getD i ⟨#[]⟩).toList == nm.toList) = false := by
        rw [beq_eq_false_iff_ne, toList_data, toList_data]
        exact fun h => hx (ba_ext' h)
      (have fx := And.intro hb (And.intro t0 t4); refine stepR ?_; clear fx)
      refine ⟨_, by omega, i + 1, rfl, hil, rfl, fun j hj => ?_, (have fx := t0; Sd), (have fx := t3; Sd), Sd0⟩
      by_cases h : j = i
      · rw [h]; exact hx
      · exact hno j (by omega)
  · obtain rfl : i = 6 := by omega
    have hil' : ¬ ((6 : Nat) : Int) < ((6 : Nat) : Int) := by omega
    (have fx := hil'; refine stepR ?_; clear fx)
    exact fin1 ⟨e0, 0, Sd0, .inl ⟨rfl, hno⟩⟩
theorem kind_needs {nm : ByteArray} {k : Nat} (h : KindR nm k) : k < 7 ∧ NT.getD k ⟨#[]⟩ = ⟨((needsL nm.data.toList).getD []).toArray⟩ ∧ (k = 0 ↔ needsL nm.data.toList = none) := by
  rcases h with ⟨rfl, h⟩ | ⟨h1, h2, rfl⟩
  · have h0 := h 0 (by omega); have h1 := h 1 (by omega); have h2 := h 2 (by omega); have h3 := h 3 (by omega); have h4 := h 4 (by omega); have h5 := h 5 (by omega)
    have hn : needsL nm.data.toList = none := by
      have ne : ∀ l : List UInt8, (⟨l.toArray⟩ : ByteArray) ≠ nm → ¬ nm.data.toList = l := fun l h e => h ((ba_list nm l).2 e).symm
      unfold needsL
      rw [if_neg (ne _ h0), if_neg (ne _ h1), if_neg (ne _ h2), if_neg (ne _ h3), if_neg (ne _ h4), if_neg (ne _ h5)]
    rw [hn]
    exact ⟨by omega, rfl, ⟨fun _ => rfl, fun _ => rfl⟩⟩
  · have : k = 1 ∨ k = 2 ∨ k = 3 ∨ k = 4 ∨ k = 5 ∨ k = 6 := by omega
    rcases this with rfl | rfl | rfl | rfl | rfl | rfl <;> exact ⟨by omega, rfl, ⟨fun h => (by omega), fun h => (by cases h)⟩⟩
set_option maxHeartbeats 1000000 in
theorem rNeeds_c (nm : ByteArray) (σ : H) : MCalls E Tryd.prog 47 [.string nm] σ (fun v τ => v = .string ⟨((needsL nm.data.toList).getD []).toArray⟩ ∧ Ext σ τ) := by
  refine mcalls_of fn47 (by simp) ?_
  unfold c47 r47
  refine stepR0 ?_
  have g0 : (σ.push (.cells 1 (NT.map Value.string))).get σ.size = .cells 1 (NT.map Value.string) := H.get_push_self _ _
  have e0 := Ext.push σ (.cells 1 (NT.map Value.string))
  refine ml_call Sd0 Sd0 (rKind_c nm _) ?_
  rintro _ τ ⟨e1, k, rfl, hk⟩
  obtain ⟨h7, hnt, _⟩ := kind_needs hk
  have hrd : Rd τ (.slice (some ⟨σ.size, 0, none⟩) 7 7) (NT.map Value.string) := (Own.full (sz := 1) (n := 7) (e1.cells g0) rfl).rd
  refine ml_getS hrd Sd0 Sd0 (by omega) (by rw [Int.toNat_natCast]; exact strs_at h7) fun p => ?_
  rw [hnt]
  refine stepR0 ?_
  exact fin1 ⟨Sd0, e0.trans e1⟩

/-- Whether a number is as the request needs it. -/
theorem rightV_iff {what : List UInt8} {ch : UInt8} {v : Int} : RightV what ch v ↔ ((what.contains ch = false → v = 0) ∧ ¬ v < 0 ∧ ¬ 999 < v) := by
  unfold RightV
  cases h : what.contains ch
  · have hm : ch ∉ what := fun hm => by rw [List.contains_iff_mem.2 hm] at h; cases h
    constructor
    · rintro ⟨_, h2⟩; have := h2 hm; exact ⟨fun _ => this, by omega, by omega⟩
    · rintro ⟨h1, _⟩; exact ⟨fun h => absurd h hm, fun _ => h1 rfl⟩
  · have hm : ch ∈ what := List.contains_iff_mem.1 h
    constructor
    · rintro ⟨h1, _⟩; have := h1 hm; exact ⟨fun h => (by cases h), by omega, by omega⟩
    · rintro ⟨_, h2, h3⟩; exact ⟨fun _ => by omega, fun h => absurd hm h⟩
theorem contains_take {what : List UInt8} {ch : UInt8} {i : Nat} (h : i < what.length) : (what.take (i + 1)).contains ch = ((what.take i).contains ch || (what.getD i 0 == ch)) := by
  rw [List.take_add_one, List.getElem?_eq_getElem h, List.getD_eq_getElem?_getD, List.getElem?_eq_getElem h]
  simp only [Option.toList_some, Option.getD_some]
  cases h1 : (List.take i what).contains ch
  · rw [Bool.false_or]
    cases h2 : what[i] == ch
    · rw [Bool.eq_false_iff]; intro h3
      rcases List.mem_append.1 (List.contains_iff_mem.1 h3) with h4 | h4
      · rw [List.contains_iff_mem.2 h4] at h1; cases h1
      · rw [List.mem_singleton] at h4; rw [h4] at h2; simp at h2
    · exact List.contains_iff_mem.2 (List.mem_append.2 (.inr (by rw [List.mem_singleton]; exact (eq_of_beq h2).symm)))
  · rw [Bool.true_or]
    exact List.contains_iff_mem.2 (List.mem_append.2 (.inl (List.contains_iff_mem.1 h1)))
def chK (k : Nat) : UInt8 := UInt8.ofNat (97 + k)
def valK (a b c : Int) (k : Nat) : Int := if k = 0 then a else if k = 1 then b else c
set_option maxHeartbeats 4000000 in
theorem rARight_c (nm : ByteArray) (a b c : Int) (σ : H) : MCalls E Tryd.prog 23 [actV nm a b c] σ (fun v τ => Ext σ τ ∧ ∃ r, v = .bool r ∧ (r = true ↔ ∃ what, RightA nm a b c what)) := by
  refine mcalls_of fn23 (by simp) ?_
  unfold c23 r23 actV
  refine stepR0 ?_
  have g0 := H.get_push_self σ (.cells 0 [.string nm, .int .i64 a, .int .i64 b, .int .i64 c])
  have e0 := Ext.push σ (.cells 0 [.string nm, .int .i64 a, .int .i64 b, .int .i64 c])
  (have fx := g0; refine stepR ?_; clear fx)
  refine ml_call Sd0 Sd0 (rKind_c nm _) ?_
  rintro _ τ1 ⟨e1, k, rfl, hk⟩
  obtain ⟨h7, _, hk0⟩ := kind_needs hk
  have g1 := e1.cells g0
  by_cases hz : k = 0
  · have hz' : (((k : Nat) : Int) == 0) = true := by rw [hz]; rfl
    have hn := hk0.1 hz
    (have fx := hz'; refine stepR ?_; clear fx)
    exact fin1 ⟨e0.trans e1, false, (have fx := hz'; Sd), ⟨fun h => (by cases h), fun ⟨what, hr⟩ => by have := hr.needs; rw [hn] at this; cases this⟩⟩
  have hz' : (((k : Nat) : Int) == 0) = false := by rw [beq_eq_false_iff_ne]; omega
  obtain ⟨what, hn⟩ : ∃ what, needsL nm.data.toList = some what := by
    cases hn : needsL nm.data.toList with
    | none => exact absurd (hk0.2 hn) hz
    | some w => exact ⟨w, rfl⟩
  (have fx := And.intro hz' g1; refine stepR ?_; clear fx)
  refine ml_call (have fx := hz'; Sd) (have fx := hz'; Sd) (rNeeds_c nm τ1) ?_
  rintro _ τ2 ⟨rfl, e2⟩
  rw [hn, Option.getD_some]
  have g2 := e2.cells g1
  generalize hwb : (⟨what.toArray⟩ : ByteArray) = wb
  have hwbl : wb.data.toList = what := by rw [← hwb]
  have hwbs : wb.size = what.length := by rw [← hwb]; rfl
  have hw3 : what.length ≤ 3 := by
    rcases (needs_what hn).1 with h | h | h | h <;> (rw [h]; decide)
  clear hwb
  (have fx := g2; refine stepR ?_; clear fx)
  refine ml_init (vs := [.int .i64 a, .int .i64 b, .int .i64 c]) Sd0 Sd0 Sd0 rfl rfl rfl fun τ3 e3 g3 => ?_
  have eσ := ((e0.trans e1).trans e2).trans e3
  generalize τ2.size = xid at g3 ⊢
  have hiff : (∃ what, RightA nm a b c what) ↔ ∀ j, j < 3 → RightV what (chK j) (valK a b c j) := by
    constructor
    · rintro ⟨w2, hr⟩ j hj
      have := hr.needs
      rw [hn] at this
      obtain rfl := Option.some.inj this
      match j, hj with
      | 0, _ => exact hr.a
      | 1, _ => exact hr.b
      | 2, _ => exact hr.c
    · intro h
      exact ⟨what, hn, h 0 (by omega), h 1 (by omega), h 2 (by omega)⟩
  refine stepR0 ?_
  refine mx_loop (fun n ts τ => ∃ k, n = 3 - k ∧ k ≤ 3 ∧ τ = τ3 ∧ (∀ j, j < k → RightV what (chK j) (valK a b c j)) ∧ ts 3 = .string wb ∧ ts 4 = .pointer (some ⟨xid, 0, none⟩) ∧ ts 5 = .int .i64 ((k : Nat) : Int)) 3 ?_ ?_
  · exact ⟨0, rfl, by omega, rfl, fun j h => absurd h (Nat.not_lt_zero _), Sd0, Sd0, Sd0⟩
  rintro n ts τ ⟨k, rfl, hk3, rfl, hall, t3, t4, t5⟩
  rcases Nat.lt_or_ge k 3 with hkl | hkg
  rotate_left
  · obtain rfl : k = 3 := by omega
    have hl' : ¬ ((3 : Nat) : Int) < 3 := by omega
    (have fx := And.intro t5 hl'; refine stepR ?_; clear fx)
    exact fin1 ⟨eσ, true, Sd0, ⟨fun _ => hiff.2 hall, fun _ => rfl⟩⟩
  have hl' : ((k : Nat) : Int) < 3 := by omega
  (have fx := And.intro t5 hl'; refine stepR ?_; clear fx)
  refine mx_loop (fun n ts τ' => ∃ i, n = what.length - i ∧ i ≤ what.length ∧ τ' = τ ∧ ts 3 = .string wb ∧ ts 4 = .pointer (some ⟨xid, 0, none⟩) ∧ ts 5 = .int .i64 ((k : Nat) : Int) ∧ ts 6 = .bool ((what.take i).contains (chK k)) ∧ ts 7 = .int .i64 ((i : Nat) : Int)) what.length ?_ ?_
  · exact ⟨0, rfl, by omega, rfl, (have fx := t3; Sd), (have fx := t4; Sd), (have fx := t5; Sd), Sd0, Sd0⟩
  clear t3 t4 t5 ts
  rintro n ts τ' ⟨i, rfl, hi, rfl, t3, t4, t5, t6, t7⟩
  rcases Nat.lt_or_ge i what.length with hil | hig
  · have hil' : ((i : Nat) : Int) < (wb.size : Int) := by omega
    have hct := contains_take (ch := chK k) hil
    have hch : wb.data.toList.getD i 0 = what.getD i 0 := by rw [hwbl]
    have heq : (((what.getD i 0).toNat : Int) == 97 + ((k : Nat) : Int)) = (what.getD i 0 == chK k) := by
      have := u8eq (what.getD i 0) (97 + k) (by omega)
      rw [show ((97 + k : Nat) : Int) = 97 + (k : Int) by omega] at this
      exact this
    have h256 : (what.getD i 0).toNat < 256 := UInt8.toNat_lt _
    generalize (what.take i).contains (chK k) = hb at t6 hct
    cases hb
    · rw [Bool.false_or] at hct
      (have fx := And.intro t7 (And.intro t3 (And.intro hil' (And.intro t6 (And.intro hch (And.intro t5 heq))))); refine stepR ?_; clear fx)
      exact ⟨_, by omega, i + 1, rfl, hil, rfl, (have fx := t3; Sd), (have fx := t4; Sd), (have fx := t5; Sd), (have fx := hct; Sd), Sd0⟩
    · rw [Bool.true_or] at hct
      (have fx := And.intro t7 (And.intro t3 (And.intro hil' (And.intro t6 (And.intro hch (And.intro t5 heq))))); refine stepR ?_; clear fx)
      exact ⟨_, by omega, i + 1, rfl, hil, rfl, (have fx := t3; Sd), (have fx := t4; Sd), (have fx := t5; Sd), (have fx := hct; Sd), Sd0⟩
  obtain rfl : i = what.length := by omega
  have hil' : ¬ ((what.length : Nat) : Int) < (wb.size : Int) := by omega
  rw [List.take_length] at t6
  have hri := rightV_iff (what := what) (ch := chK k) (v := valK a b c k)
  have hget : ([.int .i64 a, .int .i64 b, .int .i64 c] : List Value)[k]? = some (.int .i64 (valK a b c k)) := by
    match k, hkl with
    | 0, _ => rfl
    | 1, _ => rfl
    | 2, _ => rfl
  generalize hvv : valK a b c k = v at hget hri
  generalize what.contains (chK k) = hb at t6 hri
  have bad : ¬ RightV what (chK k) v → (∃ what, RightA nm a b c what) → False := fun h1 h2 => h1 (by have := hiff.1 h2 k hkl; rwa [hvv] at this)
  have good : RightV what (chK k) v → ∀ j, j < k + 1 → RightV what (chK j) (valK a b c j) := fun h j hj => by
    by_cases h2 : j = k
    · rw [h2, hvv]; exact h
    · exact hall j (by omega)
  have fin : ¬ RightV what (chK k) v → ∃ r, Value.bool false = .bool r ∧ (r = true ↔ ∃ what, RightA nm a b c what) := fun h => ⟨false, rfl, ⟨fun h => (by cases h), fun h2 => (bad h h2).elim⟩⟩
  cases hb
  · -- not needed
    by_cases h0 : v = 0
    · subst h0
      (have fx := And.intro t7 (And.intro t3 (And.intro hil' (And.intro t6 (And.intro t5 (And.intro t4 (And.intro g3 hget)))))); refine stepR ?_; clear fx)
      exact ⟨_, by omega, k + 1, rfl, hkl, rfl, good (hri.2 ⟨fun _ => rfl, by omega, by omega⟩), (have fx := t3; Sd), (have fx := t4; Sd), Sd0⟩
    · have h0' : (v != 0) = true := by simpa using h0
      (have fx := And.intro t7 (And.intro t3 (And.intro hil' (And.intro t6 (And.intro t5 (And.intro t4 (And.intro g3 (And.intro hget h0'))))))); refine stepR ?_; clear fx)
      exact fin1 ⟨eσ, fin fun h => h0 ((hri.1 h).1 rfl)⟩
  · by_cases h1 : v < 0
    · (have fx := And.intro t7 (And.intro t3 (And.intro hil' (And.intro t6 (And.intro t5 (And.intro t4 (And.intro g3 (And.intro hget h1))))))); refine stepR ?_; clear fx)
      exact fin1 ⟨eσ, fin fun h => (hri.1 h).2.1 h1⟩
    · by_cases h2 : 999 < v
      · (have fx := And.intro t7 (And.intro t3 (And.intro hil' (And.intro t6 (And.intro t5 (And.intro t4 (And.intro g3 (And.intro hget (And.intro h1 h2)))))))); refine stepR ?_; clear fx)
        exact fin1 ⟨eσ, fin fun h => (hri.1 h).2.2 h2⟩
      · (have fx := And.intro t7 (And.intro t3 (And.intro hil' (And.intro t6 (And.intro t5 (And.intro t4 (And.intro g3 (And.intro hget (And.intro h1 h2)))))))); refine stepR ?_; clear fx)
        exact ⟨_, by omega, k + 1, rfl, hkl, rfl, good (hri.2 ⟨fun h => (by cases h), h1, h2⟩), (have fx := t3; Sd), (have fx := t4; Sd), Sd0⟩
end Go.Proofs.YtepjinaomedecaaDoor
