/- Parts of text.Read: Split, number, needs, part, form. -/
import Derived.Test.YtepjinaomedecaaDoorTextA
namespace Go.Mini
set_option linter.unusedVariables false
set_option linter.unusedSimpArgs false
/-- A map of texts. -/
def strE (l : List (ByteArray × ByteArray)) : List (Value × Value) := l.map fun p => (.string p.1, .string p.2)
def lookS (k : ByteArray) : List (ByteArray × ByteArray) → Option ByteArray
  | [] => none
  | p :: l => if k = p.1 then some p.2 else lookS k l
theorem lookL_str (k : ByteArray) : ∀ (l : List (ByteArray × ByteArray)) (i : Nat), (lookS k l = none → lookL (.string k) (strE l) i = some none) ∧ ∀ v, lookS k l = some v → ∃ j, lookL (.string k) (strE l) i = some (some (j, .string v))
  | [], i => ⟨fun _ => rfl, fun v h => by cases h⟩
  | p :: l, i => by
    obtain ⟨h1, h2⟩ := lookL_str k l (i + 1)
    by_cases e : k = p.1
    · have e1 : keyEq (.string k) (.string p.1) = some true := by simp only [keyEq, e, bytes_refl]
      refine ⟨fun h => ?_, fun v h => ?_⟩
      · simp [lookS, e] at h
      · simp only [lookS, if_pos e, Option.some.injEq] at h
        subst h
        exact ⟨i, by simp only [strE, List.map_cons, lookL, e1]⟩
    · have e1 : keyEq (.string k) (.string p.1) = some false := by
        have : (k == p.1) = false := by
          rcases Bool.eq_false_or_eq_true (k == p.1) with h | h
          · exact absurd (bytes_eq h) e
          · exact h
        simp only [keyEq, this]
      have e2 : ∀ o, lookL (.string k) (strE l) (i + 1) = o → lookL (.string k) (strE (p :: l)) i = o := fun o ho => by
        simp only [strE, List.map_cons, lookL, e1]; exact ho
      refine ⟨fun h => e2 _ (h1 (by simpa [lookS, e] using h)), fun v h => ?_⟩
      obtain ⟨j, hj⟩ := h2 v (by simpa [lookS, e] using h)
      exact ⟨j, e2 _ hj⟩
/-- What is found, and whether. -/
def lookV (z : Value) : Option ByteArray → Value
  | some v => .tuple #[.string v, .bool true]
  | none => .tuple #[z, .bool false]
def lookV1 (z : Value) : Option ByteArray → Value
  | some v => .string v
  | none => z
section
variable {ts : Fr} {σ : H}
theorem o_mlookS {x k : Opd} {r c : Nat} {z : Value} {q : ByteArray} {l : List (ByteArray × ByteArray)} (hx : mev ts x = .map (some r)) (hk : mev ts k = .string q) (hg : σ.get r = .map (strE l) c) :
    mop ts σ (.mlook .str true z x k) = some (lookV z (lookS q l), σ) := by
  obtain ⟨h1, h2⟩ := lookL_str q l 0
  cases h : lookS q l with
  | none => simp only [mop, hx, hg, hk, KD.has, if_true, h1 h, lookV]
  | some v => obtain ⟨j, hj⟩ := h2 v h; simp only [mop, hx, hg, hk, KD.has, if_true, hj, lookV]
theorem o_mlookS1 {x k : Opd} {r c : Nat} {z : Value} {q : ByteArray} {l : List (ByteArray × ByteArray)} (hx : mev ts x = .map (some r)) (hk : mev ts k = .string q) (hg : σ.get r = .map (strE l) c) :
    mop ts σ (.mlook .str false z x k) = some (lookV1 z (lookS q l), σ) := by
  obtain ⟨h1, h2⟩ := lookL_str q l 0
  cases h : lookS q l with
  | none => simp only [mop, hx, hg, hk, KD.has, if_true, h1 h]; rfl
  | some v => obtain ⟨j, hj⟩ := h2 v h; simp only [mop, hx, hg, hk, KD.has, if_true, hj]; rfl
theorem o_mupdS {x k v : Opd} {r c : Nat} {q u : ByteArray} {l : List (ByteArray × ByteArray)} (hx : mev ts x = .map (some r)) (hk : mev ts k = .string q) (hv : mev ts v = .string u) (hg : σ.get r = .map (strE l) c) (hn : lookS q l = none) :
    mop ts σ (.mupd .str x k v) = some (undef, σ.set r (.map (strE (l ++ [(q, u)])) (c + 1))) := by
  have h := (lookL_str q l 0).1 hn
  simp only [mop, hx, hg, hk, hv, KD.has, if_true, h]
  simp [strE]
end
end Go.Mini
namespace Go.Proofs.YtepjinaomedecaaDoor
open Go.Mini
open Go.Proofs.YtepjinaomedecaaDoor.Code
set_option linter.unusedVariables false
set_option linter.unusedSimpArgs false
set_option linter.ambiguousOpen false
variable {E : World → Prop}

/-- What Split at a blank answers. -/
def splitQ (s : ByteArray) (σ : H) (v : Value) (τ : H) : Prop := ∃ (bs : List ByteArray) (w : List UInt8) (ws : List (List UInt8)), bs.map (·.data.toList) = w :: ws ∧ s.data.toList = joinW w ws ∧ (32 : UInt8) ∉ w ∧ (∀ x ∈ ws, (32 : UInt8) ∉ x) ∧ v = .slice (some ⟨σ.size, 0, none⟩) bs.length bs.length ∧ τ = σ.push (.cells 1 (bs.map Value.string))
theorem split_c (hE : ∀ w, E w → TextE w) (s : ByteArray) (hl : s.size ≤ 1000000) (σ : H) : MCalls E Tryd.prog 48 [.string s, .string ⟨#[32]⟩] σ (splitQ s σ) := by
  refine ⟨by kernel_rfl, fun B w0 μ w args' hEw hs ha => ?_⟩
  obtain ⟨_, _, rfl, h2, ha⟩ := VRs.inv_cons ha
  obtain ⟨_, _, rfl, h3, ha⟩ := VRs.inv_cons ha
  obtain rfl := VRs.inv_nil ha
  obtain rfl := h2.inv_string
  obtain rfl := h3.inv_string
  obtain ⟨m, hm⟩ := ((hE _ hEw).sim hs).ml
  refine (Tryd.strings_Split s spB m w (by omega) hm (by decide)).mono fun e w' ⟨he, hw⟩ => ?_
  subst he hw
  obtain ⟨wd, ws, h4, h5, h6, h7⟩ := split_sp _ s rfl
  have hlen := Lib.splitB_all spB (by decide) 0 _ s rfl
  generalize Lib.splitB spB 0 (Lib.countB s spB) s = bs at h4 hlen
  rw [← hlen]
  have hcs : (bs.map Value.string).toArray.size = bs.length := by simp
  have hsim := hs.push (sz := 1) (cs := bs.map Value.string) (cs' := (bs.map Value.string).toArray) (t := 9) (fz := (0, 0)) (unfrozen0 _) fun j v hv => by
    rw [List.getElem?_map] at hv
    cases hb : bs[j]? with
    | none => rw [hb] at hv; cases hv
    | some b => rw [hb] at hv; cases hv; exact ⟨.string b, by simp [hb], .string b⟩
  refine ⟨.slice (some ⟨σ.size, 0, none⟩) bs.length bs.length, _, _, _, rfl, ⟨bs, wd, ws, h4, h5, h6, h7, rfl, rfl⟩, hsim, ?_, .setMu μ _, by simp⟩
  have := VR.slice (μ := setMu μ σ.size ⟨w.heap.size, 0, 1, (bs.map Value.string).toArray.size, (1 : Nat) == 0⟩) (n := (σ.push (.cells 1 (bs.map Value.string))).size) (id := σ.size) (off := 0) (len := bs.length) (cap := bs.length) (cap' := bs.length) (o' := 0)
    (by simp) (Nat.le_refl _) (Nat.le_refl _) (fun _ => by rw [setMu_self]) (fun _ => by rw [setMu_self]; simp) (fun _ => rfl)
  rw [setMu_self] at this
  exact this

attribute [local irreducible] mx ml mld mstep MCalls Ex.thn Ex.inb
/-- What text.number answers. -/
def numQ (s : ByteArray) (σ : H) (v : Value) (τ : H) : Prop := Ext σ τ ∧ ∃ n b, v = .tuple #[.int .i64 n, .bool b] ∧ (b = true → ∃ m : Nat, n = m ∧ isNum s.data.toList m) ∧ (b = false → ∀ m, ¬ isNum s.data.toList m)
theorem number_c (hE : ∀ w, E w → TextE w) (s : ByteArray) (hl : s.size ≤ 1000000) (σ : H) : MCalls E Tryd.prog 50 [.string s] σ (numQ s σ) := by
  refine mcalls_of fn50 (by simp) ?_
  unfold c50 r50
  refine stepR0 ?_
  refine ml_call Sd0 Sd0 (atoi_c hE s hl σ) ?_
  rintro v τ ⟨e1, ⟨n, hn, rfl⟩ | ⟨hno, n, t, p, rfl⟩⟩
  · have huniq : ∀ m : Nat, isNum s.data.toList m → n = m := fun m ⟨h1, h2⟩ => by
      rw [h2, atoiAll_dec h1] at hn; injection hn with hn; exact hn.symm
    by_cases h0 : n < 0
    · have h0' : ¬ (0 : Int) ≤ n := by omega
      (have fx := And.intro h0 h0'; refine stepR ?_; clear fx)
      exact fin2 ⟨e1, n, false, (have fx := And.intro h0 h0'; Sd), fun h => (by cases h), fun _ m hm => by have := huniq m hm; omega⟩
    have h0' : (0 : Int) ≤ n := by omega
    by_cases h9 : n ≤ 999
    · obtain ⟨m, rfl⟩ := Int.eq_ofNat_of_zero_le h0'
      (have fx := And.intro h0 (And.intro h0' h9); refine stepR ?_; clear fx)
      refine ml_call (have fx := h0'; Sd) Sd0 (itoa_c hE _ (by omega) (by omega) τ) ?_
      rintro _ τ2 ⟨rfl, rfl⟩
      have hx : ((⟨(Lib.itoa ((m : Nat) : Int)).toArray⟩ : ByteArray).toList == s.toList) = decide (s.data.toList = Lib.decDigits m) := by
        rw [itoa_nat, toList_data, toList_data]
        simp only [List.toList_toArray]
        by_cases h : s.data.toList = Lib.decDigits m
        · rw [h]; simp
        · rw [decide_eq_false h]; simp; exact fun e => h e.symm
      rcases Bool.eq_false_or_eq_true (decide (s.data.toList = Lib.decDigits m)) with hb | hb
      · rw [hb] at hx
        (have fx := And.intro h0' (And.intro h9 hx); refine stepR ?_; clear fx)
        exact fin2 ⟨e1, _, true, (have fx := And.intro h0' (And.intro h9 hx); Sd), fun _ => ⟨m, rfl, by omega, of_decide_eq_true hb⟩, fun h => (by cases h)⟩
      · rw [hb] at hx
        (have fx := And.intro h0' (And.intro h9 hx); refine stepR ?_; clear fx)
        refine fin2 ⟨e1, _, false, (have fx := And.intro h0' (And.intro h9 hx); Sd), fun h => (by cases h), fun _ k hk => ?_⟩
        have := huniq k hk
        obtain rfl : m = k := by omega
        exact of_decide_eq_false hb hk.2
    · (have fx := And.intro h0' h9; refine stepR ?_; clear fx)
      exact fin2 ⟨e1, n, false, (have fx := And.intro h0' h9; Sd), fun h => (by cases h), fun _ m hm => by have := huniq m hm; have := hm.1; omega⟩
  · refine stepR0 ?_
    exact fin2 ⟨e1, n, false, Sd0, fun h => (by cases h), fun _ m hm => hno m (by rw [hm.2]; exact atoiAll_dec hm.1)⟩

/-- What the requests need. -/
def needT : List (ByteArray × ByteArray) := [(⟨#[114, 111, 98, 111, 116]⟩, ⟨#[97, 98, 99]⟩), (⟨#[116, 97, 115, 107]⟩, ⟨#[97, 98, 99]⟩), (⟨#[111, 102, 102]⟩, ⟨#[98]⟩), (⟨#[111, 110]⟩, ⟨#[98]⟩), (⟨#[116, 101, 108, 108]⟩, ⟨#[97, 98]⟩), (⟨#[116, 105, 99, 107]⟩, ⟨#[]⟩)]
theorem ba_list (a : ByteArray) (l : List UInt8) : a = ⟨l.toArray⟩ ↔ a.data.toList = l := by
  constructor
  · rintro rfl; rfl
  · intro h; cases a; congr 1; exact Array.ext' h
theorem look_needs (k : ByteArray) : lookS k needT = (needsL k.data.toList).map fun l => ⟨l.toArray⟩ := by
  have e_robot : (k = ⟨#[114, 111, 98, 111, 116]⟩) = (k.data.toList = [114, 111, 98, 111, 116]) := propext (ba_list k [114, 111, 98, 111, 116])
  have e_task : (k = ⟨#[116, 97, 115, 107]⟩) = (k.data.toList = [116, 97, 115, 107]) := propext (ba_list k [116, 97, 115, 107])
  have e_off : (k = ⟨#[111, 102, 102]⟩) = (k.data.toList = [111, 102, 102]) := propext (ba_list k [111, 102, 102])
  have e_on : (k = ⟨#[111, 110]⟩) = (k.data.toList = [111, 110]) := propext (ba_list k [111, 110])
  have e_tell : (k = ⟨#[116, 101, 108, 108]⟩) = (k.data.toList = [116, 101, 108, 108]) := propext (ba_list k [116, 101, 108, 108])
  have e_tick : (k = ⟨#[116, 105, 99, 107]⟩) = (k.data.toList = [116, 105, 99, 107]) := propext (ba_list k [116, 105, 99, 107])
  simp only [needT, lookS, needsL, e_robot, e_task, e_off, e_on, e_tell, e_tick]
  repeat' split
  all_goals rfl
set_option maxHeartbeats 1000000 in
theorem needs_c (σ : H) : MCalls E Tryd.prog 43 [] σ (fun v τ => Ext σ τ ∧ v = .map (some σ.size) ∧ ∃ c, τ.get σ.size = .map (strE needT) c) := by
  refine mcalls_of fn43 (by simp) ?_
  unfold c43 r43
  refine stepR0 ?_
  refine ml_op Sd0 (o_mupdS (l := []) (q := ⟨#[114, 111, 98, 111, 116]⟩) (u := ⟨#[97, 98, 99]⟩) (r := σ.size) (c := 0) Sd0 Sd0 Sd0 (H.get_push_self _ _) (by decide)) ?_
  refine ml_op Sd0 (o_mupdS (l := [(⟨#[114, 111, 98, 111, 116]⟩, ⟨#[97, 98, 99]⟩)]) (q := ⟨#[116, 97, 115, 107]⟩) (u := ⟨#[97, 98, 99]⟩) (r := σ.size) (c := 1) Sd0 Sd0 Sd0 (H.get_set_self (by simp)) (by decide)) ?_
  refine ml_op Sd0 (o_mupdS (l := [(⟨#[114, 111, 98, 111, 116]⟩, ⟨#[97, 98, 99]⟩), (⟨#[116, 97, 115, 107]⟩, ⟨#[97, 98, 99]⟩)]) (q := ⟨#[111, 102, 102]⟩) (u := ⟨#[98]⟩) (r := σ.size) (c := 2) Sd0 Sd0 Sd0 (H.get_set_self (by simp)) (by decide)) ?_
  refine ml_op Sd0 (o_mupdS (l := [(⟨#[114, 111, 98, 111, 116]⟩, ⟨#[97, 98, 99]⟩), (⟨#[116, 97, 115, 107]⟩, ⟨#[97, 98, 99]⟩), (⟨#[111, 102, 102]⟩, ⟨#[98]⟩)]) (q := ⟨#[111, 110]⟩) (u := ⟨#[98]⟩) (r := σ.size) (c := 3) Sd0 Sd0 Sd0 (H.get_set_self (by simp)) (by decide)) ?_
  refine ml_op Sd0 (o_mupdS (l := [(⟨#[114, 111, 98, 111, 116]⟩, ⟨#[97, 98, 99]⟩), (⟨#[116, 97, 115, 107]⟩, ⟨#[97, 98, 99]⟩), (⟨#[111, 102, 102]⟩, ⟨#[98]⟩), (⟨#[111, 110]⟩, ⟨#[98]⟩)]) (q := ⟨#[116, 101, 108, 108]⟩) (u := ⟨#[97, 98]⟩) (r := σ.size) (c := 4) Sd0 Sd0 Sd0 (H.get_set_self (by simp)) (by decide)) ?_
  refine ml_op Sd0 (o_mupdS (l := [(⟨#[114, 111, 98, 111, 116]⟩, ⟨#[97, 98, 99]⟩), (⟨#[116, 97, 115, 107]⟩, ⟨#[97, 98, 99]⟩), (⟨#[111, 102, 102]⟩, ⟨#[98]⟩), (⟨#[111, 110]⟩, ⟨#[98]⟩), (⟨#[116, 101, 108, 108]⟩, ⟨#[97, 98]⟩)]) (q := ⟨#[116, 105, 99, 107]⟩) (u := ⟨#[]⟩) (r := σ.size) (c := 5) Sd0 Sd0 Sd0 (H.get_set_self (by simp)) (by decide)) ?_
  refine stepR0 ?_
  refine fin1 ⟨?_, Sd0, 6, H.get_set_self (by simp)⟩
  exact ⟨by simp, fun j hj => by
    rw [H.get_set_ne (by omega), H.get_set_ne (by omega), H.get_set_ne (by omega), H.get_set_ne (by omega), H.get_set_ne (by omega), H.get_set_ne (by omega), H.get_push_lt hj]⟩

def partOff (ch : UInt8) : Nat := if ch = 97 then 1 else if ch = 98 then 2 else 3
theorem part_c (id : Nat) (ch : UInt8) (σ : H) : MCalls E Tryd.prog 45 [.pointer (some ⟨id, 0, none⟩), .int .u8 ((ch.toNat : Nat) : Int)] σ (fun v τ => v = .pointer (some ⟨id, partOff ch, none⟩) ∧ τ = σ) := by
  refine mcalls_of fn45 (by simp) ?_
  unfold c45 r45 partOff
  have ua : (((ch.toNat : Nat) : Int) == 97) = (ch == 97) := u8eq ch 97 (by omega)
  have ub : (((ch.toNat : Nat) : Int) == 98) = (ch == 98) := u8eq ch 98 (by omega)
  by_cases h1 : ch = 97
  · rw [if_pos h1]
    rw [beq_iff_eq.2 h1] at ua
    (have fx := ua; refine stepR ?_; clear fx)
    exact fin1 ⟨(have fx := ua; Sd), rfl⟩
  · rw [if_neg h1]
    rw [beq_eq_false_iff_ne.2 h1] at ua
    by_cases h2 : ch = 98
    · rw [if_pos h2]
      rw [beq_iff_eq.2 h2] at ub
      (have fx := And.intro ua ub; refine stepR ?_; clear fx)
      exact fin1 ⟨(have fx := And.intro ua ub; Sd), rfl⟩
    · rw [if_neg h2]
      rw [beq_eq_false_iff_ne.2 h2] at ub
      (have fx := And.intro ua ub; refine stepR ?_; clear fx)
      exact fin1 ⟨(have fx := And.intro ua ub; Sd), rfl⟩
def textB : ByteArray := ⟨#[116, 101, 120, 116]⟩
theorem form_c (σ : H) : MCalls E Tryd.prog 49 [] σ (fun v τ => TagE τ v textB 2 ∧ Ext σ τ) := by
  refine mcalls_of fn49 (by simp) ?_
  unfold c49 r49
  refine stepR0 ?_
  refine ml_call Sd0 Sd0 (tag_c _ _ _) ?_
  rintro ev τ ⟨he, e⟩
  refine stepR0 ?_
  exact fin1 ⟨he, e⟩
end Go.Proofs.YtepjinaomedecaaDoor
