/- strings.Builder in the small world. -/
import Derived.Test.YtepjinaomedecaaDoorBldA
import Derived.Test.YtepjinaomedecaaDoorBase4
namespace Go.Mini
open Go.RowKit (Below)
set_option linter.unusedVariables false
set_option linter.unusedSimpArgs false
section
variable {B : Fz} {w0 w : World} {μ : Nat → Blk} {σ : H}
/-- A live object of one's own is told anew, by another kind. -/
theorem Sim.toOth {k : Nat} {R : OR} {o : Obj} (h : Sim B w0 μ σ w) (hk : σ.get k ≠ .dead) (hr : ∀ cs, σ.get k ≠ .ro cs) (hB : B.le (μ k).b) (hp : R.p μ σ.size (μ k).b o) :
    Sim B w0 μ (σ.set k (.oth R)) { w with heap := w.heap.setIfInBounds (μ k).b o } := by
  have hlt := H.lt_of_live hk
  have hin : (μ k).b < w.heap.size := h.fin k hlt
  have other : ∀ b, b ≠ (μ k).b → ({ w with heap := w.heap.setIfInBounds (μ k).b o } : World).heap[b]? = w.heap[b]? := fun b hb => by
    simp [Array.getElem?_setIfInBounds, Ne.symm hb]
  have same : ({ w with heap := w.heap.setIfInBounds (μ k).b o } : World).heap[(μ k).b]? = some o := by simp [Array.getElem?_setIfInBounds, hin]
  have apart : ∀ i, i ≠ k → σ.get i ≠ .dead → (μ i).b ≠ (μ k).b := fun i hi hd => Ne.symm (h.inj k i hk hd hr (Ne.symm hi))
  refine ⟨h.below.trans ⟨rfl, rfl, rfl, by simp, fun b hb => other b (by have := hB.1; omega)⟩, by simpa using h.base, fun k' o e => by rw [other k' (fun e2 => by have := hB.2; rw [← e2, e] at this; cases this)]; exact h.fx k' o e, h.wh, by simpa using h.fin, ?_, ?_, ?_, ?_, ?_, ?_⟩
  · intro i s ds hd
    by_cases e : i = k
    · subst e; rw [H.get_set_self hlt] at hd; cases hd
    · rw [H.get_set_ne e] at hd
      obtain ⟨h1, ds', t', fz', h2, h3, h4⟩ := h.own i s ds hd
      exact ⟨h1, ds', t', fz', by rw [other _ (apart i e (by rw [hd]; simp))]; exact h2, h3, by simpa using h4⟩
  · intro i ds hd
    by_cases e : i = k
    · subst e; rw [H.get_set_self hlt] at hd; cases hd
    · rw [H.get_set_ne e] at hd
      obtain ⟨h0, ds', t', fz', h2, h4⟩ := h.ro i ds hd
      exact ⟨h0, ds', t', fz', by rw [other _ (apart i e (by rw [hd]; simp))]; exact h2, by simpa using h4⟩
  · intro i es3 c3 hd
    by_cases e : i = k
    · subst e; rw [H.get_set_self hlt] at hd; cases hd
    · rw [H.get_set_ne e] at hd
      obtain ⟨h1, es', h2, h3⟩ := h.map i es3 c3 hd
      exact ⟨h1, es', by rw [other _ (apart i e (by rw [hd]; simp))]; exact h2, by simpa using h3⟩
  · intro i R2 hd
    by_cases e : i = k
    · subst e; rw [H.get_set_self hlt] at hd
      cases hd
      exact ⟨hB, o, same, by simpa using hp⟩
    · rw [H.get_set_ne e] at hd
      obtain ⟨h1, o', h2, h3⟩ := h.oth i R2 hd
      exact ⟨h1, o', by rw [other _ (apart i e (by rw [hd]; simp))]; exact h2, by simpa using h3⟩
  · intro i T ds hd
    by_cases e : i = k
    · subst e; rw [H.get_set_self hlt] at hd; cases hd
    · rw [H.get_set_ne e] at hd
      obtain ⟨h1, h0, ds', h2, h3, h4⟩ := h.typ i T ds hd
      exact ⟨h1, h0, ds', by rw [other _ (apart i e (by rw [hd]; simp))]; exact h2, h3, by simpa using h4⟩
  · intro i j hi hj hr2 hne
    have live : ∀ x, (σ.set k (.oth R)).get x ≠ .dead → σ.get x ≠ .dead := fun x hx => by
      by_cases e : x = k
      · subst e; exact hk
      · rwa [H.get_set_ne e] at hx
    refine h.inj i j (live i hi) (live j hj) (fun ds => ?_) hne
    by_cases e : i = k
    · subst e; exact hr ds
    · have := hr2 ds; rwa [H.get_set_ne e] at this
end
theorem modify_known {a : Array Obj} {b : Nat} {o : Obj} (h : a[b]? = some o) (f : Obj → Obj) : a.modify b f = a.setIfInBounds b (f o) := by
  apply Array.ext_getElem?
  intro i
  rw [Array.getElem?_modify, Array.getElem?_setIfInBounds]
  obtain ⟨hlt, he⟩ := Array.getElem?_eq_some_iff.1 h
  by_cases e : b = i
  · subst e; simp [hlt, he]
  · simp [e]
theorem setCell_known {w : World} {b k : Nat} {c : Array Value} {t : TypeId} {fz : Nat × Nat} (h : w.heap[b]? = some (.cells c t fz)) (v : Value) :
    w.setCell ⟨b, k, none⟩ v = { w with heap := w.heap.setIfInBounds b (.cells (c.setIfInBounds k v) t fz) } := by
  unfold World.setCell
  rw [modify_known h]; rfl
theorem setRow_known {w : World} {g : Nat} {c cs : Array Value} {t : TypeId} {fz : Nat × Nat} (h : w.heap[g]? = some (.cells c t fz)) :
    w.setRow g cs = { w with heap := w.heap.setIfInBounds g (.cells cs t fz) } := by
  unfold World.setRow
  rw [modify_known h]
theorem freeze_known {w : World} {g n : Nat} {c : Array Value} {t : TypeId} {fz : Nat × Nat} (h : w.heap[g]? = some (.cells c t fz)) (hn : n ≠ 0) :
    ∃ o, w.freeze ⟨g, 0, none⟩ n = { w with heap := w.heap.setIfInBounds g o } := by
  unfold World.freeze
  rw [if_neg hn, modify_known h]
  exact ⟨_, rfl⟩
end Go.Mini
namespace Go.Proofs.YtepjinaomedecaaDoor
open Go.Mini
set_option linter.unusedVariables false
set_option linter.unusedSimpArgs false
variable {E : World → Prop}

/-- A builder that has been written to. -/
def bldR (i j n cap : Nat) : OR where
  p := fun μ N b o => i < N ∧ j < N ∧ (μ i).o = 0 ∧ o = .cells #[.pointer (some ⟨b, 0, none⟩), .slice (some ⟨(μ j).b, 0, none⟩) n cap] 69 (0, 0)
  mono := fun hn hm ⟨h1, h2, h3, h4⟩ => ⟨by omega, by omega, by rw [hm _ h1]; exact h3, by rw [hm _ h2]; exact h4⟩
/-- Its row. -/
def bufR (cap : Nat) (l : List UInt8) : OR where
  p := fun _ _ _ o => ∃ cur, o = .cells cur 5 (0, 0) ∧ cur.size = cap ∧ l.length ≤ cap ∧ cap ≤ maxLen ∧ cur.toList.take l.length = Lib.byteCells l
  mono := fun _ _ h => h
/-- A builder, and what it holds. -/
inductive Bld (σ : H) (i : Nat) : Option Nat → List UInt8 → Prop
  | fresh (h : σ.get i = .typ 69 [.pointer none, .slice none 0 0]) : Bld σ i none []
  | full {j cap : Nat} {l : List UInt8} (hl : l ≠ []) (hi : σ.get i = .oth (bldR i j l.length cap)) (hj : σ.get j = .oth (bufR cap l)) (hn : i ≠ j) : Bld σ i (some j) l
theorem Bld.of_eq {σ τ : H} {i : Nat} {oj : Option Nat} {l : List UInt8} (h : Bld σ i oj l) (h1 : τ.get i = σ.get i) (h2 : ∀ j, oj = some j → τ.get j = σ.get j) : Bld τ i oj l := by
  cases h with
  | fresh h => exact .fresh (h1.trans h)
  | full hl hi hj hn => exact .full hl (h1.trans hi) ((h2 _ rfl).trans hj) hn
theorem byteCells_app (l : List UInt8) (s : ByteArray) : Lib.byteCells l ++ Lib.strCells s = Lib.byteCells (l ++ s.data.toList) := by simp [Lib.byteCells, Lib.strCells]

theorem _root_.Go.Mini.VRs.inv_cons {μ : Nat → Blk} {n : Nat} {v : Value} {l l' : List Value} (h : VRs μ n (v :: l) l') : ∃ v' t, l' = v' :: t ∧ VR μ n v v' ∧ VRs μ n l t := by
  cases h with | cons h hs => exact ⟨_, _, rfl, h, hs⟩
theorem _root_.Go.Mini.VRs.inv_nil {μ : Nat → Blk} {n : Nat} {l' : List Value} (h : VRs μ n [] l') : l' = [] := by cases h; rfl

/-- A new row, and the builder that holds it. -/
theorem bld_grow {B : Fz} {w0 w : World} {μ : Nat → Blk} {σ : H} {i cap : Nat} {v : Value} {l : List UInt8} {cur : Array Value} (hs : Sim B w0 μ σ w) (hi : σ.get i ≠ .dead) (hr : ∀ cs, σ.get i ≠ .ro cs) (hB : B.le (μ i).b) (ho : (μ i).o = 0)
    (hb : w.heap[(μ i).b]? = some (.cells #[.pointer (some ⟨(μ i).b, 0, none⟩), v] 69 (0, 0))) (h1 : cur.size = cap) (h2 : l.length ≤ cap) (h3 : cap ≤ maxLen) (h4 : cur.toList.take l.length = Lib.byteCells l) :
    Sim B w0 (setMu μ σ.size ⟨w.heap.size, 0, 0, 0, true⟩) ((σ.push (.oth (bufR cap l))).set i (.oth (bldR i σ.size l.length cap)))
      ((w.drew.alloc (.cells cur 5)).setCell ⟨(μ i).b, 1, none⟩ (.slice (some ⟨w.heap.size, 0, none⟩) l.length cap)) := by
  have hlt := H.lt_of_live hi
  have hbl := hs.fin i hlt
  have hs2 := (hs.drewN 1).pushOth (R := bufR cap l) (o := .cells cur 5 (0, 0)) fun μ' _ => ⟨cur, rfl, h1, h2, h3, h4⟩
  have hμ : setMu μ σ.size ⟨w.heap.size, 0, 0, 0, true⟩ i = μ i := (Agr.setMu μ _) i hlt
  have hμ2 : setMu μ σ.size ⟨w.heap.size, 0, 0, 0, true⟩ σ.size = ⟨w.heap.size, 0, 0, 0, true⟩ := setMu_self ..
  have hb2 : (w.drew.alloc (.cells cur 5)).heap[(μ i).b]? = some (.cells #[.pointer (some ⟨(μ i).b, 0, none⟩), v] 69 (0, 0)) := by
    show (w.heap.push _)[(μ i).b]? = _
    rw [Array.getElem?_push_lt hbl, ← hb, Array.getElem?_eq_getElem hbl]
  rw [setCell_known hb2]
  have hs3 := hs2.toOth (k := i) (R := bldR i σ.size l.length cap) (o := .cells #[.pointer (some ⟨(μ i).b, 0, none⟩), .slice (some ⟨w.heap.size, 0, none⟩) l.length cap] 69 (0, 0))
    (by rw [H.get_push_lt hlt]; exact hi) (fun cs => by rw [H.get_push_lt hlt]; exact hr cs) (by rw [hμ]; exact hB)
    ⟨by simp; omega, by simp, by rw [hμ]; exact ho, by rw [hμ, hμ2]⟩
  rw [hμ] at hs3
  exact hs3

set_option maxHeartbeats 1000000 in
theorem bWrite_c {σ : H} {i : Nat} {oj : Option Nat} {l : List UInt8} (hb : Bld σ i oj l) (s : ByteArray) (h0 : 0 < s.size) (hl : l.length + s.size ≤ 1000000) :
    MCalls E Tryd.prog 33 [.pointer (some ⟨i, 0, none⟩), .string s] σ (fun v τ => v = .tuple #[.int .i64 s.size, .nilIface] ∧
      ∃ oj', Bld τ i oj' (l ++ s.data.toList) ∧ σ.size ≤ τ.size ∧ (oj' = oj ∨ oj' = some σ.size) ∧ ∀ k, k < σ.size → k ≠ i → oj ≠ some k → τ.get k = σ.get k) := by
  refine ⟨by kernel_rfl, fun B w0 μ w args' hE hs ha => ?_⟩
  obtain ⟨_, _, rfl, h1, ha⟩ := VRs.inv_cons ha
  obtain ⟨_, _, rfl, h2, ha⟩ := VRs.inv_cons ha
  obtain rfl := VRs.inv_nil ha
  obtain ⟨hil, rfl⟩ := h1.inv_ptr
  obtain rfl := h2.inv_string
  obtain ⟨i0, hi0, hz0, hz1, hz2⟩ := info_parts (show (Tryd.prog.info? 5).map (fun i => (i.zero, i.size, i.bytes)) = some (some (.int .u8 0), 1, 1) by kernel_rfl)
  have hsl : s.data.toList.length = s.size := Array.length_toList
  have hne : l ++ s.data.toList ≠ [] := fun e => by
    have := congrArg List.length e
    rw [List.length_append, hsl, List.length_nil] at this; omega
  have hll : (l ++ s.data.toList).length = l.length + s.size := by rw [List.length_append, hsl]
  cases hb with
  | fresh hi =>
    obtain ⟨hB, ⟨ho, hsz⟩, cs', hp, hlen, hcr⟩ := hs.typ i _ _ hi
    rw [ho] at hcr ⊢
    obtain ⟨p0, q0, r0⟩ := hcr 0 _ rfl
    obtain ⟨p1, q1, r1⟩ := hcr 1 _ rfl
    obtain rfl := r0.inv_nilPtr
    obtain ⟨rfl, _, _⟩ := r1.inv_nilSlice
    have hcs : cs' = #[.pointer none, .slice none 0 0] := by
      obtain ⟨cl⟩ := cs'
      match cl, hlen with
      | [a, c], _ =>
        simp only [Nat.zero_add, List.getElem?_toArray, List.getElem?_cons_zero, List.getElem?_cons_succ, Option.some.injEq] at q0 q1
        rw [q0, q1]
    subst hcs
    have hptr : VR μ σ.size (.pointer (some ⟨i, 0, none⟩)) (.pointer (some ⟨(μ i).b, 0, none⟩)) := by
      have := VR.ptr (μ := μ) (off := 0) hil
      rwa [ho] at this
    have hs1 := hs.setTyp (c' := #[.pointer (some ⟨(μ i).b, 0, none⟩), .slice none 0 0]) (ds := [.pointer (some ⟨i, 0, none⟩), .slice none 0 0]) hi rfl (by
      rw [ho]
      intro j v hv
      match j, hv with
      | 0, hv => cases hv; exact ⟨_, rfl, hptr⟩
      | 1, hv => cases hv; exact ⟨_, rfl, .nilSlice⟩)
    have hbl := hs.fin i hil
    generalize hw1 : ({ w with heap := w.heap.setIfInBounds (μ i).b (.cells #[.pointer (some ⟨(μ i).b, 0, none⟩), .slice none 0 0] 69 (0, 0)) } : World) = w1 at hs1
    have hb1 : w1.heap[(μ i).b]? = some (.cells #[.pointer (some ⟨(μ i).b, 0, none⟩), .slice none 0 0] 69 (0, 0)) := by
      rw [← hw1]; simp [Array.getElem?_setIfInBounds, hbl]
    have hsz1 : w1.heap.size = w.heap.size := by rw [← hw1]; simp
    have hcc := (bld_copy_fresh (μ i).b w (by rw [Lib.cell_of_heap hp]; rfl) (by simp [World.shape?, hp]) (Lib.frozen_of_heap hp 0)).mono fun e w' ⟨he, hw⟩ => (⟨he, by rw [hw, setCell_known hp, ← hw1]; rfl⟩ : e = Ending.returned (.tuple #[]) ∧ w' = w1)
    have hrun := fun ty => run_append_nil_string (P := Tryd.prog) w1 60 9 ty 5 i0 (.int .u8 0) Tryd.underlying60 Tryd.underlying9 hi0 hz0 s h0 (by omega) (by rw [hz2]; omega)
    have hge := grownCap_ge w1 s.size 0 5
    have hcm := grownCap_le_maxLen w1 s.size 0 5 (by unfold maxLen; omega)
    generalize grownCap w1 s.size 0 5 = cap at hrun hge hcm
    have hcz : (Builtin.zeroCells (Value.int .u8 0).cells (cap - s.size)).size = cap - s.size := by rw [size_zeroCells]; simp [Value.cells]
    have hsim := bld_grow (cap := cap) (l := [] ++ s.data.toList) (cur := s.data.map (fun b => Value.int .u8 b.toNat) ++ Builtin.zeroCells (Value.int .u8 0).cells (cap - s.size)) hs1 (by rw [H.get_set_self hil]; simp) (by rw [H.get_set_self hil]; simp) hB ho hb1
      (by rw [Array.size_append, Array.size_map, hcz]; show s.size + _ = _; omega) (by rw [hll]; simpa using hge) hcm (by
        rw [List.nil_append, hsl, Array.toList_append, Array.toList_map, List.take_append_of_le_length (by simp [hsl]), List.take_of_length_le (by simp [hsl])]; rfl)
    rw [hll, List.length_nil, Nat.zero_add] at hsim
    have hb2 : (w1.drew.alloc (.cells (s.data.map (fun b => Value.int .u8 b.toNat) ++ Builtin.zeroCells (Value.int .u8 0).cells (cap - s.size)) 5)).heap[(μ i).b]? = some (.cells #[.pointer (some ⟨(μ i).b, 0, none⟩), .slice none 0 0] 69 (0, 0)) := by
      show (w1.heap.push _)[(μ i).b]? = _
      rw [Array.getElem?_push_lt (by rw [hsz1]; exact hbl), ← hb1, Array.getElem?_eq_getElem (by rw [hsz1]; exact hbl)]
    refine (bld_write (μ i).b s w w1 _ (.slice none 0 0) _ _ _ hcc hb1 hrun hb2).mono ?_
    rintro e w' ⟨rfl, rfl⟩
    rw [H.size_set] at hsim
    refine ⟨_, _, _, _, rfl, ⟨rfl, some σ.size, .full (cap := cap) hne ?_ ?_ (by omega), by simp, .inr rfl, fun k hk hki _ => ?_⟩, hsim, .tuple (c := #[.int .i64 s.size, .nilIface]) (c' := #[.int .i64 s.size, .nilIface]) (.cons (.int _ _) (.cons .nilIface .nil)), .setMu μ _, by simp⟩
    · rw [H.get_set_self (by simp; omega), hll]; simp
    · rw [H.get_set_ne (by omega)]
      have := H.get_push_self (σ.set i (.typ 69 [.pointer (some ⟨i, 0, none⟩), .slice none 0 0])) (.oth (bufR cap ([] ++ s.data.toList)))
      rwa [H.size_set] at this
    · rw [H.get_set_ne hki, H.get_push_lt (by simpa using hk), H.get_set_ne hki]
  | @full j cap _ hl0 hi hj hij =>
    obtain ⟨hB, _, hp, _, hjl, ho, rfl⟩ := hs.oth i _ hi
    obtain ⟨hBj, _, hq, cur, rfl, c1, c2, c3, c4⟩ := hs.oth j _ hj
    rw [ho]
    have hbl := hs.fin i hil
    have hbne : (μ i).b ≠ (μ j).b := hs.inj i j (by rw [hi]; simp) (by rw [hj]; simp) (fun cs => by rw [hi]; simp) hij
    have hcc := bld_copy_used (μ i).b w (by rw [Lib.cell_of_heap hp]; rfl)
    by_cases hroom : l.length + s.size ≤ cap
    · have hrun := fun ty => Lib.run_append_room_string (P := Tryd.prog) w 60 9 ty 5 i0 Tryd.underlying60 Tryd.underlying9 hi0 hz1 (μ j).b l.length cap cur hq s hroom (by omega)
      generalize hcur : (cur.toList.take l.length ++ Lib.strCells s ++ cur.toList.drop (l.length + s.size)).toArray = cur2 at hrun
      have hs2 := hs.setOth (m := .oth (bufR cap (l ++ s.data.toList))) (o := .cells cur2 5 (0, 0)) hj (.inl ⟨_, rfl, cur2, rfl, by
          rw [← hcur]
          simp only [List.size_toArray, List.length_append, List.length_take, List.length_drop, Array.length_toList, Lib.strCells_length]
          omega, by rw [hll]; exact hroom, c3, by
          rw [← hcur, c4, byteCells_app]
          exact List.take_left' (by rw [Lib.byteCells_length])⟩)
      have hb2 : (w.setRow (μ j).b cur2).heap[(μ i).b]? = some (.cells #[.pointer (some ⟨(μ i).b, 0, none⟩), .slice (some ⟨(μ j).b, 0, none⟩) l.length cap] 69 (0, 0)) := by
        rw [setRow_other _ _ _ _ hbne]; exact hp
      rw [← setRow_known hq] at hs2
      have hs3 := hs2.toOth (k := i) (R := bldR i j (l.length + s.size) cap) (o := .cells #[.pointer (some ⟨(μ i).b, 0, none⟩), .slice (some ⟨(μ j).b, 0, none⟩) (l.length + s.size) cap] 69 (0, 0))
        (by rw [H.get_set_ne hij, hi]; simp) (fun cs => by rw [H.get_set_ne hij, hi]; simp) hB ⟨by simpa using hil, by simpa using hjl, ho, rfl⟩
      refine (bld_write (μ i).b s w w _ _ _ _ _ hcc hp hrun hb2).mono ?_
      rintro e w' ⟨rfl, rfl⟩
      rw [setCell_known hb2]
      refine ⟨_, _, _, _, rfl, ⟨rfl, some j, .full (cap := cap) hne ?_ ?_ hij, by simp, .inl rfl, fun k hk hki hkj => ?_⟩, hs3, .tuple (c := #[.int .i64 s.size, .nilIface]) (c' := #[.int .i64 s.size, .nilIface]) (.cons (.int _ _) (.cons .nilIface .nil)), .refl _ _, by simp⟩
      · rw [H.get_set_self (by simpa using hil), hll]
      · rw [H.get_set_ne (Ne.symm hij), H.get_set_self hjl]
      · rw [H.get_set_ne hki, H.get_set_ne (fun e => hkj (by rw [e]))]
    · have hcl : (Lib.byteCells l).length = l.length := Lib.byteCells_length l
      have holds : ∀ k u, (Lib.byteCells l)[k]? = some u → w.cell? ((⟨(μ j).b, 0, none⟩ : Addr).add k) = some u := fun k u hu => by
        rw [← c4, List.getElem?_take] at hu
        split at hu
        · rw [addr_add, Lib.cell_of_heap hq, Nat.zero_add, ← Array.getElem?_toList]; exact hu
        · cases hu
      have hrun := fun ty => Lib.run_append_grow_string (P := Tryd.prog) w 60 9 ty 5 i0 (.int .u8 0) Tryd.underlying60 Tryd.underlying9 hi0 hz0 ⟨(μ j).b, 0, none⟩ l.length cap (Lib.byteCells l) (by rw [hcl, hz1, Nat.mul_one]) holds s (by omega) (by omega)
        (by rw [hz2]; exact growslice_fits (by omega) (by omega))
      have hge := grownCap_ge w (l.length + s.size) cap 5
      have hcm := grownCap_le_maxLen w (l.length + s.size) cap 5 (by unfold maxLen; omega)
      generalize grownCap w (l.length + s.size) cap 5 = cap2 at hrun hge hcm
      have hcz : (Builtin.zeroCells (Value.int .u8 0).cells (cap2 - (l.length + s.size))).size = cap2 - (l.length + s.size) := by rw [size_zeroCells]; simp [Value.cells]
      generalize hcur : (Lib.byteCells l).toArray ++ (Lib.strCells s).toArray ++ Builtin.zeroCells (Value.int .u8 0).cells (cap2 - (l.length + s.size)) = cur2 at hrun
      have hsim := bld_grow (cap := cap2) (l := l ++ s.data.toList) (cur := cur2) (hs.kill j) (by rw [H.get_set_ne hij, hi]; simp) (by rw [H.get_set_ne hij, hi]; simp) hB ho hp
        (by rw [← hcur, Array.size_append, Array.size_append, hcz, List.size_toArray, List.size_toArray, hcl, Lib.strCells_length]; omega) (by rw [hll]; exact hge) hcm (by
          rw [← hcur, Array.toList_append, Array.toList_append, List.toList_toArray, List.toList_toArray, byteCells_app]
          exact List.take_left' (by rw [Lib.byteCells_length]))
      have hb2 : (w.drew.alloc (.cells cur2 5)).heap[(μ i).b]? = some (.cells #[.pointer (some ⟨(μ i).b, 0, none⟩), .slice (some ⟨(μ j).b, 0, none⟩) l.length cap] 69 (0, 0)) := by
        show (w.heap.push _)[(μ i).b]? = _
        rw [Array.getElem?_push_lt hbl, ← hp, Array.getElem?_eq_getElem hbl]
      rw [hll] at hsim
      refine (bld_write (μ i).b s w w _ _ _ _ _ hcc hp hrun hb2).mono ?_
      rintro e w' ⟨rfl, rfl⟩
      rw [H.size_set] at hsim
      refine ⟨_, _, _, _, rfl, ⟨rfl, some σ.size, .full (cap := cap2) hne ?_ ?_ (by omega), by simp, .inr rfl, fun k hk hki hkj => ?_⟩, hsim, .tuple (c := #[.int .i64 s.size, .nilIface]) (c' := #[.int .i64 s.size, .nilIface]) (.cons (.int _ _) (.cons .nilIface .nil)), .setMu μ _, by simp⟩
      · rw [H.get_set_self (by simp; omega), hll]
      · rw [H.get_set_ne (by omega)]
        have := H.get_push_self (σ.set j .dead) (.oth (bufR cap2 (l ++ s.data.toList)))
        rwa [H.size_set] at this
      · rw [H.get_set_ne hki, H.get_push_lt (by simpa using hk), H.get_set_ne (fun e => hkj (by rw [e]))]

/-- The text of a builder. -/
theorem bString_c {σ : H} {i : Nat} {oj : Option Nat} {l : List UInt8} (hb : Bld σ i oj l) :
    MCalls E Tryd.prog 34 [.pointer (some ⟨i, 0, none⟩)] σ (fun v τ => v = .string ⟨l.toArray⟩ ∧ σ.size ≤ τ.size ∧ ∀ k, k < σ.size → oj ≠ some k → τ.get k = σ.get k) := by
  refine ⟨by kernel_rfl, fun B w0 μ w args' hE hs ha => ?_⟩
  obtain ⟨_, _, rfl, h1, ha⟩ := VRs.inv_cons ha
  obtain rfl := VRs.inv_nil ha
  obtain ⟨hil, rfl⟩ := h1.inv_ptr
  cases hb with
  | fresh hi =>
    obtain ⟨hB, ⟨ho, hsz⟩, cs', hp, hlen, hcr⟩ := hs.typ i _ _ hi
    rw [ho] at hcr ⊢
    obtain ⟨p0, q0, r0⟩ := hcr 0 _ rfl
    obtain ⟨p1, q1, r1⟩ := hcr 1 _ rfl
    obtain rfl := r0.inv_nilPtr
    obtain ⟨rfl, _, _⟩ := r1.inv_nilSlice
    have hcs : cs' = #[.pointer none, .slice none 0 0] := by
      obtain ⟨cl⟩ := cs'
      match cl, hlen with
      | [a, c], _ =>
        simp only [Nat.zero_add, List.getElem?_toArray, List.getElem?_cons_zero, List.getElem?_cons_succ, Option.some.injEq] at q0 q1
        rw [q0, q1]
    subst hcs
    refine (Any.Builder_String_nil Tryd.lays169 Tryd.Builder_Extra_169 w.heap.size (μ i).b _ w hp).mono ?_
    rintro e w' ⟨rfl, hbw⟩
    exact ⟨_, _, σ, μ, rfl, ⟨rfl, Nat.le_refl _, fun _ _ _ => rfl⟩, hs.of_grown hbw, .string _, .refl _ _, Nat.le_refl _⟩
  | @full j cap _ hl0 hi hj hij =>
    obtain ⟨hB, _, hp, _, hjl, ho, rfl⟩ := hs.oth i _ hi
    obtain ⟨hBj, _, hq, cur, rfl, c1, c2, c3, c4⟩ := hs.oth j _ hj
    rw [ho]
    have hl1 : l.length ≠ 0 := by simpa using hl0
    obtain ⟨o, hfz⟩ := freeze_known (w := w.drew) (n := l.length) hq hl1
    refine (bld_string Tryd.lays169 Tryd.Builder_Extra_169 (μ i).b (μ j).b cap _ cur l w hl0 hp hq c2 c3 c1 c4).mono ?_
    rintro e w' ⟨rfl, rfl⟩
    rw [hfz]
    exact ⟨_, _, σ.set j .dead, μ, rfl, ⟨rfl, Nat.le_refl _, fun k _ hk => H.get_set_ne fun e => hk (by rw [e])⟩, (hs.drewN 1).setOth hj (.inr rfl), .string _, .refl _ _, Nat.le_refl _⟩
end Go.Proofs.YtepjinaomedecaaDoor
