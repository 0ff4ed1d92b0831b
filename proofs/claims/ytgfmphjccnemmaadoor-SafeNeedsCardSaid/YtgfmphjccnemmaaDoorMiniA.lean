/- A small world beside the model's own: heaps without capacities, draws and addresses; the relation between the two. Program-independent. -/
import Derived.Below
import Derived.Tactics
import Derived.Orders
import Derived.Deep.LoopGhost
import Derived.Deep.Draws
namespace Go.Mini
open Go.RowKit (Below)
set_option linter.unusedVariables false
set_option linter.unusedSimpArgs false

/-- An object of the small heap: cells of the call's own, cells that are only read, a map, nothing. -/
inductive MObj where
  | cells (sz : Nat) (cs : List Value)
  | ro (cs : List Value)
  | map (es : List (Value × Value)) (clock : Nat)
  | dead

structure H where
  size : Nat
  get : Nat → MObj
  wf : ∀ i, size ≤ i → get i = .dead

namespace H
def empty : H := ⟨0, fun _ => .dead, fun _ _ => rfl⟩
def push (σ : H) (o : MObj) : H := ⟨σ.size + 1, fun i => if i = σ.size then o else σ.get i, fun i h => by
  show (if i = σ.size then o else σ.get i) = .dead
  rw [if_neg (by omega)]; exact σ.wf i (by omega)⟩
def set (σ : H) (k : Nat) (o : MObj) : H := ⟨σ.size, fun i => if i = k ∧ k < σ.size then o else σ.get i, fun i h => by
  show (if i = k ∧ k < σ.size then o else σ.get i) = .dead
  rw [if_neg (by omega)]; exact σ.wf i h⟩
theorem lt_of_cells {σ : H} {i sz : Nat} {cs : List Value} (h : σ.get i = .cells sz cs) : i < σ.size := by
  rcases Nat.lt_or_ge i σ.size with hlt | hge
  · exact hlt
  · rw [σ.wf i hge] at h; cases h
theorem lt_of_live {σ : H} {i : Nat} (h : σ.get i ≠ .dead) : i < σ.size := by
  rcases Nat.lt_or_ge i σ.size with hlt | hge
  · exact hlt
  · exact absurd (σ.wf i hge) h
@[simp] theorem size_push (σ : H) (o : MObj) : (σ.push o).size = σ.size + 1 := rfl
@[simp] theorem size_set (σ : H) (k : Nat) (o : MObj) : (σ.set k o).size = σ.size := rfl
@[simp] theorem get_push_self (σ : H) (o : MObj) : (σ.push o).get σ.size = o := by simp [push]
theorem get_push_ne {σ : H} {o : MObj} {i : Nat} (h : i ≠ σ.size) : (σ.push o).get i = σ.get i := by simp [push, h]
theorem get_push_lt {σ : H} {o : MObj} {i : Nat} (h : i < σ.size) : (σ.push o).get i = σ.get i := get_push_ne (by omega)
theorem get_push_cells {σ : H} {o : MObj} {i sz : Nat} {cs : List Value} (h : σ.get i = .cells sz cs) : (σ.push o).get i = .cells sz cs := by
  rw [get_push_lt (lt_of_cells h), h]
theorem get_set_self {σ : H} {k : Nat} {o : MObj} (h : k < σ.size) : (σ.set k o).get k = o := by simp [set, h]
theorem get_set_ne {σ : H} {k i : Nat} {o : MObj} (h : i ≠ k) : (σ.set k o).get i = σ.get i := by simp [set, h]
end H

/-- What was there stays as it was. -/
structure Ext (σ τ : H) : Prop where
  size : σ.size ≤ τ.size
  get : ∀ i, i < σ.size → τ.get i = σ.get i
theorem Ext.refl (σ : H) : Ext σ σ := ⟨Nat.le_refl _, fun _ _ => rfl⟩
theorem Ext.trans {a b c : H} (h : Ext a b) (k : Ext b c) : Ext a c :=
  ⟨Nat.le_trans h.size k.size, fun i hi => (k.get i (Nat.lt_of_lt_of_le hi h.size)).trans (h.get i hi)⟩
theorem Ext.push (σ : H) (o : MObj) : Ext σ (σ.push o) := ⟨by simp, fun i hi => H.get_push_lt hi⟩
theorem Ext.cells {σ τ : H} (h : Ext σ τ) {i sz : Nat} {cs : List Value} (hc : σ.get i = .cells sz cs) : τ.get i = .cells sz cs :=
  (h.get i (H.lt_of_cells hc)).trans hc
theorem Ext.live {σ τ : H} (h : Ext σ τ) {i : Nat} {o : MObj} (hc : σ.get i = o) (ho : o ≠ .dead) : τ.get i = o :=
  (h.get i (H.lt_of_live (by rw [hc]; exact ho))).trans hc

/-- Where an object of the small heap lies: its block, from which cell on; the cells of an element (0: none is told); the block's cells; is no capacity greater than told? -/
structure Blk where
  b : Nat
  o : Nat
  sz : Nat
  n : Nat
  ex : Bool

mutual
/-- A value of the small world and the model's. -/
inductive VR (μ : Nat → Blk) (n : Nat) : Value → Value → Prop where
  | bool (b : Bool) : VR μ n (.bool b) (.bool b)
  | int (k : IntKind) (x : Int) : VR μ n (.int k x) (.int k x)
  | string (s : ByteArray) : VR μ n (.string s) (.string s)
  | nilPtr : VR μ n (.pointer none) (.pointer none)
  | nilSlice : VR μ n (.slice none 0 0) (.slice none 0 0)
  | nilMap : VR μ n (.map none) (.map none)
  | nilFunc : VR μ n .nilFunc .nilFunc
  | nilIface : VR μ n .nilIface .nilIface
  | ptr {id off : Nat} (h : id < n) : VR μ n (.pointer (some ⟨id, off, none⟩)) (.pointer (some ⟨(μ id).b, (μ id).o + off, none⟩))
  | slice {id off len cap cap' o' : Nat} (h : id < n) (hl : len ≤ cap) (hc : cap ≤ cap') (ho : 0 < cap → o' = (μ id).o + off)
      (hz : (μ id).sz ≠ 0 → o' + cap' * (μ id).sz ≤ (μ id).n) (he : (μ id).ex = true → cap' = cap) :
      VR μ n (.slice (some ⟨id, off, none⟩) len cap) (.slice (some ⟨(μ id).b, o', none⟩) len cap')
  | map {id : Nat} (h : id < n) : VR μ n (.map (some id)) (.map (some (μ id).b))
  | func {fn : Fn} {f f' c c' : Array Value} (hf : VRs μ n f.toList f'.toList) (hc : VRs μ n c.toList c'.toList) : VR μ n (.func fn f c) (.func fn f' c')
  | iface {t : TypeId} {v v' : Value} (h : VR μ n v v') : VR μ n (.iface t v) (.iface t v')
  | agg {c c' : Array Value} (h : VRs μ n c.toList c'.toList) : VR μ n (.agg c) (.agg c')
  | tuple {c c' : Array Value} (h : VRs μ n c.toList c'.toList) : VR μ n (.tuple c) (.tuple c')
inductive VRs (μ : Nat → Blk) (n : Nat) : List Value → List Value → Prop where
  | nil : VRs μ n [] []
  | cons {v v' : Value} {l l' : List Value} (h : VR μ n v v') (hs : VRs μ n l l') : VRs μ n (v :: l) (v' :: l')
end

section
variable {μ μ' : Nat → Blk} {n n' : Nat}
mutual
theorem VR.mono (hn : n ≤ n') (hm : ∀ i, i < n → μ' i = μ i) : ∀ {v v' : Value}, VR μ n v v' → VR μ' n' v v'
  | _, _, .bool b => .bool b
  | _, _, .int k x => .int k x
  | _, _, .string s => .string s
  | _, _, .nilPtr => .nilPtr
  | _, _, .nilSlice => .nilSlice
  | _, _, .nilMap => .nilMap
  | _, _, .nilFunc => .nilFunc
  | _, _, .nilIface => .nilIface
  | _, _, .ptr (id := id) h => by rw [← hm id h]; exact .ptr (Nat.lt_of_lt_of_le h hn)
  | _, _, .slice (id := id) h hl hc ho hz he => by rw [← hm id h] at ho hz he ⊢; exact .slice (Nat.lt_of_lt_of_le h hn) hl hc ho hz he
  | _, _, .map (id := id) h => by rw [← hm id h]; exact .map (Nat.lt_of_lt_of_le h hn)
  | _, _, .func hf hc => .func (VRs.mono hn hm hf) (VRs.mono hn hm hc)
  | _, _, .iface h => .iface (VR.mono hn hm h)
  | _, _, .agg h => .agg (VRs.mono hn hm h)
  | _, _, .tuple h => .tuple (VRs.mono hn hm h)
theorem VRs.mono (hn : n ≤ n') (hm : ∀ i, i < n → μ' i = μ i) : ∀ {l l' : List Value}, VRs μ n l l' → VRs μ' n' l l'
  | _, _, .nil => .nil
  | _, _, .cons h hs => .cons (VR.mono hn hm h) (VRs.mono hn hm hs)
end
theorem VRs.length : ∀ {l l' : List Value}, VRs μ n l l' → l'.length = l.length
  | _, _, .nil => rfl
  | _, _, .cons _ hs => by simp [VRs.length hs]
theorem VRs.get : ∀ {l l' : List Value} {i : Nat} {v : Value}, VRs μ n l l' → l[i]? = some v → ∃ v', l'[i]? = some v' ∧ VR μ n v v'
  | _, _, i, v, .nil, h => by simp at h
  | _, _, 0, v, .cons h hs, e => by simp at e; subst e; exact ⟨_, by simp, h⟩
  | _, _, i + 1, v, .cons h hs, e => by simp only [List.getElem?_cons_succ] at e ⊢; exact VRs.get hs e
theorem VRs.of_get : ∀ {l l' : List Value}, l'.length = l.length → (∀ (i : Nat) (v : Value), l[i]? = some v → ∃ v', l'[i]? = some v' ∧ VR μ n v v') → VRs μ n l l'
  | [], [], _, _ => .nil
  | [], _ :: _, h, _ => by simp at h
  | _ :: _, [], h, _ => by simp at h
  | v :: l, v' :: l', h, hg => .cons (by obtain ⟨u, hu, hv⟩ := hg 0 v rfl; simp at hu; subst hu; exact hv)
      (VRs.of_get (by simpa using h) (fun i u hu => by simpa using hg (i + 1) u (by simpa using hu)))
theorem VRs.append : ∀ {a a' b b' : List Value}, VRs μ n a a' → VRs μ n b b' → VRs μ n (a ++ b) (a' ++ b')
  | _, _, _, _, .nil, h => h
  | _, _, _, _, .cons h hs, k => .cons h (VRs.append hs k)
theorem VRs.take {l l' : List Value} (h : VRs μ n l l') (k : Nat) : VRs μ n (l.take k) (l'.take k) := by
  refine .of_get (by simp [h.length]) fun i v hv => ?_
  rw [List.getElem?_take] at hv ⊢
  split at hv
  · rename_i hi; rw [if_pos hi]; exact h.get hv
  · cases hv
theorem VRs.drop {l l' : List Value} (h : VRs μ n l l') (k : Nat) : VRs μ n (l.drop k) (l'.drop k) := by
  refine .of_get (by simp [h.length]) fun i v hv => ?_
  rw [List.getElem?_drop] at hv ⊢
  exact h.get hv
theorem VRs.set : ∀ {l l' : List Value} {v v' : Value}, VRs μ n l l' → VR μ n v v' → ∀ k : Nat, VRs μ n (l.set k v) (l'.set k v')
  | _, _, _, _, .nil, _, _ => .nil
  | _, _, _, _, .cons h hs, k, 0 => .cons k hs
  | _, _, _, _, .cons h hs, k, i + 1 => .cons h (VRs.set hs k i)
/-- Values without addresses are what they are. -/
def plain : Value → Bool
  | .bool _ | .int _ _ | .string _ | .pointer none | .slice none 0 0 | .map none | .nilFunc | .nilIface => true
  | _ => false
theorem VR.of_plain : ∀ {v : Value}, plain v = true → VR μ n v v
  | .bool b, _ => .bool b
  | .int k x, _ => .int k x
  | .string s, _ => .string s
  | .pointer none, _ => .nilPtr
  | .slice none 0 0, _ => .nilSlice
  | .map none, _ => .nilMap
  | .nilFunc, _ => .nilFunc
  | .nilIface, _ => .nilIface
theorem VRs.of_plain : ∀ {l : List Value}, l.all plain = true → VRs μ n l l
  | [], _ => .nil
  | v :: l, h => by simp at h; exact .cons (VR.of_plain h.1) (VRs.of_plain (by simpa using h.2))
theorem VR.eq_of_plain {v v' : Value} (h : VR μ n v v') (hp : plain v = true) : v' = v := by
  cases h <;> first | rfl | (simp [plain] at hp)
theorem VR.cells {v v' : Value} (h : VR μ n v v') : VRs μ n v.cells.toList v'.cells.toList := by
  cases h with
  | agg h => exact h
  | bool b => exact .cons (.bool b) .nil
  | int k x => exact .cons (.int k x) .nil
  | string s => exact .cons (.string s) .nil
  | nilPtr => exact .cons .nilPtr .nil
  | nilSlice => exact .cons .nilSlice .nil
  | nilMap => exact .cons .nilMap .nil
  | nilFunc => exact .cons .nilFunc .nil
  | nilIface => exact .cons .nilIface .nil
  | ptr h => exact .cons (.ptr h) .nil
  | slice h a b c d e => exact .cons (.slice h a b c d e) .nil
  | map h => exact .cons (.map h) .nil
  | func a b => exact .cons (.func a b) .nil
  | iface a => exact .cons (.iface a) .nil
  | tuple a => exact .cons (.tuple a) .nil
end

/-- Cells of the small heap and of a block of the model's, from a place on. -/
def CellsR (μ : Nat → Blk) (n : Nat) (cs : List Value) (cs' : Array Value) (o : Nat) : Prop :=
  ∀ j v, cs[j]? = some v → ∃ v', cs'[o + j]? = some v' ∧ VR μ n v v'
theorem CellsR.mono {μ μ' : Nat → Blk} {n n' : Nat} (hn : n ≤ n') (hm : ∀ i, i < n → μ' i = μ i) {cs : List Value} {cs' : Array Value} {o : Nat}
    (h : CellsR μ n cs cs' o) : CellsR μ' n' cs cs' o := fun j v hv => let ⟨v', h1, h2⟩ := h j v hv; ⟨v', h1, h2.mono hn hm⟩
def Unfrozen (c : Array Value) (fz : Nat × Nat) : Prop := ∀ j, j < c.size → ¬ (fz.1 ≤ j ∧ j < fz.2)

/-- A map's entries. -/
def EntriesR (μ : Nat → Blk) (n : Nat) (es : List (Value × Value)) (es' : Array MapEntry) : Prop :=
  es'.size = es.length ∧ ∀ (j : Nat) (k v : Value), es[j]? = some (k, v) → ∃ e' : MapEntry, es'[j]? = some e' ∧ VR μ n k e'.key ∧ VR μ n v e'.val

/-- The small heap and the model's world. -/
structure Sim (B : Nat) (w0 : World) (μ : Nat → Blk) (σ : H) (w : World) : Prop where
  below : Below B w0 w
  base : B ≤ w.heap.size
  fin : ∀ i, i < σ.size → (μ i).b < w.heap.size
  own : ∀ i sz cs, σ.get i = .cells sz cs → (B ≤ (μ i).b ∧ (μ i).sz = sz ∧ (sz = 0 → (μ i).ex = true)) ∧ ∃ cs' t fz, w.heap[(μ i).b]? = some (.cells cs' t fz) ∧ (Unfrozen cs' fz ∧ cs'.size = (μ i).n) ∧ CellsR μ σ.size cs cs' (μ i).o
  ro : ∀ i cs, σ.get i = .ro cs → (μ i).sz = 0 ∧ ∃ cs' t fz, w.heap[(μ i).b]? = some (.cells cs' t fz) ∧ CellsR μ σ.size cs cs' (μ i).o
  map : ∀ i es c, σ.get i = .map es c → B ≤ (μ i).b ∧ ∃ es', w.heap[(μ i).b]? = some (.map es' c) ∧ EntriesR μ σ.size es es'
  inj : ∀ i j, σ.get i ≠ .dead → σ.get j ≠ .dead → (∀ cs, σ.get i ≠ .ro cs) → i ≠ j → (μ i).b ≠ (μ j).b

/-- A frame's slots. -/
abbrev Fr := Nat → Value
def upd (ts : Fr) (d : Nat) (v : Value) : Fr := fun i => if i = d then v else ts i
theorem upd_same (ts : Fr) (d : Nat) (v : Value) : upd ts d v d = v := by simp [upd]
theorem upd_ne {ts : Fr} {d i : Nat} {v : Value} (h : i ≠ d) : upd ts d v i = ts i := by simp [upd, h]
def FrR (μ : Nat → Blk) (n : Nat) (N : Nat) (ts : Fr) (tmps : Array Value) : Prop :=
  tmps.size = N ∧ ∀ i, VR μ n (ts i) (tmps.getD i undef)
theorem FrR.mono {μ μ' : Nat → Blk} {n n' N : Nat} (hn : n ≤ n') (hm : ∀ i, i < n → μ' i = μ i) {ts : Fr} {tmps : Array Value}
    (h : FrR μ n N ts tmps) : FrR μ' n' N ts tmps := ⟨h.1, fun i => (h.2 i).mono hn hm⟩
theorem FrR.upd {μ : Nat → Blk} {n N d : Nat} {ts : Fr} {tmps : Array Value} {v v' : Value} (h : FrR μ n N ts tmps) (hd : d < N) (hv : VR μ n v v') :
    FrR μ n N (upd ts d v) (tmps.setIfInBounds d v') := by
  refine ⟨by simp [h.1], fun i => ?_⟩
  have hd' : d < tmps.size := by rw [h.1]; exact hd
  by_cases e : i = d
  · subst e; simp [Mini.upd, Array.getD_eq_getD_getElem?, Array.getElem?_setIfInBounds, hd']; exact hv
  · have e' : ¬ d = i := fun x => e x.symm
    simp only [Mini.upd, if_neg e, Array.getD_eq_getD_getElem?, Array.getElem?_setIfInBounds, if_neg e']
    have := h.2 i; rwa [Array.getD_eq_getD_getElem?] at this

/-- μ' tells of the elder objects what μ told. -/
def Agr (n : Nat) (μ μ' : Nat → Blk) : Prop := ∀ i, i < n → μ' i = μ i
theorem Agr.refl (n : Nat) (μ : Nat → Blk) : Agr n μ μ := fun _ _ => rfl
theorem Agr.trans {n m : Nat} {a b c : Nat → Blk} (h : Agr n a b) (k : Agr m b c) (hn : n ≤ m) : Agr n a c :=
  fun i hi => (k i (Nat.lt_of_lt_of_le hi hn)).trans (h i hi)

section
variable {B : Nat} {w0 w : World} {μ : Nat → Blk} {σ : H}
theorem Sim.drewN (h : Sim B w0 μ σ w) (k : Nat) : Sim B w0 μ σ { w with drawn := w.drawn + k } :=
  ⟨⟨h.below.os, h.below.tape, h.below.output, h.below.size, h.below.block⟩, h.base, h.fin, h.own, h.ro, h.map, h.inj⟩

/-- Behind a new block of the model's that the small heap doesn't know. -/
theorem Sim.of_grown {w' : World} (h : Sim B w0 μ σ w) (hb : Below w.heap.size w w') : Sim B w0 μ σ w' := by
  have hk : ∀ k, k < w.heap.size → w'.heap[k]? = w.heap[k]? := hb.block
  have lt : ∀ {k o}, w.heap[k]? = some o → k < w.heap.size := fun {k o} e => by
    rcases Nat.lt_or_ge k w.heap.size with x | x
    · exact x
    · simp [Array.getElem?_eq_none x] at e
  refine ⟨h.below.trans (hb.mono h.base), Nat.le_trans h.base hb.size, fun i hi => Nat.lt_of_lt_of_le (h.fin i hi) hb.size, ?_, ?_, ?_, h.inj⟩
  · intro i sz cs hc
    obtain ⟨h1, cs', t, fz, h2, h3, h4⟩ := h.own i sz cs hc
    exact ⟨h1, cs', t, fz, by rw [hk _ (lt h2)]; exact h2, h3, h4⟩
  · intro i cs hc
    obtain ⟨h0, cs', t, fz, h2, h4⟩ := h.ro i cs hc
    exact ⟨h0, cs', t, fz, by rw [hk _ (lt h2)]; exact h2, h4⟩
  · intro i es c hc
    obtain ⟨h1, es', h2, h4⟩ := h.map i es c hc
    exact ⟨h1, es', by rw [hk _ (lt h2)]; exact h2, h4⟩

def setMu (μ : Nat → Blk) (k : Nat) (p : Blk) : Nat → Blk := fun i => if i = k then p else μ i
theorem setMu_self (μ : Nat → Blk) (k : Nat) (p : Blk) : setMu μ k p k = p := by simp [setMu]
theorem Agr.setMu {n : Nat} (μ : Nat → Blk) (p : Blk) : Agr n μ (setMu μ n p) := fun i hi => by
  simp only [Mini.setMu]; rw [if_neg (by omega)]

/-- A new object: the model's world has been another one since, in which a block is this object's. -/
theorem Sim.push' {sz : Nat} {cs : List Value} {cs' : Array Value} {t : TypeId} {fz : Nat × Nat} {p : Blk} (h : Sim B w0 μ σ w) (hB : B ≤ p.b) (hin : p.b < w.heap.size) (hsz : p.sz = sz) (hex : sz = 0 → p.ex = true)
    (hp : w.heap[p.b]? = some (.cells cs' t fz)) (hz : Unfrozen cs' fz ∧ cs'.size = p.n) (hc : CellsR μ σ.size cs cs' p.o) (hnew : ∀ i, σ.get i ≠ .dead → (μ i).b ≠ p.b) :
    Sim B w0 (setMu μ σ.size p) (σ.push (.cells sz cs)) w := by
  have hag : Agr σ.size μ (setMu μ σ.size p) := .setMu μ _
  have hs : σ.size ≤ (σ.push (.cells sz cs)).size := by simp
  refine ⟨h.below, h.base, ?_, ?_, ?_, ?_, ?_⟩
  · intro i hi
    simp only [H.size_push] at hi
    by_cases e : i = σ.size
    · subst e; rw [setMu_self]; exact hin
    · rw [hag i (by omega)]; exact h.fin i (by omega)
  · intro i s ds hd
    by_cases e : i = σ.size
    · subst e
      rw [H.get_push_self] at hd
      cases hd
      rw [setMu_self]
      exact ⟨⟨hB, hsz, hex⟩, cs', t, fz, hp, hz, hc.mono hs hag⟩
    · rw [H.get_push_ne e] at hd
      have hi := H.lt_of_cells hd
      rw [hag i hi]
      obtain ⟨h1, ds', t', fz', h2, h3, h4⟩ := h.own i s ds hd
      exact ⟨h1, ds', t', fz', h2, h3, h4.mono hs hag⟩
  · intro i ds hd
    by_cases e : i = σ.size
    · subst e; rw [H.get_push_self] at hd; cases hd
    · rw [H.get_push_ne e] at hd
      have hi := H.lt_of_live (σ := σ) (i := i) (by rw [hd]; simp)
      rw [hag i hi]
      obtain ⟨h0, ds', t', fz', h2, h4⟩ := h.ro i ds hd
      exact ⟨h0, ds', t', fz', h2, h4.mono hs hag⟩
  · intro i es c hd
    by_cases e : i = σ.size
    · subst e; rw [H.get_push_self] at hd; cases hd
    · rw [H.get_push_ne e] at hd
      have hi := H.lt_of_live (σ := σ) (i := i) (by rw [hd]; simp)
      rw [hag i hi]
      obtain ⟨h1, es', h2, h3, h4⟩ := h.map i es c hd
      exact ⟨h1, es', h2, h3, fun j k v e => let ⟨e', a, b, c⟩ := h4 j k v e; ⟨e', a, b.mono hs hag, c.mono hs hag⟩⟩
  · intro i j hi hj hr hne
    by_cases ei : i = σ.size
    · subst ei
      have ej : j ≠ σ.size := fun e => hne e.symm
      rw [H.get_push_ne ej] at hj
      rw [setMu_self, hag j (H.lt_of_live hj)]
      exact Ne.symm (hnew j hj)
    · rw [H.get_push_ne ei] at hi
      have hi' := H.lt_of_live hi
      by_cases ej : j = σ.size
      · subst ej
        rw [setMu_self, hag i hi']
        exact hnew i hi
      · rw [H.get_push_ne ej] at hj
        rw [hag i hi', hag j (H.lt_of_live hj)]
        exact h.inj i j hi hj (fun cs => by have := hr cs; rwa [H.get_push_ne ei] at this) hne

/-- A new object: the model has pushed a block. -/
theorem Sim.push {sz : Nat} {cs : List Value} {cs' : Array Value} {t : TypeId} {fz : Nat × Nat} (h : Sim B w0 μ σ w) (hz : Unfrozen cs' fz) (hc : CellsR μ σ.size cs cs' 0) :
    Sim B w0 (setMu μ σ.size ⟨w.heap.size, 0, sz, cs'.size, sz == 0⟩) (σ.push (.cells sz cs)) { w with heap := w.heap.push (.cells cs' t fz) } := by
  have hb : Below w.heap.size w { w with heap := w.heap.push (.cells cs' t fz) } :=
    ⟨rfl, rfl, rfl, by simp, fun k hk => by simp [Array.getElem?_push]; intro e; omega⟩
  refine (h.of_grown hb).push' (p := ⟨w.heap.size, 0, sz, cs'.size, sz == 0⟩) h.base (by simp) rfl (fun e => by simp [e]) (by simp; rfl) ⟨hz, rfl⟩ hc ?_
  intro i hi
  have := h.fin i (H.lt_of_live hi)
  show _ ≠ w.heap.size
  omega

/-- An object of the call's own is written: the model's block is another one's now. -/
theorem Sim.setOwn {k sz : Nat} {cs : List Value} {o : MObj} (h : Sim B w0 μ σ w) (hk : σ.get k = .cells sz cs) {c' : Array Value} {t : TypeId} {fz : Nat × Nat} {w' : World}
    (hw : w' = { w with heap := w.heap.setIfInBounds (μ k).b (.cells c' t fz) }) (hz : Unfrozen c' fz ∧ c'.size = (μ k).n)
    (ho : (∃ ds, o = .cells sz ds ∧ CellsR μ σ.size ds c' (μ k).o) ∨ o = .dead) :
    Sim B w0 μ (σ.set k o) w' := by
  subst hw
  have hlt := H.lt_of_cells hk
  obtain ⟨hB, _, _, _, hold, _, _⟩ := h.own k sz cs hk
  have hin : (μ k).b < w.heap.size := h.fin k hlt
  have other : ∀ b, b ≠ (μ k).b → ({ w with heap := w.heap.setIfInBounds (μ k).b (.cells c' t fz) } : World).heap[b]? = w.heap[b]? := fun b hb => by
    simp [Array.getElem?_setIfInBounds, Ne.symm hb]
  have same : ({ w with heap := w.heap.setIfInBounds (μ k).b (.cells c' t fz) } : World).heap[(μ k).b]? = some (.cells c' t fz) := by simp [Array.getElem?_setIfInBounds, hin]
  have apart : ∀ i, i ≠ k → σ.get i ≠ .dead → (μ i).b ≠ (μ k).b := fun i hi hd => Ne.symm (h.inj k i (by rw [hk]; simp) hd (fun cs => by rw [hk]; simp) (Ne.symm hi))
  refine ⟨h.below.trans ⟨rfl, rfl, rfl, by simp, fun b hb => other b (by have := hB.1; omega)⟩, by simpa using h.base, by simpa using h.fin, ?_, ?_, ?_, ?_⟩
  · intro i s ds hd
    by_cases e : i = k
    · subst e
      rw [H.get_set_self hlt] at hd
      rcases ho with ⟨ds', e, hc⟩ | e
      · rw [e] at hd; cases hd
        exact ⟨hB, c', t, fz, same, hz, by simpa using hc⟩
      · rw [e] at hd; cases hd
    · rw [H.get_set_ne e] at hd
      obtain ⟨h1, ds', t', fz', h2, h3, h4⟩ := h.own i s ds hd
      exact ⟨h1, ds', t', fz', by rw [other _ (apart i e (by rw [hd]; simp))]; exact h2, h3, by simpa using h4⟩
  · intro i ds hd
    by_cases e : i = k
    · subst e
      rw [H.get_set_self hlt] at hd
      rcases ho with ⟨ds', e, hc⟩ | e <;> (rw [e] at hd; cases hd)
    · rw [H.get_set_ne e] at hd
      obtain ⟨h0, ds', t', fz', h2, h4⟩ := h.ro i ds hd
      exact ⟨h0, ds', t', fz', by rw [other _ (apart i e (by rw [hd]; simp))]; exact h2, by simpa using h4⟩
  · intro i es c hd
    by_cases e : i = k
    · subst e
      rw [H.get_set_self hlt] at hd
      rcases ho with ⟨ds', e, hc⟩ | e <;> (rw [e] at hd; cases hd)
    · rw [H.get_set_ne e] at hd
      obtain ⟨h1, es', h2, h3, h4⟩ := h.map i es c hd
      exact ⟨h1, es', by rw [other _ (apart i e (by rw [hd]; simp))]; exact h2, h3, by simpa using h4⟩
  · intro i j hi hj hr hne
    have live : ∀ x, (σ.set k o).get x ≠ .dead → σ.get x ≠ .dead := fun x hx => by
      by_cases e : x = k
      · subst e; rw [hk]; simp
      · rwa [H.get_set_ne e] at hx
    refine h.inj i j (live i hi) (live j hj) (fun ds => ?_) hne
    by_cases e : i = k
    · subst e; rw [hk]; simp
    · have := hr ds; rwa [H.get_set_ne e] at this
end
end Go.Mini
