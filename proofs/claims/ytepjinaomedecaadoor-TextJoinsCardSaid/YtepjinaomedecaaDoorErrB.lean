/- errors.As at an error with tags around a number: the walk. -/
import Derived.Test.YtepjinaomedecaaDoorErrA
namespace Go.Proofs.YtepjinaomedecaaDoor
open Go.RowKit Go.Extern.Stop Go.Stop Go.Extern
set_option linter.unusedVariables false
set_option linter.unusedSimpArgs false

theorem unwrap_c (b o : Nat) (v : Value) (w : World) (h : w.cell? ⟨b, o + 1, none⟩ = some v) : Calls Tryd.prog 146 #[.pointer (some ⟨b, o, none⟩)] w fun e w' => e = .returned v ∧ w' = w := by
  go_enter Tryd.func146, Tryd.ntmps146
  go_wp2
  go_ret
  exact ⟨rfl, rfl⟩

set_option maxHeartbeats 4000000 in
theorem as_c (n : Nat) (v : Value) (k : Int) (t p : Addr) (old : Value) (w : World) (hc : EChain w n v k) (ht0 : w.cell? t = some old) (hf0 : w.frozen? t = false) (hp : w.cell? p = some (.pointer (some t))) :
    Calls Tryd.prog 57 #[v, .iface 77 (.pointer (some t)), .agg #[.pointer (some ⟨9, 77, none⟩), .pointer (some p), .int .u64 150], .iface 129 (.agg #[.pointer (some ⟨9, 66, none⟩)])] w
      fun e w' => e = .returned (.bool true) ∧ ∃ w2, Below w.heap.size w w2 ∧ w' = w2.setCell t (.int .i64 k) := by
  have h73 := @run_callFunc_extern Tryd.prog 54 _ (fun args => ReflectliteValue.unpack (args.getD 0 (.tuple #[]))) Tryd.func54 (by kernel_rfl) (by kernel_rfl) (by kernel_rfl) (by kernel_rfl)
  have h99 := @run_callFunc_extern Tryd.prog 74 _ ReflectliteType.typeOf Tryd.func74 (by kernel_rfl) (by kernel_rfl) (by kernel_rfl) (by kernel_rfl)
  have h140 := @run_callFunc_extern Tryd.prog 151 _ (ReflectliteType.relation "AssignableTo" ReflectliteType.assignableTo) Tryd.func151 (by kernel_rfl) (by kernel_rfl) (by kernel_rfl) (by kernel_rfl)
  have h100 := @run_callFunc_extern Tryd.prog 75 _ (ReflectliteValue.method (ReflectliteValue.valueError "reflectlite.Value.Elem" 0) ReflectliteValue.elem) Tryd.func75 (by kernel_rfl) (by kernel_rfl) (by kernel_rfl) (by kernel_rfl)
  have h101 := @run_callFunc_extern Tryd.prog 76 _ ReflectliteValue.set Tryd.func76 (by kernel_rfl) (by kernel_rfl) (by kernel_rfl) (by kernel_rfl)
  have tE := Tryd.typeOfE
  have tT := Tryd.typeOfT
  have mA := Tryd.methodAssignableTo
  have mU := Tryd.methodUnwrap
  have aE := Tryd.assignableE
  have aT := Tryd.assignableT
  have vE := Tryd.valueOfE
  have nA := Tryd.noAsT
  have uT := Tryd.unT
  go_enter Tryd.func57, Tryd.ntmps57
  go_wp2
  have hlt : ∀ {a : Addr} {u : Value}, w.cell? a = some u → a.block < w.heap.size := fun {a u} h => by
    rcases Nat.lt_or_ge a.block w.heap.size with x | x
    · exact x
    · simp [World.cell?, Array.getElem?_eq_none x] at h
  have htl := hlt ht0
  have hpl := hlt hp
  obtain ⟨W1, hW1⟩ : ∃ W1, w.alloc (Obj.cells #[Value.pointer (some { block := 9, off := 77 }), Value.pointer (some p), Value.int IntKind.u64 150] 109) = W1 := ⟨_, rfl⟩
  have hb1 : Below w.heap.size w W1 := hW1 ▸ (Below.refl _ w).alloc (Nat.le_refl _) _
  have ht1 : W1.cell? t = some old := by rw [← hW1, World.cell?_alloc_lt _ _ t htl]; exact ht0
  have hf1 : W1.frozen? t = false := by rw [← hW1, World.frozen?_alloc_old _ _ t (Nat.ne_of_lt htl)]; exact hf0
  have hp1 : W1.cell? p = some (.pointer (some t)) := by rw [← hW1, World.cell?_alloc_lt _ _ p hpl]; exact hp
  have q0 : W1.cell? ⟨w.heap.size, 0, none⟩ = some (.pointer (some ⟨9, 77, none⟩)) := by rw [← hW1, World.cell?_alloc_at _ _ _ _ (by simp)]; rfl
  have q1 : W1.cell? ⟨w.heap.size, 1, none⟩ = some (.pointer (some p)) := by rw [← hW1, World.cell?_alloc_at _ _ _ _ (by simp)]; rfl
  have q2 : W1.cell? ⟨w.heap.size, 2, none⟩ = some (.int .u64 150) := by rw [← hW1, World.cell?_alloc_at _ _ _ _ (by simp)]; rfl
  have hc1 := hc.ofBelow hb1
  have hlt1 : ∀ {a : Addr} {u : Value}, W1.cell? a = some u → a.block < W1.heap.size := fun {a u} h => by
    rcases Nat.lt_or_ge a.block W1.heap.size with x | x
    · exact x
    · simp [World.cell?, Array.getElem?_eq_none x] at h
  have el := Tryd.elemVP p t W1 hp1
  have st := Tryd.setE t ⟨W1.heap.size, 0, none⟩ k old (W1.alloc (.cells #[.int .i64 k] 66)) (by rw [World.cell?_alloc_at _ _ _ _ (by simp)]; rfl)
    (by rw [World.cell?_alloc_lt _ _ t (hlt1 ht1)]; exact ht1) (by rw [World.frozen?_alloc_old _ _ t (Nat.ne_of_lt (hlt1 ht1))]; exact hf1)
  have hend : ∃ w2, Below w.heap.size w w2 ∧ (W1.alloc (.cells #[.int .i64 k] 66)).setCell t (.int .i64 k) = w2.setCell t (.int .i64 k) := ⟨_, hb1.alloc hb1.size _, rfl⟩
  generalize hN : w.heap.size = N at *
  have hNA : Aside (w.heap.size = N) := hN
  rw [hW1]
  clear hN hW1 ht0 hf0 hp hc htl hpl hlt
  go_loopg [0] (n + 1) (fun gk v wr => wr = W1 ∧ ∃ m, gk = m + 1 ∧ EChain W1 m v k)
  case atStart => exact ⟨rfl, n, rfl, hc1⟩
  case round =>
    obtain ⟨rfl, m, rfl, hch⟩ := hrel
    cases hch with
    | num k =>
      go_wp2
      go_ret
      exact ⟨rfl, by rw [hNA.out]; exact hend⟩
    | @tag n b o v k h ht =>
      have hu := unwrap_c b o _ wr h
      cases ht with
      | num k =>
        go_wp2_with (go_at_call 146; refine hu.mono ?_; rintro e w' ⟨rfl, rfl⟩)
        go_roundg 1
        case measure => omega
        case rel => exact ⟨rfl, 0, rfl, .num _⟩
      | @tag n2 b2 o2 v2 k h2 ht2 =>
        go_wp2_with (go_at_call 146; refine hu.mono ?_; rintro e w' ⟨rfl, rfl⟩)
        go_roundg (n2 + 2)
        case measure => omega
        case rel => exact ⟨rfl, n2 + 1, rfl, .tag h2 ht2⟩

theorem ErrType.lt {w : World} (h : ErrType w) : 0 < w.heap.size := by
  rcases Nat.lt_or_ge 0 w.heap.size with h1 | h0
  · exact h1
  · simp [ErrType, World.cell?, Array.getElem?_eq_none h0] at h
theorem ErrType.ofBelow {w w' : World} (h : ErrType w) (hb : Below w.heap.size w w') : ErrType w' := by
  have := h.lt
  unfold ErrType at *
  simp only [World.cell?] at h ⊢
  rw [hb.block 0 this]; exact h

set_option maxHeartbeats 4000000 in
theorem errorsAs_c (n : Nat) (v : Value) (k : Int) (t : Addr) (old : Value) (w : World) (hg : ErrType w) (hc : EChain w n v k) (ht0 : w.cell? t = some old) (hf0 : w.frozen? t = false) :
    Calls Tryd.prog 35 #[v, .iface 77 (.pointer (some t))] w
      fun e w' => e = .returned (.bool true) ∧ ∃ w2, Below w.heap.size w w2 ∧ w' = w2.setCell t (.int .i64 k) := by
  have h73 := @run_callFunc_extern Tryd.prog 54 _ (fun args => ReflectliteValue.unpack (args.getD 0 (.tuple #[]))) Tryd.func54 (by kernel_rfl) (by kernel_rfl) (by kernel_rfl) (by kernel_rfl)
  have h74 := @run_callFunc_extern Tryd.prog 55 _ (ReflectliteValue.methodAny (ReflectliteValue.valueError "reflectlite.Value.Type" 0) (fun t _ _ _ => ReflectliteType.toType t)) Tryd.func55 (by kernel_rfl) (by kernel_rfl) (by kernel_rfl) (by kernel_rfl)
  have h75 := @run_callFunc_extern Tryd.prog 56 _ (ReflectliteValue.method (ReflectliteValue.valueError "reflectlite.Value.IsNil" 0) ReflectliteValue.isNil) Tryd.func56 (by kernel_rfl) (by kernel_rfl) (by kernel_rfl) (by kernel_rfl)
  have h129 := @run_callFunc_extern Tryd.prog 140 _ (ReflectliteType.abiMethod fun t => do pure (.int .u8 (← Rtype.kind t))) Tryd.func140 (by kernel_rfl) (by kernel_rfl) (by kernel_rfl) (by kernel_rfl)
  have h142 := @run_callFunc_extern Tryd.prog 153 _ (ReflectliteType.method ReflectliteType.elem) Tryd.func153 (by kernel_rfl) (by kernel_rfl) (by kernel_rfl) (by kernel_rfl)
  have h143 := @run_callFunc_extern Tryd.prog 154 _ (ReflectliteType.relation "Implements" ReflectliteType.implements_) Tryd.func154 (by kernel_rfl) (by kernel_rfl) (by kernel_rfl) (by kernel_rfl)
  have vP := Tryd.valueOfP
  have tP := Tryd.typeP
  have mK := Tryd.methodKind
  have mE := Tryd.methodElem
  have mI := Tryd.methodImplements
  have kP := Tryd.kindP
  have kE := Tryd.kindE
  have eP := Tryd.elemP
  have iE := Tryd.implementsE
  have hlt : ∀ {a : Addr} {u : Value}, w.cell? a = some u → a.block < w.heap.size := fun {a u} h => by
    rcases Nat.lt_or_ge a.block w.heap.size with x | x
    · exact x
    · simp [World.cell?, Array.getElem?_eq_none x] at h
  have htl := hlt ht0
  have hvv : ∃ T x, v = .iface T x := by cases hc with
    | num k => exact ⟨_, _, rfl⟩
    | tag h t => exact ⟨_, _, rfl⟩
  obtain ⟨T, x, rfl⟩ := hvv
  obtain ⟨W1, hW1⟩ : ∃ W1, w.alloc (Obj.cells #[Value.pointer (some t)] 77) = W1 := ⟨_, rfl⟩
  obtain ⟨W2, hW2⟩ : ∃ W2, W1.alloc (Obj.cells #[Value.pointer (some { block := 9, off := 77 }), Value.pointer (some ⟨w.heap.size, 0, none⟩), Value.int IntKind.u64 150] 109) = W2 := ⟨_, rfl⟩
  have hb1 : Below w.heap.size w W1 := hW1 ▸ (Below.refl _ w).alloc (Nat.le_refl _) _
  have hb2 : Below w.heap.size w W2 := hW2 ▸ hb1.alloc hb1.size _
  have s1 : W1.heap.size = w.heap.size + 1 := by rw [← hW1]; simp
  have g2 := hg.ofBelow hb2
  have c2 := hc.ofBelow hb2
  have p1 : W1.cell? ⟨w.heap.size, 0, none⟩ = some (.pointer (some t)) := by rw [← hW1, World.cell?_alloc_at _ _ _ _ (by simp)]; rfl
  have p2 : W2.cell? ⟨w.heap.size, 0, none⟩ = some (.pointer (some t)) := by rw [← hW2, World.cell?_alloc_lt _ _ _ (by simp; omega)]; exact p1
  have t2 : W2.cell? t = some old := by rw [← hW2, World.cell?_alloc_lt _ _ t (by omega), ← hW1, World.cell?_alloc_lt _ _ t htl]; exact ht0
  have f2 : W2.frozen? t = false := by rw [← hW2, World.frozen?_alloc_old _ _ t (by omega), ← hW1, World.frozen?_alloc_old _ _ t (Nat.ne_of_lt htl)]; exact hf0
  have n8 := Tryd.isNilP ⟨w.heap.size, 0, none⟩ t W2 p2
  have ca := as_c n _ k t ⟨w.heap.size, 0, none⟩ old W2 c2 t2 f2 p2
  have hend : ∀ w2, Below W2.heap.size W2 w2 → ∃ w3, Below w.heap.size w w3 ∧ w2.setCell t (.int .i64 k) = w3.setCell t (.int .i64 k) := fun w2 h => ⟨w2, hb2.trans (h.mono hb2.size), rfl⟩
  have g2' : W2.cell? ⟨0, 0, none⟩ = some (.iface 129 (.agg #[.pointer (some ⟨9, 26, none⟩)])) := g2
  clear s1
  clear c2 g2 hb2 hb1 hlt htl t2 f2 p1 p2 hc ht0 hf0 hg
  subst hW2
  subst hW1
  go_enter Tryd.func35, Tryd.ntmps35
  go_wp2_with (go_at_call 57; refine ca.mono ?_; rintro e w' ⟨rfl, w2, hb, rfl⟩)
  go_ret
  exact ⟨rfl, hend _ hb⟩
end Go.Proofs.YtepjinaomedecaaDoor
