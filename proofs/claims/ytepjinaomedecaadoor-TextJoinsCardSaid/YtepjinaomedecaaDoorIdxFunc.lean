/- strings.indexFunc with a predicate that tells no at each byte of an ASCII string: -1. -/
import Derived.Lib.OthersKept
import Derived.Deep.LoopGhost
import Derived.Shelf.Lays
import Derived.Test.YtepjinaomedecaaDoorProg
namespace Go.Proofs
open Go.Shelf Go.RowKit Go.Lib
set_option linter.unusedVariables false
set_option linter.unusedSimpArgs false

set_option maxHeartbeats 2000000 in
set_option maxRecDepth 1000000 in
theorem Tryd.indexFunc_none' {P : Program} {ρ : Ren} (L : Lays.n315 P ρ) (g : Nat) (s : ByteArray) (w : World) (ha : ∀ (i : Nat) (h : i < s.size), (s[i]'h).toNat < 128)
    (hp : ∀ (i : Nat) (h : i < s.size) (W : World), Calls P g #[.int .i32 (s[i]'h).toNat] W fun e W' => e = .returned (.bool false) ∧ Below W.heap.size W W')
    (hg : ∀ args w, (callFunc g args).run P w = .ok (.enter g args) w) :
    Calls P (ρ.f 315) #[.string s, .func (.func g) #[] #[], .bool true] w fun e w' => e = .returned (.int .i64 (-1)) ∧ Below w.heap.size w w' := by
  have t0 := L.t0; have a0 := L.a0; have z0 := L.z0; have v0 := L.v0; have t3 := L.t3; have a3 := L.a3; have z3 := L.z3; have v3 := L.v3; have t4 := L.t4; have a4 := L.a4; have z4 := L.z4; have v4 := L.v4; have t9 := L.t9; have a9 := L.a9; have z9 := L.z9; have v9 := L.v9; have t21 := L.t21; have a21 := L.a21; have z21 := L.z21; have v21 := L.v21; have t40 := L.t40; have a40 := L.a40; have z40 := L.z40; have v40 := L.v40
  go_enter L.f315, Body.n315_ntmps ρ
  go_wp2
  go_loopg [] s.size (fun gf wx => ∃ pos : Nat, wx.heap[w.heap.size]? = some (.stringIter s pos) ∧ Below w.heap.size w wx ∧ s.size ≤ pos + gf)
  case atStart => exact ⟨0, World.iter_heap w s 0, (Below.refl _ w).alloc (Nat.le_refl _) _, by omega⟩
  case round =>
    obtain ⟨pos, hit, hbw, hfu⟩ := hrel
    by_cases hps : pos < s.size
    · obtain ⟨g', rfl⟩ : ∃ g', gk = g' + 1 := ⟨gk - 1, by omega⟩
      have hnx : ∀ ty, (Instr.next (.pointer (some ⟨w.heap.size, 0, none⟩)) true ty).run P wr = _ := fun ty => Lib.run_next_ascii_at wr w.heap.size s pos ty hit hps (ha pos hps)
      have hit2 := Lib.iterAt_heap wr w.heap.size s pos (pos + 1) hit
      have hbw2 := Lib.below_iterAt hbw (k := w.heap.size) (Nat.le_refl _) s (pos + 1)
      obtain ⟨W, hWd⟩ : ∃ W, wr.iterAt w.heap.size s (pos + 1) = W := ⟨_, rfl⟩
      rw [hWd] at hnx hit2 hbw2
      have cS := hp pos hps W
      clear hp
      go_wp2_with (go_at_fn g; refine cS.mono ?_; rintro e W' ⟨rfl, hW'⟩)
      go_roundg g'
      case measure => omega
      case rel =>
        have hlt : w.heap.size < W.heap.size := by
          rcases Nat.lt_or_ge w.heap.size W.heap.size with x | x
          · exact x
          · rw [Array.getElem?_eq_none x] at hit2; cases hit2
        refine ⟨pos + 1, ?_, hbw2.trans (hW'.mono hbw2.size), by omega⟩
        rw [hW'.block _ hlt]; exact hit2
    · have hnx : ∀ ty, (Instr.next (.pointer (some ⟨w.heap.size, 0, none⟩)) true ty).run P wr = _ := fun ty => Lib.run_next_end_at wr w.heap.size s pos ty hit hps
      go_wp2
      go_ret
      exact ⟨rfl, hbw⟩

def Tryd.lays315x_ren : Go.Shelf.Ren := ⟨fun | 315 => 100 | n => n, fun | 0 => 0 | 3 => 3 | 4 => 4 | 9 => 9 | 21 => 21 | 40 => 122 | n => n, fun | n => n⟩
theorem Tryd.lays315x : Go.Proofs.Lays.n315 Tryd.prog Tryd.lays315x_ren := {
  mixed := by kernel_rfl
  f315 := Tryd.func100.trans (congrArg some (by kernel_rfl))
  t0 := Tryd.underlying0
  a0 := Tryd.isAgg0
  z0 := Tryd.sizeOf0
  v0 := Tryd.zeroValue0
  t3 := Tryd.underlying3
  a3 := Tryd.isAgg3
  z3 := Tryd.sizeOf3
  v3 := Tryd.zeroValue3
  t4 := Tryd.underlying4
  a4 := Tryd.isAgg4
  z4 := Tryd.sizeOf4
  v4 := Tryd.zeroValue4
  t9 := Tryd.underlying9
  a9 := Tryd.isAgg9
  z9 := Tryd.sizeOf9
  v9 := Tryd.zeroValue9
  t21 := Tryd.underlying21
  a21 := Tryd.isAgg21
  z21 := Tryd.sizeOf21
  v21 := Tryd.zeroValue21
  t40 := Tryd.underlying122
  a40 := Tryd.isAgg122
  z40 := Tryd.sizeOf122
  v40 := Tryd.zeroValue122 }
theorem Tryd.indexFunc_none (g : Nat) (s : ByteArray) (w : World) (ha : ∀ (i : Nat) (h : i < s.size), (s[i]'h).toNat < 128)
    (hp : ∀ (i : Nat) (h : i < s.size) (W : World), Calls Tryd.prog g #[.int .i32 (s[i]'h).toNat] W fun e W' => e = .returned (.bool false) ∧ Below W.heap.size W W')
    (hg : ∀ args w, (callFunc g args).run Tryd.prog w = .ok (.enter g args) w) :
    Calls Tryd.prog 100 #[.string s, .func (.func g) #[] #[], .bool true] w fun e w' => e = .returned (.int .i64 (-1)) ∧ Below w.heap.size w w' :=
  Tryd.indexFunc_none' Tryd.lays315x g s w ha hp hg
end Go.Proofs
