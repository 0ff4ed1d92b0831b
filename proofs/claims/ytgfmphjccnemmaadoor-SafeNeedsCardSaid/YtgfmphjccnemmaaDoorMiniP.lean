/- Regions that draw their order: one order stands for all. -/
import Derived.Test.YtgfmphjccnemmaaDoorMiniO
namespace Go.Mini
open Go.RowKit (Below)
set_option linter.unusedVariables false
set_option linter.unusedSimpArgs false

/-! ## Which slots an operation reads -/
def rdX : Opd → List Nat
  | .t i => [i]
  | _ => []
def rdO : Option Opd → List Nat
  | some x => rdX x
  | none => []
def rdM : MOp → List Nat
  | .mv x | .box x | .load1 x | .loadN _ x | .fadd _ x | .fld _ _ _ x | .not x | .neg x | .conv _ x | .s2b x | .b2s x | .mki _ x | .ext x _ | .nilck x | .tasI _ _ _ x | .len _ x | .mlen x | .clr _ x => rdX x
  | .pick c a b => rdX c ++ rdX a ++ rdX b
  | .alloc _ | .lenC _ | .mkmap | .bad => []
  | .store _ a x => rdX a ++ rdX x
  | .iaS _ x i | .iaA _ _ x i | .idxS x i | .idxA _ _ _ x i | .bin _ x i | .eqB _ x i | .eqN _ _ x i | .eqA _ _ x i | .app _ _ x i | .cpy _ x i | .min2 x i | .max2 x i | .mks _ _ _ x i | .mlook _ _ _ x i => rdX x ++ rdX i
  | .mkf _ a b => a.flatMap rdX ++ b.flatMap rdX
  | .bsl _ _ _ ps => ps.flatMap fun p => rdX p.2
  | .bld _ ps => ps.flatMap fun p => rdX p.2.2
  | .slc _ x a b c => rdX x ++ rdO a ++ rdO b ++ rdO c
  | .slcS x a b | .slcA _ _ x a b => rdX x ++ rdO a ++ rdO b
  | .mupd _ x k v => rdX x ++ rdX k ++ rdX v
  | .call _ as => as.flatMap rdX
  | .callv x as => rdX x ++ as.flatMap rdX
def rdG : Option (Nat × Bool) → List Nat
  | some (d, _) => [d]
  | none => []
def rdI (i : MI) : List Nat := rdM i.op ++ rdG i.g

structure DI where
  mi : MI
  ix : Nat
  loud : Bool
  ext : Bool

section
variable {ts ts' : Fr} {σ τ : H}
theorem mev_congr {x : Opd} (h : ∀ s ∈ rdX x, ts s = ts' s) : mev ts x = mev ts' x := by
  cases x with
  | t i => exact h i (by simp [rdX])
  | _ => rfl
theorem mevs_congr {l : List Opd} (h : ∀ s ∈ l.flatMap rdX, ts s = ts' s) : l.map (mev ts) = l.map (mev ts') :=
  List.map_congr_left fun x hx => mev_congr fun s hs => h s (List.mem_flatMap.2 ⟨x, hx, hs⟩)
theorem mevo_congr {x : Option Opd} (h : ∀ s ∈ rdO x, ts s = ts' s) : x.map (mev ts) = x.map (mev ts') := by
  cases x with
  | none => rfl
  | some x => simp only [Option.map_some]; rw [mev_congr h]
theorem mop_congr {op : MOp} (h : ∀ s ∈ rdM op, ts s = ts' s) : mop ts σ op = mop ts' σ op := by
  have two : ∀ {x y : Opd}, (∀ s ∈ rdX x ++ rdX y, ts s = ts' s) → mev ts x = mev ts' x ∧ mev ts y = mev ts' y := fun h =>
    ⟨mev_congr fun s hs => h s (List.mem_append.2 (.inl hs)), mev_congr fun s hs => h s (List.mem_append.2 (.inr hs))⟩
  have three : ∀ {x y z : Opd}, (∀ s ∈ rdX x ++ rdX y ++ rdX z, ts s = ts' s) → mev ts x = mev ts' x ∧ mev ts y = mev ts' y ∧ mev ts z = mev ts' z := fun h =>
    ⟨mev_congr fun s hs => h s (by simp [hs]), mev_congr fun s hs => h s (by simp [hs]), mev_congr fun s hs => h s (by simp [hs])⟩
  cases op with
  | pick c a b => obtain ⟨h1, h2, h3⟩ := three h; simp only [mop, h1, h2, h3]
  | mupd kd c a b => obtain ⟨h1, h2, h3⟩ := three h; simp only [mop, h1, h2, h3]
  | alloc zs => rfl
  | lenC n => rfl
  | mkmap => rfl
  | mkf fn a b =>
    simp only [mop]
    rw [mevs_congr fun s hs => h s (List.mem_append.2 (.inl hs)), mevs_congr fun s hs => h s (List.mem_append.2 (.inr hs))]
  | bsl sz n zs ps =>
    have : (ps.map fun (i, x) => (i * sz, sz, mev ts x)) = ps.map fun (i, x) => (i * sz, sz, mev ts' x) := List.map_congr_left fun p hp => by
      show (p.1 * sz, sz, mev ts p.2) = (p.1 * sz, sz, mev ts' p.2)
      rw [mev_congr fun s hs => h s (List.mem_flatMap.2 ⟨p, hp, hs⟩)]
    simp only [mop, this]
  | bld zs ps =>
    have : (ps.map fun (o, s, x) => (o, s, mev ts x)) = ps.map fun (o, s, x) => (o, s, mev ts' x) := List.map_congr_left fun p hp => by
      show (p.1, p.2.1, mev ts p.2.2) = (p.1, p.2.1, mev ts' p.2.2)
      rw [mev_congr fun s hs => h s (List.mem_flatMap.2 ⟨p, hp, hs⟩)]
    simp only [mop, this]
  | slc n x a b c =>
    have h1 : mev ts x = mev ts' x := mev_congr fun s hs => h s (by simp [rdM, hs])
    have h2 := mevo_congr (ts := ts) (ts' := ts') (x := a) fun s hs => h s (by simp [rdM, hs])
    have h3 := mevo_congr (ts := ts) (ts' := ts') (x := b) fun s hs => h s (by simp [rdM, hs])
    have h4 := mevo_congr (ts := ts) (ts' := ts') (x := c) fun s hs => h s (by simp [rdM, hs])
    simp only [mop, h1, h2, h3, h4]
  | slcS x a b =>
    have h1 : mev ts x = mev ts' x := mev_congr fun s hs => h s (by simp [rdM, hs])
    have h2 := mevo_congr (ts := ts) (ts' := ts') (x := a) fun s hs => h s (by simp [rdM, hs])
    have h3 := mevo_congr (ts := ts) (ts' := ts') (x := b) fun s hs => h s (by simp [rdM, hs])
    simp only [mop, h1, h2, h3]
  | slcA k n x a b =>
    have h1 : mev ts x = mev ts' x := mev_congr fun s hs => h s (by simp [rdM, hs])
    have h2 := mevo_congr (ts := ts) (ts' := ts') (x := a) fun s hs => h s (by simp [rdM, hs])
    have h3 := mevo_congr (ts := ts) (ts' := ts') (x := b) fun s hs => h s (by simp [rdM, hs])
    simp only [mop, h1, h2, h3]
  | call f as => rfl
  | callv x as => rfl
  | bad => rfl
  | _ => first
    | (have h1 := mev_congr (ts := ts) (ts' := ts') h; simp only [mop, h1]; done)
    | (obtain ⟨h1, h2⟩ := two h; simp only [mop, h1, h2]; done)

theorem cell_ext (h : Ext σ τ) {id off : Nat} {v : Value} (hc : σ.cell id off = some v) : τ.cell id off = some v := by
  unfold H.cell at *
  cases hg : σ.get id with
  | cells sz cs => rw [hg] at hc; rw [h.live hg (by simp)]; exact hc
  | ro cs => rw [hg] at hc; rw [h.live hg (by simp)]; exact hc
  | _ => rw [hg] at hc; cases hc
theorem row_ext (h : Ext σ τ) {id off n : Nat} {v : List Value} (hc : σ.row id off n = some v) : τ.row id off n = some v := by
  unfold H.row at *
  cases hg : σ.get id with
  | cells sz cs => rw [hg] at hc; rw [h.live hg (by simp)]; exact hc
  | ro cs => rw [hg] at hc; rw [h.live hg (by simp)]; exact hc
  | _ => rw [hg] at hc; cases hc
theorem okSz_ext (h : Ext σ τ) {sz id : Nat} (hc : okSz σ sz id = true) : okSz τ sz id = true := by
  unfold okSz at *
  cases hg : σ.get id with
  | cells s cs => rw [hg] at hc; rw [h.live hg (by simp)]; exact hc
  | ro cs => rw [hg] at hc; rw [h.live hg (by simp)]
  | _ => rw [hg] at hc; cases hc

/-- What a quiet operation tells it tells in every heap that holds more. -/
theorem quiet_ext {op : MOp} (hq : quietM op = true) {v : Value} {σ' : H} (hm : mop ts σ op = some (v, σ')) : σ' = σ ∧ ∀ τ, Ext σ τ → mop ts τ op = some (v, τ) := by
  cases op <;> first | (simp [quietM] at hq; done) | skip
  case load1 a =>
    simp only [mop] at hm ⊢
    split at hm
    · rename_i id off e
      cases hc : σ.cell id off with
      | none => rw [hc] at hm; cases hm
      | some u =>
        rw [hc] at hm
        simp only [Option.map_some, Option.some.injEq, Prod.mk.injEq] at hm
        obtain ⟨rfl, rfl⟩ := hm
        exact ⟨rfl, fun τ h => by simp only [cell_ext h hc, Option.map_some]⟩
    · cases hm
  case loadN n a =>
    simp only [mop] at hm ⊢
    split at hm
    · rename_i id off e
      cases hc : σ.row id off n with
      | none => rw [hc] at hm; cases hm
      | some u =>
        rw [hc] at hm
        simp only [Option.map_some, Option.some.injEq, Prod.mk.injEq] at hm
        obtain ⟨rfl, rfl⟩ := hm
        exact ⟨rfl, fun τ h => by simp only [row_ext h hc, Option.map_some]⟩
    · cases hm
  case b2s x =>
    simp only [mop] at hm ⊢
    split at hm
    · simp only [Option.some.injEq, Prod.mk.injEq] at hm
      obtain ⟨rfl, rfl⟩ := hm
      exact ⟨rfl, fun τ h => rfl⟩
    · rename_i id off n c e
      cases hc : σ.row id off n with
      | none => rw [hc] at hm; cases hm
      | some u =>
        rw [hc] at hm
        simp only at hm
        split at hm
        · rename_i hall
          simp only [Option.some.injEq, Prod.mk.injEq] at hm
          obtain ⟨rfl, rfl⟩ := hm
          exact ⟨rfl, fun τ h => by simp only [row_ext h hc, hall, if_true]⟩
        · cases hm
    · cases hm
  case slc n x lo hi mx =>
    simp only [mop] at hm ⊢
    split at hm
    · rename_i id off len cap e
      split at hm
      · rename_i l h m hb
        split at hm
        · rename_i hok
          simp only [Option.some.injEq, Prod.mk.injEq] at hm
          obtain ⟨rfl, rfl⟩ := hm
          exact ⟨rfl, fun τ h => by simp only [okSz_ext h hok, if_true]⟩
        · cases hm
      · cases hm
    · split at hm
      · simp only [Option.some.injEq, Prod.mk.injEq] at hm
        obtain ⟨rfl, rfl⟩ := hm
        exact ⟨rfl, fun τ h => rfl⟩
      · cases hm
    · cases hm
  case slcA k n x lo hi =>
    simp only [mop] at hm ⊢
    split at hm
    · rename_i id off e
      split at hm
      · rename_i l h m hb
        split at hm
        · rename_i cs hg
          simp only [Option.some.injEq, Prod.mk.injEq] at hm
          obtain ⟨rfl, rfl⟩ := hm
          exact ⟨rfl, fun τ h => by simp only [h.live hg (by simp)]⟩
        · cases hm
      · cases hm
    · cases hm
  case mlook kd ok z x k =>
    simp only [mop] at hm ⊢
    split at hm
    · rename_i r e
      split at hm
      · rename_i es c hg
        split at hm
        · rename_i i u hl
          simp only [Option.some.injEq, Prod.mk.injEq] at hm
          obtain ⟨rfl, rfl⟩ := hm
          exact ⟨rfl, fun τ h => by simp only [h.live hg (by simp), hl]⟩
        · rename_i hl
          simp only [Option.some.injEq, Prod.mk.injEq] at hm
          obtain ⟨rfl, rfl⟩ := hm
          exact ⟨rfl, fun τ h => by simp only [h.live hg (by simp), hl]⟩
        · cases hm
      · cases hm
    · cases hm
  case mlen x =>
    simp only [mop] at hm ⊢
    split at hm
    · simp only [Option.some.injEq, Prod.mk.injEq] at hm
      obtain ⟨rfl, rfl⟩ := hm
      exact ⟨rfl, fun τ h => rfl⟩
    · split at hm
      · rename_i es c hg
        simp only [Option.some.injEq, Prod.mk.injEq] at hm
        obtain ⟨rfl, rfl⟩ := hm
        exact ⟨rfl, fun τ h => by simp only [h.live hg (by simp)]⟩
      · cases hm
    · cases hm
  case min2 x y =>
    simp only [mop] at hm ⊢
    split at hm
    · simp only [Option.some.injEq, Prod.mk.injEq] at hm
      obtain ⟨rfl, rfl⟩ := hm
      exact ⟨rfl, fun τ h => rfl⟩
    · cases hm
  case max2 x y =>
    simp only [mop] at hm ⊢
    split at hm
    · simp only [Option.some.injEq, Prod.mk.injEq] at hm
      obtain ⟨rfl, rfl⟩ := hm
      exact ⟨rfl, fun τ h => rfl⟩
    · cases hm
  all_goals
    simp only [mop] at hm ⊢
    first
    | (simp only [Option.some.injEq, Prod.mk.injEq] at hm
       obtain ⟨rfl, rfl⟩ := hm
       exact ⟨rfl, fun τ h => rfl⟩)
    | (simp only [Option.map_eq_some_iff, Prod.mk.injEq] at hm
       obtain ⟨u, h1, rfl, rfl⟩ := hm
       exact ⟨rfl, fun τ h => by simp only [h1, Option.map_some]⟩)
    | (repeat' split at hm
       all_goals first
         | (cases hm; done)
         | (simp only [Option.some.injEq, Prod.mk.injEq] at hm
            obtain ⟨rfl, rfl⟩ := hm
            exact ⟨rfl, fun τ h => by first | rfl | simp_all⟩)
         | (simp only [Option.map_eq_some_iff, Prod.mk.injEq] at hm
            obtain ⟨u, h1, rfl, rfl⟩ := hm
            exact ⟨rfl, fun τ h => by simp_all⟩))
end

/-- Operations that ask nothing of the heap. -/
def pureM : MOp → Bool
  | .mv _ | .pick .. | .fadd .. | .iaS .. | .iaA .. | .idxS .. | .idxA .. | .fld .. | .bin .. | .eqB .. | .eqN .. | .eqA .. | .not _ | .neg _ | .conv .. | .mki .. | .mkf .. | .bld ..
  | .slcS .. | .ext .. | .nilck _ | .tasI .. | .len .. | .lenC _ => true
  | _ => false
section
variable {ts : Fr} {σ : H}
theorem pure_any {op : MOp} (hq : pureM op = true) {v : Value} {σ' : H} (hm : mop ts σ op = some (v, σ')) : ∀ τ, mop ts τ op = some (v, τ) := by
  intro τ
  cases op <;> first | (simp [pureM] at hq; done) | skip
  all_goals
    simp only [mop] at hm ⊢
    first
    | (simp only [Option.some.injEq, Prod.mk.injEq] at hm
       obtain ⟨rfl, rfl⟩ := hm
       rfl)
    | (simp only [Option.map_eq_some_iff, Prod.mk.injEq] at hm
       obtain ⟨u, h1, rfl, rfl⟩ := hm
       simp only [h1, Option.map_some])
    | (repeat' split at hm
       all_goals first
         | (cases hm; done)
         | (simp only [Option.some.injEq, Prod.mk.injEq] at hm
            obtain ⟨rfl, rfl⟩ := hm
            first | rfl | simp_all)
         | (simp only [Option.map_eq_some_iff, Prod.mk.injEq] at hm
            obtain ⟨u, h1, rfl, rfl⟩ := hm
            simp_all))
end

/-! ## The order -/
/-- Is i carried out ahead of j whichever order is taken? By a table of bits. -/
def rch (T : List Nat) (i j : Nat) : Bool := (T.getD j 0).testBit i
def orT (T : List Nat) (l : List Edge) : Nat := l.foldl (fun s e => if Region.binds .any e then s ||| 2 ^ e.on ||| T.getD e.on 0 else s) 0
def tabRow (ops : Array Oper) (T : List Nat) (j : Nat) : Bool := match ops[j]? with
  | some o => T.getD j 0 == orT T o.after.toList && o.after.toList.all fun e => !Region.binds .any e || decide (e.on < j)
  | none => false
def tabOk (ops : Array Oper) (T : List Nat) : Bool := decide (T.length = ops.size) && (List.range ops.size).all (tabRow ops T)
def mkTab (ops : Array Oper) : List Nat := ops.toList.foldl (fun T o => T ++ [orT T o.after.toList]) []
/-- Two operations, a told ahead of b: what one writes the other one doesn't touch, or a is ahead of b whichever order is taken. -/
def okPair (T : List Nat) (a b : DI) : Bool :=
  (rch T a.ix b.ix ||
    ((match b.mi.dst with | some d => !(rdI a.mi).contains d && a.mi.dst != some d | none => true) && (match a.mi.dst with | some d => !(rdI b.mi).contains d | none => true))) &&
  (b.loud || (match b.mi.dst with | some d => !(rdI a.mi).contains d && a.mi.dst != some d | none => true)) &&
  (a.ix != b.ix)
/-- b behind the elder ones l, of which the last loud one is told. -/
def okOne (ops : Array Oper) (T : List Nat) (l : List DI) (last : Option Nat) (b : DI) : Bool :=
  (l.all fun a => okPair T a b) && (match last with | some i => rch T i b.ix | none => true) &&
  (b.loud || (quietM b.mi.op && (match b.mi.dst with | some d => !(rdI b.mi).contains d | none => true))) &&
  (match ops[b.ix]? with | some o => o.after.toList.all fun e => !Region.binds .any e || l.any fun a => a.ix == e.on | none => false) && (!b.loud || b.ext || l.all fun a => pureM a.mi.op || rch T a.ix b.ix) && decide (b.ix < ops.size)
def okAll (ops : Array Oper) (T : List Nat) : List DI → Option Nat → List DI → Bool
  | _, _, [] => true
  | l, last, b :: rest => okOne ops T l last b && okAll ops T (l ++ [b]) (if b.loud then some b.ix else last) rest
end Go.Mini
