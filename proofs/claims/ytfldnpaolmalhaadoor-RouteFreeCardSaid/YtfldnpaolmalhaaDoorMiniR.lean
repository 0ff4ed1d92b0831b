import Derived.Test.YtfldnpaolmalhaaDoorMiniO
/- Regions that draw their order: one order stands for all. -/
namespace Go.Mini
open Go.RowKit (Below)
set_option linter.unusedVariables false
set_option linter.unusedSimpArgs false

/-! ## Which slots an operation reads -/
def rdX : Opd → List Nat
  | .t i => [i]
  | _ => []
def rdO : Option Opd → List Nat
  | some x => rdX x
  | none => []
def rdM : MOp → List Nat
  | .mv x | .box x | .load1 x | .loadN _ x | .fadd _ x | .fld _ _ _ x | .not x | .neg x | .conv _ x | .s2b x | .b2s x | .mki _ x | .ext x _ | .nilck x | .tasI _ _ _ x | .len _ x | .mlen x | .clr _ x => rdX x
  | .pick c a b => rdX c ++ rdX a ++ rdX b
  | .alloc _ | .allocT _ _ | .lenC _ | .mkmap | .bad => []
  | .store _ a x => rdX a ++ rdX x
  | .iaS _ x i | .iaA _ _ x i | .idxS x i | .idxA _ _ _ x i | .bin _ x i | .eqB _ x i | .eqN _ _ x i | .eqA _ _ x i | .app _ _ x i | .cpy _ x i | .min2 x i | .max2 x i | .mks _ _ _ x i | .mlook _ _ _ x i => rdX x ++ rdX i
  | .mkf _ a b => a.flatMap rdX ++ b.flatMap rdX
  | .bsl _ _ _ ps => ps.flatMap fun p => rdX p.2
  | .bld _ ps => ps.flatMap fun p => rdX p.2.2
  | .slc _ x a b c => rdX x ++ rdO a ++ rdO b ++ rdO c
  | .slcS x a b | .slcA _ _ x a b => rdX x ++ rdO a ++ rdO b
  | .mupd _ x k v => rdX x ++ rdX k ++ rdX v
  | .call _ as => as.flatMap rdX
  | .callv x as => rdX x ++ as.flatMap rdX
def rdG : Option (Nat × Bool) → List Nat
  | some (d, _) => [d]
  | none => []
def rdI (i : MI) : List Nat := rdM i.op ++ rdG i.g

structure DI where
  mi : MI
  ix : Nat
  loud : Bool
  ext : Bool

section
variable {ts ts' : Fr} {σ τ : H}
theorem mev_congr {x : Opd} (h : ∀ s ∈ rdX x, ts s = ts' s) : mev ts x = mev ts' x := by
  cases x with
  | t i => exact h i (by simp [rdX])
  | _ => rfl
theorem mevs_congr {l : List Opd} (h : ∀ s ∈ l.flatMap rdX, ts s = ts' s) : l.map (mev ts) = l.map (mev ts') :=
  List.map_congr_left fun x hx => mev_congr fun s hs => h s (List.mem_flatMap.2 ⟨x, hx, hs⟩)
theorem mevo_congr {x : Option Opd} (h : ∀ s ∈ rdO x, ts s = ts' s) : x.map (mev ts) = x.map (mev ts') := by
  cases x with
  | none => rfl
  | some x => simp only [Option.map_some]; rw [mev_congr h]
theorem mop_congr {op : MOp} (h : ∀ s ∈ rdM op, ts s = ts' s) : mop ts σ op = mop ts' σ op := by
  have two : ∀ {x y : Opd}, (∀ s ∈ rdX x ++ rdX y, ts s = ts' s) → mev ts x = mev ts' x ∧ mev ts y = mev ts' y := fun h =>
    ⟨mev_congr fun s hs => h s (List.mem_append.2 (.inl hs)), mev_congr fun s hs => h s (List.mem_append.2 (.inr hs))⟩
  have three : ∀ {x y z : Opd}, (∀ s ∈ rdX x ++ rdX y ++ rdX z, ts s = ts' s) → mev ts x = mev ts' x ∧ mev ts y = mev ts' y ∧ mev ts z = mev ts' z := fun h =>
    ⟨mev_congr fun s hs => h s (by simp [hs]), mev_congr fun s hs => h s (by simp [hs]), mev_congr fun s hs => h s (by simp [hs])⟩
  cases op with
  | pick c a b => obtain ⟨h1, h2, h3⟩ := three h; simp only [mop, h1, h2, h3]
  | mupd kd c a b => obtain ⟨h1, h2, h3⟩ := three h; simp only [mop, h1, h2, h3]
  | alloc zs => rfl
  | allocT T zs => rfl
  | lenC n => rfl
  | mkmap => rfl
  | mkf fn a b =>
    simp only [mop]
    rw [mevs_congr fun s hs => h s (List.mem_append.2 (.inl hs)), mevs_congr fun s hs => h s (List.mem_append.2 (.inr hs))]
  | bsl sz n zs ps =>
    have : (ps.map fun (i, x) => (i * sz, sz, mev ts x)) = ps.map fun (i, x) => (i * sz, sz, mev ts' x) := List.map_congr_left fun p hp => by
      show (p.1 * sz, sz, mev ts p.2) = (p.1 * sz, sz, mev ts' p.2)
      rw [mev_congr fun s hs => h s (List.mem_flatMap.2 ⟨p, hp, hs⟩)]
    simp only [mop, this]
  | bld zs ps =>
    have : (ps.map fun (o, s, x) => (o, s, mev ts x)) = ps.map fun (o, s, x) => (o, s, mev ts' x) := List.map_congr_left fun p hp => by
      show (p.1, p.2.1, mev ts p.2.2) = (p.1, p.2.1, mev ts' p.2.2)
      rw [mev_congr fun s hs => h s (List.mem_flatMap.2 ⟨p, hp, hs⟩)]
    simp only [mop, this]
  | slc n x a b c =>
    have h1 : mev ts x = mev ts' x := mev_congr fun s hs => h s (by simp [rdM, hs])
    have h2 := mevo_congr (ts := ts) (ts' := ts') (x := a) fun s hs => h s (by simp [rdM, hs])
    have h3 := mevo_congr (ts := ts) (ts' := ts') (x := b) fun s hs => h s (by simp [rdM, hs])
    have h4 := mevo_congr (ts := ts) (ts' := ts') (x := c) fun s hs => h s (by simp [rdM, hs])
    simp only [mop, h1, h2, h3, h4]
  | slcS x a b =>
    have h1 : mev ts x = mev ts' x := mev_congr fun s hs => h s (by simp [rdM, hs])
    have h2 := mevo_congr (ts := ts) (ts' := ts') (x := a) fun s hs => h s (by simp [rdM, hs])
    have h3 := mevo_congr (ts := ts) (ts' := ts') (x := b) fun s hs => h s (by simp [rdM, hs])
    simp only [mop, h1, h2, h3]
  | slcA k n x a b =>
    have h1 : mev ts x = mev ts' x := mev_congr fun s hs => h s (by simp [rdM, hs])
    have h2 := mevo_congr (ts := ts) (ts' := ts') (x := a) fun s hs => h s (by simp [rdM, hs])
    have h3 := mevo_congr (ts := ts) (ts' := ts') (x := b) fun s hs => h s (by simp [rdM, hs])
    simp only [mop, h1, h2, h3]
  | call f as => rfl
  | callv x as => rfl
  | bad => rfl
  | _ => first
    | (have h1 := mev_congr (ts := ts) (ts' := ts') h; simp only [mop, h1]; done)
    | (obtain ⟨h1, h2⟩ := two h; simp only [mop, h1, h2]; done)

theorem cell_ext (h : Ext σ τ) {id off : Nat} {v : Value} (hc : σ.cell id off = some v) : τ.cell id off = some v := by
  unfold H.cell at *
  cases hg : σ.get id with
  | cells sz cs => rw [hg] at hc; rw [h.live hg (by simp)]; exact hc
  | ro cs => rw [hg] at hc; rw [h.live hg (by simp)]; exact hc
  | typ T cs => rw [hg] at hc; rw [h.live hg (by simp)]; exact hc
  | _ => rw [hg] at hc; cases hc
theorem row_ext (h : Ext σ τ) {id off n : Nat} {v : List Value} (hc : σ.row id off n = some v) : τ.row id off n = some v := by
  unfold H.row at *
  cases hg : σ.get id with
  | cells sz cs => rw [hg] at hc; rw [h.live hg (by simp)]; exact hc
  | ro cs => rw [hg] at hc; rw [h.live hg (by simp)]; exact hc
  | typ T cs => rw [hg] at hc; rw [h.live hg (by simp)]; exact hc
  | _ => rw [hg] at hc; cases hc
theorem okSz_ext (h : Ext σ τ) {sz id : Nat} (hc : okSz σ sz id = true) : okSz τ sz id = true := by
  unfold okSz at *
  cases hg : σ.get id with
  | cells s cs => rw [hg] at hc; rw [h.live hg (by simp)]; exact hc
  | ro cs => rw [hg] at hc; rw [h.live hg (by simp)]
  | _ => rw [hg] at hc; cases hc

/-- What a quiet operation tells it tells in every heap that holds more. -/
theorem quiet_ext {op : MOp} (hq : quietM op = true) {v : Value} {σ' : H} (hm : mop ts σ op = some (v, σ')) : σ' = σ ∧ ∀ τ, Ext σ τ → mop ts τ op = some (v, τ) := by
  cases op <;> first | (simp [quietM] at hq; done) | skip
  case load1 a =>
    simp only [mop] at hm ⊢
    split at hm
    · rename_i id off e
      cases hc : σ.cell id off with
      | none => rw [hc] at hm; cases hm
      | some u =>
        rw [hc] at hm
        simp only [Option.map_some, Option.some.injEq, Prod.mk.injEq] at hm
        obtain ⟨rfl, rfl⟩ := hm
        exact ⟨rfl, fun τ h => by simp only [cell_ext h hc, Option.map_some]⟩
    · cases hm
  case loadN n a =>
    simp only [mop] at hm ⊢
    split at hm
    · rename_i id off e
      cases hc : σ.row id off n with
      | none => rw [hc] at hm; cases hm
      | some u =>
        rw [hc] at hm
        simp only [Option.map_some, Option.some.injEq, Prod.mk.injEq] at hm
        obtain ⟨rfl, rfl⟩ := hm
        exact ⟨rfl, fun τ h => by simp only [row_ext h hc, Option.map_some]⟩
    · cases hm
  case b2s x =>
    simp only [mop] at hm ⊢
    split at hm
    · simp only [Option.some.injEq, Prod.mk.injEq] at hm
      obtain ⟨rfl, rfl⟩ := hm
      exact ⟨rfl, fun τ h => rfl⟩
    · rename_i id off n c e
      cases hc : σ.row id off n with
      | none => rw [hc] at hm; cases hm
      | some u =>
        rw [hc] at hm
        simp only at hm
        split at hm
        · rename_i hall
          simp only [Option.some.injEq, Prod.mk.injEq] at hm
          obtain ⟨rfl, rfl⟩ := hm
          exact ⟨rfl, fun τ h => by simp only [row_ext h hc, hall, if_true]⟩
        · cases hm
    · cases hm
  case slc n x lo hi mx =>
    simp only [mop] at hm ⊢
    split at hm
    · rename_i id off len cap e
      split at hm
      · rename_i l h m hb
        split at hm
        · rename_i hok
          simp only [Option.some.injEq, Prod.mk.injEq] at hm
          obtain ⟨rfl, rfl⟩ := hm
          exact ⟨rfl, fun τ h => by simp only [okSz_ext h hok, if_true]⟩
        · cases hm
      · cases hm
    · split at hm
      · simp only [Option.some.injEq, Prod.mk.injEq] at hm
        obtain ⟨rfl, rfl⟩ := hm
        exact ⟨rfl, fun τ h => rfl⟩
      · cases hm
    · cases hm
  case slcA k n x lo hi =>
    simp only [mop] at hm ⊢
    split at hm
    · rename_i id off e
      split at hm
      · rename_i l h m hb
        split at hm
        · rename_i cs hg
          simp only [Option.some.injEq, Prod.mk.injEq] at hm
          obtain ⟨rfl, rfl⟩ := hm
          exact ⟨rfl, fun τ h => by simp only [h.live hg (by simp)]⟩
        · cases hm
      · cases hm
    · cases hm
  case mlook kd ok z x k =>
    simp only [mop] at hm ⊢
    split at hm
    · rename_i r e
      split at hm
      · rename_i es c hg
        split at hm
        · rename_i i u hl
          simp only [Option.some.injEq, Prod.mk.injEq] at hm
          obtain ⟨rfl, rfl⟩ := hm
          exact ⟨rfl, fun τ h => by simp only [h.live hg (by simp), hl]⟩
        · rename_i hl
          simp only [Option.some.injEq, Prod.mk.injEq] at hm
          obtain ⟨rfl, rfl⟩ := hm
          exact ⟨rfl, fun τ h => by simp only [h.live hg (by simp), hl]⟩
        · cases hm
      · cases hm
    · cases hm
  case mlen x =>
    simp only [mop] at hm ⊢
    split at hm
    · simp only [Option.some.injEq, Prod.mk.injEq] at hm
      obtain ⟨rfl, rfl⟩ := hm
      exact ⟨rfl, fun τ h => rfl⟩
    · split at hm
      · rename_i es c hg
        simp only [Option.some.injEq, Prod.mk.injEq] at hm
        obtain ⟨rfl, rfl⟩ := hm
        exact ⟨rfl, fun τ h => by simp only [h.live hg (by simp)]⟩
      · cases hm
    · cases hm
  case min2 x y =>
    simp only [mop] at hm ⊢
    split at hm
    · simp only [Option.some.injEq, Prod.mk.injEq] at hm
      obtain ⟨rfl, rfl⟩ := hm
      exact ⟨rfl, fun τ h => rfl⟩
    · cases hm
  case max2 x y =>
    simp only [mop] at hm ⊢
    split at hm
    · simp only [Option.some.injEq, Prod.mk.injEq] at hm
      obtain ⟨rfl, rfl⟩ := hm
      exact ⟨rfl, fun τ h => rfl⟩
    · cases hm
  all_goals
    simp only [mop] at hm ⊢
    first
    | (simp only [Option.some.injEq, Prod.mk.injEq] at hm
       obtain ⟨rfl, rfl⟩ := hm
       exact ⟨rfl, fun τ h => rfl⟩)
    | (simp only [Option.map_eq_some_iff, Prod.mk.injEq] at hm
       obtain ⟨u, h1, rfl, rfl⟩ := hm
       exact ⟨rfl, fun τ h => by simp only [h1, Option.map_some]⟩)
    | (repeat' split at hm
       all_goals first
         | (cases hm; done)
         | (simp only [Option.some.injEq, Prod.mk.injEq] at hm
            obtain ⟨rfl, rfl⟩ := hm
            exact ⟨rfl, fun τ h => by first | rfl | simp_all⟩)
         | (simp only [Option.map_eq_some_iff, Prod.mk.injEq] at hm
            obtain ⟨u, h1, rfl, rfl⟩ := hm
            exact ⟨rfl, fun τ h => by simp_all⟩))
end

/-- Operations that ask nothing of the heap. -/
def pureM : MOp → Bool
  | .mv _ | .pick .. | .fadd .. | .iaS .. | .iaA .. | .idxS .. | .idxA .. | .fld .. | .bin .. | .eqB .. | .eqN .. | .eqA .. | .not _ | .neg _ | .conv .. | .mki .. | .mkf .. | .bld ..
  | .slcS .. | .ext .. | .nilck _ | .tasI .. | .len .. | .lenC _ => true
  | _ => false
section
variable {ts : Fr} {σ : H}
theorem pure_any {op : MOp} (hq : pureM op = true) {v : Value} {σ' : H} (hm : mop ts σ op = some (v, σ')) : ∀ τ, mop ts τ op = some (v, τ) := by
  intro τ
  cases op <;> first | (simp [pureM] at hq; done) | skip
  all_goals
    simp only [mop] at hm ⊢
    first
    | (simp only [Option.some.injEq, Prod.mk.injEq] at hm
       obtain ⟨rfl, rfl⟩ := hm
       rfl)
    | (simp only [Option.map_eq_some_iff, Prod.mk.injEq] at hm
       obtain ⟨u, h1, rfl, rfl⟩ := hm
       simp only [h1, Option.map_some])
    | (repeat' split at hm
       all_goals first
         | (cases hm; done)
         | (simp only [Option.some.injEq, Prod.mk.injEq] at hm
            obtain ⟨rfl, rfl⟩ := hm
            first | rfl | simp_all)
         | (simp only [Option.map_eq_some_iff, Prod.mk.injEq] at hm
            obtain ⟨u, h1, rfl, rfl⟩ := hm
            simp_all))
end

/-! ## The order -/
/-- Is i carried out ahead of j whichever order is taken? By a table of bits. -/
def rch (T : List Nat) (i j : Nat) : Bool := (T.getD j 0).testBit i
def orT (T : List Nat) (l : List Edge) : Nat := l.foldl (fun s e => if Region.binds .any e then s ||| 2 ^ e.on ||| T.getD e.on 0 else s) 0
def tabRow (ops : Array Oper) (T : List Nat) (j : Nat) : Bool := match ops[j]? with
  | some o => T.getD j 0 == orT T o.after.toList && o.after.toList.all fun e => !Region.binds .any e || decide (e.on < j)
  | none => false
def tabOk (ops : Array Oper) (T : List Nat) : Bool := decide (T.length = ops.size) && (List.range ops.size).all (tabRow ops T)
def mkTab (ops : Array Oper) : List Nat := ops.toList.foldl (fun T o => T ++ [orT T o.after.toList]) []
/-- Two operations, a told ahead of b: what one writes the other one doesn't touch, or a is ahead of b whichever order is taken. -/
def okPair (T : List Nat) (a b : DI) : Bool :=
  (rch T a.ix b.ix ||
    ((match b.mi.dst with | some d => !(rdI a.mi).contains d && a.mi.dst != some d | none => true) && (match a.mi.dst with | some d => !(rdI b.mi).contains d | none => true))) &&
  (b.loud || (match b.mi.dst with | some d => !(rdI a.mi).contains d && a.mi.dst != some d | none => true)) &&
  (a.ix != b.ix)
/-- b behind the elder ones l, of which the last loud one is told. -/
def okOne (ops : Array Oper) (T : List Nat) (l : List DI) (last : Option Nat) (b : DI) : Bool :=
  (l.all fun a => okPair T a b) && (match last with | some i => rch T i b.ix | none => true) &&
  (b.loud || (quietM b.mi.op && (match b.mi.dst with | some d => !(rdI b.mi).contains d | none => true))) &&
  (match ops[b.ix]? with | some o => o.after.toList.all fun e => !Region.binds .any e || l.any fun a => a.ix == e.on | none => false) && (!b.loud || b.ext || l.all fun a => pureM a.mi.op || rch T a.ix b.ix) && decide (b.ix < ops.size)
def okAll (ops : Array Oper) (T : List Nat) : List DI → Option Nat → List DI → Bool
  | _, _, [] => true
  | l, last, b :: rest => okOne ops T l last b && okAll ops T (l ++ [b]) (if b.loud then some b.ix else last) rest
end Go.Mini
/- Regions that draw their order: the proof. -/
namespace Go.Mini
open Go.RowKit (Below)
set_option linter.unusedVariables false
set_option linter.unusedSimpArgs false

/-- What the region does, in its one order. -/
def mld (E : World → Prop) (P : Program) : List DI → (Fr → H → Prop) → Fr → H → Prop
  | [], K, ts, σ => K ts σ
  | d :: rest, K, ts, σ => if wantM ts d.mi.g = true then mstep E P ts σ d.mi.op (fun v τ => (d.ext = true → Ext σ τ) ∧ mld E P rest K (updO ts d.mi.dst v) τ) else mld E P rest K (updO ts d.mi.dst undef) σ

def lastLoud : List DI → Option Nat → Option Nat
  | [], last => last
  | b :: rest, last => lastLoud rest (if b.loud then some b.ix else last)

section
variable {E : World → Prop} {P : Program} {ops : Array Oper} {T : List Nat}
theorem okAll_split : ∀ {l : List DI} {last : Option Nat} {a : List DI} {b : DI} {c : List DI}, okAll ops T l last (a ++ b :: c) = true → okOne ops T (l ++ a) (lastLoud a last) b = true
  | l, last, [], b, c, h => by
    simp only [List.nil_append, okAll, Bool.and_eq_true] at h
    simpa [lastLoud] using h.1
  | l, last, x :: a, b, c, h => by
    simp only [List.cons_append, okAll, Bool.and_eq_true] at h
    have := okAll_split h.2
    simpa [lastLoud] using this
theorem lastLoud_append : ∀ (a b : List DI) (last : Option Nat), lastLoud (a ++ b) last = lastLoud b (lastLoud a last)
  | [], _, _ => rfl
  | x :: a, b, last => by simp only [List.cons_append, lastLoud]; exact lastLoud_append a b _
theorem lastLoud_mem : ∀ (b : List DI) (last : Option Nat) {i : Nat}, lastLoud b last = some i → (∃ d ∈ b, d.ix = i) ∨ last = some i
  | [], last, i, h => .inr h
  | x :: b, last, i, h => by
    simp only [lastLoud] at h
    rcases lastLoud_mem b _ h with ⟨d, hd, e⟩ | e
    · exact .inl ⟨d, by simp [hd], e⟩
    · split at e
      · simp only [Option.some.injEq] at e; exact .inl ⟨x, by simp, e⟩
      · exact .inr e
theorem lastLoud_some : ∀ (b : List DI) (i : Nat), ∃ j, lastLoud b (some i) = some j
  | [], i => ⟨i, rfl⟩
  | x :: b, i => by
    simp only [lastLoud]
    split
    · exact lastLoud_some b x.ix
    · exact lastLoud_some b i

def Lst (listed : Array Bool) (i : Nat) : Prop := listed.getD i false = true
def Closed (ops : Array Oper) (listed : Array Bool) : Prop := ∀ j o, Lst listed j → ops[j]? = some o → ∀ e ∈ o.after, Region.binds .any e = true → Lst listed e.on
theorem orT_bit {T : List Nat} {i : Nat} : ∀ (l : List Edge) (s : Nat), (l.foldl (fun s e => if Region.binds .any e then s ||| 2 ^ e.on ||| T.getD e.on 0 else s) s).testBit i = true →
    s.testBit i = true ∨ ∃ e ∈ l, Region.binds .any e = true ∧ (e.on = i ∨ (T.getD e.on 0).testBit i = true)
  | [], s, h => .inl h
  | e :: l, s, h => by
    simp only [List.foldl_cons] at h
    rcases orT_bit l _ h with h | ⟨x, hx, h⟩
    · by_cases hb : Region.binds .any e = true
      · rw [if_pos hb] at h
        simp only [Nat.testBit_or, Bool.or_eq_true] at h
        rcases h with (h | h) | h
        · exact .inl h
        · rw [Nat.testBit_two_pow] at h
          exact .inr ⟨e, by simp, hb, .inl (by simpa using h)⟩
        · exact .inr ⟨e, by simp, hb, .inr h⟩
      · rw [if_neg hb] at h; exact .inl h
    · exact .inr ⟨x, by simp [hx], h⟩
theorem dst_listed {listed : Array Bool} (hT : tabOk ops T = true) (hc : Closed ops listed) : ∀ (j : Nat) {i : Nat} {o : Oper}, rch T i j = true → ops[j]? = some o → (∀ e ∈ o.after, Region.binds .any e = true → Lst listed e.on) → Lst listed i := by
  intro j
  induction j using Nat.strongRecOn with
  | ind j ih =>
    intro i o h ho hd
    have hlt : j < ops.size := by
      rcases Nat.lt_or_ge j ops.size with x | x
      · exact x
      · rw [Array.getElem?_eq_none x] at ho; cases ho
    unfold tabOk at hT
    simp only [Bool.and_eq_true, List.all_eq_true, List.mem_range] at hT
    have hrow := hT.2 j hlt
    unfold tabRow at hrow
    rw [ho] at hrow
    simp only [Bool.and_eq_true, beq_iff_eq, List.all_eq_true, Bool.or_eq_true, Bool.not_eq_true', decide_eq_true_eq] at hrow
    unfold rch at h
    rw [hrow.1] at h
    rcases orT_bit _ _ h with h | ⟨e, he, hb, h⟩
    · simp at h
    · have hl := hd e (by simpa using he) hb
      rcases h with h | h
      · rw [← h]; exact hl
      · have hej : e.on < j := by
          rcases hrow.2 e he with x | x
          · rw [hb] at x; cases x
          · exact x
        have ho2 : ops[e.on]? = some ops[e.on] := Array.getElem?_eq_getElem (by omega)
        exact ih e.on hej h ho2 (hc e.on _ hl ho2)

/-- What a pending quiet operation has told. -/
def PV (q : MI) (ts : Fr) (σ : H) : Prop :=
  (wantM ts q.g = true ∧ ∃ v, mop ts σ q.op = some (v, σ) ∧ ∀ d, q.dst = some d → ts d = v) ∨ (wantM ts q.g = false ∧ ∀ d, q.dst = some d → ts d = undef)
theorem wantM_congr {ts ts' : Fr} {g : Option (Nat × Bool)} (h : ∀ s ∈ rdG g, ts s = ts' s) : wantM ts g = wantM ts' g := by
  cases g with
  | none => rfl
  | some p => obtain ⟨d, b⟩ := p; simp only [wantM]; rw [h d (by simp [rdG])]
theorem PV.upd {q : MI} {ts : Fr} {σ : H} {d : Option Nat} {v : Value} (h : PV q ts σ) (h1 : ∀ x, d = some x → x ∉ rdI q) (h2 : ∀ x, d = some x → q.dst ≠ some x) : PV q (updO ts d v) σ := by
  cases d with
  | none => exact h
  | some x =>
    have hx := h1 x rfl
    have hd := h2 x rfl
    have same : ∀ s ∈ rdI q, ts s = updO ts (some x) v s := fun s hs => by
      have : s ≠ x := fun e => hx (e ▸ hs)
      simp [updO, Mini.upd, this]
    have sd : ∀ y, q.dst = some y → updO ts (some x) v y = ts y := fun y hy => by
      have : y ≠ x := fun e => hd (e ▸ hy)
      simp [updO, Mini.upd, this]
    have hw := wantM_congr (g := q.g) fun s hs => same s (by simp [rdI, hs])
    have hm : mop ts σ q.op = mop (updO ts (some x) v) σ q.op := mop_congr fun s hs => same s (by simp [rdI, hs])
    rcases h with ⟨a, u, b, c⟩ | ⟨a, c⟩
    · exact .inl ⟨by rw [← hw]; exact a, u, by rw [← hm]; exact b, fun y hy => by rw [sd y hy]; exact c y hy⟩
    · exact .inr ⟨by rw [← hw]; exact a, fun y hy => by rw [sd y hy]; exact c y hy⟩
theorem PV.ext {q : MI} {ts : Fr} {σ τ : H} (h : PV q ts σ) (hq : quietM q.op = true) (he : Ext σ τ) : PV q ts τ := by
  rcases h with ⟨a, u, b, c⟩ | h
  · exact .inl ⟨a, u, (quiet_ext hq b).2 τ he, c⟩
  · exact .inr h

theorem PV.pure {q : MI} {ts : Fr} {σ τ : H} (h : PV q ts σ) (hq : pureM q.op = true) : PV q ts τ := by
  rcases h with ⟨a, u, b, c⟩ | h
  · exact .inl ⟨a, u, pure_any hq b τ, c⟩
  · exact .inr h
theorem mstep_congr {ts ts' : Fr} {σ : H} {op : MOp} {K : Value → H → Prop} (h : ∀ s ∈ rdM op, ts s = ts' s) : mstep E P ts σ op K → mstep E P ts' σ op K := by
  cases op with
  | call f as => simp only [mstep]; rw [mevs_congr h]; exact id
  | callv x as =>
    simp only [mstep]
    rw [mev_congr (x := x) fun s hs => h s (List.mem_append.2 (.inl hs)), mevs_congr fun s hs => h s (List.mem_append.2 (.inr hs))]
    exact id
  | _ => simp only [mstep]; rw [mop_congr h]; exact id
theorem mstep_mono {ts : Fr} {σ : H} {op : MOp} {K K' : Value → H → Prop} (h : mstep E P ts σ op K) (hk : ∀ v τ, K v τ → K' v τ) : mstep E P ts σ op K' := by
  cases op with
  | call f as => exact MCalls.mono h hk
  | callv x as =>
    simp only [mstep] at h ⊢
    split at h
    · exact MCalls.mono h hk
    · exact MYield.mono h hk
    · exact h.elim
  | _ => obtain ⟨v, τ, h1, h2⟩ := h; exact ⟨v, τ, h1, hk _ _ h2⟩

/-- The check, told part by part. -/
structure Fit (ops : Array Oper) (T : List Nat) (l : List DI) (b : DI) : Prop where
  pair : ∀ a ∈ l, rch T a.ix b.ix = true ∨ ((∀ d, b.mi.dst = some d → d ∉ rdI a.mi ∧ a.mi.dst ≠ some d) ∧ ∀ d, a.mi.dst = some d → d ∉ rdI b.mi)
  fresh : ∀ a ∈ l, b.loud = true ∨ ∀ d, b.mi.dst = some d → d ∉ rdI a.mi ∧ a.mi.dst ≠ some d
  ne : ∀ a ∈ l, a.ix ≠ b.ix
  quiet : b.loud = true ∨ (quietM b.mi.op = true ∧ ∀ d, b.mi.dst = some d → d ∉ rdI b.mi)
  deps : ∃ o, ops[b.ix]? = some o ∧ ∀ e ∈ o.after, Region.binds .any e = true → ∃ a ∈ l, a.ix = e.on
  ext : b.loud = true → b.ext = true ∨ ∀ a ∈ l, pureM a.mi.op = true ∨ rch T a.ix b.ix = true
theorem okOne_fit {l : List DI} {last : Option Nat} {b : DI} (h : okOne ops T l last b = true) : Fit ops T l b ∧ ∀ i, last = some i → rch T i b.ix = true := by
  unfold okOne at h
  simp only [Bool.and_eq_true, List.all_eq_true, Bool.or_eq_true, decide_eq_true_eq] at h
  obtain ⟨⟨⟨⟨⟨h1, h2⟩, h3⟩, h4⟩, h5⟩, h6⟩ := h
  have nd : ∀ (x : Option Nat) (l : List Nat) (y : Option Nat), (match x with | some d => !l.contains d && y != some d | none => true) = true → ∀ d, x = some d → d ∉ l ∧ y ≠ some d := by
    intro x l y hx d e
    subst e
    simp at hx
    exact ⟨hx.1, hx.2⟩
  have nd1 : ∀ (x : Option Nat) (l : List Nat), (match x with | some d => !l.contains d | none => true) = true → ∀ d, x = some d → d ∉ l := by
    intro x l hx d e
    subst e
    simpa using hx
  refine ⟨⟨?_, ?_, ?_, ?_, ?_, ?_⟩, ?_⟩
  · intro a ha
    have := h1 a ha
    unfold okPair at this
    simp only [Bool.and_eq_true, Bool.or_eq_true] at this
    rcases this.1.1 with x | ⟨x, y⟩
    · exact .inl x
    · exact .inr ⟨nd _ _ _ x, nd1 _ _ y⟩
  · intro a ha
    have := h1 a ha
    unfold okPair at this
    simp only [Bool.and_eq_true, Bool.or_eq_true] at this
    rcases this.1.2 with x | x
    · exact .inl x
    · exact .inr (nd _ _ _ x)
  · intro a ha
    have := h1 a ha
    unfold okPair at this
    simp only [Bool.and_eq_true, Bool.or_eq_true, bne_iff_ne, ne_eq] at this
    exact this.2
  · rcases h3 with x | ⟨x, y⟩
    · exact .inl x
    · exact .inr ⟨x, nd1 _ _ y⟩
  · cases ho : ops[b.ix]? with
    | none => rw [ho] at h4; simp at h4
    | some o =>
      rw [ho] at h4
      refine ⟨o, rfl, fun e he hb => ?_⟩
      simp only [List.all_eq_true, Bool.or_eq_true, Bool.not_eq_true', List.any_eq_true, beq_iff_eq] at h4
      rcases h4 e (by simpa using he) with x | x
      · rw [hb] at x; cases x
      · exact x
  · intro hl
    rcases h5 with (x | x) | x
    · rw [hl] at x; cases x
    · exact .inl x
    · exact .inr x
  · intro i hi
    subst hi
    exact h2
end
end Go.Mini
/- Regions that draw their order: whichever order is taken, what the one order tells holds. -/
namespace Go.Mini
open Go.RowKit (Below)
set_option linter.unusedVariables false
set_option linter.unusedSimpArgs false
section
variable {E : World → Prop} {P : Program} {ops : Array Oper} {T : List Nat} {B : Nat} {w0 : World} {N : Nat} {D : List Deferred} {μ0 : Nat → Blk} {n0 : Nat} {ro : Option Nat}

/-- What is told of the check of the whole. -/
structure Full (P : Program) (N : Nat) (ops : Array Oper) (T : List Nat) (full : List DI) : Prop where
  tab : tabOk ops T = true
  ok : okAll ops T [] none full = true
  comp : ∀ i, i < ops.size → ∃ d ∈ full, d.ix = i
  cmi : ∀ d ∈ full, ∃ o, ops[d.ix]? = some o ∧ cMI P N ops o = some d.mi
theorem Full.at {full : List DI} (h : Full P N ops T full) {a c : List DI} {b : DI} (e : full = a ++ b :: c) : Fit ops T a b ∧ ∀ i, lastLoud a none = some i → rch T i b.ix = true := by
  have := h.ok
  rw [e] at this
  have := okAll_split this
  rw [List.nil_append] at this
  exact okOne_fit this

structure J (E : World → Prop) (P : Program) (ops : Array Oper) (B : Nat) (w0 : World) (N : Nat) (D : List Deferred) (μ0 : Nat → Blk) (n0 : Nat) (full : List DI) (K : Fr → H → Prop) (pre rest : List DI) (listed : Array Bool) (ts : Fr) (σ : H) (a : Act) (w : World) : Prop where
  split : full = pre ++ rest
  size : listed.size = ops.size
  sub : ∀ i, Lst listed i → ∃ d ∈ pre, d.ix = i
  closed : Closed ops listed
  loudL : ∀ d ∈ pre, d.loud = true → Lst listed d.ix
  pend : ∀ d ∈ pre, ¬ Lst listed d.ix → PV d.mi ts σ
  run : mld E P rest K ts σ
  st : ∃ ts2 μ, St E B w0 N D μ0 n0 μ ts2 σ a w ∧ ∀ s, (∀ d ∈ pre, ¬ Lst listed d.ix → d.mi.dst ≠ some s) → ts2 s = ts s

theorem quiet_mstep {ts : Fr} {σ : H} {op : MOp} {K : Value → H → Prop} (hq : quietM op = true) (h : mstep E P ts σ op K) : ∃ v, mop ts σ op = some (v, σ) ∧ K v σ := by
  have : ∃ v τ, mop ts σ op = some (v, τ) ∧ K v τ := by
    cases op <;> first | (simp [quietM] at hq; done) | exact h
  obtain ⟨v, τ, h1, h2⟩ := this
  obtain ⟨rfl, _⟩ := quiet_ext hq h1
  exact ⟨v, h1, h2⟩

/-- The quiet ones that stand next are told at once. -/
theorem J.advance {full : List DI} {K : Fr → H → Prop} (hF : Full P N ops T full) : ∀ {rest pre : List DI} {listed : Array Bool} {ts : Fr} {σ : H} {a : Act} {w : World}, J E P ops B w0 N D μ0 n0 full K pre rest listed ts σ a w →
    ∃ pre' rest' ts', J E P ops B w0 N D μ0 n0 full K pre' rest' listed ts' σ a w ∧ ∀ h tl, rest' = h :: tl → h.loud = true
  | [], pre, listed, ts, σ, a, w, j => ⟨pre, [], ts, j, fun _ _ e => by cases e⟩
  | b :: rest, pre, listed, ts, σ, a, w, j => by
    by_cases hl : b.loud = true
    · exact ⟨pre, b :: rest, ts, j, fun h tl e => by cases e; exact hl⟩
    · obtain ⟨fit, _⟩ := hF.at j.split
      obtain ⟨hq, hself⟩ := fit.quiet.resolve_left hl
      have hnl : ¬ Lst listed b.ix := fun h => by
        obtain ⟨d, hd, e⟩ := j.sub _ h
        exact fit.ne d hd e
      have main : ∀ v, mld E P rest K (updO ts b.mi.dst v) σ → PV b.mi (updO ts b.mi.dst v) σ → J E P ops B w0 N D μ0 n0 full K (pre ++ [b]) rest listed (updO ts b.mi.dst v) σ a w := by
        intro v hrun hpv
        refine ⟨by rw [j.split]; simp, j.size, fun i hi => ?_, j.closed, fun d hd hdl => ?_, fun d hd hdl => ?_, hrun, ?_⟩
        · obtain ⟨d, hd, e⟩ := j.sub i hi
          exact ⟨d, by simp [hd], e⟩
        · rcases List.mem_append.1 hd with h | h
          · exact j.loudL d h hdl
          · simp at h; subst h; exact absurd hdl hl
        · rcases List.mem_append.1 hd with h | h
          · have fr := (fit.fresh d h).resolve_left hl
            exact (j.pend d h hdl).upd (fun x hx => (fr x hx).1) (fun x hx => (fr x hx).2)
          · simp at h; subst h; exact hpv
        · obtain ⟨ts2, μ, st, hs⟩ := j.st
          refine ⟨ts2, μ, st, fun s hp => ?_⟩
          rw [hs s fun d hd hdl => hp d (by simp [hd]) hdl]
          have := hp b (by simp) hnl
          cases hd : b.mi.dst with
          | none => rfl
          | some x =>
            rw [hd] at this
            have hsx : s ≠ x := fun e => this (by rw [e])
            simp [updO, Mini.upd, hsx]
      have same : ∀ v, ∀ s ∈ rdI b.mi, ts s = updO ts b.mi.dst v s := fun v s hs => by
        cases hd : b.mi.dst with
        | none => rfl
        | some x =>
          have : s ≠ x := fun e => hself x hd (e ▸ hs)
          simp [updO, Mini.upd, this]
      have hrun := j.run
      simp only [mld] at hrun
      split at hrun
      · rename_i hw
        obtain ⟨v, hm, _, hk⟩ := quiet_mstep hq hrun
        refine J.advance hF (main v hk (.inl ⟨?_, v, ?_, fun d hd => ?_⟩))
        · rw [← wantM_congr (g := b.mi.g) fun s hs => same v s (by simp [rdI, hs])]; exact hw
        · rw [← mop_congr fun s hs => same v s (by simp [rdI, hs])]; exact hm
        · rw [hd]; simp [updO, Mini.upd]
      · rename_i hw
        refine J.advance hF (main undef hrun (.inr ⟨?_, fun d hd => ?_⟩))
        · rw [← wantM_congr (g := b.mi.g) fun s hs => same undef s (by simp [rdI, hs])]; simpa using hw
        · rw [hd]; simp [updO, Mini.upd]

theorem lst_set {listed : Array Bool} {i j : Nat} (hi : i < listed.size) : Lst (listed.setIfInBounds i true) j ↔ (j = i ∨ Lst listed j) := by
  unfold Lst
  simp only [Array.getD_eq_getD_getElem?, Array.getElem?_setIfInBounds]
  by_cases e : i = j
  · subst e; simp [hi]
  · have : j ≠ i := fun x => e x.symm
    simp [e, this]
theorem filter_lt {α : Type} {p q : α → Bool} : ∀ {l : List α}, (∀ x ∈ l, q x = true → p x = true) → (∃ x ∈ l, p x = true ∧ q x = false) → (l.filter q).length < (l.filter p).length
  | [], _, h => by obtain ⟨x, hx, _⟩ := h; cases hx
  | a :: l, h1, h2 => by
    have hle : ∀ {l : List α}, (∀ x ∈ l, q x = true → p x = true) → (l.filter q).length ≤ (l.filter p).length := by
      intro l
      induction l with
      | nil => intro _; simp
      | cons a l ih =>
        intro h
        have ih' := ih fun x hx => h x (by simp [hx])
        have ha := h a (by simp)
        by_cases hq : q a = true
        · simp [List.filter_cons, hq, ha hq, ih']
        · by_cases hp : p a = true
          · simp [List.filter_cons, hq, hp]; omega
          · simp [List.filter_cons, hq, hp, ih']
    have ha := h1 a (by simp)
    obtain ⟨x, hx, hp, hq⟩ := h2
    rcases List.mem_cons.1 hx with e | hx'
    · subst e
      have := hle (l := l) fun y hy => h1 y (by simp [hy])
      simp [List.filter_cons, hp, hq]; omega
    · have ih := filter_lt (l := l) (fun y hy => h1 y (by simp [hy])) ⟨x, hx', hp, hq⟩
      by_cases hqa : q a = true
      · simp [List.filter_cons, hqa, ha hqa, ih]
      · by_cases hpa : p a = true
        · simp [List.filter_cons, hqa, hpa]; omega
        · simp [List.filter_cons, hqa, hpa, ih]

theorem drawn {full : List DI} {K : Fr → H → Prop} {Q : Exit → Act → World → Prop} (hF : Full P N ops T full)
    (hK : ∀ ts σ μ a w, K ts σ → St E B w0 N D μ0 n0 μ ts σ a w → Q .normal a w) : ∀ (fuel : Nat) {pre rest : List DI} {listed : Array Bool} {ts : Fr} {σ : H} {a : Act} {w : World},
    J E P ops B w0 N D μ0 n0 full K pre rest listed ts σ a w → (full.filter fun d => !listed.getD d.ix false).length ≤ fuel → wpAnyIn (FW ro) 0 P .any ops Q fuel listed a w := by
  intro fuel
  -- all have come up
  have done : ∀ {pre rest : List DI} {listed : Array Bool} {ts : Fr} {σ : H} {a : Act} {w : World}, J E P ops B w0 N D μ0 n0 full K pre rest listed ts σ a w → (∀ d ∈ full, Lst listed d.ix) → Q .normal a w := by
    intro pre rest listed ts σ a w j hall
    have hrest : rest = [] := by
      cases hr : rest with
      | nil => rfl
      | cons h tl =>
        exfalso
        have e := j.split
        rw [hr] at e
        have := hall h (by rw [e]; simp)
        obtain ⟨d, hd, he⟩ := j.sub _ this
        exact (hF.at e).1.ne d hd he
    subst hrest
    obtain ⟨ts2, μ, st, hs⟩ := j.st
    have : ts2 = ts := funext fun s => hs s fun d hd hdl => absurd (hall d (by rw [j.split]; simp [hd])) hdl
    subst this
    exact hK _ _ _ _ _ j.run st
  -- none can come up: all have
  have idle : ∀ {pre rest : List DI} {listed : Array Bool} {ts : Fr} {σ : H} {a : Act} {w : World}, J E P ops B w0 N D μ0 n0 full K pre rest listed ts σ a w → Region.ready .any ops listed = [] → ∀ d ∈ full, Lst listed d.ix := by
    intro pre rest listed ts σ a w j hr
    have : ∀ (n : Nat) (l c : List DI), l.length = n → full = l ++ c → ∀ d ∈ l, Lst listed d.ix := by
      intro n
      induction n with
      | zero => intro l c h0 _ d hd; rw [List.length_eq_zero_iff.1 h0] at hd; cases hd
      | succ n ih0 =>
        intro l0 c h0 e d hd
        obtain ⟨l, b, rfl⟩ : ∃ l b, l0 = l ++ [b] := by
          rcases List.eq_nil_or_concat l0 with h | ⟨l, b, h⟩
          · subst h; simp at h0
          · exact ⟨l, b, by simpa using h⟩
        have ih : ∀ c, full = l ++ c → ∀ d ∈ l, Lst listed d.ix := fun c => ih0 l c (by simpa using h0)
        have e' : full = l ++ b :: c := by rw [e]; simp
        have hl := ih (b :: c) e'
        rcases List.mem_append.1 hd with h | h
        · exact hl d h
        · simp at h
          subst h
          obtain ⟨o, ho, hd⟩ := (hF.at e').1.deps
          apply Classical.byContradiction
          intro hn
          have hlt : d.ix < ops.size := by
            rcases Nat.lt_or_ge d.ix ops.size with x | x
            · exact x
            · rw [Array.getElem?_eq_none x] at ho; cases ho
          have hmem : d.ix ∈ Region.ready .any ops listed := mem_ready.2 ⟨by
              have hsz : d.ix < listed.size := by rw [j.size]; exact hlt
              unfold Lst at hn
              rw [Array.getD_eq_getD_getElem?, Array.getElem?_eq_getElem hsz] at hn ⊢
              simpa using hn, o, ho, fun e' he' hb => by
                obtain ⟨x, hx, ex⟩ := hd e' he' hb
                rw [← ex]; exact hl x hx⟩
          rw [hr] at hmem
          cases hmem
    exact this full.length full [] rfl (by simp)
  induction fuel with
  | zero =>
    intro pre rest listed ts σ a w j hm
    have hall : ∀ d ∈ full, Lst listed d.ix := by
      intro d hd
      apply Classical.byContradiction
      intro hn
      have h0 : (full.filter fun d => !listed.getD d.ix false) = [] := List.length_eq_zero_iff.1 (by omega)
      have : d ∈ full.filter fun d => !listed.getD d.ix false := List.mem_filter.2 ⟨hd, by unfold Lst at hn; simpa using hn⟩
      rw [h0] at this
      cases this
    refine ⟨?_, done j hall⟩
    apply Classical.byContradiction
    intro hne
    obtain ⟨i, hi⟩ := List.exists_mem_of_ne_nil _ hne
    obtain ⟨h1, o, ho, _⟩ := mem_ready.1 hi
    have hlt : i < ops.size := by
      rcases Nat.lt_or_ge i ops.size with x | x
      · exact x
      · rw [Array.getElem?_eq_none x] at ho; cases ho
    obtain ⟨d, hd, e⟩ := hF.comp i hlt
    have := hall d hd
    unfold Lst at this
    rw [e] at this
    have hsz : i < listed.size := by rw [j.size]; exact hlt
    rw [Array.getD_eq_getD_getElem?, Array.getElem?_eq_getElem hsz] at h1 this
    simp at h1 this
    rw [h1] at this; cases this
  | succ fuel ih =>
    intro pre rest listed ts σ a w j0 hm
    obtain ⟨pre, rest, ts, j, hhead⟩ := j0.advance hF
    clear j0
    refine ⟨fun hr => done j (idle j hr), fun i hi => ?_⟩
    obtain ⟨h1, o, ho, hdeps⟩ := mem_ready.1 hi
    have hlt : i < ops.size := by
      rcases Nat.lt_or_ge i ops.size with x | x
      · exact x
      · rw [Array.getElem?_eq_none x] at ho; cases ho
    have hsz : i < listed.size := by rw [j.size]; exact hlt
    have hni : ¬ Lst listed i := by
      unfold Lst
      rw [Array.getD_eq_getD_getElem?, Array.getElem?_eq_getElem hsz] at h1 ⊢
      simp at h1 ⊢; exact h1
    obtain ⟨d, hd, e⟩ := hF.comp i hlt
    obtain ⟨o', ho', hcmi⟩ := hF.cmi d hd
    rw [e, ho] at ho'
    cases ho'
    obtain ⟨c1, c2, c3, c4, c5⟩ := cMI_spec hcmi
    obtain ⟨ts2, μ, st, hs⟩ := j.st
    have hmeas : ∀ {l' : Array Bool}, l' = listed.setIfInBounds i true → (full.filter fun d => !l'.getD d.ix false).length ≤ fuel := by
      intro l' el
      subst el
      have := filter_lt (l := full) (p := fun d => !listed.getD d.ix false) (q := fun d => !(listed.setIfInBounds i true).getD d.ix false) (fun x _ hx => by
        have hx' : ¬ Lst (listed.setIfInBounds i true) x.ix := by unfold Lst; simpa using hx
        have : ¬ Lst listed x.ix := fun h => hx' ((lst_set hsz).2 (.inr h))
        unfold Lst at this
        simpa using this) ⟨d, hd, by rw [e]; unfold Lst at hni; simpa using hni, by
          have : Lst (listed.setIfInBounds i true) d.ix := (lst_set hsz).2 (.inl e)
          unfold Lst at this
          simpa using this⟩
      omega
    have hclosed : Closed ops (listed.setIfInBounds i true) := by
      intro k ok hk hok e' he' hb
      refine (lst_set hsz).2 ?_
      rcases (lst_set hsz).1 hk with h | h
      · subst h
        rw [ho] at hok
        cases hok
        exact .inr (hdeps e' he' hb)
      · exact .inr (j.closed k ok h hok e' he' hb)
    have hsz' : (listed.setIfInBounds i true).size = ops.size := by simpa using j.size
    have hreach : ∀ x, rch T x i = true → Lst listed x := fun x hx => dst_listed hF.tab j.closed _ hx ho hdeps
    -- slots that d reads hold what the small frame holds
    have read : ∀ {l c : List DI}, full = l ++ d :: c → (∀ x ∈ pre, ¬ Lst listed x.ix → x.loud ≠ true) → (∀ x ∈ pre, ¬ Lst listed x.ix → x = d ∨ x ∈ l ∨ x ∈ c) → (d.loud = true → ∀ x ∈ pre, x ∈ l) → ∀ s ∈ rdI d.mi, (d.loud = true ∨ quietM d.mi.op = true) → ts2 s = ts s := by
      intro l c ef hq hpos hpl s hsr _
      refine hs s fun x hx hxl hdst => ?_
      rcases hpos x hx hxl with h | h | h
      · subst h
        by_cases hl : x.loud = true
        · exact hq x hx hxl hl
        · exact ((hF.at ef).1.quiet.resolve_left hl).2 s hdst hsr
      · rcases (hF.at ef).1.pair x h with h2 | ⟨_, h2⟩
        · rw [e] at h2; exact hxl (hreach _ h2)
        · exact h2 s hdst hsr
      · obtain ⟨c1, c2, rfl⟩ := List.append_of_mem h
        have ef2 : full = (l ++ d :: c1) ++ x :: c2 := by rw [ef]; simp
        have := ((hF.at ef2).1.fresh d (by simp)).resolve_left (hq x hx hxl)
        exact (this s hdst).1 hsr
    have hpq : ∀ x ∈ pre, ¬ Lst listed x.ix → x.loud ≠ true := fun x hx hxl hl => hxl (j.loudL x hx hl)
    have hmem : d ∈ pre ∨ d ∈ rest := by
      have := hd
      rw [j.split] at this
      exact List.mem_append.1 this
    have hdn : ¬ Lst listed d.ix := by rw [e]; exact hni
    -- whether it is wanted
    have hwant : (∀ s ∈ rdI d.mi, ts2 s = ts s) → Region.wanted o (yielded ops a.tmps) = wantM ts d.mi.g := fun h => by
      rw [want_eq st.fr c2]
      exact wantM_congr fun s hs => h s (by simp [rdI, hs])
    unfold wpOpIn
    simp only [ho]
    rcases hmem with hpre | hrest
    · -- pending, quiet
      obtain ⟨p1, p2, ep⟩ := List.append_of_mem hpre
      have ef : full = p1 ++ d :: (p2 ++ rest) := by rw [j.split, ep]; simp
      have hdl : d.loud ≠ true := hpq d hpre hdn
      have hq := ((hF.at ef).1.quiet.resolve_left hdl).1
      have hrd : ∀ s ∈ rdI d.mi, ts2 s = ts s := fun s hs' => read ef hpq (fun x hx _ => by
        rw [ep] at hx
        rcases List.mem_append.1 hx with h | h
        · exact .inr (.inl h)
        · rcases List.mem_cons.1 h with h | h
          · exact .inl h
          · exact .inr (.inr (by simp [h]))) (fun h => absurd h hdl) s hs' (.inr hq)
      rw [hwant hrd]
      have fin : ∀ {v v' : Value} {w' : World} {μ' : Nat → Blk}, Sim B w0 μ' σ w' → VR μ' σ.size v v' → Agr σ.size μ μ' → (∀ x, d.mi.dst = some x → ts x = v) → wpAnyIn (FW ro) 0 P .any ops Q fuel (listed.setIfInBounds i true) (a.put o.dst v') w' := by
        intro v v' w' μ' hsim hv hag hval
        refine ih (pre := pre) (rest := rest) (ts := ts) (σ := σ) ⟨j.split, hsz', fun k hk => ?_, hclosed, fun x hx hl => (lst_set hsz).2 (.inr (j.loudL x hx hl)), fun x hx hxl => j.pend x hx fun h => hxl ((lst_set hsz).2 (.inr h)), j.run, ?_⟩ (hmeas rfl)
        · rcases (lst_set hsz).1 hk with h | h
          · exact ⟨d, hpre, by rw [e, h]⟩
          · exact j.sub k h
        · refine ⟨updO ts2 o.dst v, μ', st.put c4 hsim hv hag (Nat.le_refl _), fun s hp => ?_⟩
          rw [← c3]
          by_cases hsd : d.mi.dst = some s
          · rw [hsd]; simp [updO, Mini.upd]; exact (hval s hsd).symm
          · have h2 : updO ts2 d.mi.dst v s = ts2 s := by
              cases hdd : d.mi.dst with
              | none => rfl
              | some x =>
                have : s ≠ x := fun ee => hsd (by rw [hdd, ee])
                simp [updO, Mini.upd, this]
            rw [h2]
            refine hs s fun x hx hxl hdst => ?_
            by_cases hxd : x.ix = i
            · -- the same operation
              have : x = d := by
                apply Classical.byContradiction
                intro hne
                rw [ep] at hx
                rcases List.mem_append.1 hx with h | h
                · exact (hF.at ef).1.ne x h (by rw [hxd, e])
                · rcases List.mem_cons.1 h with h | h
                  · exact hne h
                  · obtain ⟨c1, c2, rfl⟩ := List.append_of_mem h
                    have ef2 : full = (p1 ++ d :: c1) ++ x :: (c2 ++ rest) := by rw [ef]; simp
                    exact (hF.at ef2).1.ne d (by simp) (by rw [hxd, e])
              subst this
              exact hsd hdst
            · exact hp x hx (fun h => by
                rcases (lst_set hsz).1 h with h | h
                · exact hxd h
                · exact hxl h) hdst
      rcases j.pend d hpre hdn with ⟨hw, v, hm, hval⟩ | ⟨hw, hval⟩
      · rw [hw]
        simp only [if_true]
        have hm2 : mop ts2 σ d.mi.op = some (v, σ) := by rw [mop_congr fun s hs => hrd s (by simp [rdI, hs])]; exact hm
        obtain ⟨v', w', μ', hrun, hsim, hv, hag, _⟩ := cop_sound c1 st.sim st.fr.2 hm2
        unfold Oper.wpIn
        refine ⟨fun _ _ => trivial, ?_⟩
        rw [Oper.semAt_eq _ _ _ (fun c e => by rw [e] at c1; injection c1 with c1; rw [← c1] at hm2; cases hm2)]
        rcases hrun with hrun | ⟨hrun, rfl⟩
        · rw [hrun]; exact fin hsim hv hag hval
        · rw [hrun]; exact fin hsim hv hag hval
      · rw [hw]
        simp only [Bool.false_eq_true, if_false]
        exact ⟨fun _ _ => trivial, fin st.sim (.tuple .nil) (.refl _ _) hval⟩
    · -- the next loud one
      cases hr : rest with
      | nil => rw [hr] at hrest; cases hrest
      | cons h tl =>
        have hhl := hhead h tl hr
        have hdh : d = h := by
          rw [hr] at hrest
          rcases List.mem_cons.1 hrest with x | x
          · exact x
          · exfalso
            obtain ⟨t1, t2, rfl⟩ := List.append_of_mem x
            have ef : full = (pre ++ h :: t1) ++ d :: t2 := by rw [j.split, hr]; simp
            obtain ⟨k, hk⟩ := lastLoud_some t1 h.ix
            have hlast : lastLoud (pre ++ h :: t1) none = some k := by
              rw [lastLoud_append]
              simp only [lastLoud, hhl, if_true]
              exact hk
            have hdk := (hF.at ef).2 k hlast
            rw [e] at hdk
            have hkl := hreach k hdk
            obtain ⟨q, hq, eq⟩ := j.sub k hkl
            rcases lastLoud_mem t1 _ hk with ⟨y, hy, ey⟩ | ey
            · obtain ⟨y1, y2, rfl⟩ := List.append_of_mem hy
              have ef2 : full = (pre ++ h :: y1) ++ y :: (y2 ++ d :: t2) := by rw [ef]; simp
              exact (hF.at ef2).1.ne q (by simp [hq]) (by rw [eq, ey])
            · simp only [Option.some.injEq] at ey
              have ef2 : full = pre ++ h :: (t1 ++ d :: t2) := by rw [ef]; simp
              exact (hF.at ef2).1.ne q hq (by rw [eq, ey])
        subst hdh
        have ef : full = pre ++ d :: tl := by rw [j.split, hr]
        obtain ⟨fit, _⟩ := hF.at ef
        have hrd : ∀ s ∈ rdI d.mi, ts2 s = ts s := fun s hs' => read ef hpq (fun x hx _ => .inr (.inl hx)) (fun _ x hx => hx) s hs' (.inl hhl)
        rw [hwant hrd]
        have hrun := j.run
        rw [hr] at hrun
        simp only [mld] at hrun
        -- behind it
        have fin : ∀ {v : Value} {τ : H} {μ' : Nat → Blk} {a' : Act} {w' : World}, ((d.ext = true → Ext σ τ)) → mld E P tl K (updO ts d.mi.dst v) τ → St E B w0 N D μ0 n0 μ' (updO ts2 o.dst v) τ a' w' → wpAnyIn (FW ro) 0 P .any ops Q fuel (listed.setIfInBounds i true) a' w' := by
          intro v τ μ' a' w' hext hk st'
          refine ih (pre := pre ++ [d]) (rest := tl) (ts := updO ts d.mi.dst v) (σ := τ) ⟨by rw [ef]; simp, hsz', fun k hk => ?_, hclosed, fun x hx hl => ?_, fun x hx hxl => ?_, hk, ?_⟩ (hmeas rfl)
          · rcases (lst_set hsz).1 hk with h | h
            · exact ⟨d, by simp, by rw [e, h]⟩
            · obtain ⟨x, hx, ex⟩ := j.sub k h
              exact ⟨x, by simp [hx], ex⟩
          · rcases List.mem_append.1 hx with h | h
            · exact (lst_set hsz).2 (.inr (j.loudL x h hl))
            · simp at h; subst h; exact (lst_set hsz).2 (.inl e)
          · have hxp : x ∈ pre := by
              rcases List.mem_append.1 hx with h | h
              · exact h
              · simp at h; subst h; exact absurd ((lst_set hsz).2 (.inl e)) hxl
            have hxn : ¬ Lst listed x.ix := fun h => hxl ((lst_set hsz).2 (.inr h))
            have hxq : quietM x.mi.op = true := by
              obtain ⟨q1, q2, eq⟩ := List.append_of_mem hxp
              have ef2 : full = q1 ++ x :: (q2 ++ d :: tl) := by rw [ef, eq]; simp
              exact ((hF.at ef2).1.quiet.resolve_left (hpq x hxp hxn)).1
            have hnd : ¬ rch T x.ix d.ix = true := fun h => by rw [e] at h; exact hxn (hreach _ h)
            have hE : PV x.mi ts τ := by
              rcases fit.ext hhl with h | h
              · exact (j.pend x hxp hxn).ext hxq (hext h)
              · rcases h x hxp with h | h
                · exact (j.pend x hxp hxn).pure h
                · exact absurd h hnd
            have hp := (fit.pair x hxp).resolve_left hnd
            exact hE.upd (fun y hy => (hp.1 y hy).1) (fun y hy => (hp.1 y hy).2)
          · refine ⟨updO ts2 o.dst v, μ', st', fun s hp => ?_⟩
            rw [← c3]
            cases hdd : d.mi.dst with
            | none =>
              exact hs s fun x hx hxl => hp x (by simp [hx]) (fun h => by
                rcases (lst_set hsz).1 h with h | h
                · exact fit.ne x hx (by rw [h, e])
                · exact hxl h)
            | some y =>
              by_cases hsy : s = y
              · subst hsy; simp [updO, Mini.upd]
              · simp only [updO, Mini.upd, hsy, if_false]
                exact hs s fun x hx hxl => hp x (by simp [hx]) (fun h => by
                  rcases (lst_set hsz).1 h with h | h
                  · exact fit.ne x hx (by rw [h, e])
                  · exact hxl h)
        split at hrun
        · rename_i hw
          rw [hw]
          simp only [if_true]
          have hms := mstep_congr (P := P) (ts' := ts2) (fun s hs' => (hrd s (by simp [rdI, hs'])).symm) hrun
          refine mstep_sound (d := d.mi.dst) c1 c5 c4 st hms ?_
          intro v τ μ' a' w' hk st'
          exact fin hk.1 hk.2 st'
        · rename_i hw
          have hwf : wantM ts d.mi.g = false := by simpa using hw
          rw [hwf]
          simp only [Bool.false_eq_true, if_false]
          refine ⟨fun _ _ => trivial, ?_⟩
          refine fin (v := undef) (μ' := μ) (fun _ => Ext.refl σ) hrun ?_
          exact st.put c4 st.sim (.tuple .nil) (.refl _ _) (Nat.le_refl _)
end
end Go.Mini
