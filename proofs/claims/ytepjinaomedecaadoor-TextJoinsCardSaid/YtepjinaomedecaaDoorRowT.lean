/- The rows of the requests: what the listed variables hold, and the world's shape. -/
import Derived.Test.YtepjinaomedecaaDoorRowH
import Derived.Test.YtepjinaomedecaaDoorTextA
import Derived.HandedShaped
import Derived.Lib.LaidTab
import Derived.Lib.LaidU8
import Derived.LaidSub
import Derived.Shelf.Vars
namespace Go
variable {H : Type} {enc : TypeId × Value → H}
theorem returnsInHanded_and_shaped {a : Assume} {C : Checked} {os : Os} {f : FuncId} {fn : Func} {s : ChangeSpec} {conds : List PathCond} {apart fresh handsOn again : Bool} {X : World → Array Value → Prop}
    (hX : ∀ (w w' : World) (args : Array Value), w.heap = w'.heap → X w args → X w' args)
    (own : ownKnob C.prog.godebug = none) (started : os.Started) (noInit : C.prog.inits.idxOf? f = none) (hfn : C.prog.funcs[f]? = some fn)
    (witness : ∃ (w : World) (tape : Tape) (i : Input), w.os = os ∧ (w.forCall tape i).Shaped C.prog ∧ i.vars = [] ∧ Input.okWide C.prog (w.forCall tape i) .any w.heap.size f i ∧
      ((s.pre enc C.prog fn conds apart (w.forCall tape i).memory i.args ∧ X (w.forCall tape i).memory i.args) ∧ sizedMet enc C.prog fn (OpenSpec.ofChange s) apart (w.forCall tape i).memory i.args) ∧ a.holds C.prog (lone (Frame.enter C.prog f i.args .normal) [] (w.forCall tape i)))
    (contract : ∀ (W : World) (base : Nat) (args : Array Value) (ds gs : List (DataW H)) (before : List MemPlace),
      (∀ (j : Nat) t v, fn.params[j]? = some t → args[j]? = some v → Value.okWide C.prog W .any base t v) →
      DataW.Whole enc C.prog fn.params.toList s.vars apart W args.toList ds gs before → X W args → W.ShapedOpen C.prog →
      Calls C.prog f args W fun e W' => ∃ v, e = .returned v ∧ s.post enc C.prog fn apart fresh handsOn again W args v W') :
    ReturnsInHanded a C os f .any (fun w args => (s.pre enc C.prog fn conds apart w args ∧ X w args) ∧ sizedMet enc C.prog fn (OpenSpec.ofChange s) apart w args) (s.post enc C.prog fn apart fresh handsOn again) := by
  refine returnsInHanded_of_calls own started noInit witness ?_
  intro w tape i _ hsh _ hok hpre _
  obtain ⟨_, _, _, fn', hfn', _, _, _, _, hval⟩ := hok
  obtain rfl : fn' = fn := Option.some.inj (hfn'.symm.trans hfn)
  obtain ⟨⟨⟨ds, gs, before, hw, _⟩, hx⟩, _⟩ := hpre
  refine (contract (w.forCall tape i) w.heap.size i.args ds gs before hval (DataW.Whole.of_heap (w' := w.forCall tape i) (by rfl) hw) (hX _ _ _ (by rfl) hx) hsh).mono fun e W' ⟨v, he, hp⟩ => ?_
  subst he
  exact ChangeSpec.post_blind hp
end Go
namespace Go.Mini
open Go.ChangeShapes Go.WideShapes Go.ChangeAt Go.RowKit
theorem fits_act {l : List Value} (h : Fits [.str, .int .i64, .int .i64, .int .i64] l) : ∃ (nm : ByteArray) (a b c : Int), l = [.string nm, .int .i64 a, .int .i64 b, .int .i64 c] ∧ (nm.size : Int) ≤ 9223372036854775807 ∧ (-9223372036854775808 ≤ a ∧ a ≤ 9223372036854775807) ∧ (-9223372036854775808 ≤ b ∧ b ≤ 9223372036854775807) ∧ (-9223372036854775808 ≤ c ∧ c ≤ 9223372036854775807) := by
  cases h with
  | cons h hs => cases hs with
    | cons h2 hs => cases hs with
      | cons h3 hs => cases hs with
        | cons h4 hs => cases hs with
          | nil =>
            obtain ⟨s, rfl, s1⟩ := h
            obtain ⟨a, rfl, a1, a2⟩ := h2
            obtain ⟨b, rfl, b1, b2⟩ := h3
            obtain ⟨c, rfl, c1, c2⟩ := h4
            exact ⟨s, a, b, c, rfl, s1, ⟨a1, a2⟩, ⟨b1, b2⟩, ⟨c1, c2⟩⟩
end Go.Mini
namespace Go.Proofs.YtepjinaomedecaaDoor
open Go.Mini
theorem textE_of {l : List (String × DataW Unit)} {W : World} (hE : ErrType W) (hL : laidMetH Tryd.prog l W) (hsh : W.ShapedOpen Tryd.prog)
    (h1 : (l.filter fun x => x.2.handleName?.isNone).filter (fun x => x.1 == "internal/strconv.uint64pow10") = [("internal/strconv.uint64pow10", Rows.laid_internal_strconv_uint64pow10)])
    (h2 : ("strconv.ErrSyntax", Rows.laid_strconv_ErrSyntax) ∈ l.filter fun x => x.2.handleName?.isNone) (h3 : ("strconv.ErrRange", Rows.laid_strconv_ErrRange) ∈ l.filter fun x => x.2.handleName?.isNone) : TextE W := by
  have hl := (laidMetH_iff.1 hL).1
  have var : ∀ {n : String} {g : Nat} {nm : String} {d : DataW Unit}, (n, DataW.iface nm d) ∈ (l.filter fun x => x.2.handleName?.isNone) → Tryd.prog.globalNamed n = some g → ((Tryd.prog.globals[g]?).map (·.type) = some 26) → ∃ te pe, W.cell? ⟨g, 0, none⟩ = some (.iface te pe) := by
    intro n g nm d hm hg hty
    obtain ⟨g', t', cs, fuel, p, e1, e2, e3, e4⟩ := Lib.laidMet.reads hl hm
    obtain rfl := Option.some.inj (hg.symm.trans e1)
    obtain rfl := Option.some.inj (hty.symm.trans e2)
    obtain ⟨_, u, v, hcs, _⟩ := iface_of_trod Tryd.underlying26 e4
    have := World.var?_cell hg e3 0
    refine ⟨u, v, ?_⟩
    have h0 : cs[0]? = some (.iface u v) := by rw [← Array.getElem?_toList, hcs]; rfl
    simpa [h0] using this
  refine ⟨hE, ?_, var h2 (by kernel_rfl) (by kernel_rfl), var h3 (by kernel_rfl) (by kernel_rfl), ?_⟩
  · exact cell_of_shapedOpen_int (t := 3) (zero := #[.int .i64 0]) hsh (of_decide_eq_true (by kernel_rfl)) (by kernel_rfl) rfl (by kernel_rfl) (by kernel_rfl) Tryd.underlying3
  · have := hl.filter (fun x => x.1 == "internal/strconv.uint64pow10")
    rw [h1] at this
    exact Lib.tabIs_of_head (g := 2) (t := 176) (e := 164) (n := 20) (by kernel_rfl) (by kernel_rfl) Tryd.underlying176 Tryd.underlying164 (by kernel_rfl) (by kernel_rfl) this
end Go.Proofs.YtepjinaomedecaaDoor
