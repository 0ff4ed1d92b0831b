/- The small world's operations, what of the model's operations they are, and that they tell what the model does. -/
import Derived.Test.YtgfmphjccnemmaaDoorMiniA
namespace Go.Mini
open Go.RowKit (Below)
set_option linter.unusedVariables false
set_option linter.unusedSimpArgs false

inductive Opd where
  | t (i : Nat)
  | c (v : Value)
  | f (k : FuncId)

def mev (ts : Fr) : Opd → Value
  | .t i => ts i
  | .c v => v
  | .f k => .func (.func k) #[] #[]

/-- A constant without addresses, one level deep. -/
def closed : Value → Bool
  | .agg cs => cs.toList.all plain
  | .tuple cs => cs.toList.all plain
  | .iface _ v => plain v
  | v => plain v

def copd : Operand → Option Opd
  | .tmp t => some (.t t)
  | .const v => if closed v then some (.c v) else none
  | .global _ => none
  | .func f => some (.f f)

def one : Value → Bool
  | .agg _ | .tuple _ => false
  | _ => true

/-- Kinds of cells that are compared as they stand; kinds of keys. -/
inductive KD where
  | int | str | bool
def KD.has : KD → Value → Bool
  | .int, .int _ _ => true
  | .str, .string _ => true
  | .bool, .bool _ => true
  | _, _ => false

inductive NK where
  | ptr | slice | map | func | iface

inductive MOp where
  | mv (x : Opd)
  | pick (c a b : Opd)
  | box (x : Opd)
  | alloc (zs : List Value)
  | load1 (a : Opd)
  | loadN (n : Nat) (a : Opd)
  | store (n : Nat) (a x : Opd)
  | fadd (off : Nat) (a : Opd)
  | iaS (sz : Nat) (x i : Opd)
  | iaA (len sz : Nat) (x i : Opd)
  | idxS (x i : Opd)
  | idxA (len sz : Nat) (agg : Bool) (x i : Opd)
  | fld (off n : Nat) (agg : Bool) (x : Opd)
  | bin (op : BinOp) (x y : Opd)
  | eqB (neg : Bool) (x y : Opd)
  | eqN (k : NK) (neg : Bool) (x y : Opd)
  | eqA (neg : Bool) (ks : List KD) (x y : Opd)
  | not (x : Opd)
  | neg (x : Opd)
  | conv (k : IntKind) (x : Opd)
  | s2b (x : Opd)
  | b2s (x : Opd)
  | mki (t : TypeId) (x : Opd)
  | mkf (fn : Fn) (first cap : List Opd)
  | mks (sz : Nat) (bytes : Nat) (zs : List Value) (l c : Opd)
  | bsl (sz len : Nat) (zs : List Value) (parts : List (Nat × Opd))
  | bld (zs : List Value) (parts : List (Nat × Nat × Opd))
  | slc (sz : Nat) (x : Opd) (lo hi mx : Option Opd)
  | slcS (x : Opd) (lo hi : Option Opd)
  | slcA (n sz : Nat) (x : Opd) (lo hi : Option Opd)
  | ext (x : Opd) (i : Nat)
  | nilck (x : Opd)
  | tasI (t : TypeId) (ok : Bool) (z : Value) (x : Opd)
  | len (str : Bool) (x : Opd)
  | lenC (n : Nat)
  | app (sz bytes : Nat) (s x : Opd)
  | cpy (sz : Nat) (d s : Opd)
  | clr (zs : List Value) (x : Opd)
  | min2 (x y : Opd)
  | max2 (x y : Opd)
  | mkmap
  | mlook (kd : KD) (ok : Bool) (z : Value) (x k : Opd)
  | mupd (kd : KD) (x k v : Opd)
  | mlen (x : Opd)
  | call (f : FuncId) (args : List Opd)
  | callv (x : Opd) (args : List Opd)
  | bad

structure MI where
  dst : Option Nat
  op : MOp
  g : Option (Nat × Bool)

/-! ## What the small operations do -/

/-- Row cells from k on. -/
def rowL (cs : List Value) : Nat → Nat → Option (List Value)
  | _, 0 => some []
  | k, n + 1 => match cs[k]? with
    | some v => (rowL cs (k + 1) n).map (v :: ·)
    | none => none
def spl (cs : List Value) : Nat → List Value → List Value
  | _, [] => cs
  | k, v :: vs => spl (cs.set k v) (k + 1) vs
def H.cell (σ : H) (id off : Nat) : Option Value := match σ.get id with
  | .cells _ cs | .ro cs => cs[off]?
  | _ => none
def H.row (σ : H) (id off n : Nat) : Option (List Value) := match σ.get id with
  | .cells _ cs | .ro cs => rowL cs off n
  | _ => none
def putRow (σ : H) (id off : Nat) (vs : List Value) : Option H := match σ.get id with
  | .cells sz cs => if off + vs.length ≤ cs.length ∧ vs.all one = true then some (σ.set id (.cells sz (spl cs off vs))) else none
  | _ => none

def mbin : BinOp → Value → Value → Option Value
  | .add, .int k a, .int k' b => if k = k' then some (.int k (k.wrap (a + b))) else none
  | .sub, .int k a, .int k' b => if k = k' then some (.int k (k.wrap (a - b))) else none
  | .mul, .int k a, .int k' b => if k = k' then some (.int k (k.wrap (a * b))) else none
  | .quo, .int k a, .int k' b => if k = k' ∧ b ≠ 0 then some (.int k (k.wrap (a.tdiv b))) else none
  | .rem, .int k a, .int k' b => if k = k' ∧ b ≠ 0 then some (.int k (a.tmod b)) else none
  | .and, .int k a, .int k' b => if k = k' then some (.int k (k.wrap (BitVec.ofInt k.bits a &&& BitVec.ofInt k.bits b).toNat)) else none
  | .or, .int k a, .int k' b => if k = k' then some (.int k (k.wrap (BitVec.ofInt k.bits a ||| BitVec.ofInt k.bits b).toNat)) else none
  | .xor, .int k a, .int k' b => if k = k' then some (.int k (k.wrap (BitVec.ofInt k.bits a ^^^ BitVec.ofInt k.bits b).toNat)) else none
  | .andNot, .int k a, .int k' b => if k = k' then some (.int k (k.wrap (BitVec.ofInt k.bits a &&& ~~~ BitVec.ofInt k.bits b).toNat)) else none
  | .shl, .int k a, .int _ b => if 0 ≤ b then some (.int k (k.wrap (a * 2 ^ (min b.toNat k.bits)))) else none
  | .shr, .int k a, .int _ b => if 0 ≤ b then some (.int k (a.fdiv (2 ^ (min b.toNat k.bits)))) else none
  | .eql, .int k a, .int k' b => if k = k' then some (.bool (a == b)) else none
  | .neq, .int k a, .int k' b => if k = k' then some (.bool (a != b)) else none
  | .lss, .int k a, .int k' b => if k = k' then some (.bool (decide (a < b))) else none
  | .leq, .int k a, .int k' b => if k = k' then some (.bool (decide (a ≤ b))) else none
  | .gtr, .int k a, .int k' b => if k = k' then some (.bool (decide (a > b))) else none
  | .geq, .int k a, .int k' b => if k = k' then some (.bool (decide (a ≥ b))) else none
  | .add, .string a, .string b => if ((a.size + b.size : Nat) : Int) ≤ IntKind.i64.max then some (.string (a ++ b)) else none
  | .eql, .string a, .string b => some (.bool (a.toList == b.toList))
  | .neq, .string a, .string b => some (.bool (!(a.toList == b.toList)))
  | .lss, .string a, .string b => some (.bool (Op.bytesLess a.toList b.toList))
  | .leq, .string a, .string b => some (.bool (Op.bytesLess a.toList b.toList || a.toList == b.toList))
  | .gtr, .string a, .string b => some (.bool (!(Op.bytesLess a.toList b.toList || a.toList == b.toList)))
  | .geq, .string a, .string b => some (.bool (!Op.bytesLess a.toList b.toList))
  | _, _, _ => none

/-- '==' where one side is nil. -/
def eqNil : NK → Value → Value → Option Bool
  | .ptr, .pointer none, .pointer b => some b.isNone
  | .ptr, .pointer (some _), .pointer none => some false
  | .slice, .slice none _ _, .slice b _ _ => some b.isNone
  | .slice, .slice (some _) _ _, .slice none _ _ => some false
  | .map, .map none, .map b => some b.isNone
  | .map, .map (some _), .map none => some false
  | .iface, .nilIface, .nilIface => some true
  | .iface, .nilIface, .iface _ _ => some false
  | .iface, .iface _ _, .nilIface => some false
  | .func, .nilFunc, .nilFunc => some true
  | .func, .nilFunc, .func _ _ _ => some false
  | .func, .func _ _ _, .nilFunc => some false
  | _, _, _ => none

/-- '==' of rows of numbers, bools and texts. -/
def eqCell : KD → Value → Value → Option Bool
  | .bool, .bool a, .bool b => some (a == b)
  | .int, .int k a, .int k' b => if k = k' then some (a == b) else none
  | .str, .string a, .string b => some (a.toList == b.toList)
  | _, _, _ => none
def eqCells : List KD → List Value → List Value → Option Bool
  | [], [], [] => some true
  | k :: ks, x :: xs, y :: ys => match eqCell k x y with
    | some true => eqCells ks xs ys
    | some false => some false
    | none => none
  | _, _, _ => none

def bnd (y : Nat) : Value → Option Nat
  | .int _ i => if 0 ≤ i ∧ i ≤ y then some i.toNat else none
  | _ => none
def bnds (len cap : Nat) (lo hi mx : Option Value) : Option (Nat × Nat × Nat) :=
  match (match mx with | some v => bnd cap v | none => some cap) with
  | none => none
  | some m => match (match hi with | some v => bnd m v | none => if mx.isNone then some len else none) with
    | none => none
    | some h => match (match lo with | some v => bnd h v | none => some 0) with
      | none => none
      | some l => some (l, h, m)

def isU8 : Value → Bool
  | .int .u8 _ => true
  | _ => false
def toU8 : Value → UInt8
  | .int _ k => UInt8.ofNat k.toNat
  | _ => 0
/-- A text's bytes as cells. -/
def bytesL (l : List UInt8) : List Value := l.map fun b => .int .u8 b.toNat

/-- Cells that a slice or a text has, from the first one on. -/
def firstL (σ : H) (sz n : Nat) : Value → Option (List Value)
  | .slice (some ⟨id, off, none⟩) _ _ => σ.row id off (n * sz)
  | .slice none 0 0 => some []
  | .string s => if sz = 1 then some (bytesL (s.extract 0 n).data.toList) else none
  | _ => none
def lenL : Value → Option Nat
  | .slice _ n _ => some n
  | .string s => some s.size
  | _ => none

def fillL (cs : List Value) : List (Nat × Nat × Value) → Option (List Value)
  | [] => some cs
  | (off, sz, v) :: rest => if v.cells.size = sz ∧ off + sz ≤ cs.length then fillL (spl cs off v.cells.toList) rest else none

def repZ (zs : List Value) : Nat → List Value
  | 0 => []
  | n + 1 => zs ++ repZ zs n

/-- How large a slice may come to be. -/
def appMax : Nat := 2 ^ 39

def keyEq : Value → Value → Option Bool
  | .int k a, .int k' b => if k = k' then some (a == b) else none
  | .string a, .string b => some (a == b)
  | .bool a, .bool b => some (a == b)
  | _, _ => none
def lookL (k : Value) : List (Value × Value) → Nat → Option (Option (Nat × Value))
  | [], _ => some none
  | e :: es, i => match keyEq k e.1 with
    | some true => some (some (i, e.2))
    | some false => lookL k es (i + 1)
    | none => none

/-- Are an object's elements so many cells? -/
def okSz (σ : H) (sz id : Nat) : Bool := match σ.get id with
  | .cells s _ => s == sz || s == 0
  | .ro _ => true
  | _ => false

def mop (ts : Fr) (σ : H) : MOp → Option (Value × H)
  | .mv x => some (mev ts x, σ)
  | .pick c a b => match mev ts c with
    | .bool t => some (if t then mev ts a else mev ts b, σ)
    | _ => none
  | .box x => some (.pointer (some ⟨σ.size, 0, none⟩), σ.push (.cells 0 (mev ts x).cells.toList))
  | .alloc zs => some (.pointer (some ⟨σ.size, 0, none⟩), σ.push (.cells 0 zs))
  | .load1 a => match mev ts a with
    | .pointer (some ⟨id, off, none⟩) => (σ.cell id off).map fun v => (v, σ)
    | _ => none
  | .loadN n a => match mev ts a with
    | .pointer (some ⟨id, off, none⟩) => (σ.row id off n).map fun vs => (.agg vs.toArray, σ)
    | _ => none
  | .store n a x => match mev ts a with
    | .pointer (some ⟨id, off, none⟩) => if (mev ts x).cells.size = n then (putRow σ id off (mev ts x).cells.toList).map fun τ => (undef, τ) else none
    | _ => none
  | .fadd off a => match mev ts a with
    | .pointer (some ⟨id, o, none⟩) => some (.pointer (some ⟨id, o + off, none⟩), σ)
    | _ => none
  | .iaS sz x i => match mev ts x, mev ts i with
    | .slice (some ⟨id, off, none⟩) len _, .int _ k => if 0 ≤ k ∧ k < len then some (.pointer (some ⟨id, off + k.toNat * sz, none⟩), σ) else none
    | _, _ => none
  | .iaA len sz x i => match mev ts x, mev ts i with
    | .pointer (some ⟨id, off, none⟩), .int _ k => if 0 ≤ k ∧ k < len then some (.pointer (some ⟨id, off + k.toNat * sz, none⟩), σ) else none
    | _, _ => none
  | .idxS x i => match mev ts x, mev ts i with
    | .string s, .int _ k => if 0 ≤ k ∧ k < s.size then some (.int .u8 (s.data.toList.getD k.toNat 0).toNat, σ) else none
    | _, _ => none
  | .idxA len sz agg x i => match mev ts x, mev ts i with
    | .agg cs, .int _ k => if 0 ≤ k ∧ k < len then
        (if agg then some (.agg ((cs.toList.drop (k.toNat * sz)).take sz).toArray, σ) else (cs.toList[k.toNat * sz]?).map fun v => (v, σ)) else none
    | _, _ => none
  | .fld off n agg x => match mev ts x with
    | .agg cs => if agg then some (.agg ((cs.toList.drop off).take n).toArray, σ) else (cs.toList[off]?).map fun v => (v, σ)
    | _ => none
  | .bin op x y => (mbin op (mev ts x) (mev ts y)).map fun v => (v, σ)
  | .eqB neg x y => match mev ts x, mev ts y with
    | .bool a, .bool b => some (.bool (if neg then !(a == b) else a == b), σ)
    | _, _ => none
  | .eqN k neg x y => (eqNil k (mev ts x) (mev ts y)).map fun b => (.bool (if neg then !b else b), σ)
  | .eqA neg ks x y => match mev ts x, mev ts y with
    | .agg a, .agg b => if a.toList.length = ks.length ∧ b.toList.length = ks.length then (eqCells ks a.toList b.toList).map fun b => (.bool (if neg then !b else b), σ) else none
    | _, _ => none
  | .not x => match mev ts x with
    | .bool b => some (.bool (!b), σ)
    | _ => none
  | .neg x => match mev ts x with
    | .int k n => some (.int k (k.wrap (0 - n)), σ)
    | _ => none
  | .conv k x => match mev ts x with
    | .int _ n => some (.int k (k.wrap n), σ)
    | _ => none
  | .s2b x => match mev ts x with
    | .string s => some (.slice (some ⟨σ.size, 0, none⟩) s.size s.size, σ.push (.cells 1 (bytesL s.data.toList)))
    | _ => none
  | .b2s x => match mev ts x with
    | .slice none _ _ => some (.string .empty, σ)
    | .slice (some ⟨id, off, none⟩) n _ => match σ.row id off n with
      | some vs => if vs.all isU8 = true then some (.string ⟨(vs.map toU8).toArray⟩, σ) else none
      | none => none
    | _ => none
  | .mki t x => some (.iface t (mev ts x), σ)
  | .mkf fn first cap => some (.func fn (first.map (mev ts)).toArray (cap.map (mev ts)).toArray, σ)
  | .mks sz bytes zs l c => match mev ts l, mev ts c with
    | .int _ l, .int _ c => if 0 ≤ l ∧ l ≤ c ∧ c ≤ 2 ^ 40 ∧ bytes * c ≤ 2 ^ 47 then
        some (.slice (some ⟨σ.size, 0, none⟩) l.toNat c.toNat, σ.push (.cells sz (repZ zs c.toNat))) else none
    | _, _ => none
  | .bsl sz len zs parts => match fillL (repZ zs len) (parts.map fun (i, x) => (i * sz, sz, mev ts x)) with
    | some cs => some (.slice (some ⟨σ.size, 0, none⟩) len len, σ.push (.cells sz cs))
    | none => none
  | .bld zs parts => (fillL zs (parts.map fun (off, sz, x) => (off, sz, mev ts x))).map fun cs => (.agg cs.toArray, σ)
  | .slc sz x lo hi mx => match mev ts x with
    | .slice (some ⟨id, off, none⟩) len cap => match bnds len cap (lo.map (mev ts)) (hi.map (mev ts)) (mx.map (mev ts)) with
      | some (l, h, m) => if okSz σ sz id = true then some (.slice (some ⟨id, off + l * sz, none⟩) (h - l) (m - l), σ) else none
      | none => none
    | .slice none 0 0 => match bnds 0 0 (lo.map (mev ts)) (hi.map (mev ts)) (mx.map (mev ts)) with
      | some (l, h, m) => some (.slice none 0 0, σ)
      | none => none
    | _ => none
  | .slcS x lo hi => match mev ts x with
    | .string s => match bnds s.size s.size (lo.map (mev ts)) (hi.map (mev ts)) none with
      | some (l, h, _) => some (.string (s.extract l h), σ)
      | none => none
    | _ => none
  | .slcA n sz x lo hi => match mev ts x with
    | .pointer (some ⟨id, off, none⟩) => match bnds n n (lo.map (mev ts)) (hi.map (mev ts)) none with
      | some (l, h, m) => (match σ.get id with
        | .cells 0 _ => some (.slice (some ⟨id, if m = l then off else off + l * sz, none⟩) (h - l) (m - l), σ)
        | _ => none)
      | none => none
    | _ => none
  | .ext x i => match mev ts x with
    | .tuple vs => (vs.toList[i]?).map fun v => (v, σ)
    | _ => none
  | .nilck x => match mev ts x with
    | .pointer (some a) => some (.pointer (some a), σ)
    | .func (.func k) f c => some (.func (.func k) f c, σ)
    | .iface t v => some (.iface t v, σ)
    | _ => none
  | .tasI t ok z x => match mev ts x with
    | .iface u v => if u = t then some (if ok then .tuple #[v, .bool true] else v, σ) else if ok then some (.tuple #[z, .bool false], σ) else none
    | .nilIface => if ok then some (.tuple #[z, .bool false], σ) else none
    | _ => none
  | .len str x => match str, mev ts x with
    | true, .string s => some (.int .i64 s.size, σ)
    | false, .slice _ n _ => some (.int .i64 n, σ)
    | _, _ => none
  | .lenC n => some (.int .i64 n, σ)
  | .app sz bytes s x => match mev ts s, lenL (mev ts x) with
    | .slice none 0 0, some n => if n = 0 then some (.slice none 0 0, σ) else
        if n ≤ appMax ∧ bytes ≤ 128 then (match firstL σ sz n (mev ts x) with
          | some vs => some (.slice (some ⟨σ.size, 0, none⟩) n n, σ.push (.cells sz vs))
          | none => none) else none
    | .slice (some ⟨id, off, none⟩) len cap, some n =>
      if len + n ≤ cap then (match firstL σ sz n (mev ts x) with
        | some vs => (putRow σ id (off + len * sz) vs).map fun τ => (.slice (some ⟨id, off, none⟩) (len + n) cap, τ)
        | none => none)
      else if len + n ≤ appMax ∧ bytes ≤ 128 then (match σ.get id, σ.row id off (len * sz), firstL σ sz n (mev ts x) with
        | .cells s _, some old, some vs => if (old ++ vs).all one = true ∧ (s = sz ∨ s = 0) then
            some (.slice (some ⟨σ.size, 0, none⟩) (len + n) (len + n), (σ.set id .dead).push (.cells sz (old ++ vs))) else none
        | _, _, _ => none)
      else none
    | _, _ => none
  | .cpy sz d s => match mev ts d, lenL (mev ts s) with
    | .slice none 0 0, some _ => some (.int .i64 0, σ)
    | .slice (some ⟨id, off, none⟩) len cap, some n => match firstL σ sz (Nat.min n len) (mev ts s) with
      | some vs => (putRow σ id off vs).map fun τ => (.int .i64 (Nat.min n len : Nat), τ)
      | none => none
    | _, _ => none
  | .clr zs x => match mev ts x with
    | .slice none 0 0 => some (undef, σ)
    | .slice (some ⟨id, off, none⟩) len cap => if len = 0 then some (undef, σ) else (putRow σ id off (repZ zs len)).map fun τ => (undef, τ)
    | _ => none
  | .min2 x y => match mev ts x, mev ts y with
    | .int k a, .int _ b => some (.int k (if b < a then b else a), σ)
    | _, _ => none
  | .max2 x y => match mev ts x, mev ts y with
    | .int k a, .int _ b => some (.int k (if b > a then b else a), σ)
    | _, _ => none
  | .mkmap => some (.map (some σ.size), σ.push (.map [] 0))
  | .mlook kd ok z x k => match mev ts x with
    | .map (some r) => match σ.get r with
      | .map es _ => match (if kd.has (mev ts k) then lookL (mev ts k) es 0 else none) with
        | some (some (_, v)) => some (if ok then .tuple #[v, .bool true] else v, σ)
        | some none => some (if ok then .tuple #[z, .bool false] else z, σ)
        | none => none
      | _ => none
    | _ => none
  | .mupd kd x k v => match mev ts x with
    | .map (some r) => match σ.get r with
      | .map es c => match (if kd.has (mev ts k) then lookL (mev ts k) es 0 else none) with
        | some (some (i, _)) => some (undef, σ.set r (.map (es.modify i fun e => (mev ts k, mev ts v)) c))
        | some none => some (undef, σ.set r (.map (es ++ [(mev ts k, mev ts v)]) (c + 1)))
        | none => none
      | _ => none
    | _ => none
  | .mlen x => match mev ts x with
    | .map none => some (.int .i64 0, σ)
    | .map (some r) => match σ.get r with
      | .map es _ => some (.int .i64 es.length, σ)
      | _ => none
    | _ => none
  | .call _ _ => none
  | .callv _ _ => none
  | .bad => none

/-! ## Of which of the model's operations -/

def isAggT (P : Program) (t : TypeId) : Option Bool := match P.underlying t with
  | some (.struct _) | some (.array _ _) => some true
  | some _ => some false
  | none => none
def zeroL (P : Program) (t : TypeId) : Option (List Value) := match P.info? t with
  | some i => match i.zero with
    | some z => if z.cells.toList.all plain ∧ z.cells.size = i.size then some z.cells.toList else none
    | none => none
  | none => none
def zero1 (P : Program) (t : TypeId) : Option Value := match P.info? t with
  | some i => match i.zero with
    | some z => if closed z then some z else none
    | none => none
  | none => none
def sizeT (P : Program) (t : TypeId) : Option Nat := (P.info? t).map (·.size)
def isC : Operand → Bool
  | .const _ => true
  | _ => false
def keyKD : TypeDesc → Option KD
  | .int _ => some .int
  | .string => some .str
  | .bool => some .bool
  | _ => none
def oopd : Option Operand → Option (Option Opd)
  | none => some none
  | some x => (copd x).map some

def flatFs (g : TypeId → Option (List KD)) : List Field → Nat → Option (List KD)
  | [], _ => some []
  | f :: fs, off => if f.name ≠ "_" ∧ f.offset = off then (match g f.type with
      | some ks => (flatFs g fs (off + ks.length)).map (ks ++ ·)
      | none => none) else none
def repK (ks : List KD) : Nat → List KD
  | 0 => []
  | n + 1 => ks ++ repK ks n
/-- The cells' kinds of what is compared cell by cell. -/
def flatK (P : Program) : Nat → TypeId → Option (List KD)
  | 0, _ => none
  | d + 1, t => match P.underlying t with
    | some .bool => if sizeT P t = some 1 then some [.bool] else none
    | some (.int _) => if sizeT P t = some 1 then some [.int] else none
    | some .string => if sizeT P t = some 1 then some [.str] else none
    | some (.struct fs) => if P.stoodInHeld t then none else (match flatFs (flatK P d) fs.toList 0 with
        | some ks => if sizeT P t = some ks.length then some ks else none
        | none => none)
    | some (.array n e) => match flatK P d e with
        | some ks => if sizeT P t = some (repK ks n).length then some (repK ks n) else none
        | none => none
    | _ => none

def eqAop (P : Program) (op : BinOp) (t : TypeId) (x y : Opd) : Option MOp :=
  if P.eqGuardType P.depth t then none else match flatK P 20 t, op with
    | some ks, .eql => some (.eqA false ks x y)
    | some ks, .neq => some (.eqA true ks x y)
    | _, _ => none
def eqNop (k : NK) (op : BinOp) (x y : Opd) : Option MOp := match op with
  | .eql => some (.eqN k false x y)
  | .neq => some (.eqN k true x y)
  | _ => none
def cbin (P : Program) (op : BinOp) (t : TypeId) (x y : Operand) : Option MOp := do
  let x' ← copd x
  let y' ← copd y
  match P.underlying t with
  | some (.int _) | some .string => some (.bin op x' y')
  | some .bool => match op with
    | .eql => some (.eqB false x' y')
    | .neq => some (.eqB true x' y')
    | _ => none
  | some (.interface _) => match op with
    | .eql => if isC x || isC y then some (.eqN .iface false x' y') else none
    | .neq => if isC x || isC y then some (.eqN .iface true x' y') else none
    | _ => none
  | some (.pointer _) => eqNop .ptr op x' y'
  | some (.slice _) => eqNop .slice op x' y'
  | some (.map _ _) => eqNop .map op x' y'
  | some (.func _ _ _) => eqNop .func op x' y'
  | some (.struct _) | some (.array _ _) => eqAop P op t x' y'
  | _ => none

def ccall (P : Program) (c : Call) : Option MOp := do
  let args ← c.args.toList.mapM copd
  match c.callee with
  | .value (.func f) => some (.call f args)
  | .value x => (copd x).map fun x => .callv x args
  | .invoke _ _ => none
  | .builtin b => match b, args with
    | .len, [x] => match (c.argTypes[0]?).bind P.underlying with
      | some .string => some (.len true x)
      | some (.slice _) => some (.len false x)
      | some (.array n _) => some (.lenC n)
      | some (.map _ _) => some (.mlen x)
      | some (.pointer e) => match P.underlying e with
        | some (.array n _) => some (.lenC n)
        | _ => none
      | _ => none
    | .append, [s, x] => match (c.argTypes[0]?).bind P.underlying, (c.argTypes[1]?).bind P.underlying with
      | some (.slice e), some (.slice _) | some (.slice e), some .string => match P.info? e with
        | some i => if i.bytes = 0 ∨ i.size = 0 then none else (zeroL P e).map fun _ => .app i.size i.bytes s x
        | none => none
      | _, _ => none
    | .copy, [d, s] => match (c.argTypes[0]?).bind P.underlying with
      | some (.slice e) => (sizeT P e).map fun n => .cpy n d s
      | _ => none
    | .clear, [x] => match (c.argTypes[0]?).bind P.underlying with
      | some (.slice e) => match zeroL P e with
        | some zs => if zs.length = 0 then none else some (.clr zs x)
        | none => none
      | _ => none
    | .min, [x, y] => some (.min2 x y)
    | .max, [x, y] => some (.max2 x y)
    | _, _ => none

def cop1 (P : Program) : Op → Option MOp
  | .move x | .assign x => (copd x).map .mv
  | .pick c a b => do return .pick (← copd c) (← copd a) (← copd b)
  | .box _ x => (copd x).map .box
  | .alloc t => (zeroL P t).map .alloc
  | .load t a => do
    let a ← copd a
    let g ← isAggT P t
    let n ← sizeT P t
    return if g then .loadN n a else .load1 a
  | .store t a x => do return .store (← sizeT P t) (← copd a) (← copd x)
  | .fieldAddr s x f => do
    let x ← copd x
    match P.underlying s with
    | some (.struct fs) => match fs[f]? with
      | some fl => match sizeT P fl.type with
        | some 0 => none
        | some _ => some (.fadd fl.offset x)
        | none => none
      | none => none
    | _ => none
  | .indexAddr t x i => do
    let x ← copd x
    let i ← copd i
    match P.underlying t with
    | some (.slice e) => match sizeT P e with
      | some n => some (.iaS n x i)
      | none => none
    | some (.array len e) => match sizeT P e with
      | some n => some (.iaA len n x i)
      | none => none
    | _ => none
  | .index t x i => do
    let x ← copd x
    let i ← copd i
    match P.underlying t with
    | some .string => some (.idxS x i)
    | some (.array len e) => match sizeT P e, isAggT P e with
      | some n, some g => some (.idxA len n g x i)
      | _, _ => none
    | _ => none
  | .field t x f => do
    let x ← copd x
    match P.underlying t with
    | some (.struct fs) => match fs[f]? with
      | some fl => match sizeT P fl.type, isAggT P fl.type with
        | some n, some g => some (.fld fl.offset n g x)
        | _, _ => none
      | none => none
    | _ => none
  | .binOp op t x y _ => cbin P op t x y
  | .unOp .not _ x => (copd x).map .not
  | .unOp .neg _ x => (copd x).map .neg
  | .convert src dst x => do
    let x ← copd x
    match P.underlying src, P.underlying dst with
    | some (.int _), some (.int k) => some (.conv k x)
    | some .string, some (.slice e) => match P.underlying e with
      | some (.int .u8) => some (.s2b x)
      | _ => none
    | some (.slice e), some .string => match P.underlying e with
      | some (.int .u8) => some (.b2s x)
      | _ => none
    | _, _ => none
  | .makeInterface t x => do
    let x ← copd x
    match P.underlying t with
    | some (.interface _) => none
    | some _ => some (.mki t x)
    | none => none
  | .makeFunc fn first cap => do return .mkf fn (← first.toList.mapM copd) (← cap.toList.mapM copd)
  | .makeSlice t l c => do
    let l ← copd l
    let c ← copd c
    match P.underlying t with
    | some (.slice e) => match zeroL P e, P.info? e with
      | some zs, some i => if i.size = 0 then none else some (.mks i.size i.bytes zs l c)
      | _, _ => none
    | _ => none
  | .buildSlice t len parts => match P.underlying t with
    | some (.slice e) => match zeroL P e, sizeT P e with
      | some zs, some n => if len * n > 2 ^ 24 ∨ n = 0 then none else
        (parts.toList.mapM fun p => (copd p.2).map fun x => (p.1, x)).bind fun ps => if ps.all (fun p => decide (p.1 < len)) then some (.bsl n len zs ps) else none
      | _, _ => none
    | _ => none
  | .build t parts => match zeroL P t with
    | none => none
    | some zs => match P.underlying t with
      | some (.struct fs) => (parts.toList.mapM fun (p : Nat × Operand) => match fs[p.1]? with
          | some f => match sizeT P f.type with
            | some n => (copd p.2).map fun x => (f.offset, n, x)
            | none => none
          | none => none).bind fun ps => if fs.toList.all (fun (f : Field) => (sizeT P f.type).isSome) then some (.bld zs ps) else none
      | some (.array _ e) => match sizeT P e with
        | some n => (parts.toList.mapM fun p => (copd p.2).map fun x => (p.1 * n, n, x)).map (.bld zs)
        | none => none
      | _ => none
  | .slice t x lo hi mx => do
    let x ← copd x
    let lo ← oopd lo
    let hi ← oopd hi
    let mx ← oopd mx
    match P.underlying t with
    | some .string => if mx.isNone then some (.slcS x lo hi) else none
    | some (.slice e) => match sizeT P e with
      | some n => some (.slc n x lo hi mx)
      | none => none
    | some (.array k e) => match sizeT P e with
      | some n => if mx.isNone then some (.slcA k n x lo hi) else none
      | none => none
    | _ => none
  | .extract x i => (copd x).map fun x => .ext x i
  | .nilCheck x => (copd x).map .nilck
  | .typeAssert x _ t ok => do
    let x ← copd x
    match P.underlying t with
    | some (.interface _) => none
    | some _ => (zero1 P t).map fun z => .tasI t ok z x
    | none => none
  | .makeMap t none => match P.underlying t with
    | some (.map _ _) => some .mkmap
    | _ => none
  | .lookup t x k ok => do
    let x ← copd x
    let k ← copd k
    match P.underlying t with
    | some (.map kt e) => match (P.underlying kt).bind keyKD, zero1 P e with
      | some kd, some z => some (.mlook kd ok z x k)
      | _, _ => none
    | _ => none
  | .mapUpdate t m k v | .insert t m k v => do
    let m ← copd m
    let k ← copd k
    let v ← copd v
    match P.underlying t with
    | some (.map kt _) => match (P.underlying kt).bind keyKD with
      | some kd => some (.mupd kd m k v)
      | none => none
    | _ => none
  | .call c => ccall P c
  | _ => none
/-- What isn't taken is bad: a way that comes to it is told nothing of. -/
def cop (P : Program) (o : Op) : Option MOp := match cop1 P o with
  | some m => some m
  | none => some .bad
end Go.Mini
