/- The operations of the machine's code in a shorter form, out of which all that the types say is taken; and what each does over the second heap.
   Conditions: none; definitions. -/
import Derived.Test.YtdfmdclfnhgjiaaCanA
set_option linter.unusedVariables false
set_option linter.unusedSimpArgs false
namespace Go.Proofs.Ytdfmdclfnhgjiaa.Can
open Go

inductive Sh where
  | mov | pick
  | bin (op : BinOp) | eqB (neg : Bool) | un (op : UnOp) | convI (k : IntKind) | convS
  | fld (agg : Bool) (off n : Nat) | ext (i : Nat) | idxS | idxA (agg : Bool) (len n : Nat)
  | bld (zero : List Value) (pl : List (Nat × Nat))
  | faddr (off : Nat) | iaddr (k : Nat) | iaddrA (k len : Nat)
  | slcS (lo hi : Bool) | slc (k : Nat) (lo hi mx : Bool)
  | lenS | lenL | mkI (t : TypeId) | mkF (fn : Fn) (n : Nat) | nilc | mn | mx
  | load (agg : Bool) (n : Nat) | b2s | capL (k : Nat) | mlook (zero : Value) (ok : Bool) | mlen
  | alloc (zero : List Value) (k : Nat) | box (k : Nat) | blds (k len : Nat) (zero : List Value) (pl : List (Nat × Nat)) | mks (k bytes : Nat) (zero : List Value) | s2b | mkMap
  | store (n : Nat) | app (k bytes : Nat) | cpy (k : Nat) | clr (k : Nat) (zero : List Value) | mupd | call (f : Nat) | callv
  | rng | nxt | boom | appZ (k bytes : Nat) (z : List Value)

/-! ### What needs no heap -/

def cint (op : BinOp) (k : IntKind) (a : Int) (k' : IntKind) (b : Int) : Option Value :=
  match op with
  | .shl => if b < 0 then none else some (.int k (k.wrap (a * 2 ^ (min b.toNat k.bits))))
  | .shr => if b < 0 then none else some (.int k (a.fdiv (2 ^ (min b.toNat k.bits))))
  | .add => if k = k' then some (.int k (k.wrap (a + b))) else none
  | .sub => if k = k' then some (.int k (k.wrap (a - b))) else none
  | .mul => if k = k' then some (.int k (k.wrap (a * b))) else none
  | .quo => if k = k' ∧ b ≠ 0 then some (.int k (k.wrap (a.tdiv b))) else none
  | .rem => if k = k' ∧ b ≠ 0 then some (.int k (a.tmod b)) else none
  | .and => if k = k' then some (.int k (k.wrap (BitVec.ofInt k.bits a &&& BitVec.ofInt k.bits b).toNat)) else none
  | .or => if k = k' then some (.int k (k.wrap (BitVec.ofInt k.bits a ||| BitVec.ofInt k.bits b).toNat)) else none
  | .xor => if k = k' then some (.int k (k.wrap (BitVec.ofInt k.bits a ^^^ BitVec.ofInt k.bits b).toNat)) else none
  | .andNot => if k = k' then some (.int k (k.wrap (BitVec.ofInt k.bits a &&& ~~~BitVec.ofInt k.bits b).toNat)) else none
  | .eql => if k = k' then some (.bool (a == b)) else none
  | .neq => if k = k' then some (.bool (a != b)) else none
  | .lss => if k = k' then some (.bool (a < b)) else none
  | .leq => if k = k' then some (.bool (a ≤ b)) else none
  | .gtr => if k = k' then some (.bool (a > b)) else none
  | .geq => if k = k' then some (.bool (a ≥ b)) else none

def cstr (op : BinOp) (x y : ByteArray) : Option Value :=
  match op with
  | .add => if x.size + y.size ≤ 9223372036854775807 then some (.string (x ++ y)) else none
  | .eql => some (.bool (x.toList == y.toList))
  | .neq => some (.bool !(x.toList == y.toList))
  | .lss => some (.bool (Op.bytesLess x.toList y.toList))
  | .leq => some (.bool (Op.bytesLess x.toList y.toList || (x.toList == y.toList)))
  | .gtr => some (.bool !(Op.bytesLess x.toList y.toList || (x.toList == y.toList)))
  | .geq => some (.bool !(Op.bytesLess x.toList y.toList))
  | _ => none

def cbin (op : BinOp) : Value → Value → Option Value
  | .int k a, .int k' b => cint op k a k' b
  | .string x, .string y => cstr op x y
  | _, _ => none

def cun (op : UnOp) : Value → Option Value
  | .int k n => match op with
    | .neg => some (.int k (k.wrap (0 - n)))
    | .xor => some (.int k (k.wrap (BitVec.ofInt k.bits (if k.signed then -1 else k.max) ^^^ BitVec.ofInt k.bits n).toNat))
    | _ => none
  | .bool b => match op with
    | .not => some (.bool !b)
    | _ => none
  | _ => none

/-- Is it nil? -/
def isNil : Value → Option Bool
  | .pointer a => some a.isNone
  | .slice a _ _ => some a.isNone
  | .map a => some a.isNone
  | .nilFunc => some true
  | .func _ _ _ => some false
  | .nilIface => some true
  | .iface _ _ => some false
  | _ => none

def optI : Bool → List Value → Option (Option Int × List Value)
  | true, .int _ i :: r => some (some i, r)
  | false, r => some (none, r)
  | _, _ => none

def bnd (o : Option Int) (y d : Nat) : Option Nat :=
  match o with
  | some i => if 0 ≤ i ∧ i ≤ y then some i.toNat else none
  | none => some d

/-- The three places of a cut. -/
def bnds (len cap : Nat) (lo hi mx : Option Int) : Option (Nat × Nat × Nat) :=
  match bnd mx cap cap with
  | none => none
  | some m => if mx.isSome = true ∧ hi.isNone = true then none else match bnd hi m len with
    | none => none
    | some h => match bnd lo h 0 with
      | none => none
      | some l => some (l, h, m)

def setAt (cs : List Value) (off : Nat) (vs : List Value) : List Value := cs.take off ++ vs ++ cs.drop (off + vs.length)

def fillC (cs : List Value) : List ((Nat × Nat) × Value) → Option (List Value)
  | [] => some cs
  | ((off, size), v) :: r => if v.cells.size = size ∧ off + size ≤ cs.length then fillC (setAt cs off v.cells.toList) r else none

def pureC : Sh → List Value → Option Value
  | .mov, [x] => some x
  | .pick, [.bool c, a, b] => some (if c = true then a else b)
  | .bin op, [x, y] => cbin op x y
  | .eqB neg, [.bool a, .bool b] => some (.bool (if neg then a != b else a == b))
  | .un op, [x] => cun op x
  | .convI k, [.int _ n] => some (.int k (k.wrap n))
  | .convS, [.string s] => some (.string s)
  | .fld agg off n, [.agg cs] => if agg then some (.agg (cs.extract off (off + n))) else cs[off]?
  | .ext i, [.tuple vs] => vs[i]?
  | .idxS, [.string s, .int _ i] => (if 0 ≤ i then s[i.toNat]? else none).map fun b => .int .u8 b.toNat
  | .idxA agg len n, [.agg cs, .int _ i] => if 0 ≤ i ∧ i < len then (if agg then some (.agg (cs.extract (i.toNat * n) (i.toNat * n + n))) else cs[i.toNat * n]?) else none
  | .bld zero pl, vs => if vs.length = pl.length then (fillC zero (pl.zip vs)).map fun c => .agg c.toArray else none
  | .faddr off, [.pointer (some a)] => if a.spot = none then some (.pointer (some ⟨a.block, a.off + off, none⟩)) else none
  | .iaddr k, [.slice (some a) len _, .int _ i] => if 0 ≤ i ∧ i < len ∧ a.spot = none then some (.pointer (some ⟨a.block, a.off + i.toNat * k, none⟩)) else none
  | .iaddrA k len, [.pointer (some a), .int _ i] => if 0 ≤ i ∧ i < len ∧ a.spot = none then some (.pointer (some ⟨a.block, a.off + i.toNat * k, none⟩)) else none
  | .slcS lo hi, .string s :: r => match optI lo r with
    | some (l?, r1) => match optI hi r1 with
      | some (h?, []) => (bnds s.size s.size l? h? none).map fun p => .string (s.extract p.1 p.2.1)
      | _ => none
    | none => none
  | .lenS, [.string s] => some (.int .i64 s.size)
  | .lenL, [.slice _ n _] => some (.int .i64 n)
  | .mkI t, [x] => some (.iface t x)
  | .mkF fn n, vs => some (.func fn (vs.take n).toArray (vs.drop n).toArray)
  | .nilc, [.pointer (some a)] => some (.pointer (some a))
  | .mn, [.int k x, .int _ y] => some (.int k (if y < x then y else x))
  | .mx, [.int k x, .int _ y] => some (.int k (if y > x then y else x))
  | _, _ => none

/-! ### What reads -/

def cellsAt (h : CH) (a : Addr) (n : Nat) : Option (List Value) :=
  match h.at_ a.block with
  | .cells c _ _ _ => if a.off + n ≤ c.length then some ((c.drop a.off).take n) else none
  | _ => none

def asBytes : List Value → Option (List UInt8)
  | [] => some []
  | .int .u8 n :: r => (asBytes r).map fun l => UInt8.ofNat n.toNat :: l
  | _ => none

/-- A slice's cells lie there, k to an element. -/
def slk (h : CH) (k : Nat) : Option Addr → Bool
  | none => true
  | some a => (h.at_ a.block).kk == k

def readC : Sh → List Value → CH → Option Value
  | .load agg n, [.pointer (some a)], h => match cellsAt h a n with
    | some cs => if agg then some (.agg cs.toArray) else cs[0]?
    | none => none
  | .slc k lo hi mx, .slice a len cap :: r, h => if slk h k a = true then match optI lo r with
    | some (l?, r1) => match optI hi r1 with
      | some (h?, r2) => match optI mx r2 with
        | some (m?, []) => (bnds len cap l? h? m?).map fun p => .slice (a.map fun a => ⟨a.block, a.off + p.1 * k, none⟩) (p.2.1 - p.1) (p.2.2 - p.1)
        | _ => none
      | none => none
    | none => none
    else none
  | .b2s, [.slice none _ _], _ => some (.string .empty)
  | .b2s, [.slice (some a) n _], h => ((cellsAt h a n).bind asBytes).map fun l => .string ⟨l.toArray⟩
  | .capL k, [.slice none _ n], _ => some (.int .i64 n)
  | .capL k, [.slice (some a) _ n], h => match h.at_ a.block with
    | .cells c k' opn _ => if k' = k ∧ ¬ (opn = true ∧ a.off + n * k = c.length) then some (.int .i64 n) else none
    | _ => none
  | _, _, _ => none

/-! ### What makes -/

def newC : Sh → List Value → Option (CO × (Nat → Value))
  | .alloc zero k, [] => some (.cells zero k false true, fun n => .pointer (some ⟨n, 0, none⟩))
  | .box k, [x] => if x.cells.toList.all (·.oneCell') = true then some (.cells x.cells.toList k false true, fun n => .pointer (some ⟨n, 0, none⟩)) else none
  | .blds k len zero pl, vs => if vs.length = pl.length ∧ (vs.all fun v => v.cells.toList.all (·.oneCell')) = true then (fillC zero (pl.zip vs)).map fun c => (.cells c k false true, fun n => .slice (some ⟨n, 0, none⟩) len len) else none
  | .mks k bytes zero, [.int _ l, .int _ c] => if 0 ≤ l ∧ l ≤ c ∧ c * bytes ≤ 140737488351232 ∧ c ≤ 140737488351232 then
      some (.cells (List.replicate c.toNat zero).flatten k false true, fun n => .slice (some ⟨n, 0, none⟩) l.toNat c.toNat) else none
  | .s2b, [.string s] => some (.cells (s.data.toList.map fun b => .int .u8 b.toNat) 1 true true, fun n => .slice (some ⟨n, 0, none⟩) s.size s.size)
  | .mkMap, [] => some (.map [] 0, fun n => .map (some n))
  | _, _ => none

/-! ### What writes -/

def storeC (h : CH) (a : Addr) (vs : List Value) : Option CH :=
  match h.at_ a.block with
  | .cells c k opn rw => if rw = true ∧ a.off + vs.length ≤ c.length ∧ a.spot = none then some (h.set a.block (.cells (setAt c a.off vs) k opn true)) else none
  | _ => none

/-- What is appended or copied: a slice's first cells, or a text's bytes. -/
def srcC (k : Nat) (h : CH) : Value → Option (Nat × List Value)
  | .slice none n _ => if n = 0 then some (0, []) else none
  | .slice (some a) n _ => match h.at_ a.block with
    | .cells c k' _ _ => if k' = k then (cellsAt h a (n * k)).map fun l => (n, l) else none
    | _ => none
  | .string s => if k = 1 then some (s.size, s.data.toList.map fun b => .int .u8 b.toNat) else none
  | _ => none

def appC (k bytes : Nat) (s x : Value) (h : CH) : Option (Value × CH) :=
  match srcC k h x with
  | none => none
  | some (n, xs) => match s with
    | .slice none 0 0 => if n = 0 then some (.slice none 0 0, h) else
        if n * bytes ≤ 140737488351232 ∧ n ≤ 140737488351232 then some (.slice (some ⟨h.size, 0, none⟩) n n, h.push (.cells xs k true true)) else none
    | .slice (some a) len cap => match h.at_ a.block with
      | .cells c k' opn rw =>
        if k' = k then
          if len + n ≤ cap then
            if n = 0 then some (.slice (some a) len cap, h) else
            (storeC h ⟨a.block, a.off + len * k, none⟩ xs).map fun h' => (.slice (some a) (len + n) cap, h')
          else if (len + n) * bytes ≤ 140737488351232 ∧ len + n ≤ 140737488351232 then
            if opn = true ∧ a.off + cap * k = c.length then
              if rw = true then some (.slice (some ⟨h.size, 0, none⟩) (len + n) (len + n), (h.set a.block (.dead k)).push (.cells ((c.drop a.off).take (len * k) ++ xs) k true true)) else none
            else some (.slice (some ⟨h.size, 0, none⟩) (len + n) (len + n), h.push (.cells ((c.drop a.off).take (len * k) ++ xs) k true true))
          else none
        else none
      | _ => none
    | _ => none

/-- So many zero values behind nothing. -/
def appZC (k bytes : Nat) (z : List Value) (s x : Value) (h : CH) : Option (Value × CH) :=
  match s, x with
  | .slice none 0 0, .int _ n => if 0 < n ∧ n * bytes ≤ 140737488351232 ∧ n ≤ 140737488351232 then some (.slice (some ⟨h.size, 0, none⟩) n.toNat n.toNat, h.push (.cells (List.replicate n.toNat z).flatten k true true)) else none
  | _, _ => none

def cpyC (k : Nat) (d x : Value) (h : CH) : Option (Value × CH) :=
  match srcC k h x, d with
  | some (n, xs), .slice none _ _ => some (.int .i64 0, h)
  | some (n, xs), .slice (some a) len _ => match h.at_ a.block with
    | .cells c k' _ _ => if k' = k then
        if min n len = 0 then some (.int .i64 0, h) else (storeC h ⟨a.block, a.off, a.spot⟩ (xs.take (min n len * k))).map fun h' => (.int .i64 (min n len : Nat), h')
      else none
    | _ => none
  | _, _ => none

/-! ### The short form of an operation -/

def okOpd : Operand → Bool
  | .tmp _ => true
  | .const v => flat v
  | .func _ => true
  | .global _ => false

def isAggT (P : Program) (t : TypeId) : Bool :=
  match P.underlying t with
  | some (.struct _) | some (.array _ _) => true
  | _ => false

/-- Cells to an element: of an array what its elements have, else what it has itself. -/
def kOf (P : Program) (t : TypeId) (size : Nat) : Nat :=
  match P.underlying t with
  | some (.array _ e) => P.cellsOf e
  | _ => size

def szOf (P : Program) (t : TypeId) : Option Nat := if (P.underlying t).isSome = true then (P.info? t).map (·.size) else none
def byOf (P : Program) (t : TypeId) : Option Nat := (P.info? t).map (·.bytes)
def zeroOf (P : Program) (t : TypeId) : Option Value := (P.info? t).bind (·.zero)

def plOf (place : Nat → Option (Nat × Nat)) : List (Nat × Operand) → Option (List (Nat × Nat))
  | [] => some []
  | (i, _) :: r => match place i, plOf place r with
    | some p, some l => some (p :: l)
    | _, _ => none

def flds (P : Program) (fs : List Field) : Option (List (Nat × Nat)) :=
  match fs with
  | [] => some []
  | f :: r => match szOf P f.type, flds P r with
    | some n, some l => some ((f.offset, n) :: l)
    | _, _ => none

def compEq (P : Program) (neg : Bool) (t : TypeId) : Option Sh :=
  match P.underlying t with
  | some (.int _) | some .string => some (.bin (if neg then .neq else .eql))
  | some .bool => some (.eqB neg)
  | _ => none

def compSh (P : Program) (op : Op) : Option Sh :=
  match op with
  | .move _ | .assign _ => some .mov
  | .pick _ _ _ => some .pick
  | .alloc t => match zeroOf P t, szOf P t with
    | some z, some n => if flat z = true ∧ z.cells.size = n ∧ z.cells.toList.all (·.oneCell') = true then some (.alloc z.cells.toList (kOf P t n)) else none
    | _, _ => none
  | .box t _ => (szOf P t).map fun n => .box (kOf P t n)
  | .build t ps => match zeroOf P t, P.underlying t with
    | some z, some (.struct fs) => if flat z = true then match flds P fs.toList with
      | some l => (plOf (l[·]?) ps.toList).map fun pl => .bld z.cells.toList pl
      | none => none
      else none
    | some z, some (.array _ e) => if flat z = true then match szOf P e with
      | some n => (plOf (fun i => some (i * n, n)) ps.toList).map fun pl => .bld z.cells.toList pl
      | none => none
      else none
    | _, _ => none
  | .buildSlice t len ps => match P.underlying t with
    | some (.slice e) => match szOf P e, zeroOf P e with
      | some n, some z => if flat z = true ∧ z.cells.size = n ∧ z.cells.toList.all (·.oneCell') = true ∧ 0 < n ∧ len * n ≤ 16777216 then
          (plOf (fun i => some (i * n, n)) ps.toList).map fun pl => .blds n len (List.replicate len z.cells.toList).flatten pl else none
      | _, _ => none
    | _ => none
  | .load t _ => match szOf P t with
    | some n => if isAggT P t = true ∨ n = 1 then some (.load (isAggT P t) n) else none
    | none => none
  | .store t _ _ => (szOf P t).map .store
  | .nilCheck _ => some .nilc
  | .binOp .eql t _ _ _ => compEq P false t
  | .binOp .neq t _ _ _ => compEq P true t
  | .binOp op _ _ _ _ => some (.bin op)
  | .unOp op _ _ => some (.un op)
  | .convert s d _ => match P.underlying s, P.underlying d with
    | some (.int _), some (.int k) => some (.convI k)
    | some .string, some .string => some .convS
    | some .string, some (.slice e) => match P.underlying e, szOf P e with
      | some (.int .u8), some 1 => some .s2b
      | _, _ => none
    | some (.slice e), some .string => match P.underlying e with
      | some (.int .u8) => some .b2s
      | _ => none
    | _, _ => none
  | .makeFunc fn first _ => some (.mkF fn first.size)
  | .makeSlice t _ _ => match P.underlying t with
    | some (.slice e) => match szOf P e, byOf P e, zeroOf P e with
      | some n, some b, some z => if flat z = true ∧ z.cells.size = n ∧ z.cells.toList.all (·.oneCell') = true ∧ 0 < n then some (.mks n b z.cells.toList) else none
      | _, _, _ => none
    | _ => none
  | .makeInterface t _ => match P.underlying t with
    | some (.interface _) => none
    | some _ => some (.mkI t)
    | none => none
  | .slice t _ lo hi mx => match P.underlying t with
    | some .string => if mx.isSome then none else some (.slcS lo.isSome hi.isSome)
    | some (.slice e) => match szOf P e with
      | some n => if 0 < n then some (.slc n lo.isSome hi.isSome mx.isSome) else none
      | none => none
    | _ => none
  | .fieldAddr t _ f => match P.underlying t with
    | some (.struct fs) => match fs[f]? with
      | some fl => match szOf P fl.type with
        | some n => if n = 0 then none else some (.faddr fl.offset)
        | none => none
      | none => none
    | _ => none
  | .field t _ f => match P.underlying t with
    | some (.struct fs) => match fs[f]? with
      | some fl => (szOf P fl.type).map fun n => .fld (isAggT P fl.type) fl.offset n
      | none => none
    | _ => none
  | .indexAddr t _ _ => match P.underlying t with
    | some (.slice e) => (szOf P e).map fun n => .iaddr n
    | some (.array len e) => (szOf P e).map fun n => .iaddrA n len
    | _ => none
  | .index t _ _ => match P.underlying t with
    | some .string => some .idxS
    | some (.array len e) => (szOf P e).map fun n => .idxA (isAggT P e) len n
    | _ => none
  | .extract _ i => some (.ext i)
  | .panic _ => some .boom
  | .call c => match c.callee with
    | .value (.func f) => match P.funcs[f]? with
      | some fn => if fn.name ≠ "runtime.NumGoroutine" ∧ fn.body.isSome = true then some (.call f) else none
      | none => none
    | .value (.tmp _) => some .callv
    | .builtin .len => match c.argTypes[0]? with
      | some t => match P.underlying t with
        | some .string => some .lenS
        | some (.slice _) => some .lenL
        | _ => none
      | none => none
    | .builtin .cap => match c.argTypes[0]? with
      | some t => match P.underlying t with
        | some (.slice e) => (szOf P e).map fun n => .capL n
        | _ => none
      | none => none
    | .builtin .min => some .mn
    | .builtin .max => some .mx
    | .builtin .append => match c.argTypes[0]?, c.argTypes[1]? with
      | some t, some u => match P.underlying t, P.underlying u with
        | some (.slice e), some (.slice _) | some (.slice e), some .string => match szOf P e, byOf P e, zeroOf P e with
          | some n, some b, some z => if flat z = true ∧ z.cells.size = n ∧ z.cells.toList.all (·.oneCell') = true ∧ 0 < n ∧ 0 < b then some (.app n b) else none
          | _, _, _ => none
        | some (.slice e), some (.int .i64) => match szOf P e, byOf P e, zeroOf P e with
          | some n, some b, some z => if flat z = true ∧ z.cells.size = n ∧ z.cells.toList.all (·.oneCell') = true ∧ 0 < n ∧ 0 < b then some (.appZ n b z.cells.toList) else none
          | _, _, _ => none
        | _, _ => none
      | _, _ => none
    | .builtin .copy => match c.argTypes[0]? with
      | some t => match P.underlying t with
        | some (.slice e) => match szOf P e with
          | some n => if 0 < n then some (.cpy n) else none
          | none => none
        | _ => none
      | none => none
    | _ => none
  | _ => none

structure MI where
  dst : Option Nat
  sh : Sh
  xs : List Operand
  guard : Option (Nat × Bool)

def dstOk (N : Nat) : Option Nat → Bool
  | some d => decide (d < N)
  | none => true

def opdsOf (op : Op) : List Operand :=
  match op with
  | .call c => match c.callee with
    | .value (.tmp t) => .tmp t :: c.args.toList
    | _ => c.args.toList
  | .build _ ps | .buildSlice _ _ ps => ps.toList.map (·.2)
  | op => op.operands.toList

/-- The slot that the operation writes lies within the frame; the guard's slot is named. -/
def compOp (P : Program) (N : Nat) (ops : Array Oper) (o : Oper) : Option MI :=
  match compSh P o.op with
  | none => none
  | some sh =>
    if (opdsOf o.op).all okOpd = true ∧ dstOk N o.dst = true then
      match o.guard with
      | none => some ⟨o.dst, sh, opdsOf o.op, none⟩
      | some (j, b) => match (ops[j]?).bind (·.dst) with
        | some t => if t < N then some ⟨o.dst, sh, opdsOf o.op, some (t, b)⟩ else none
        | none => none
    else none

end Go.Proofs.Ytdfmdclfnhgjiaa.Can
