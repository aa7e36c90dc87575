/- A part of the proof: Core, Rel, Inv, Ops, Eqs, Ops2, Ops3, Ops4, Mem, HeapOps, AppOps, Frz. -/
import Derived.Orders
import Derived.CheckFast
import Derived.KernelRfl
import Derived.Below
import Derived.Laws.Sem
import Derived.Laws.Cells
import Derived.ChangeKeysEq
import Derived.Laws.StructEq
import Derived.Laws.BytesArg
import Derived.Laws.Tables
import Derived.Laws.AppendOwn
/- The small abstract machine 'Mini': values, a heap of numbered slots, and a run of the program's code over them; one run of the real machine does what it says (the texts behind this one prove it). -/
section
set_option linter.unusedVariables false
namespace Mini
open Go

/-- Values. 'fz', 'vec': frozen memory, its content is carried along; 'ptr', 'sl': into a slot of the heap. sz of a slice: 0: its elements are of one cell, n: structs or arrays of n cells. -/
inductive V where
  | undef
  | bool (b : Bool)
  | int (k : IntKind) (n : Int)
  | str (s : ByteArray)
  | nilp
  | ptr (k off st : Nat)
  | fz (v : V)
  | nils
  | sl (k off len cap sz st : Nat)
  | vec (xs : List V)
  | fn (f : Fn) (first captured : List V)
  | nilf
  | iface (t : TypeId) (v : V)
  | nili
  | agg (cs : List V)
  | tup (vs : List V)
  deriving Inhabited

def V.cells : V → List V
  | .agg cs => cs
  | v => [v]
def V.isAgg : V → Bool
  | .agg _ => true
  | _ => false
/-- May it stand in one cell? -/
def V.okCell : V → Bool
  | .undef | .agg _ | .tup _ => false
  | _ => true

structure Slot where
  st : Nat
  bl : Option (List V)
abbrev Heap := List Slot
abbrev Env := Nat → V
structure St where
  e : Env
  h : Heap

def hget : Heap → Nat → Slot
  | [], _ => ⟨0, none⟩
  | s :: _, 0 => s
  | _ :: h, k + 1 => hget h k
def hset : Heap → Nat → Slot → Heap
  | [], 0, s => [s]
  | [], k + 1, s => ⟨0, none⟩ :: hset [] k s
  | _ :: h, 0, s => s :: h
  | a :: h, k + 1, s => a :: hset h k s
def upd (e : Env) (k : Nat) (v : V) : Env := fun i => cond (Nat.beq i k) v (e i)
def ups : Env → List (Nat × V) → Env
  | e, [] => e
  | e, (k, v) :: l => ups (upd e k v) l
def updD (e : Env) (d : Option Nat) (v : V) : Env :=
  match d with
  | some k => upd e k v
  | none => e

def csz (sz : Nat) : Nat := if sz = 0 then 1 else sz
/-- A part of cells: one cell, or a struct or array of sz cells. -/
def takeV (cs : List V) (off : Nat) (sz : Nat) : Option V :=
  match sz with
  | 0 => match cs[off]? with
    | some v => if v.isAgg then none else some v
    | none => none
  | n + 1 => if off + (n + 1) ≤ cs.length then some (.agg ((cs.drop off).take (n + 1))) else none
def fitsV (sz : Nat) (v : V) : Bool :=
  match sz, v with
  | 0, .agg _ => false
  | 0, _ => true
  | n + 1, .agg cs => cs.length == n + 1
  | _ + 1, _ => false
def cellsAt (h : Heap) (k st : Nat) : Option (List V) :=
  match hget h k with
  | ⟨s, some cs⟩ => if s = st then some cs else none
  | _ => none

/-! ### Operations on values -/
def ldV (sz : Nat) (p : V) (h : Heap) : Option V :=
  match p with
  | .fz v => if fitsV sz v then some v else none
  | .ptr k off st => (cellsAt h k st).bind fun cs => takeV cs off sz
  | _ => none
def putCells (cs : List V) (off : Nat) (new : List V) : List V := cs.take off ++ new ++ cs.drop (off + new.length)
def stV (sz : Nat) (p x : V) (h : Heap) : Option Heap :=
  match p with
  | .ptr k off st => (cellsAt h k st).bind fun cs =>
      if fitsV sz x && x.cells.all V.okCell && decide (off + csz sz ≤ cs.length) then some (hset h k ⟨st, some (putCells cs off x.cells)⟩) else none
  | _ => none
def nilV : V → Option V
  | .ptr k o st => some (.ptr k o st)
  | .fz v => some (.fz v)
  | .iface t v => some (.iface t v)
  | .fn (.func f) a b => some (.fn (.func f) a b)
  | _ => none
def pickV (c a b : V) : Option V :=
  match c with
  | .bool true => some a
  | .bool false => some b
  | _ => none
def intBin (op : BinOp) (k : IntKind) (x y : Int) : Option V :=
  match op with
  | .add => some (.int k (k.wrap (x + y)))
  | .sub => some (.int k (k.wrap (x - y)))
  | .mul => some (.int k (k.wrap (x * y)))
  | .quo => if y = 0 then none else some (.int k (k.wrap (x.tdiv y)))
  | .rem => if y = 0 then none else some (.int k (x.tmod y))
  | .and => some (.int k (k.wrap (BitVec.ofInt k.bits x &&& BitVec.ofInt k.bits y).toNat))
  | .or => some (.int k (k.wrap (BitVec.ofInt k.bits x ||| BitVec.ofInt k.bits y).toNat))
  | .xor => some (.int k (k.wrap (BitVec.ofInt k.bits x ^^^ BitVec.ofInt k.bits y).toNat))
  | .andNot => some (.int k (k.wrap (BitVec.ofInt k.bits x &&& ~~~ BitVec.ofInt k.bits y).toNat))
  | .eql => some (.bool (x == y))
  | .neq => some (.bool (x != y))
  | .lss => some (.bool (x < y))
  | .leq => some (.bool (x ≤ y))
  | .gtr => some (.bool (x > y))
  | .geq => some (.bool (x ≥ y))
  | _ => none
def intShift (op : BinOp) (k : IntKind) (x y : Int) : Option V :=
  if y < 0 then none else
  match op with
  | .shl => some (.int k (k.wrap (x * 2 ^ (min y.toNat k.bits))))
  | .shr => some (.int k (x.fdiv (2 ^ (min y.toNat k.bits))))
  | _ => none
def isShift : BinOp → Bool
  | .shl | .shr => true
  | _ => false
def strBin (op : BinOp) (x y : ByteArray) : Option V :=
  match op with
  | .add => if x.size + y.size ≤ 4611686018427387904 then some (.str (x ++ y)) else none
  | .eql => some (.bool (x.toList == y.toList))
  | .neq => some (.bool !(x.toList == y.toList))
  | _ => none
def eqRes (op : BinOp) (b : Bool) : Option V :=
  match op with
  | .eql => some (.bool b)
  | .neq => some (.bool !b)
  | _ => none
/-- Two values that are held against each other, or reckoned with, by their kinds. -/
def intV (op : BinOp) (a b : V) : Option V :=
  match a, b with
  | .int k x, .int k' y => if isShift op then intShift op k x y else if k = k' then intBin op k x y else none
  | _, _ => none
def strV (op : BinOp) (a b : V) : Option V :=
  match a, b with
  | .str x, .str y => strBin op x y
  | _, _ => none
def boolV (op : BinOp) (a b : V) : Option V :=
  match a, b with
  | .bool x, .bool y => eqRes op (x == y)
  | _, _ => none
/-- A pointer is held against nil. -/
def ptrV (op : BinOp) (a b : V) : Option V :=
  match a, b with
  | .nilp, .nilp => eqRes op true
  | .nilp, .fz _ | .fz _, .nilp | .nilp, .ptr .. | .ptr .., .nilp => eqRes op false
  | _, _ => none
def fnV (op : BinOp) (a b : V) : Option V :=
  match a, b with
  | .nilf, .nilf => eqRes op true
  | .nilf, .fn .. | .fn .., .nilf => eqRes op false
  | _, _ => none
/-- Cells that are held against each other. -/
def cellEq : Nat → V → V → Option Bool
  | 0, .int k x, .int k' y => if k = k' then some (x == y) else none
  | 1, .bool x, .bool y => some (x == y)
  | 2, .str x, .str y => some (x.toList == y.toList)
  | _, _, _ => none
def cellsEq (offs : List (Nat × Nat)) (xs ys : List V) : Option Bool :=
  match offs with
  | [] => some true
  | (o, g) :: l =>
    match xs[o]?, ys[o]? with
    | some x, some y => (cellEq g x y).bind fun b => (cellsEq l xs ys).bind fun r => some (b && r)
    | _, _ => none
/-- Two structs or arrays of n cells. -/
def aggEq (op : BinOp) (n : Nat) (offs : List (Nat × Nat)) (a b : V) : Option V :=
  match a, b with
  | .agg xs, .agg ys => if xs.length = n ∧ ys.length = n then (cellsEq offs xs ys).bind fun r => eqRes op r else none
  | _, _ => none
def unV (op : UnOp) (x : V) : Option V :=
  match op, x with
  | .not, .bool b => some (.bool !b)
  | .neg, .int k n => intBin .sub k 0 n
  | .xor, .int k n => intBin .xor k (if k.signed then -1 else k.max) n
  | _, _ => none
/-- The address of a field. -/
def faV (off sz : Nat) (p : V) : Option V :=
  match p with
  | .ptr k o st => some (.ptr k (o + off) st)
  | .fz v => (takeV v.cells off sz).map .fz
  | _ => none
def fldV (off sz : Nat) (x : V) : Option V :=
  match x with
  | .agg cs => takeV cs off sz
  | _ => none
/-- The address of an element of a slice. -/
def iaS (sz : Nat) (x i : V) : Option V :=
  match x, i with
  | .vec xs, .int _ n => if 0 ≤ n ∧ n < xs.length then (xs[n.toNat]?).bind fun v => if fitsV sz v then some (.fz v) else none else none
  | .sl k off len _ sz' st, .int _ n => if sz = sz' ∧ 0 ≤ n ∧ n < len then some (.ptr k (off + n.toNat * csz sz) st) else none
  | _, _ => none
/-- The address of an element of an array of len elements. -/
def iaA (len sz : Nat) (x i : V) : Option V :=
  match x, i with
  | .fz v, .int _ n => if 0 ≤ n ∧ n < len then (takeV v.cells (n.toNat * csz sz) sz).map .fz else none
  | .ptr k off st, .int _ n => if 0 ≤ n ∧ n < len then some (.ptr k (off + n.toNat * csz sz) st) else none
  | _, _ => none
/-- An element of an array of len elements. -/
def ixA (len sz : Nat) (x i : V) : Option V :=
  match x, i with
  | .agg cs, .int _ n => if 0 ≤ n ∧ n < len then takeV cs (n.toNat * csz sz) sz else none
  | _, _ => none
/-- A byte of a string. -/
def ixS (x i : V) : Option V :=
  match x, i with
  | .str s, .int _ n => if 0 ≤ n then (s[n.toNat]?).map fun b => .int .u8 b.toNat else none
  | _, _ => none
def bndV (x : Option V) (d : Nat) : Option Nat :=
  match x with
  | none => some d
  | some (.int _ n) => if 0 ≤ n then some n.toNat else none
  | _ => none
/-- x[lo:hi] of a slice, a string, an array's address. -/
def slS (sz : Nat) (x : V) (lo hi : Option V) : Option V :=
  match x with
  | .vec xs => (bndV hi xs.length).bind fun h => (bndV lo 0).bind fun l => if l ≤ h ∧ h ≤ xs.length ∧ xs.all (fitsV sz) = true then some (.vec ((xs.take h).drop l)) else none
  | .sl k off len cap sz' st => (bndV hi len).bind fun h => (bndV lo 0).bind fun l => if sz = sz' ∧ l ≤ h ∧ h ≤ cap then some (.sl k (off + l * csz sz) (h - l) (cap - l) sz st) else none
  | .nils => (bndV hi 0).bind fun h => (bndV lo 0).bind fun l => if l = 0 ∧ h = 0 then some .nils else none
  | _ => none
def slStr (x : V) (lo hi : Option V) : Option V :=
  match x with
  | .str s => (bndV hi s.size).bind fun h => (bndV lo 0).bind fun l => if l ≤ h ∧ h ≤ s.size then some (.str (s.extract l h)) else none
  | _ => none
/-- Elements of sz cells out of cells. -/
def elems (sz : Nat) : (n : Nat) → List V → List V
  | 0, _ => []
  | n + 1, cs => (match sz with | 0 => cs.headD .undef | m + 1 => .agg (cs.take (m + 1))) :: elems sz n (cs.drop (csz sz))
/-- May cells be taken for elements? -/
def okE (sz : Nat) (cs : List V) : Bool := sz != 0 || cs.all fun c => !c.isAgg
def slA (n sz : Nat) (x : V) (lo hi : Option V) (hp : Heap) : Option V :=
  match x with
  | .ptr k off st => (cellsAt hp k st).bind fun cs => (bndV hi n).bind fun h => (bndV lo 0).bind fun l => if l ≤ h ∧ h ≤ n ∧ off + n * csz sz ≤ cs.length then some (.sl k (off + l * csz sz) (h - l) (n - l) sz st) else none
  | .fz v => (bndV hi n).bind fun h => (bndV lo 0).bind fun l => if l ≤ h ∧ h ≤ n ∧ v.cells.length = n * csz sz ∧ okE sz v.cells = true then some (.vec ((((elems sz n v.cells).take h).drop l))) else none
  | _ => none
def lenS : V → Option V
  | .str s => some (.int .i64 s.size)
  | _ => none
def lenV : V → Option V
  | .vec xs => some (.int .i64 xs.length)
  | .sl _ _ len _ _ _ => some (.int .i64 len)
  | .nils => some (.int .i64 0)
  | _ => none
def max2V : V → V → Option V
  | .int k x, .int _ y => some (.int k (if y > x then y else x))
  | _, _ => none
def min2V : V → V → Option V
  | .int k x, .int _ y => some (.int k (if y < x then y else x))
  | _, _ => none
def maxV : List V → Option V
  | [a, b] => max2V a b
  | _ => none
def minV : List V → Option V
  | [a, b] => min2V a b
  | _ => none
def extV (x : V) (i : Nat) : Option V :=
  match x with
  | .tup vs => vs[i]?
  | _ => none
def toIntV (k : IntKind) (x : V) : Option V :=
  match x with
  | .int _ n => some (.int k (k.wrap n))
  | _ => none
def byteOf : V → Option UInt8
  | .int .u8 n => some (UInt8.ofNat n.toNat)
  | _ => none
def bytesOfCells : List V → Option (List UInt8)
  | [] => some []
  | c :: l => (byteOf c).bind fun b => (bytesOfCells l).bind fun r => some (b :: r)
/-- The elements of a slice of one-cell elements. -/
def rowOf (x : V) (h : Heap) : Option (List V) :=
  match x with
  | .vec xs => some xs
  | .nils => some []
  | .sl k off len cap 0 st => (cellsAt h k st).bind fun cs => if off + len ≤ cs.length then some ((cs.drop off).take len) else none
  | _ => none
def b2sV (x : V) (h : Heap) : Option V :=
  (rowOf x h).bind fun cs => (bytesOfCells cs).bind fun bs => some (.str ⟨bs.toArray⟩)
def strStr (x : V) : Option V :=
  match x with
  | .str s => some (.str s)
  | _ => none
def tasV (t : TypeId) (x : V) : Option V :=
  match x with
  | .iface t' v => if t' = t then some v else none
  | _ => none
/-- A struct or an array out of parts: where, how many cells, what. -/
def buildV (cs : List V) : List (Nat × Nat × V) → Option V
  | [] => some (.agg cs)
  | (off, sz, v) :: l => if fitsV sz v && v.cells.all V.okCell && decide (off + csz sz ≤ cs.length) then buildV (putCells cs off v.cells) l else none
def fillV (cs : List V) : List (Nat × Nat × V) → Option (List V)
  | [] => some cs
  | (off, sz, v) :: l => if fitsV sz v && v.cells.all V.okCell && decide (off + csz sz ≤ cs.length) then fillV (putCells cs off v.cells) l else none

/-! ### Operations on the heap -/
mutual
/-- Nothing of it lies in slots. -/
def V.noRef : V → Bool
  | .ptr .. | .sl .. => false
  | .fn _ a b => noRefL a && noRefL b
  | .iface _ v => v.noRef
  | .agg cs | .tup cs => noRefL cs
  | _ => true
def noRefL : List V → Bool
  | [] => true
  | v :: l => v.noRef && noRefL l
end
def newS (id : Nat) (cs : List V) (h : Heap) : Heap := hset h id ⟨(hget h id).st + 1, some cs⟩
def ptrTo (id : Nat) (h : Heap) : V := .ptr id 0 ((hget h id).st + 1)
/-- A new variable: in a slot, or (none) frozen. -/
def allocV (id : Option Nat) (sz : Nat) (cs : List V) (h : Heap) : Option (V × Heap) :=
  match id with
  | some k => some (ptrTo k h, newS k cs h)
  | none => (takeV cs 0 sz).bind fun v => if noRefL cs then some (.fz v, h) else none
def boxV (id : Option Nat) (sz : Nat) (x : V) (h : Heap) : Option (V × Heap) :=
  if fitsV sz x && x.cells.all V.okCell then
    match id with
    | some k => some (ptrTo k h, newS k x.cells h)
    | none => if x.noRef then some (.fz x, h) else none
  else none
def slTo (id n sz : Nat) (h : Heap) : V := .sl id 0 n n sz ((hget h id).st + 1)
/-- A new slice of n elements. -/
def newSl (id : Option Nat) (n sz : Nat) (cs : List V) (h : Heap) : Option (V × Heap) :=
  match id with
  | some k => some (slTo k n sz h, newS k cs h)
  | none => if okE sz cs && noRefL cs then some (.vec (elems sz n cs), h) else none
def rep (n : Nat) (z : List V) : List V :=
  match n with
  | 0 => []
  | n + 1 => z ++ rep n z
def mkSl (id : Option Nat) (lim sz : Nat) (z : List V) (len cap : V) (h : Heap) : Option (V × Heap) :=
  match len, cap with
  | .int _ n, .int _ c => if 0 ≤ n ∧ n ≤ c ∧ c ≤ lim then
      match id with
      | some k => some (.sl k 0 n.toNat c.toNat sz ((hget h k).st + 1), newS k (rep c.toNat z) h)
      | none => if n = c ∧ okE sz (rep c.toNat z) = true ∧ noRefL (rep c.toNat z) = true then some (.vec (elems sz c.toNat (rep c.toNat z)), h) else none
    else none
  | _, _ => none
/-- What is appended: its elements' cells. -/
def srcV (sz : Nat) (x : V) (h : Heap) : Option (Nat × List V) :=
  match x with
  | .nils => some (0, [])
  | .str s => if sz = 0 then some (s.size, s.data.toList.map fun b => .int .u8 b.toNat) else none
  | .vec xs => if xs.all (fitsV sz) then some (xs.length, xs.flatMap V.cells) else none
  | .sl k off len cap sz' st => if sz = sz' then (cellsAt h k st).bind fun cs => if off + len * csz sz ≤ cs.length then some (len, (cs.drop off).take (len * csz sz)) else none else none
  | _ => none
/-- append; lim: so many elements are let by. A nil slice's new row comes into the slot id. -/
def appV (id : Option Nat) (lim sz : Nat) (d x : V) (h : Heap) : Option (V × Heap) :=
  (srcV sz x h).bind fun r =>
    if r.2.all V.okCell then
      match d with
      | .nils => match id with
        | some k => if r.1 ≤ lim ∧ 0 < r.1 then some (slTo k r.1 sz h, newS k r.2 h) else none
        | none => none
      | .sl k off len cap sz' st => if sz = sz' then (cellsAt h k st).bind fun cs =>
          if len + r.1 ≤ lim then
            if off = 0 ∧ cs.length = len * csz sz then
              (if r.1 = 0 then some (.sl k off len cap sz st, h) else some (.sl k 0 (len + r.1) (len + r.1) sz (st + 1), hset h k ⟨st + 1, some (cs ++ r.2)⟩))
            else if len + r.1 ≤ cap ∧ off + len * csz sz + r.2.length ≤ cs.length then some (.sl k off (len + r.1) cap sz st, hset h k ⟨st, some (putCells cs (off + len * csz sz) r.2)⟩)
            else none
          else none else none
      | _ => none
    else none
def copyV (sz : Nat) (d x : V) (h : Heap) : Option (V × Heap) :=
  (srcV sz x h).bind fun r =>
    if r.2.all V.okCell then
      match d with
      | .sl k off len cap sz' st => if sz = sz' then (cellsAt h k st).bind fun cs =>
          if off + len * csz sz ≤ cs.length then
            some (.int .i64 (min r.1 len : Nat), hset h k ⟨st, some (putCells cs off (r.2.take (min r.1 len * csz sz)))⟩)
          else none else none
      | _ => none
    else none

/-! ### Freezing: what is in slots becomes a value; the slots are given up -/
def kill (h : Heap) (k : Nat) : Heap := hset h k ⟨(hget h k).st + 1, none⟩
def frzL (f : V → Heap → Option (V × Heap)) : List V → Heap → Option (List V × Heap)
  | [], h => some ([], h)
  | c :: l, h => (f c h).bind fun r => (frzL f l r.2).bind fun q => some (r.1 :: q.1, q.2)
def frzV : Nat → V → Heap → Option (V × Heap)
  | 0, _, _ => none
  | n + 1, v, h =>
    match v with
    | .ptr .. | .fn .. | .undef => none
    | .nils => some (.vec [], h)
    | .iface t x => (frzV n x h).bind fun r => some (.iface t r.1, r.2)
    | .sl k off len cap sz st => (cellsAt h k st).bind fun cs =>
        if off + len * csz sz ≤ cs.length then
          (frzL (frzV n) ((cs.drop off).take (len * csz sz)) (kill h k)).bind fun r => if okE sz r.1 then some (.vec (elems sz len r.1), r.2) else none
        else none
    | .agg cs => (frzL (frzV n) cs h).bind fun r => some (.agg r.1, r.2)
    | .tup cs => (frzL (frzV n) cs h).bind fun r => some (.tup r.1, r.2)
    | v => some (v, h)
/-- A pointer to a whole slot that holds a value of sz cells. -/
def frzP (sz : Nat) (p : V) (h : Heap) : Option (V × Heap) :=
  match p with
  | .ptr k 0 st => (cellsAt h k st).bind fun cs =>
      if cs.length = csz sz then
        (frzL (frzV 8) cs (kill h k)).bind fun r => (takeV r.1 0 sz).bind fun v => some (.fz v, r.2)
      else none
  | .fz v => some (.fz v, h)
  | _ => none
/-- A nil slice becomes an empty row in a slot. -/
def promV (id sz : Nat) (v : V) (h : Heap) : Option (V × Heap) :=
  match v with
  | .nils => some (slTo id 0 sz h, newS id [] h)
  | v => some (v, h)
/-- A nil slice in a cell of memory. -/
def promC (p : V) (id sz : Nat) (h : Heap) : Option Heap :=
  match p with
  | .ptr k off st => (cellsAt h k st).bind fun cs =>
      match cs[off]? with
      | some .nils => if k = id then none else some (hset (newS id [] h) k ⟨st, some (putCells cs off [slTo id 0 sz h])⟩)
      | some _ => some h
      | none => none
  | _ => none

/-- What a cell of memory holds is frozen. -/
def frzC (p : V) (h : Heap) : Option Heap :=
  match p with
  | .ptr k off st => (cellsAt h k st).bind fun cs =>
      match cs[off]? with
      | some v => (frzV 8 v h).bind fun r => (cellsAt r.2 k st).bind fun cs' => if off < cs'.length then some (hset r.2 k ⟨st, some (putCells cs' off [r.1])⟩) else none
      | none => none
  | _ => none

/-! ### Calls: the callee sees the slots ks alone, as its own 0, 1, ..; outs: which of its new slots are kept, and as which; bs: slots that it sees frozen -/
mutual
def V.ren (f : Nat → Nat → Option (Nat × Nat)) : V → V
  | .ptr k off st => match f k st with
    | some (k', st') => .ptr k' off st'
    | none => .undef
  | .sl k off len cap sz st => match f k st with
    | some (k', st') => .sl k' off len cap sz st'
    | none => .undef
  | .fn g a b => .fn g (renL f a) (renL f b)
  | .iface t v => .iface t (v.ren f)
  | .agg cs => .agg (renL f cs)
  | .tup cs => .tup (renL f cs)
  | .undef => .undef
  | .bool b => .bool b
  | .int k n => .int k n
  | .str s => .str s
  | .nilp => .nilp
  | .fz v => .fz v
  | .nils => .nils
  | .vec xs => .vec xs
  | .nilf => .nilf
  | .nili => .nili
def renL (f : Nat → Nat → Option (Nat × Nat)) : List V → List V
  | [] => []
  | v :: l => v.ren f :: renL f l
end
def idxIn (ks : List Nat) (k : Nat) : Option Nat :=
  match ks with
  | [] => none
  | a :: l => if a = k then some 0 else (idxIn l k).map (· + 1)
def entM (ks : List Nat) (h : Heap) (k st : Nat) : Option (Nat × Nat) :=
  if st = (hget h k).st then (idxIn ks k).map fun i => (i, 0) else none
def exM (ks : List Nat) (outs : List (Nat × Nat)) (h : Heap) (i st : Nat) : Option (Nat × Nat) :=
  match ks[i]? with
  | some k => some (k, st + (hget h k).st)
  | none => match outs with
    | [] => none
    | (j, id) :: l => if i = j then some (id, st + ((hget h id).st + 1)) else exM [] l h i st
def renS (f : Nat → Nat → Option (Nat × Nat)) (d : Nat) (s : Slot) : Slot := ⟨s.st + d, s.bl.map (renL f)⟩
def entH (ks : List Nat) (h : Heap) : Heap := ks.map fun k => ⟨0, (hget h k).bl.map (renL (entM ks h))⟩
def exK (f : Nat → Nat → Option (Nat × Nat)) (h0 : Heap) : List Nat → Nat → Heap → Heap → Heap
  | [], _, _, h => h
  | k :: ks, i, hc, h => exK f h0 ks (i + 1) hc (hset h k (renS f (hget h0 k).st (hget hc i)))
def exO (f : Nat → Nat → Option (Nat × Nat)) (h0 : Heap) : List (Nat × Nat) → Heap → Heap → Heap
  | [], _, h => h
  | (j, id) :: l, hc, h => exO f h0 l hc (hset h id (renS f ((hget h0 id).st + 1) (hget hc j)))
/-- No frozen memory in it. -/
def V.plain : V → Bool
  | .bool _ | .int .. | .str _ | .nilp | .ptr .. | .nils | .sl .. | .nilf | .nili => true
  | .agg cs | .tup cs => cs.all fun | .bool _ | .int .. | .str _ | .nilp | .ptr .. | .nils | .sl .. | .nilf | .nili => true | _ => false
  | _ => false
/-- What is seen frozen: slices of the slots bs whose cells hold no slices. -/
def snapV (bs : List Nat) (h : Heap) (v : V) : V :=
  match v with
  | .sl k off len cap sz st => if bs.contains k then
      match cellsAt h k st with
      | some cs => if off + len * csz sz ≤ cs.length ∧ cs.all V.plain ∧ cs.all V.okCell then .vec (elems sz len (renL (fun _ _ => none) ((cs.drop off).take (len * csz sz)))) else .undef
      | none => .undef
    else v
  | v => v
def snapA (bs : List Nat) (h : Heap) (v : V) : V :=
  match v with
  | .agg cs => .agg (cs.map (snapV bs h))
  | v => snapV bs h v
abbrev FS := List V → Heap → Option (V × Heap)
def disjL (a b : List Nat) : Bool := b.all fun k => !a.contains k
def nodupB : List Nat → Bool
  | [] => true
  | a :: l => !l.contains a && nodupB l
def callV (F : FS) (ks bs : List Nat) (outs : List (Nat × Nat)) (args : List V) (h : Heap) : Option (V × Heap) :=
  if nodupB (ks ++ outs.map (·.2)) && nodupB (outs.map (·.1)) && outs.all (fun o => decide (ks.length ≤ o.1)) && disjL ks bs then
    (F (renL (entM ks h) (if bs.isEmpty then args else args.map (snapA bs h))) (entH ks h)).bind fun r =>
      if bs.isEmpty || (r.1.plain && (ks.isEmpty && outs.isEmpty)) then
        some (r.1.ren (exM ks outs h), exO (exM ks outs h) h outs r.2 (exK (exM ks outs h) h ks 0 r.2 h))
      else none
  else none

/-! ### Code -/
inductive Out where
  | normal (s : St)
  | exit (id : Nat) (s : St)
  | ret (v : V) (h : Heap)
inductive Cmd where
  | frz (t : Nat)
  | frzp (t sz : Nat)
  | prom (t id sz : Nat)
  | promc (t off id sz : Nat)
  | frzc (t off : Nat)
structure OA where
  id : Option Nat := none
  ks : List Nat := []
  bs : List Nat := []
  outs : List (Nat × Nat) := []
structure RA where
  pre : List Cmd := []
  post : List Cmd := []
  ops : List (Nat × OA) := []
  keep : Option (List Nat) := none
  slots : Nat := 0
abbrev Ann := List (Nat × RA)
def look {α : Type} (d : α) : List (Nat × α) → Nat → α
  | [], _ => d
  | (k, a) :: l, i => cond (Nat.beq k i) a (look d l i)
def tabL : List (Nat × FS) → Nat → Option FS
  | [], _ => none
  | (k, a) :: l, i => cond (Nat.beq k i) (some a) (tabL l i)

def cmdV (c : Cmd) (s : St) : Option St :=
  match c with
  | .frz t => (frzV 8 (s.e t) s.h).bind fun r => some ⟨upd s.e t r.1, r.2⟩
  | .frzp t sz => (frzP sz (s.e t) s.h).bind fun r => some ⟨upd s.e t r.1, r.2⟩
  | .prom t id sz => (promV id sz (s.e t) s.h).bind fun r => some ⟨upd s.e t r.1, r.2⟩
  | .promc t off id sz => (promC (match s.e t with | .ptr k o st => .ptr k (o + off) st | v => v) id sz s.h).bind fun h => some ⟨s.e, h⟩
  | .frzc t off => (frzC (match s.e t with | .ptr k o st => .ptr k (o + off) st | v => v) s.h).bind fun h => some ⟨s.e, h⟩
def cmds : List Cmd → St → (St → Option Out) → Option Out
  | [], s, k => k s
  | c :: l, s, k =>
    match c with
    | .frz t => (frzV 8 (s.e t) s.h).bind fun r => cmds l ⟨upd s.e t r.1, r.2⟩ k
    | .frzp t sz => (frzP sz (s.e t) s.h).bind fun r => cmds l ⟨upd s.e t r.1, r.2⟩ k
    | .prom t id sz => (promV id sz (s.e t) s.h).bind fun r => cmds l ⟨upd s.e t r.1, r.2⟩ k
    | .promc t off id sz => (promC (faV' off (s.e t)) id sz s.h).bind fun h => cmds l ⟨s.e, h⟩ k
    | .frzc t off => (frzC (faV' off (s.e t)) s.h).bind fun h => cmds l ⟨s.e, h⟩ k
where faV' (off : Nat) (p : V) : V := match p with | .ptr k o st => .ptr k (o + off) st | v => v

/-! #### what the program's types say -/
section
variable (P : Program)
def szOf (t : TypeId) : Option Nat :=
  match P.underlying t, P.info? t with
  | some (.struct _), some i | some (.array _ _), some i => if i.size = 0 then none else some i.size
  | some _, some i => if i.size = 1 then some 0 else none
  | _, _ => none
def cst1 : Value → V
  | .bool b => .bool b
  | .int k n => .int k n
  | .string s => .str s
  | .pointer none => .nilp
  | .slice none 0 0 => .nils
  | .nilFunc => .nilf
  | .nilIface => .nili
  | _ => .undef
def cstV : Value → V
  | .agg cs => .agg (cs.toList.map cst1)
  | v => cst1 v
def zeroOf (t : TypeId) : Option (List V) :=
  match P.info? t with
  | some i => match i.zero with
    | some z => if z.cells.size = i.size then some (z.cells.toList.map cst1) else none
    | none => none
  | none => none
def limOf (t : TypeId) : Option Nat :=
  match P.info? t with
  | some i => if i.bytes = 0 then none else some (70368744177664 / i.bytes)
  | none => none
def fieldOf (t : TypeId) (f : Nat) : Option (Nat × Nat) :=
  match P.underlying t with
  | some (.struct fs) => match fs[f]? with
    | some x => (szOf P x.type).map fun n => (x.offset, n)
    | none => none
  | _ => none
/-- Where the cells lie that '==' holds against each other, in its order, of a type's value; 0: numbers, 1: bools, 2: strings. -/
def eqOffs : Nat → TypeId → Option (List (Nat × Nat))
  | 0, _ => none
  | d + 1, t =>
    match P.underlying t with
    | some (.int _) => some [(0, 0)]
    | some .bool => some [(0, 1)]
    | some .string => some [(0, 2)]
    | some (.struct fs) => match szOf P t with
      | some n => if P.stoodInHeld t then none else
        fs.toList.foldr (fun f r => r.bind fun l => if f.name = "_" then some l else
          match szOf P f.type with
          | some m => if f.offset + csz m ≤ csz n then (eqOffs d f.type).map fun o => o.map (fun x => (f.offset + x.1, x.2)) ++ l else none
          | none => none) (some [])
      | none => none
    | some (.array k e) => match szOf P t, szOf P e with
      | some n, some m => if k * csz m ≤ csz n then (eqOffs d e).map fun o => (List.range k).flatMap fun j => o.map (fun x => (j * csz m + x.1, x.2)) else none
      | _, _ => none
    | _ => none
end

/-! #### operations -/
def valOp (P : Program) (ev : Operand → V) (h : Heap) (o : Op) (ty : TypeId) : Option V :=
  match o with
  | .move x | .assign x => some (ev x)
  | .pick c a b => pickV (ev c) (ev a) (ev b)
  | .load t a => match szOf P t with
    | some n => ldV n (ev a) h
    | none => none
  | .nilCheck x => nilV (ev x)
  | .binOp op t x y _ => match P.underlying t with
    | some (.struct _) | some (.array _ _) => match szOf P t, eqOffs P 12 t with
      | some n, some offs => if P.eqGuardType P.depth t then none else aggEq op n offs (ev x) (ev y)
      | _, _ => none
    | some (.int _) => intV op (ev x) (ev y)
    | some .string => strV op (ev x) (ev y)
    | some .bool => boolV op (ev x) (ev y)
    | some (.pointer _) => ptrV op (ev x) (ev y)
    | some (.func _ _ _) => fnV op (ev x) (ev y)
    | _ => none
  | .unOp op _ x => unV op (ev x)
  | .convert s d x => match P.underlying s, P.underlying d with
    | some (.int _), some (.int k) => toIntV k (ev x)
    | some .string, some .string => strStr (ev x)
    | some (.slice e), some .string => match P.underlying e with
      | some (.int .u8) => b2sV (ev x) h
      | _ => none
    | _, _ => none
  | .makeInterface t x => match P.underlying t with
    | some (.interface _) | none => none
    | some _ => some (.iface t (ev x))
  | .makeFunc f a b => some (.fn f (a.toList.map ev) (b.toList.map ev))
  | .slice t x lo hi mx => match mx with
    | some _ => none
    | none => match P.underlying t with
      | some .string => slStr (ev x) (lo.map ev) (hi.map ev)
      | some (.slice e) => match szOf P e with
        | some sz => slS sz (ev x) (lo.map ev) (hi.map ev)
        | none => none
      | some (.array n e) => match szOf P e with
        | some sz => slA n sz (ev x) (lo.map ev) (hi.map ev) h
        | none => none
      | _ => none
  | .fieldAddr t x f => match fieldOf P t f with
    | some (off, sz) => faV off sz (ev x)
    | none => none
  | .field t x f => match fieldOf P t f with
    | some (off, sz) => fldV off sz (ev x)
    | none => none
  | .indexAddr t x i => match P.underlying t with
    | some (.slice e) => match szOf P e with
      | some sz => iaS sz (ev x) (ev i)
      | none => none
    | some (.array n e) => match szOf P e with
      | some sz => iaA n sz (ev x) (ev i)
      | none => none
    | _ => none
  | .index t x i => match P.underlying t with
    | some .string => ixS (ev x) (ev i)
    | some (.array n e) => match szOf P e with
      | some sz => ixA n sz (ev x) (ev i)
      | none => none
    | _ => none
  | .typeAssert x _ t ok => match P.underlying t with
    | some (.interface _) | none => none
    | some _ => if ok then none else tasV t (ev x)
  | .extract x i => extV (ev x) i
  | .build t parts => match zeroOf P t, P.underlying t with
    | some z, some (.struct fs) => match fs.toList.mapM (fun f => (P.info? f.type).map fun i => (f.offset, i.size)), parts.toList.mapM (fun x => (fieldOf P t x.1).map fun y => (y.1, y.2, ev x.2)) with
      | some _, some l => buildV z l
      | _, _ => none
    | some z, some (.array _ e) => match szOf P e with
      | some sz => buildV z (parts.toList.map fun x => (x.1 * csz sz, sz, ev x.2))
      | none => none
    | _, _ => none
  | .call { callee := .builtin .len, args, argTypes } => match args.toList, argTypes.toList with
    | [x], [t] => match P.underlying t with
      | some .string => lenS (ev x)
      | some (.slice _) => lenV (ev x)
      | some (.array n _) => some (.int .i64 n)
      | _ => none
    | _, _ => none
  | .call { callee := .builtin .max, args, .. } => maxV (args.toList.map ev)
  | .call { callee := .builtin .min, args, .. } => minV (args.toList.map ev)
  | _ => none

def isVal : Op → Bool
  | .store .. | .alloc .. | .box .. | .buildSlice .. | .makeSlice .. => false
  | .convert s d _ => s != d
  | .call { callee := .builtin .len, .. } | .call { callee := .builtin .max, .. } | .call { callee := .builtin .min, .. } => true
  | .call _ => false
  | _ => true

/-- A method of an interface's value: the function, and how it takes the receiver: as it is, or (some n) what the pointer points at, n cells. -/
def methOf (P : Program) (t : TypeId) (name : String) : Option (Nat × Option Nat) :=
  match P.info? t with
  | some i => match i.methods.find? (·.name == name) with
    | some m => if m.path.isEmpty then
        match m.func, P.underlying t with
        | some (f, true), some (.pointer _) => some (f, none)
        | some (f, false), some (.pointer e) => (szOf P e).map fun n => (f, some n)
        | _, _ => none
      else none
    | none => none
  | none => none

def isInt : V → Bool
  | .int .. => true
  | _ => false
/-- A slice of bytes that is made a slice of bytes: it is given up, and frozen. -/
def slcV (x : V) (h : Heap) : Option (V × Heap) :=
  match x with
  | .sl k off len cap 0 st => (cellsAt h k st).bind fun cs => if 0 < len ∧ off + len ≤ cs.length ∧ ((cs.drop off).take len).all isInt = true then some (.vec ((cs.drop off).take len), kill h k) else none
  | _ => none
def runF (T : Nat → Option FS) (f : Nat) (a : OA) (args : List V) (h : Heap) : Option (V × Heap) :=
  match T f with
  | some F => callV F a.ks a.bs a.outs args h
  | none => none
def runFV (T : Nat → Option FS) (f : V) (a : OA) (args : List V) (h : Heap) : Option (V × Heap) :=
  match f with
  | .fn (.func n) first cap => runF T n a (first ++ args ++ cap) h
  | _ => none
def runM (P : Program) (T : Nat → Option FS) (r : V) (name : String) (a : OA) (args : List V) (h : Heap) : Option (V × Heap) :=
  match r with
  | .iface t v => match methOf P t name with
    | some (f, none) => runF T f a (v :: args) h
    | some (f, some n) => (ldV n v h).bind fun x => runF T f a (x :: args) h
    | none => none
  | _ => none

def heapOp (P : Program) (T : Nat → Option FS) (a : OA) (ev : Operand → V) (h : Heap) (o : Op) (ty : TypeId) : Option (V × Heap) :=
  match o with
  | .store t p x => match szOf P t with
    | some n => (stV n (ev p) (ev x) h).bind fun h' => some (.tup [], h')
    | none => none
  | .alloc t => match szOf P t, zeroOf P t with
    | some n, some z => allocV a.id n z h
    | _, _ => none
  | .box t x => match szOf P t with
    | some n => boxV a.id n (ev x) h
    | none => none
  | .buildSlice t len parts => match P.underlying t with
    | some (.slice e) => match szOf P e, zeroOf P e with
      | some sz, some z => if len * csz sz ≤ 16777216 then
          (fillV (rep len z) (parts.toList.map fun x => (x.1 * csz sz, sz, ev x.2))).bind fun cs => newSl a.id len sz cs h
        else none
      | _, _ => none
    | _ => none
  | .makeSlice t l c => match P.underlying t with
    | some (.slice e) => match szOf P e, zeroOf P e, limOf P e with
      | some sz, some z, some lim => mkSl a.id lim sz z (ev l) (ev c) h
      | _, _, _ => none
    | _ => none
  | .call { callee := .builtin .append, args, argTypes } => match args.toList, argTypes.toList with
    | [d, x], t :: u :: _ => match P.underlying t, P.underlying u with
      | some (.slice e), some (.slice _) | some (.slice e), some .string => match szOf P e, limOf P e, zeroOf P e with
        | some sz, some lim, some _ => appV a.id lim sz (ev d) (ev x) h
        | _, _, _ => none
      | _, _ => none
    | _, _ => none
  | .call { callee := .builtin .copy, args, argTypes } => match args.toList, argTypes.toList with
    | [d, x], t :: _ => match P.underlying t with
      | some (.slice e) => match szOf P e with
        | some sz => copyV sz (ev d) (ev x) h
        | none => none
      | _ => none
    | _, _ => none
  | .convert s d x => match P.underlying d with
    | some (.slice e) => match P.underlying e with
      | some (.int .u8) => if s = d then slcV (ev x) h else none
      | _ => none
    | _ => none
  | .call { callee := .value (.func f), args, .. } => runF T f a (args.toList.map ev) h
  | .call { callee := .value x, args, .. } => runFV T (ev x) a (args.toList.map ev) h
  | .call { callee := .invoke r name, args, .. } => runM P T (ev r) name a (args.toList.map ev) h
  | _ => none

/-! #### regions -/
def evO (G : Nat → V) (e : Env) : Operand → V
  | .tmp t => e t
  | .const v => cstV v
  | .global g => G g
  | .func f => .fn (.func f) [] []
def grdV (y : V) (want : Bool) (x : Option V) : Option V :=
  match y with
  | .bool b => cond (Bool.xor b want) (some (.tup [])) x
  | .tup [] => some (.tup [])
  | _ => none
def grdH (y : V) (want : Bool) (h : Heap) (x : Option (V × Heap)) : Option (V × Heap) :=
  match y with
  | .bool b => cond (Bool.xor b want) (some (.tup [], h)) x
  | .tup [] => some (.tup [], h)
  | _ => none
def fpP : V → List Nat
  | .ptr k _ _ => [k]
  | .sl k _ _ _ _ _ => [k]
  | _ => []
/-- Which slots an operation looks at, and which it writes. -/
def rdF (P : Program) (ev : Operand → V) (a : OA) : Op → List Nat
  | .load _ p => fpP (ev p)
  | .slice t x _ _ _ => match P.underlying t with
    | some (.array _ _) => fpP (ev x)
    | _ => []
  | .convert _ _ x => fpP (ev x)
  | .call { callee := .builtin .append, args, .. } => match args.toList with
    | [_, x] => fpP (ev x)
    | _ => []
  | .call { callee := .builtin .copy, args, .. } => match args.toList with
    | [_, x] => fpP (ev x)
    | _ => []
  | .call { callee := .invoke r _, .. } => a.bs ++ (match ev r with | .iface _ v => fpP v | _ => [])
  | .call { callee := .builtin _, .. } => []
  | .call _ => a.bs
  | _ => []
def wrF (P : Program) (ev : Operand → V) (a : OA) : Op → List Nat
  | .store _ p _ => fpP (ev p)
  | .convert s d x => if s = d then fpP (ev x) else []
  | .alloc _ | .box .. | .buildSlice .. | .makeSlice .. => a.id.toList
  | .call { callee := .builtin .append, args, .. } => a.id.toList ++ (match args.toList with
    | [d, _] => fpP (ev d)
    | _ => [])
  | .call { callee := .builtin .copy, args, .. } => match args.toList with
    | [d, _] => fpP (ev d)
    | _ => []
  | .call { callee := .builtin _, .. } => []
  | .call _ => a.ks ++ a.outs.map (·.2)
  | _ => []
/-- May it look at memory; may it write? (By its form alone.) -/
def mayR (a : OA) : Op → Bool
  | .load .. | .slice .. | .convert .. | .call { callee := .builtin .append, .. } | .call { callee := .builtin .copy, .. } | .call { callee := .invoke .., .. } => true
  | .call { callee := .builtin _, .. } => false
  | .call _ => !a.bs.isEmpty
  | _ => false
def mayW (a : OA) : Op → Bool
  | .convert s d _ => decide (s = d)
  | .store .. | .call { callee := .builtin .append, .. } | .call { callee := .builtin .copy, .. } => true
  | .alloc _ | .box .. | .buildSlice .. | .makeSlice .. => a.id.isSome
  | .call { callee := .builtin _, .. } => false
  | .call _ => !(a.ks.isEmpty && a.outs.isEmpty)
  | _ => false
def okF (r w r' w' : List Nat) : Bool := disjL w r' && disjL w w' && disjL r w'
structure Fp where
  i : Nat
  r : List Nat
  w : List Nat
/-- Must the two be held apart? (ops: the region's; bs: what comes before what) -/
def clash (bef : Nat) (a : OA) (o : Op) (i : Nat) (a' : OA) (o' : Op) : Bool :=
  !bef.testBit i && ((mayW a o && (mayR a' o' || mayW a' o')) || (mayR a o && mayW a' o'))
def chk (ops : Array Oper) (A : List (Nat × OA)) (bef : Nat) (a : OA) (o : Op) (r w : List Nat) : List Fp → Bool
  | [] => true
  | f :: l => match ops[f.i]? with
    | some x => cond (clash bef (look {} A f.i) x.op f.i a o) (okF f.r f.w r w && chk ops A bef a o r w l) (chk ops A bef a o r w l)
    | none => false
def grdB {α : Type} (b : Bool) (x : Option α) : Option α := cond b x none
def yieldV (ops : Array Oper) (e : Env) (g : Nat) : V :=
  match ops[g]? with
  | some o => match o.dst with
    | some d => e d
    | none => .undef
  | none => .undef
/-- The operations in the text's order; where the order is open (bs: some ..) what may come in either order is held apart. -/
def runOps (P : Program) (T : Nat → Option FS) (G : Nat → V) (ops : Array Oper) (A : List (Nat × OA)) (bs : Option (Array Nat)) : List Oper → Nat → List Fp → St → (St → Option Out) → Option Out
  | [], _, _, s, k => k s
  | o :: rest, i, fs, s, k =>
    let a := look {} A i
    let ev := evO G s.e
    let next (v : V) (h : Heap) : Option Out :=
      match bs with
      | none => runOps P T G ops A bs rest (i + 1) fs ⟨updD s.e o.dst v, h⟩ k
      | some b =>
        let r := rdF P ev a o.op
        let w := wrF P ev a o.op
        cond (fs.any fun f => match ops[f.i]? with | some x => clash (b.getD i 0) (look {} A f.i) x.op f.i a o.op | none => true)
          (grdB (chk ops A (b.getD i 0) a o.op r w fs) (runOps P T G ops A bs rest (i + 1) (⟨i, r, w⟩ :: fs) ⟨updD s.e o.dst v, h⟩ k))
          (runOps P T G ops A bs rest (i + 1) (⟨i, r, w⟩ :: fs) ⟨updD s.e o.dst v, h⟩ k)
    match o.guard with
    | none => match o.op with
      | .move x | .assign x => next (ev x) s.h
      | op => cond (isVal op) ((valOp P ev s.h op o.type).bind fun v => next v s.h) ((heapOp P T a ev s.h op o.type).bind fun r => next r.1 r.2)
    | some (g, want) =>
      cond (isVal o.op) ((grdV (yieldV ops s.e g) want (valOp P ev s.h o.op o.type)).bind fun v => next v s.h)
        ((grdH (yieldV ops s.e g) want s.h (heapOp P T a ev s.h o.op o.type)).bind fun r => next r.1 r.2)
/-- Temporaries: what may come in either order names none that the other one writes. -/
def tmpsOk (ops : Array Oper) (b : Array Nat) : Bool :=
  (List.range ops.size).all fun j => (List.range j).all fun i => (b.getD j 0).testBit i ||
    match ops[i]?, ops[j]? with
    | some x, some y => Oper.apart ops x y
    | _, _ => false
def dstsOk (n : Nat) (ops : Array Oper) : Bool := ops.toList.all fun o => match o.dst with | some d => decide (d < n) | none => true
def edgesOk (ops : Array Oper) : Bool := (List.range ops.size).all fun j => match ops[j]? with
  | some o => o.after.all (fun e => !Region.binds .any e || decide (e.on < j)) && (match o.guard with | some (g, _) => decide (g < j) | none => true)
  | none => true
def condV (v : V) (t e : Option Out) : Option Out :=
  match v with
  | .bool b => cond b t e
  | _ => none
def seqX (r : Option Out) (k : St → Option Out) : Option Out :=
  r.bind fun
    | .normal s => k s
    | o => some o
def blkX (id : Nat) (r : Option Out) : Option Out :=
  r.bind fun
    | .exit i s => cond (Nat.beq i id) (some (.normal s)) (some (.exit i s))
    | o => some o
def resL (P : Program) (e : Env) (h : Heap) : List ResultVar → Option (List V)
  | [] => some []
  | .tmp t :: l => (resL P e h l).bind fun r => some (e t :: r)
  | .cell a t :: l => match szOf P t with
    | some n => (ldV n (e a) h).bind fun v => (resL P e h l).bind fun r => some (v :: r)
    | none => none
def tupL : List V → Option V
  | [v] => some v
  | l => some (.tup l)
def resV (P : Program) (rs : List ResultVar) (e : Env) (h : Heap) : Option V :=
  match rs with
  | [.tmp t] => some (e t)
  | rs => (resL P e h rs).bind tupL
abbrev Lp := (St → Option Out) → St → Option Out
def pickE (e : Env) : List Nat → Env
  | [] => fun _ => .undef
  | t :: l => upd (pickE e l) t (e t)
def envL : List (Nat × V) → Env
  | [] => fun _ => .undef
  | (k, v) :: l => upd (envL l) k v
/-- Behind a region: what is not asked again is forgotten. -/
def keepS (l : Option (List Nat)) (s : St) : St :=
  match l with
  | none => s
  | some l => ⟨pickE s.e l, s.h⟩
def execR (P : Program) (T : Nat → Option FS) (G : Nat → V) (A : Ann) (n : Nat) (id : Nat) (ops : Array Oper) (draw : Bool) (s : St) (k : St → Option Out) : Option Out :=
  let ra := look {} A id
  cond (dstsOk n ops)
    (cond draw
      (let b := CheckFast.beforeF ops
       cond (tmpsOk ops b && edgesOk ops)
         (cmds ra.pre s fun s => runOps P T G ops ra.ops (some b) ops.toList 0 [] s fun s => cmds ra.post s fun s => k (keepS ra.keep s)) none)
      (cmds ra.pre s fun s => runOps P T G ops ra.ops none ops.toList 0 [] s fun s => cmds ra.post s fun s => k (keepS ra.keep s))) none
def exec (P : Program) (T : Nat → Option FS) (G : Nat → V) (lp : Lp) (A : Ann) (n : Nat) (rs : List ResultVar) : Code → St → Option Out
  | .skip, s | .label _, s => some (.normal s)
  | .seq a b, s => match a with
    | .region id ops draw => execR P T G A n id ops draw s (exec P T G lp A n rs b)
    | a => seqX (exec P T G lp A n rs a s) (exec P T G lp A n rs b)
  | .cond c t e, s => condV (evO G s.e c) (exec P T G lp A n rs t s) (exec P T G lp A n rs e s)
  | .block id b, s => blkX id (exec P T G lp A n rs b s)
  | .loop b, s => lp (exec P T G lp A n rs b) s
  | .exit id, s => some (.exit id s)
  | .ret, s => (resV P rs s.e s.h).bind fun v => some (.ret v s.h)
  | .region id ops draw, s => execR P T G A n id ops draw s fun s => some (.normal s)
  | _, _ => none
def fin (P : Program) (rs : List ResultVar) (r : Option Out) : Option (V × Heap) :=
  r.bind fun
    | .ret v h => some (v, h)
    | .normal s => (resV P rs s.e s.h).bind fun v => some (v, s.h)
    | .exit .. => none
def argE : List V → Env
  | [] => fun _ => .undef
  | v :: l => fun i => match i with
    | 0 => v
    | i + 1 => argE l i
def pad : Nat → Heap
  | 0 => []
  | n + 1 => ⟨0, none⟩ :: pad n
def execF (P : Program) (T : Nat → Option FS) (G : Nat → V) (lp : Lp) (A : Ann) (f : Func) : FS := fun args h =>
  match f.body with
  | some c => fin P f.results.toList (exec P T G lp A f.ntmps f.results.toList c ⟨argE args, h ++ pad (look {} A 99999).slots⟩)
  | none => none
def loopN (f : St → Option Out) : Nat → St → Option Out
  | 0, _ => none
  | n + 1, s => (f s).bind fun
    | .normal s' => loopN f n s'
    | o => some o
end Mini
end
/- How values and heaps of the small machine stand for the real machine's values and memory, and that this lasts. -/
section
set_option linter.unusedVariables false
set_option linter.unusedSimpArgs false
namespace Mini
open Go

/-- Of a slot: its stamp; if it is used: the real block and how many cells that has (some none: a nil slice's empty row). -/
structure Ent where
  st : Nat
  bl : Option (Option (Nat × Nat))
/-- Of all slots; nf: blocks that a caller may yet write. -/
structure Sg where
  ent : Nat → Ent
  nf : Nat → Prop
instance : CoeFun Sg (fun _ => Nat → Ent) := ⟨Sg.ent⟩
/-- A block that is none of the slots'. -/
def Frz (σ : Sg) (w : World) (b : Nat) : Prop := b < w.heap.size ∧ (∀ k R, (σ k).bl ≠ some (some (b, R))) ∧ ¬ σ.nf b

/-- Values without slots. -/
inductive FRel (fr : Nat → Prop) (w : World) : V → Value → Prop
  | undef (x : Value) : FRel fr w .undef x
  | bool (b : Bool) : FRel fr w (.bool b) (.bool b)
  | int (k : IntKind) (n : Int) : FRel fr w (.int k n) (.int k n)
  | str (s : ByteArray) : FRel fr w (.str s) (.string s)
  | nilp : FRel fr w .nilp (.pointer none)
  | nils : FRel fr w .nils (.slice none 0 0)
  | nilf : FRel fr w .nilf .nilFunc
  | nili : FRel fr w .nili .nilIface
  | fz (v : V) (b o : Nat) (c : Nat → Value) (hf : fr b) (hc : ∀ j, j < v.cells.length → w.cell? ⟨b, o + j, none⟩ = some (c j))
      (hr : ∀ j (h : j < v.cells.length), FRel fr w (v.cells[j]) (c j)) : FRel fr w (.fz v) (.pointer (some ⟨b, o, none⟩))
  | vec0 (a : Option Addr) (cp : Nat) : FRel fr w (.vec []) (.slice a 0 cp)
  | vec (xs : List V) (b o cp sz : Nat) (c : Nat → Nat → Value) (hf : fr b) (hcp : xs.length ≤ cp) (hs : ∀ i (h : i < xs.length), (xs[i]).cells.length = sz)
      (hc : ∀ i j, i < xs.length → j < sz → w.cell? ⟨b, o + (i * sz + j), none⟩ = some (c i j))
      (hr : ∀ i (h : i < xs.length) j (hj : j < (xs[i]).cells.length), FRel fr w ((xs[i]).cells[j]) (c i j)) : FRel fr w (.vec xs) (.slice (some ⟨b, o, none⟩) xs.length cp)
  | fn (f : Fn) (a b : List V) (xs ys : Array Value) (ha : a.length = xs.size) (hb : b.length = ys.size)
      (hx : ∀ i (h : i < a.length), FRel fr w (a[i]) (xs[i]'(ha ▸ h))) (hy : ∀ i (h : i < b.length), FRel fr w (b[i]) (ys[i]'(hb ▸ h))) : FRel fr w (.fn f a b) (.func f xs ys)
  | iface (t : TypeId) (v : V) (x : Value) (h : FRel fr w v x) : FRel fr w (.iface t v) (.iface t x)
  | agg (cs : List V) (xs : Array Value) (hl : cs.length = xs.size) (h : ∀ i (h : i < cs.length), FRel fr w (cs[i]) (xs[i]'(hl ▸ h))) : FRel fr w (.agg cs) (.agg xs)
  | tup (cs : List V) (xs : Array Value) (hl : cs.length = xs.size) (h : ∀ i (h : i < cs.length), FRel fr w (cs[i]) (xs[i]'(hl ▸ h))) : FRel fr w (.tup cs) (.tuple xs)

inductive VRel (σ : Sg) (w : World) : V → Value → Prop
  | frz {v : V} {x : Value} (h : FRel (Frz σ w) w v x) : VRel σ w v x
  | ptr (k off st b : Nat) (hst : st ≤ (σ k).st) (h : ∀ b' R, σ k = ⟨st, some (some (b', R))⟩ → b' = b) : VRel σ w (.ptr k off st) (.pointer (some ⟨b, off, none⟩))
  | sl0 (k off sz st : Nat) (a : Option Addr) (hst : st ≤ (σ k).st) : VRel σ w (.sl k off 0 0 sz st) (.slice a 0 0)
  | sl (k off len cap sz st b c : Nat) (hst : st ≤ (σ k).st) (h1 : len ≤ cap) (h2 : cap ≤ c)
      (h : ∀ b' R, σ k = ⟨st, some (some (b', R))⟩ → b' = b ∧ off + c * csz sz ≤ R) (hv : σ k ≠ ⟨st, some none⟩) : VRel σ w (.sl k off len cap sz st) (.slice (some ⟨b, off, none⟩) len c)
  | fn (f : Fn) (a b : List V) (xs ys : Array Value) (ha : a.length = xs.size) (hb : b.length = ys.size)
      (hx : ∀ i (h : i < a.length), VRel σ w (a[i]) (xs[i]'(ha ▸ h))) (hy : ∀ i (h : i < b.length), VRel σ w (b[i]) (ys[i]'(hb ▸ h))) : VRel σ w (.fn f a b) (.func f xs ys)
  | iface (t : TypeId) (v : V) (x : Value) (h : VRel σ w v x) : VRel σ w (.iface t v) (.iface t x)
  | agg (cs : List V) (xs : Array Value) (hl : cs.length = xs.size) (h : ∀ i (h : i < cs.length), VRel σ w (cs[i]) (xs[i]'(hl ▸ h))) : VRel σ w (.agg cs) (.agg xs)
  | tup (cs : List V) (xs : Array Value) (hl : cs.length = xs.size) (h : ∀ i (h : i < cs.length), VRel σ w (cs[i]) (xs[i]'(hl ▸ h))) : VRel σ w (.tup cs) (.tuple xs)

/-- What a run does to slots and memory. -/
structure Ext (σ : Sg) (w : World) (σ' : Sg) (w' : World) : Prop where
  os : w'.os = w.os
  tape : w'.tape = w.tape
  output : w'.output = w.output
  size : w.heap.size ≤ w'.heap.size
  block : ∀ b, b < w.heap.size → (∀ k R, (σ k).bl ≠ some (some (b, R))) → w'.heap[b]? = w.heap[b]?
  news : ∀ k b R, (σ' k).bl = some (some (b, R)) → b < w.heap.size → ∃ k' R', (σ k').bl = some (some (b, R'))
  sts : ∀ k, σ' k = σ k ∨ (σ k).st < (σ' k).st
  nf : σ'.nf = σ.nf

theorem Ext.refl (σ : Sg) (w : World) : Ext σ w σ w :=
  ⟨rfl, rfl, rfl, Nat.le_refl _, fun _ _ _ => rfl, fun k b R h _ => ⟨k, R, h⟩, fun _ => .inl rfl, rfl⟩
theorem Ext.trans {σ σ' σ'' : Sg} {w w' w'' : World} (h : Ext σ w σ' w') (g : Ext σ' w' σ'' w'') : Ext σ w σ'' w'' where
  os := g.os.trans h.os
  tape := g.tape.trans h.tape
  output := g.output.trans h.output
  size := Nat.le_trans h.size g.size
  block := fun b hb hn => by
    rw [g.block b (Nat.lt_of_lt_of_le hb h.size) (fun k R e => ?_), h.block b hb hn]
    obtain ⟨k', R', e'⟩ := h.news k b R e hb
    exact hn _ _ e'
  news := fun k b R e hb => by
    obtain ⟨k', R', e'⟩ := g.news k b R e (Nat.lt_of_lt_of_le hb h.size)
    exact h.news _ _ _ e' hb
  sts := fun k => by
    rcases h.sts k with h1 | h1 <;> rcases g.sts k with h2 | h2
    · exact .inl (h2.trans h1)
    · exact .inr (h1 ▸ h2)
    · exact .inr (h2 ▸ h1)
    · exact .inr (Nat.lt_trans h1 h2)
  nf := g.nf.trans h.nf
theorem Ext.st_le {σ σ' : Sg} {w w' : World} (h : Ext σ w σ' w') (k : Nat) : (σ k).st ≤ (σ' k).st := by
  rcases h.sts k with h | h
  · rw [h]
    exact Nat.le_refl _
  · omega
theorem Ext.frz {σ σ' : Sg} {w w' : World} (h : Ext σ w σ' w') {b : Nat} (hf : Frz σ w b) : Frz σ' w' b :=
  ⟨Nat.lt_of_lt_of_le hf.1 h.size, fun k R e => by
    obtain ⟨k', R', e'⟩ := h.news k b R e hf.1
    exact hf.2.1 _ _ e', by rw [h.nf]; exact hf.2.2⟩
theorem Ext.frzBlock {σ σ' : Sg} {w w' : World} (h : Ext σ w σ' w') {b : Nat} (hf : Frz σ w b) : w'.heap[b]? = w.heap[b]? := h.block b hf.1 hf.2.1
theorem Ext.drew {σ σ' : Sg} {w w' : World} (h : Ext σ w σ' w') : Ext σ w σ' { w' with drawn := w'.drawn + 1 } := ⟨h.os, h.tape, h.output, h.size, h.block, h.news, h.sts, h.nf⟩
theorem Ext.of_drew {σ σ' : Sg} {w w' : World} (h : Ext σ { w with drawn := w.drawn + 1 } σ' w') : Ext σ w σ' w' := ⟨h.os, h.tape, h.output, h.size, h.block, h.news, h.sts, h.nf⟩

theorem cell_of_block {w w' : World} {b o : Nat} (h : w'.heap[b]? = w.heap[b]?) : w'.cell? ⟨b, o, none⟩ = w.cell? ⟨b, o, none⟩ := by simp [World.cell?, h]
theorem FRel.mono {fr fr' : Nat → Prop} {w w' : World} (hm : ∀ b, fr b → fr' b ∧ w'.heap[b]? = w.heap[b]?) {v : V} {x : Value} (h : FRel fr w v x) : FRel fr' w' v x := by
  induction h with
  | undef x => exact .undef x
  | bool b => exact .bool b
  | int k n => exact .int k n
  | str s => exact .str s
  | nilp => exact .nilp
  | nils => exact .nils
  | nilf => exact .nilf
  | nili => exact .nili
  | fz v b o c hf hc hr ih => exact .fz v b o c (hm b hf).1 (fun j hj => (cell_of_block (hm b hf).2).trans (hc j hj)) ih
  | vec0 a cp => exact .vec0 a cp
  | vec xs b o cp sz c hf hcp hs hc hr ih => exact .vec xs b o cp sz c (hm b hf).1 hcp hs (fun i j hi hj => (cell_of_block (hm b hf).2).trans (hc i j hi hj)) ih
  | fn f a b xs ys ha hb hx hy ihx ihy => exact .fn f a b xs ys ha hb ihx ihy
  | iface t v x h ih => exact .iface t v x ih
  | agg cs xs hl h ih => exact .agg cs xs hl ih
  | tup cs xs hl h ih => exact .tup cs xs hl ih
theorem Ext.key {σ σ' : Sg} {w w' : World} (hx : Ext σ w σ' w') {k st : Nat} {bl : Option (Option (Nat × Nat))} (hst : st ≤ (σ k).st) (e : σ' k = ⟨st, bl⟩) : σ k = ⟨st, bl⟩ := by
  rcases hx.sts k with h1 | h1
  · rw [← h1]
    exact e
  · rw [e] at h1
    have : (σ k).st < st := h1
    omega
theorem VRel.ext {σ σ' : Sg} {w w' : World} (hx : Ext σ w σ' w') {v : V} {x : Value} (h : VRel σ w v x) : VRel σ' w' v x := by
  induction h with
  | frz h => exact .frz (h.mono fun b hf => ⟨hx.frz hf, hx.frzBlock hf⟩)
  | ptr k off st b hst h => exact .ptr k off st b (Nat.le_trans hst (hx.st_le k)) fun b' R e => h b' R (hx.key hst e)
  | sl0 k off sz st a hst => exact .sl0 k off sz st a (Nat.le_trans hst (hx.st_le k))
  | sl k off len cap sz st b c hst h1 h2 h hv => exact .sl k off len cap sz st b c (Nat.le_trans hst (hx.st_le k)) h1 h2 (fun b' R e => h b' R (hx.key hst e)) fun e => hv (hx.key hst e)
  | fn f a b xs ys ha hb h1 h2 ih1 ih2 => exact .fn f a b xs ys ha hb ih1 ih2
  | iface t v x h ih => exact .iface t v x ih
  | agg cs xs hl h ih => exact .agg cs xs hl ih
  | tup cs xs hl h ih => exact .tup cs xs hl ih
/-- The world's count of draws doesn't matter. -/
theorem VRel.drew {σ : Sg} {w : World} {v : V} {x : Value} (h : VRel σ w v x) : VRel σ { w with drawn := w.drawn + 1 } v x := h.ext (Ext.refl σ w).drew

/-- A slot and its block. -/
def SlotRel (σ : Sg) (w : World) : Option (List V) → Option (Option (Nat × Nat)) → Prop
  | none, none => True
  | some cs, some none => cs = []
  | some cs, some (some (b, R)) => ∃ xs ty fr, w.heap[b]? = some (.cells xs ty fr) ∧ xs.size = R ∧ cs.length ≤ R ∧ (∀ j, j < R → ¬ (fr.1 ≤ j ∧ j < fr.2)) ∧
      ∀ j (h : j < cs.length) (h' : j < xs.size), VRel σ w (cs[j]) (xs[j])
  | _, _ => False
structure HRel (σ : Sg) (h : Heap) (w : World) : Prop where
  st : ∀ k, (hget h k).st = (σ k).st
  sl : ∀ k, SlotRel σ w (hget h k).bl (σ k).bl
  inj : ∀ k k' b R R', (σ k).bl = some (some (b, R)) → (σ k').bl = some (some (b, R')) → k = k'
  nfl : ∀ b, σ.nf b → b < w.heap.size
  nfd : ∀ k b R, (σ k).bl = some (some (b, R)) → ¬ σ.nf b
theorem SlotRel.mono {σ σ' : Sg} {w w' : World} (hx : Ext σ w σ' w') {c : Option (List V)} {e : Option (Option (Nat × Nat))}
    (hb : ∀ b R, e = some (some (b, R)) → w'.heap[b]? = w.heap[b]?) (h : SlotRel σ w c e) : SlotRel σ' w' c e := by
  match c, e, h with
  | none, none, _ => trivial
  | some cs, some none, h => exact h
  | some cs, some (some (b, R)), ⟨xs, ty, fr, h1, h2, h3, h4, h5⟩ => exact ⟨xs, ty, fr, (hb b R rfl).trans h1, h2, h3, h4, fun j h h' => (h5 j h h').ext hx⟩
theorem HRel.drew {σ : Sg} {h : Heap} {w : World} (H : HRel σ h w) : HRel σ h { w with drawn := w.drawn + 1 } :=
  ⟨H.st, fun k => (H.sl k).mono (Ext.refl σ w).drew (fun _ _ _ => rfl), H.inj, H.nfl, H.nfd⟩
theorem HRel.lt {σ : Sg} {h : Heap} {w : World} (H : HRel σ h w) {k b R : Nat} (e : (σ k).bl = some (some (b, R))) : b < w.heap.size := by
  have := H.sl k
  rw [e] at this
  cases hc : (hget h k).bl with
  | none => rw [hc] at this; exact this.elim
  | some cs =>
    rw [hc] at this
    obtain ⟨xs, ty, fr, h1, _⟩ := this
    exact (Array.getElem?_eq_some_iff.1 h1).1

/-! ### heaps -/
@[simp] theorem hget_nil (k : Nat) : hget [] k = ⟨0, none⟩ := by cases k <;> rfl
theorem hget_hset (h : Heap) (k : Nat) (s : Slot) : ∀ j, hget (hset h k s) j = if j = k then s else hget h j := by
  induction h generalizing k with
  | nil =>
    induction k with
    | zero => intro j; cases j <;> simp [hset, hget]
    | succ k ih =>
      intro j
      cases j with
      | zero => simp [hset, hget]
      | succ j => simp [hset, hget, ih]
  | cons a h ih =>
    intro j
    cases k with
    | zero => cases j <;> simp [hset, hget]
    | succ k => cases j <;> simp [hset, hget, ih]
theorem cellsAt_some {h : Heap} {k st : Nat} {cs : List V} (e : cellsAt h k st = some cs) : hget h k = ⟨st, some cs⟩ := by
  unfold cellsAt at e
  split at e
  · rename_i s cs' he
    split at e
    · rename_i hs
      injection e with e
      subst hs
      subst e
      exact he
    · exact absurd e (by simp)
  · exact absurd e (by simp)
/-- A slot that is used, in memory. -/
theorem HRel.cells {σ : Sg} {h : Heap} {w : World} (H : HRel σ h w) {k st : Nat} {cs : List V} (e : cellsAt h k st = some cs) :
    (σ k = ⟨st, some none⟩ ∧ cs = []) ∨ ∃ b R xs ty fr, σ k = ⟨st, some (some (b, R))⟩ ∧ w.heap[b]? = some (.cells xs ty fr) ∧ xs.size = R ∧ cs.length ≤ R ∧
      (∀ j, j < R → ¬ (fr.1 ≤ j ∧ j < fr.2)) ∧ ∀ j (h : j < cs.length) (h' : j < xs.size), VRel σ w (cs[j]) (xs[j]) := by
  have he := cellsAt_some e
  have hst := H.st k
  have hsl := H.sl k
  rw [he] at hst hsl
  cases hk : σ k with
  | mk st' bl =>
    rw [hk] at hst hsl
    simp only at hst hsl
    subst hst
    match bl, hsl with
    | some none, h => exact .inl ⟨rfl, h⟩
    | some (some (b, R)), ⟨xs, ty, fr, h1, h2, h3, h4, h5⟩ => exact .inr ⟨b, R, xs, ty, fr, rfl, h1, h2, h3, h4, fun j h h' => by rw [← hk] at *; exact h5 j h h'⟩
end Mini
end
/- What a value of the small machine tells of the real one; loads. -/
section
set_option linter.unusedVariables false
set_option linter.unusedSimpArgs false
namespace Mini
open Go

theorem add_plain (b o n : Nat) : (⟨b, o, none⟩ : Addr).add n = ⟨b, o + n, none⟩ := by unfold Addr.add; split <;> simp_all
section
variable {P : Program} {σ : Sg} {w : World} {x : Value}
theorem VRel.int_inv {k : IntKind} {n : Int} (h : VRel σ w (.int k n) x) : x = .int k n := by cases h with | frz h => cases h; rfl
theorem VRel.bool_inv {b : Bool} (h : VRel σ w (.bool b) x) : x = .bool b := by cases h with | frz h => cases h; rfl
theorem VRel.str_inv {s : ByteArray} (h : VRel σ w (.str s) x) : x = .string s := by cases h with | frz h => cases h; rfl
theorem VRel.nilp_inv (h : VRel σ w .nilp x) : x = .pointer none := by cases h with | frz h => cases h; rfl
theorem VRel.nils_inv (h : VRel σ w .nils x) : x = .slice none 0 0 := by cases h with | frz h => cases h; rfl
theorem VRel.nilf_inv (h : VRel σ w .nilf x) : x = .nilFunc := by cases h with | frz h => cases h; rfl
theorem VRel.nili_inv (h : VRel σ w .nili x) : x = .nilIface := by cases h with | frz h => cases h; rfl
theorem VRel.agg_inv {cs : List V} (h : VRel σ w (.agg cs) x) : ∃ xs : Array Value, x = .agg xs ∧ cs.length = xs.size ∧ ∀ i (h : i < cs.length) (h' : i < xs.size), VRel σ w (cs[i]) (xs[i]) := by
  cases h with
  | frz h => cases h with | agg _ xs hl h => exact ⟨xs, rfl, hl, fun i hi _ => .frz (h i hi)⟩
  | agg _ xs hl h => exact ⟨xs, rfl, hl, fun i hi _ => h i hi⟩
theorem VRel.tup_inv {cs : List V} (h : VRel σ w (.tup cs) x) : ∃ xs : Array Value, x = .tuple xs ∧ cs.length = xs.size ∧ ∀ i (h : i < cs.length) (h' : i < xs.size), VRel σ w (cs[i]) (xs[i]) := by
  cases h with
  | frz h => cases h with | tup _ xs hl h => exact ⟨xs, rfl, hl, fun i hi _ => .frz (h i hi)⟩
  | tup _ xs hl h => exact ⟨xs, rfl, hl, fun i hi _ => h i hi⟩
theorem VRel.iface_inv {t : TypeId} {v : V} (h : VRel σ w (.iface t v) x) : ∃ y, x = .iface t y ∧ VRel σ w v y := by
  cases h with
  | frz h => cases h with | iface _ _ y h => exact ⟨y, rfl, .frz h⟩
  | iface _ _ y h => exact ⟨y, rfl, h⟩
theorem VRel.fn_inv {f : Fn} {a b : List V} (h : VRel σ w (.fn f a b) x) : ∃ xs ys : Array Value, x = .func f xs ys ∧ a.length = xs.size ∧ b.length = ys.size ∧
    (∀ i (h : i < a.length) (h' : i < xs.size), VRel σ w (a[i]) (xs[i])) ∧ ∀ i (h : i < b.length) (h' : i < ys.size), VRel σ w (b[i]) (ys[i]) := by
  cases h with
  | frz h => cases h with | fn _ _ _ xs ys ha hb hx hy => exact ⟨xs, ys, rfl, ha, hb, fun i hi _ => .frz (hx i hi), fun i hi _ => .frz (hy i hi)⟩
  | fn _ _ _ xs ys ha hb hx hy => exact ⟨xs, ys, rfl, ha, hb, fun i hi _ => hx i hi, fun i hi _ => hy i hi⟩
theorem VRel.fz_inv {v : V} (h : VRel σ w (.fz v) x) : ∃ (b o : Nat) (c : Nat → Value), x = .pointer (some ⟨b, o, none⟩) ∧ Frz σ w b ∧ (∀ j, j < v.cells.length → w.cell? ⟨b, o + j, none⟩ = some (c j)) ∧
    ∀ j (h : j < v.cells.length), FRel (Frz σ w) w (v.cells[j]) (c j) := by
  cases h with | frz h => cases h with | fz _ b o c hf hc hr => exact ⟨b, o, c, rfl, hf, hc, hr⟩
theorem VRel.ptr_inv {k off st : Nat} (h : VRel σ w (.ptr k off st) x) : ∃ b, x = .pointer (some ⟨b, off, none⟩) ∧ st ≤ (σ k).st ∧ ∀ b' R, σ k = ⟨st, some (some (b', R))⟩ → b' = b := by
  cases h with
  | frz h => cases h
  | ptr _ _ _ b h1 h2 => exact ⟨b, rfl, h1, h2⟩
theorem VRel.sl_inv {k off len cap sz st : Nat} (h : VRel σ w (.sl k off len cap sz st) x) : st ≤ (σ k).st ∧
    ((∃ a, x = .slice a 0 0 ∧ len = 0 ∧ cap = 0) ∨
     ∃ b c, x = .slice (some ⟨b, off, none⟩) len c ∧ len ≤ cap ∧ cap ≤ c ∧ (∀ b' R, σ k = ⟨st, some (some (b', R))⟩ → b' = b ∧ off + c * csz sz ≤ R) ∧ σ k ≠ ⟨st, some none⟩) := by
  cases h with
  | frz h => cases h
  | sl0 _ _ _ _ a h1 => exact ⟨h1, .inl ⟨a, rfl, rfl, rfl⟩⟩
  | sl _ _ _ _ _ _ b c h1 h2 h3 h4 h5 => exact ⟨h1, .inr ⟨b, c, rfl, h2, h3, h4, h5⟩⟩
/-- A frozen slice, empty or not. -/
theorem VRel.vec_inv {xs : List V} (h : VRel σ w (.vec xs) x) : ∃ a cp, x = .slice a xs.length cp ∧ xs.length ≤ cp ∧ (xs = [] ∨ ∃ (b o sz : Nat) (c : Nat → Nat → Value), a = some ⟨b, o, none⟩ ∧ Frz σ w b ∧
    (∀ i (h : i < xs.length), (xs[i]).cells.length = sz) ∧ (∀ i j, i < xs.length → j < sz → w.cell? ⟨b, o + (i * sz + j), none⟩ = some (c i j)) ∧
    ∀ i (h : i < xs.length) j (hj : j < (xs[i]).cells.length), FRel (Frz σ w) w ((xs[i]).cells[j]) (c i j)) := by
  cases h with
  | frz h => cases h with
    | vec0 a cp => exact ⟨a, cp, rfl, Nat.zero_le _, .inl rfl⟩
    | vec _ b o cp sz c hf hcp hs hc hr => exact ⟨_, cp, rfl, hcp, .inr ⟨b, o, sz, c, rfl, hf, hs, hc, hr⟩⟩

/-- Cells by cells. -/
def CRel (σ : Sg) (w : World) (cs : List V) (xs : Array Value) : Prop := cs.length = xs.size ∧ ∀ i (h : i < cs.length) (h' : i < xs.size), VRel σ w (cs[i]) (xs[i])
theorem cells_scalar {v : Value} (h : ∀ cs, v ≠ .agg cs) : v.cells = #[v] := by
  cases v <;> first | rfl | exact absurd rfl (h _)
theorem vcells_scalar {v : V} (h : v.isAgg = false) : v.cells = [v] := by
  cases v <;> first | rfl | simp [V.isAgg] at h
/-- A value that isn't undef. -/
theorem VRel.cells {v : V} (h : VRel σ w v x) (hu : v ≠ .undef) : CRel σ w v.cells x.cells := by
  have one : ∀ {v : V} {x : Value}, VRel σ w v x → v.cells = [v] → x.cells = #[x] → CRel σ w v.cells x.cells := by
    intro v x h hv hx
    rw [hv, hx]
    exact ⟨rfl, fun i h1 h2 => by
      have : i = 0 := by simpa using h1
      subst this
      exact h⟩
  cases v with
  | undef => exact absurd rfl hu
  | agg cs =>
    obtain ⟨xs, rfl, hl, h⟩ := h.agg_inv
    exact ⟨hl, h⟩
  | bool b => have := h.bool_inv; subst this; exact one h rfl rfl
  | int k n => have := h.int_inv; subst this; exact one h rfl rfl
  | str s => have := h.str_inv; subst this; exact one h rfl rfl
  | nilp => have := h.nilp_inv; subst this; exact one h rfl rfl
  | nils => have := h.nils_inv; subst this; exact one h rfl rfl
  | nilf => have := h.nilf_inv; subst this; exact one h rfl rfl
  | nili => have := h.nili_inv; subst this; exact one h rfl rfl
  | tup cs => obtain ⟨xs, rfl, _⟩ := h.tup_inv; exact one h rfl rfl
  | iface t v => obtain ⟨y, rfl, _⟩ := h.iface_inv; exact one h rfl rfl
  | fn f a b => obtain ⟨xs, ys, rfl, _⟩ := h.fn_inv; exact one h rfl rfl
  | fz v => obtain ⟨b, o, c, rfl, _⟩ := h.fz_inv; exact one h rfl rfl
  | vec xs => obtain ⟨a, cp, rfl, _⟩ := h.vec_inv; exact one h rfl rfl
  | ptr k off st => obtain ⟨b, rfl, _⟩ := h.ptr_inv; exact one h rfl rfl
  | sl k off len cap sz st => rcases h.sl_inv.2 with ⟨a, rfl, _⟩ | ⟨b, c, rfl, _⟩ <;> exact one h rfl rfl


theorem VRel.okCell_ne {v : V} (h : v.okCell = true) : v ≠ .undef := by intro e; rw [e] at h; simp [V.okCell] at h
theorem VRel.okCell_one {v : V} (hr : VRel σ w v x) (h : v.okCell = true) : x.oneCell' = true := by
  have hc := hr.cells (VRel.okCell_ne h)
  cases v with
  | undef => simp [V.okCell] at h
  | agg cs => simp [V.okCell] at h
  | tup cs => simp [V.okCell] at h
  | bool b => rw [hr.bool_inv]; rfl
  | int k n => rw [hr.int_inv]; rfl
  | str s => rw [hr.str_inv]; rfl
  | nilp => rw [hr.nilp_inv]; rfl
  | nils => rw [hr.nils_inv]; rfl
  | nilf => rw [hr.nilf_inv]; rfl
  | nili => rw [hr.nili_inv]; rfl
  | iface t v => obtain ⟨y, rfl, _⟩ := hr.iface_inv; rfl
  | fn f a b => obtain ⟨xs, ys, rfl, _⟩ := hr.fn_inv; rfl
  | fz v => obtain ⟨b, o, c, rfl, _⟩ := hr.fz_inv; rfl
  | vec xs => obtain ⟨a, cp, rfl, _⟩ := hr.vec_inv; rfl
  | ptr k off st => obtain ⟨b, rfl, _⟩ := hr.ptr_inv; rfl
  | sl k off len cap sz st => rcases hr.sl_inv.2 with ⟨a, rfl, _⟩ | ⟨b, c, rfl, _⟩ <;> rfl

/-! ### types -/
def aggD : TypeDesc → Bool
  | .struct _ | .array _ _ => true
  | _ => false
theorem szOf_spec {t : TypeId} {n : Nat} (h : szOf P t = some n) : ∃ d i, P.underlying t = some d ∧ P.info? t = some i ∧ i.size = csz n ∧
    aggD d = (n != 0) := by
  unfold szOf at h
  split at h
  · rename_i fs i hu hi
    split at h
    · simp at h
    · rename_i h0
      injection h with h
      subst h
      exact ⟨_, _, hu, hi, by simp [csz, h0], by simp [h0, aggD]⟩
  · rename_i m e i hu hi
    split at h
    · simp at h
    · rename_i h0
      injection h with h
      subst h
      exact ⟨_, _, hu, hi, by simp [csz, h0], by simp [h0, aggD]⟩
  · rename_i d i hu hi hns
    split at h
    · rename_i h1
      injection h with h
      subst h
      refine ⟨_, _, hi, hns, by simp [csz, h1], ?_⟩
      cases d <;> simp_all [aggD]
    · simp at h
  · simp at h
theorem run_underlying_of {t : TypeId} {d : TypeDesc} (h : P.underlying t = some d) : (underlying t).run P w = .ok d w := by simp [underlying, h]
theorem run_typeInfo_of {t : TypeId} {i : TypeInfo} (h : P.info? t = some i) : (typeInfo t).run P w = .ok i w := by simp [typeInfo, h]
theorem run_sizeOf_of {t : TypeId} {i : TypeInfo} (h : P.info? t = some i) : (Go.sizeOf t).run P w = .ok i.size w := by simp [Go.sizeOf, run_typeInfo_of h]
theorem run_sizeOf_sz {t : TypeId} {n : Nat} (h : szOf P t = some n) : (Go.sizeOf t).run P w = .ok (csz n) w := by
  obtain ⟨d, i, _, hi, hs, _⟩ := szOf_spec h
  rw [run_sizeOf_of hi, hs]
theorem run_isAgg_sz {t : TypeId} {n : Nat} (h : szOf P t = some n) : (isAgg t).run P w = .ok (n != 0) w := by
  obtain ⟨d, i, hu, _, _, he⟩ := szOf_spec h
  simp only [isAgg, Sem.run_bind, run_underlying_of hu, Result.andThen_ok]
  rw [← he]
  cases d <;> rfl

/-- A value of cells: of one, or a struct's or an array's. -/
def valC (n : Nat) (c : Nat → Value) : Value :=
  match n with
  | 0 => c 0
  | n + 1 => .agg ((List.range (n + 1)).map c).toArray
/-! ### parts of cells -/
theorem csz_zero : csz 0 = 1 := rfl
theorem csz_succ (n : Nat) : csz (n + 1) = n + 1 := rfl
theorem csz_pos (n : Nat) : 0 < csz n := by cases n <;> simp [csz]
theorem take0 {cs : List V} {off : Nat} {v : V} (h : takeV cs off 0 = some v) : ∃ hlt : off < cs.length, cs[off] = v ∧ v.isAgg = false := by
  simp only [takeV] at h
  split at h
  · rename_i u hu
    obtain ⟨hlt, rfl⟩ := List.getElem?_eq_some_iff.1 hu
    split at h
    · simp at h
    · rename_i ha
      injection h with h
      subst h
      exact ⟨hlt, rfl, by simpa using ha⟩
  · simp at h
/-- Cells from off on, as the real machine has them: c j is the cell off + j. -/
theorem takeV_rel {cs : List V} {off n : Nat} {v : V} (h : takeV cs off n = some v) (c : Nat → Value) (hr : ∀ j (h : j < cs.length), off ≤ j → VRel σ w (cs[j]) (c j)) :
    off + csz n ≤ cs.length ∧ VRel σ w v (valC n fun j => c (off + j)) := by
  cases n with
  | zero =>
    obtain ⟨hlt, rfl, _⟩ := take0 h
    exact ⟨by simp [csz]; omega, hr off hlt (Nat.le_refl _)⟩
  | succ n =>
    simp only [takeV] at h
    split at h
    · rename_i hle
      injection h with h
      subst h
      refine ⟨by simp [csz]; omega, .agg _ _ (by simp; omega) fun i hi => ?_⟩
      have hi' : i < n + 1 := by simp at hi; omega
      have := hr (off + i) (by omega) (by omega)
      simpa [List.getElem_take, List.getElem_drop] using this
    · simp at h
theorem fitsV_cells {n : Nat} {v : V} (h : fitsV n v = true) : v.cells.length = csz n ∧ v.isAgg = (n != 0) := by
  cases n with
  | zero => cases v <;> simp_all [fitsV, V.cells, V.isAgg, csz]
  | succ n => cases v <;> simp_all [fitsV, V.cells, V.isAgg, csz]
/-- A whole value by its cells. -/
theorem whole_rel {n : Nat} {v : V} (hf : fitsV n v = true) (c : Nat → Value) (hr : ∀ j (h : j < v.cells.length), VRel σ w (v.cells[j]) (c j)) :
    VRel σ w v (valC n c) := by
  obtain ⟨hl, ha⟩ := fitsV_cells hf
  cases n with
  | zero =>
    have hs := vcells_scalar (v := v) (by simpa using ha)
    have := hr 0 (by rw [hs]; simp)
    simpa [hs, valC] using this
  | succ n =>
    cases v <;> simp [V.isAgg] at ha
    rename_i cs
    refine .agg _ _ (by simpa [V.cells, csz] using hl) fun i hi => ?_
    have := hr i hi
    simpa [V.cells] using this

/-! ### loads -/
theorem run_loadAt_cells {t : TypeId} {n b o : Nat} (hs : szOf P t = some n) (c : Nat → Value) (hc : ∀ j, j < csz n → w.cell? ⟨b, o + j, none⟩ = some (c j)) :
    (Instr.loadAt t (.pointer (some ⟨b, o, none⟩))).run P w = .ok (valC n c) w := by
  simp only [Instr.loadAt, Instr.sureAddr, loadVar, Sem.run_bind, Sem.run_pure, Result.andThen_ok, run_isAgg_sz hs]
  cases n with
  | zero =>
    have := hc 0 (by simp [csz])
    simp only [Nat.add_zero] at this
    simp [this, valC]
  | succ n =>
    simp only [bne_iff_ne, ne_eq, Nat.add_eq_zero_iff, Nat.succ_ne_self, and_false, not_false_eq_true, if_true, Sem.run_ite, Sem.run_bind, run_sizeOf_sz hs, Result.andThen_ok, csz_succ]
    rw [run_loadCells w _ (n + 1) c (fun j hj => by rw [add_plain]; exact hc j (by simp [csz]; omega))]
    simp [valC]
theorem cell_of {b o : Nat} {xs : Array Value} {ty : TypeId} {fr : Nat × Nat} (h : w.heap[b]? = some (.cells xs ty fr)) : w.cell? ⟨b, o, none⟩ = xs[o]? := by simp [World.cell?, h]
theorem getD_lt {xs : Array Value} {j : Nat} (h : j < xs.size) (d : Value) : xs.getD j d = xs[j] := by simp [Array.getD, h]
theorem ld_sound {h : Heap} (H : HRel σ h w) {p v : V} {xp : Value} (hp : VRel σ w p xp) {t : TypeId} {n : Nat} (hs : szOf P t = some n) (e : ldV n p h = some v) :
    ∃ x, (Instr.loadAt t xp).run P w = .ok x w ∧ VRel σ w v x := by
  cases p with
  | fz u =>
    simp only [ldV] at e
    split at e
    · rename_i hf
      injection e with e
      subst e
      obtain ⟨b, o, c, rfl, hfr, hc, hr⟩ := hp.fz_inv
      have hl := (fitsV_cells hf).1
      exact ⟨_, run_loadAt_cells hs c (fun j hj => hc j (by omega)), whole_rel hf c fun j hj => .frz (hr j hj)⟩
    · simp at e
  | ptr k off st =>
    simp only [ldV, Option.bind_eq_some_iff] at e
    obtain ⟨cs, hcs, ht⟩ := e
    rcases H.cells hcs with ⟨hk, rfl⟩ | ⟨b, R, xs, ty, fr, hk, hb, hR, hlen, hfr, hrel⟩
    · have := (takeV_rel (σ := σ) (w := w) ht (fun _ => undef) (fun j h => by simp at h)).1
      have := csz_pos n
      simp at *
      omega
    · obtain ⟨b', rfl, _, hbb⟩ := hp.ptr_inv
      obtain rfl := hbb b R hk
      obtain ⟨hle, hv⟩ := takeV_rel (σ := σ) (w := w) ht (fun j => xs.getD j undef) (fun j hj _ => by rw [getD_lt (by omega)]; exact hrel j hj (by omega))
      refine ⟨_, run_loadAt_cells hs (fun j => xs.getD (off + j) undef) (fun j hj => ?_), ?_⟩
      · rw [cell_of hb, getD_lt (by omega), Array.getElem?_eq_getElem (by omega)]
      · exact hv
  | _ => simp [ldV] at e
end
end Mini
end
/- Each operation of the small machine that gives a value does as the real machine's. -/
section
set_option linter.unusedVariables false
set_option linter.unusedSimpArgs false
namespace Mini
open Go
section
variable {P : Program} {σ : Sg} {w : World} {h : Heap}

theorem intBin_sound {op : BinOp} {k : IntKind} {x y : Int} {v : V} {t : TypeId} (hs : isShift op = false) (e : intBin op k x y = some v) :
    ∃ r, (binOp op t (.int k x) (.int k y)).run P w = .ok r w ∧ VRel σ w v r := by
  cases op <;> simp only [intBin] at e <;> first
    | (simp at e; done)
    | (simp [isShift] at hs; done)
    | (injection e with e; subst e
       refine ⟨_, ?_, .frz (by constructor)⟩
       simp [binOp, Op.intArith, Op.intBits, Op.intCmp]; done)
    | (split at e
       · simp at e
       · rename_i h0
         injection e with e; subst e
         refine ⟨_, ?_, .frz (by constructor)⟩
         simp [binOp, Op.intDiv, h0])
theorem intShift_sound {op : BinOp} {k k' : IntKind} {x y : Int} {v : V} {t : TypeId} (e : intShift op k x y = some v) :
    ∃ r, (binOp op t (.int k x) (.int k' y)).run P w = .ok r w ∧ VRel σ w v r := by
  unfold intShift at e
  split at e
  · simp at e
  · rename_i h0
    cases op <;> first
      | (simp at e; done)
      | (injection e with e; subst e
         refine ⟨_, ?_, .frz (by constructor)⟩
         simp [binOp, Op.shift, h0])
theorem intV_sound {op : BinOp} {a b v : V} {xa xb : Value} {t : TypeId} (ha : VRel σ w a xa) (hb : VRel σ w b xb) (e : intV op a b = some v) :
    ∃ k x k' y, xa = .int k x ∧ xb = .int k' y ∧ ∃ r, (binOp op t xa xb).run P w = .ok r w ∧ VRel σ w v r := by
  unfold intV at e
  split at e
  · rename_i k x k' y
    have h1 := ha.int_inv
    have h2 := hb.int_inv
    subst h1 h2
    refine ⟨k, x, k', y, rfl, rfl, ?_⟩
    split at e
    · exact intShift_sound e
    · rename_i hs
      split at e
      · rename_i hk
        subst hk
        exact intBin_sound (by simpa using hs) e
      · simp at e
  · simp at e
theorem strV_sound {op : BinOp} {a b v : V} {xa xb : Value} {t : TypeId} (ha : VRel σ w a xa) (hb : VRel σ w b xb) (e : strV op a b = some v) :
    ∃ x y, xa = .string x ∧ xb = .string y ∧ ∃ r, (binOp op t xa xb).run P w = .ok r w ∧ VRel σ w v r := by
  unfold strV at e
  split at e
  · rename_i x y
    have h1 := ha.str_inv
    have h2 := hb.str_inv
    subst h1 h2
    refine ⟨x, y, rfl, rfl, ?_⟩
    cases op <;> simp only [strBin] at e <;> first
      | (simp at e; done)
      | (injection e with e; subst e
         refine ⟨_, ?_, .frz (by constructor)⟩
         simp [binOp, Op.stringOp]; done)
      | (split at e
         · rename_i hle
           injection e with e; subst e
           refine ⟨_, ?_, .frz (by constructor)⟩
           have : ¬ ((x.size + y.size : Nat) : Int) > IntKind.i64.max := by
             have : IntKind.i64.max = 9223372036854775807 := by decide
             omega
           simp only [binOp, Op.stringOp, if_neg this, Sem.run_pure]
         · simp at e)
  · simp at e
theorem eqRes_sound {op : BinOp} {b : Bool} {v : V} (e : eqRes op b = some v) : (op = .eql ∧ v = .bool b) ∨ (op = .neq ∧ v = .bool !b) := by
  cases op <;> simp [eqRes] at e
  · exact .inl ⟨rfl, e.symm⟩
  · exact .inr ⟨rfl, e.symm⟩
theorem equal_succ : ∃ d, 20 ≤ d ∧ ∀ t x y, Op.equal t x y = Op.equalIn (d + 1) t x y := ⟨9999, by decide, fun _ _ _ => rfl⟩
/-- '==' and '!=' by the model's own 'equal'. -/
theorem binOp_eq {op : BinOp} {t : TypeId} {xa xb : Value} {b : Bool} {v : V} (e : eqRes op b = some v) (hq : (Op.equal t xa xb).run P w = .ok b w)
    (hx : binOp .eql t xa xb = (do pure (.bool (← Op.equal t xa xb))) ∧ binOp .neq t xa xb = (do pure (.bool (!(← Op.equal t xa xb))))) :
    ∃ r, (binOp op t xa xb).run P w = .ok r w ∧ VRel σ w v r := by
  rcases eqRes_sound e with ⟨rfl, rfl⟩ | ⟨rfl, rfl⟩
  · refine ⟨.bool b, ?_, .frz (.bool b)⟩
    rw [hx.1]
    simp [hq]
  · refine ⟨.bool !b, ?_, .frz (.bool _)⟩
    rw [hx.2]
    simp [hq]
theorem boolV_sound {op : BinOp} {a b v : V} {xa xb : Value} {t : TypeId} (ht : P.underlying t = some .bool) (ha : VRel σ w a xa) (hb : VRel σ w b xb) (e : boolV op a b = some v) :
    ∃ x y, xa = .bool x ∧ xb = .bool y ∧ ∃ r, (binOp op t xa xb).run P w = .ok r w ∧ VRel σ w v r := by
  unfold boolV at e
  split at e
  · rename_i x y
    have h1 := ha.bool_inv
    have h2 := hb.bool_inv
    subst h1 h2
    refine ⟨x, y, rfl, rfl, binOp_eq e ?_ ⟨rfl, rfl⟩⟩
    obtain ⟨d, _, hd⟩ := equal_succ
    simp [hd, Op.equalIn, run_underlying_of ht]
  · simp at e
theorem ptrV_sound {op : BinOp} {a b v : V} {xa xb : Value} {t e' : TypeId} (ht : P.underlying t = some (.pointer e')) (ha : VRel σ w a xa) (hb : VRel σ w b xb) (e : ptrV op a b = some v) :
    ∃ x y, xa = .pointer x ∧ xb = .pointer y ∧ ∃ r, (binOp op t xa xb).run P w = .ok r w ∧ VRel σ w v r := by
  have nn : ∀ {bb}, eqRes op bb = some v → bb = true → ∃ r, (binOp op t (.pointer none) (.pointer none)).run P w = .ok r w ∧ VRel σ w v r := by
    intro bb e hb
    subst hb
    exact binOp_eq e (by obtain ⟨d, _, hd⟩ := equal_succ; simp [hd, Op.equalIn, run_underlying_of ht]) ⟨rfl, rfl⟩
  have ns : ∀ {y : Addr}, eqRes op false = some v → ∃ r, (binOp op t (.pointer none) (.pointer (some y))).run P w = .ok r w ∧ VRel σ w v r := by
    intro y e
    exact binOp_eq e (by obtain ⟨d, _, hd⟩ := equal_succ; simp [hd, Op.equalIn, run_underlying_of ht]) ⟨rfl, rfl⟩
  have sn : ∀ {y : Addr}, eqRes op false = some v → ∃ r, (binOp op t (.pointer (some y)) (.pointer none)).run P w = .ok r w ∧ VRel σ w v r := by
    intro y e
    exact binOp_eq e (by obtain ⟨d, _, hd⟩ := equal_succ; simp [hd, Op.equalIn, run_underlying_of ht]) ⟨rfl, rfl⟩
  unfold ptrV at e
  split at e
  · have h1 := ha.nilp_inv
    have h2 := hb.nilp_inv
    subst h1 h2
    exact ⟨_, _, rfl, rfl, nn e rfl⟩
  · have h1 := ha.nilp_inv
    subst h1
    obtain ⟨b, o, c, rfl, _⟩ := hb.fz_inv
    exact ⟨_, _, rfl, rfl, ns e⟩
  · have h1 := hb.nilp_inv
    subst h1
    obtain ⟨b, o, c, rfl, _⟩ := ha.fz_inv
    exact ⟨_, _, rfl, rfl, sn e⟩
  · have h1 := ha.nilp_inv
    subst h1
    obtain ⟨b, rfl, _⟩ := hb.ptr_inv
    exact ⟨_, _, rfl, rfl, ns e⟩
  · have h1 := hb.nilp_inv
    subst h1
    obtain ⟨b, rfl, _⟩ := ha.ptr_inv
    exact ⟨_, _, rfl, rfl, sn e⟩
  · simp at e
theorem fnV_sound {op : BinOp} {a b v : V} {xa xb : Value} {t : TypeId} {ps rs : Array TypeId} {vr : Bool} (ht : P.underlying t = some (.func ps rs vr)) (ha : VRel σ w a xa) (hb : VRel σ w b xb) (e : fnV op a b = some v) :
    (∀ cs, xa ≠ .agg cs) ∧ (xa ≠ .nilIface) ∧ ∃ r, (binOp op t xa xb).run P w = .ok r w ∧ VRel σ w v r := by
  unfold fnV at e
  split at e
  · have h1 := ha.nilf_inv
    have h2 := hb.nilf_inv
    subst h1 h2
    exact ⟨by simp, by simp, binOp_eq e (by obtain ⟨d, _, hd⟩ := equal_succ; simp [hd, Op.equalIn, run_underlying_of ht]) ⟨rfl, rfl⟩⟩
  · have h1 := ha.nilf_inv
    subst h1
    obtain ⟨xs, ys, rfl, _⟩ := hb.fn_inv
    exact ⟨by simp, by simp, binOp_eq e (by obtain ⟨d, _, hd⟩ := equal_succ; simp [hd, Op.equalIn, run_underlying_of ht]) ⟨rfl, rfl⟩⟩
  · have h2 := hb.nilf_inv
    subst h2
    obtain ⟨xs, ys, rfl, _⟩ := ha.fn_inv
    exact ⟨by simp, by simp, binOp_eq e (by obtain ⟨d, _, hd⟩ := equal_succ; simp [hd, Op.equalIn, run_underlying_of ht]) ⟨rfl, rfl⟩⟩
  · simp at e
end
end Mini
end
/- '==' between structs and arrays of plain cells. -/
section
set_option linter.unusedVariables false
set_option linter.unusedSimpArgs false
namespace Mini
open Go
def cellEqR : Nat → Value → Value → Option Bool
  | 0, .int k x, .int k' y => if k = k' then some (x == y) else none
  | 1, .bool x, .bool y => some (x == y)
  | 2, .string x, .string y => some (x.toList == y.toList)
  | _, _, _ => none
def cellsEqR (offs : List (Nat × Nat)) (xs ys : Array Value) : Option Bool :=
  match offs with
  | [] => some true
  | (o, g) :: l =>
    match xs[o]?, ys[o]? with
    | some x, some y => (cellEqR g x y).bind fun b => (cellsEqR l xs ys).bind fun r => some (b && r)
    | _, _ => none
def shf (o : Nat) (x : Nat × Nat) : Nat × Nat := (o + x.1, x.2)
theorem cellsEqR_append (l1 l2 : List (Nat × Nat)) (xs ys : Array Value) : cellsEqR (l1 ++ l2) xs ys = (cellsEqR l1 xs ys).bind fun a => (cellsEqR l2 xs ys).bind fun b => some (a && b) := by
  induction l1 with
  | nil => simp [cellsEqR]
  | cons o l ih =>
    obtain ⟨o, g⟩ := o
    simp only [List.cons_append, cellsEqR, ih]
    cases xs[o]? <;> cases ys[o]? <;> simp
    rename_i x y
    cases cellEqR g x y <;> simp
    cases cellsEqR l xs ys <;> simp
    cases cellsEqR l2 xs ys <;> simp [Bool.and_assoc]
theorem cellsEqR_shift (l : List (Nat × Nat)) (o n : Nat) (xs ys : Array Value) (hl : ∀ j ∈ l, j.1 < n) : cellsEqR l (xs.extract o (o + n)) (ys.extract o (o + n)) = cellsEqR (l.map (shf o)) xs ys := by
  induction l with
  | nil => rfl
  | cons j l ih =>
    have hj := hl j (by simp)
    obtain ⟨j, g⟩ := j
    simp only at hj
    have h1 : (xs.extract o (o + n))[j]? = xs[o + j]? := by rw [Array.getElem?_extract]; split <;> simp_all <;> omega
    have h2 : (ys.extract o (o + n))[j]? = ys[o + j]? := by rw [Array.getElem?_extract]; split <;> simp_all <;> omega
    simp only [cellsEqR, List.map_cons, shf, h1, h2, ih (fun j hj => hl j (by simp [hj]))]
section
variable {P : Program} {σ : Sg} {w : World}
theorem run_part {t : TypeId} {n : Nat} (hs : szOf P t = some n) (cs : Array Value) (off : Nat) :
    (part t cs off).run P w = match n with
      | 0 => (match cs[off]? with | some v => .ok v w | none => .halt (.stuck "part: no such cell") w)
      | n + 1 => .ok (.agg (cs.extract off (off + (n + 1)))) w := by
  simp only [part, Sem.run_bind, run_isAgg_sz hs, Result.andThen_ok]
  cases n with
  | zero =>
    simp
    cases cs[off]? <;> simp
  | succ n => simp [run_sizeOf_sz hs, csz]
def valX (n : Nat) (xs : Array Value) (o : Nat) : Value :=
  match n with
  | 0 => xs.getD o undef
  | n + 1 => .agg (xs.extract o (o + (n + 1)))
theorem run_part_in {t : TypeId} {n : Nat} (hs : szOf P t = some n) (cs : Array Value) (off : Nat) (h : off + csz n ≤ cs.size) : (part t cs off).run P w = .ok (valX n cs off) w := by
  rw [run_part hs]
  cases n with
  | zero =>
    simp [csz] at h
    have : off < cs.size := by omega
    simp [valX, this, Array.getD]
  | succ n => rfl
/-- The offsets of a struct's fields. -/
theorem struct_offs (Q : List Field → List (Nat × Nat) → Prop) (d N : Nat) (h0 : Q [] [])
    (hs : ∀ f l r, f.name = "_" → Q l r → Q (f :: l) r)
    (hc : ∀ f l r m o, f.name ≠ "_" → szOf P f.type = some m → f.offset + csz m ≤ N → eqOffs P d f.type = some o → Q l r → Q (f :: l) (o.map (shf f.offset) ++ r)) :
    ∀ (l : List Field) (offs : List (Nat × Nat)), l.foldr (fun f r => r.bind fun l => if f.name = "_" then some l else
          match szOf P f.type with
          | some m => if f.offset + csz m ≤ N then (eqOffs P d f.type).map fun o => o.map (fun x => (f.offset + x.1, x.2)) ++ l else none
          | none => none) (some []) = some offs → Q l offs := by
  intro l
  induction l with
  | nil => intro offs h; simp at h; subst h; exact h0
  | cons f l ih =>
    intro offs h
    simp only [List.foldr_cons, Option.bind_eq_some_iff] at h
    obtain ⟨r, hr, h⟩ := h
    split at h
    · rename_i hn
      injection h with h
      subst h
      exact hs f l _ hn (ih _ hr)
    · rename_i hn
      split at h
      · rename_i m hm
        split at h
        · rename_i hle
          obtain ⟨o, ho, rfl⟩ := Option.map_eq_some_iff.1 h
          exact hc f l _ m o hn hm hle ho (ih _ hr)
        · simp at h
      · simp at h
theorem eqOffs_lt : ∀ (d : Nat) (t : TypeId) (offs : List (Nat × Nat)) (n : Nat), eqOffs P d t = some offs → szOf P t = some n → ∀ x ∈ offs, x.1 < csz n := by
  intro d
  induction d with
  | zero => intro t offs n h; simp [eqOffs] at h
  | succ d ih =>
    intro t offs n h hs
    have hpos := csz_pos n
    simp only [eqOffs] at h
    split at h
    · injection h with h; subst h; intro x hx; simp at hx; subst hx; omega
    · injection h with h; subst h; intro x hx; simp at hx; subst hx; omega
    · injection h with h; subst h; intro x hx; simp at hx; subst hx; omega
    · rename_i fs hu
      split at h
      · rename_i n' hn'
        rw [hs] at hn'
        injection hn' with hn'
        subst hn'
        split at h
        · simp at h
        · refine struct_offs (P := P) (fun _ r => ∀ x ∈ r, x.1 < csz n) d (csz n) (by simp) (fun _ _ _ _ h => h) (fun f l r m o _ hm hle ho hr x hx => ?_) _ _ h
          rcases List.mem_append.1 hx with hx | hx
          · obtain ⟨y, hy, rfl⟩ := List.mem_map.1 hx
            have := ih f.type o m ho hm y hy
            simp only [shf]
            omega
          · exact hr x hx
      · simp at h
    · rename_i k e hu
      split at h
      · rename_i n' m hn' hm
        rw [hs] at hn'
        injection hn' with hn'
        subst hn'
        split at h
        · rename_i hle
          obtain ⟨o, ho, rfl⟩ := Option.map_eq_some_iff.1 h
          intro x hx
          obtain ⟨j, hj, hx⟩ := List.mem_flatMap.1 hx
          obtain ⟨y, hy, rfl⟩ := List.mem_map.1 hx
          have h1 := ih e o m ho hm y hy
          have h2 : j < k := by simpa using hj
          have : (j + 1) * csz m ≤ k * csz m := Nat.mul_le_mul_right _ h2
          rw [Nat.add_mul] at this
          simp only
          omega
        · simp at h
      · simp at h
    · simp at h
theorem run_eqFields (d D N : Nat) (xs ys : Array Value) (hx : N ≤ xs.size) (hy : N ≤ ys.size)
    (ih : ∀ (t : TypeId) (offs : List (Nat × Nat)) (n : Nat), eqOffs P d t = some offs → szOf P t = some n → ∀ (o : Nat), o + csz n ≤ N → ∀ r, cellsEqR (offs.map (shf o)) xs ys = some r → (Op.equalIn D t (valX n xs o) (valX n ys o)).run P w = .ok r w) :
    ∀ (l : List Field) (offs : List (Nat × Nat)), l.foldr (fun f r => r.bind fun l => if f.name = "_" then some l else
          match szOf P f.type with
          | some m => if f.offset + csz m ≤ N then (eqOffs P d f.type).map fun o => o.map (fun x => (f.offset + x.1, x.2)) ++ l else none
          | none => none) (some []) = some offs → ∀ r, cellsEqR offs xs ys = some r → (Op.eqFields D xs ys l).run P w = .ok r w := by
  refine struct_offs (P := P) (fun l offs => ∀ r, cellsEqR offs xs ys = some r → (Op.eqFields D xs ys l).run P w = .ok r w) d N ?_ ?_ ?_
  · intro r h
    simp [cellsEqR] at h
    subst h
    simp [Op.eqFields]
  · intro f l offs hn ih' r h
    simp only [Op.eqFields, hn, ne_eq, not_true, if_false]
    exact ih' r h
  · intro f l offs m o hn hm hle ho ih' r h
    rw [cellsEqR_append] at h
    obtain ⟨a, ha, h⟩ := Option.bind_eq_some_iff.1 h
    obtain ⟨b, hb, h⟩ := Option.bind_eq_some_iff.1 h
    injection h with h
    subst h
    simp only [Op.eqFields, hn, ne_eq, not_false_eq_true, if_true, Sem.run_bind, run_part_in hm xs f.offset (by omega), run_part_in hm ys f.offset (by omega), Result.andThen_ok, ih f.type o m ho hm f.offset hle a ha]
    cases a
    · simp
    · simp [ih' b hb]
theorem run_eqItems (d D N : Nat) {e : TypeId} {m : Nat} (xs ys : Array Value) (hx : N ≤ xs.size) (hy : N ≤ ys.size) (hm : szOf P e = some m) {o : List (Nat × Nat)}
    (ih : ∀ (p : Nat), p + csz m ≤ N → ∀ r, cellsEqR (o.map (shf p)) xs ys = some r → (Op.equalIn D e (valX m xs p) (valX m ys p)).run P w = .ok r w) :
    ∀ (l : List Nat), (∀ j ∈ l, j * csz m + csz m ≤ N) → ∀ r, cellsEqR (l.flatMap fun j => o.map (fun x => (j * csz m + x.1, x.2))) xs ys = some r → (Op.eqItems D e (csz m) xs ys l).run P w = .ok r w := by
  intro l
  induction l with
  | nil =>
    intro _ r h
    simp [cellsEqR] at h
    subst h
    simp [Op.eqItems]
  | cons j l ihl =>
    intro hl r h
    rw [List.flatMap_cons, cellsEqR_append] at h
    obtain ⟨a, ha, h⟩ := Option.bind_eq_some_iff.1 h
    obtain ⟨b, hb, h⟩ := Option.bind_eq_some_iff.1 h
    injection h with h
    subst h
    have hj := hl j (by simp)
    simp only [Op.eqItems, Sem.run_bind, run_part_in hm xs (j * csz m) (by omega), run_part_in hm ys (j * csz m) (by omega), Result.andThen_ok, ih (j * csz m) hj a ha]
    cases a
    · simp
    · simp [ihl (fun j hj => hl j (by simp [hj])) b hb]
theorem eqOffs_run : ∀ (d : Nat) (t : TypeId) (offs : List (Nat × Nat)) (n : Nat), eqOffs P d t = some offs → szOf P t = some n → ∀ D, d ≤ D → ∀ (xs ys : Array Value) (o : Nat),
    o + csz n ≤ xs.size → o + csz n ≤ ys.size → ∀ r, cellsEqR (offs.map (shf o)) xs ys = some r → (Op.equalIn D t (valX n xs o) (valX n ys o)).run P w = .ok r w := by
  intro d
  induction d with
  | zero => intro t offs n h; simp [eqOffs] at h
  | succ d ih =>
    intro t offs n h hs D hD xs ys o hx hy r hr
    obtain ⟨D, rfl⟩ : ∃ m, D = m + 1 := ⟨D - 1, by omega⟩
    have hlt := eqOffs_lt (P := P) (d + 1) t offs n h hs
    obtain ⟨dd, ii, hu', hi', hii, he⟩ := szOf_spec hs
    have one : ∀ g, n = 0 → offs = [(0, g)] → ∃ x y, cellEqR g x y = some r ∧ valX n xs o = x ∧ valX n ys o = y := by
      rintro g rfl rfl
      simp only [List.map_cons, List.map_nil, shf, cellsEqR, Nat.add_zero] at hr
      simp [csz] at hx hy
      have h1 : o < xs.size := by omega
      have h2 : o < ys.size := by omega
      rw [Array.getElem?_eq_getElem h1, Array.getElem?_eq_getElem h2] at hr
      refine ⟨xs[o], ys[o], ?_, by simp [valX, Array.getD, h1], by simp [valX, Array.getD, h2]⟩
      cases hq : cellEqR g xs[o] ys[o] <;> simp [hq] at hr ⊢
      exact hr
    simp only [eqOffs] at h
    split at h
    · rename_i k hu
      injection h with h
      rw [hu] at hu'
      injection hu' with hu'
      subst hu'
      obtain ⟨x, y, hq, hvx, hvy⟩ := one 0 (by simpa [aggD] using he) h.symm
      rw [hvx, hvy]
      cases x <;> cases y <;> simp [cellEqR] at hq
      obtain ⟨rfl, rfl⟩ := hq
      simp [Op.equalIn, run_underlying_of hu]
    · rename_i hu
      injection h with h
      rw [hu] at hu'
      injection hu' with hu'
      subst hu'
      obtain ⟨x, y, hq, hvx, hvy⟩ := one 1 (by simpa [aggD] using he) h.symm
      rw [hvx, hvy]
      cases x <;> cases y <;> simp [cellEqR] at hq
      subst hq
      simp [Op.equalIn, run_underlying_of hu]
    · rename_i hu
      injection h with h
      rw [hu] at hu'
      injection hu' with hu'
      subst hu'
      obtain ⟨x, y, hq, hvx, hvy⟩ := one 2 (by simpa [aggD] using he) h.symm
      rw [hvx, hvy]
      cases x <;> cases y <;> simp [cellEqR] at hq
      subst hq
      simp [Op.equalIn, run_underlying_of hu, beq_toListBytes]
    · rename_i fs hu
      split at h
      · rename_i n' hn'
        rw [hs] at hn'
        injection hn' with hn'
        subst hn'
        split at h
        · simp at h
        · rename_i hp
          rw [hu] at hu'
          injection hu' with hu'
          subst hu'
          obtain ⟨n, rfl⟩ : ∃ m, n = m + 1 := ⟨n - 1, by simp [aggD] at he; omega⟩
          have hf : P.fieldsOf t = fs := by simp [Program.fieldsOf, hu]
          rw [csz_succ] at *
          show (Op.equalIn (D + 1) t (.agg (xs.extract o (o + (n + 1)))) (.agg (ys.extract o (o + (n + 1))))).run P w = .ok r w
          rw [run_equalIn_struct w D t _ _ (by rw [hf]; exact hu) (by simpa using hp), hf]
          refine run_eqFields d D (n + 1) _ _ (by simp; omega) (by simp; omega) (fun t' offs' n' h1 h2 o' h3 r' h4 => ?_) _ _ h r ?_
          · exact ih t' offs' n' h1 h2 D (by omega) _ _ o' (by simp; omega) (by simp; omega) r' h4
          · rw [cellsEqR_shift _ _ _ _ _ hlt]
            exact hr
      · simp at h
    · rename_i k e hu
      split at h
      · rename_i n' m hn' hm
        rw [hs] at hn'
        injection hn' with hn'
        subst hn'
        split at h
        · rename_i hle
          obtain ⟨oo, ho, rfl⟩ := Option.map_eq_some_iff.1 h
          rw [hu] at hu'
          injection hu' with hu'
          subst hu'
          obtain ⟨n, rfl⟩ : ∃ m, n = m + 1 := ⟨n - 1, by simp [aggD] at he; omega⟩
          obtain ⟨_, ie, _, hie, hies, _⟩ := szOf_spec hm
          rw [csz_succ] at *
          show (Op.equalIn (D + 1) t (.agg (xs.extract o (o + (n + 1)))) (.agg (ys.extract o (o + (n + 1))))).run P w = .ok r w
          have hce : P.cellsOf e = csz m := by simp [Program.cellsOf, hie, hies]
          rw [run_equalIn_array w D _ _ hu hie, hce]
          refine run_eqItems (o := oo) d D (n + 1) _ _ (by simp; omega) (by simp; omega) hm (fun p hp r' h4 => ?_) (List.range k) (fun j hj => ?_) r ?_
          · exact ih e oo m ho hm D (by omega) _ _ p (by simp; omega) (by simp; omega) r' h4
          · have h2 : j < k := by simpa using hj
            have : (j + 1) * csz m ≤ k * csz m := Nat.mul_le_mul_right _ h2
            rw [Nat.add_mul] at this
            omega
          · rw [cellsEqR_shift _ _ _ _ _ hlt]
            exact hr
        · simp at h
      · simp at h
    · simp at h
theorem cellsEq_rel {offs : List (Nat × Nat)} {cs ds : List V} {xs ys : Array Value} (hc : CRel σ w cs xs) (hd : CRel σ w ds ys) : ∀ {r}, cellsEq offs cs ds = some r → cellsEqR offs xs ys = some r := by
  induction offs with
  | nil => intro r h; exact h
  | cons x l ih =>
    obtain ⟨o, g⟩ := x
    intro r h
    simp only [cellsEq] at h
    split at h
    · rename_i x y hx hy
      obtain ⟨b, hb, hk⟩ := Option.bind_eq_some_iff.1 h
      obtain ⟨q, hq, hfin⟩ := Option.bind_eq_some_iff.1 hk
      obtain ⟨h1, rfl⟩ := List.getElem?_eq_some_iff.1 hx
      obtain ⟨h2, rfl⟩ := List.getElem?_eq_some_iff.1 hy
      have h3 : o < xs.size := by have := hc.1; omega
      have h4 : o < ys.size := by have := hd.1; omega
      have e1 := hc.2 o h1 h3
      have e2 := hd.2 o h2 h4
      have hb' : cellEqR g xs[o] ys[o] = some b := by
        unfold cellEq at hb
        split at hb <;> first
          | (rename_i p1 p2; rw [p1] at e1; rw [p2] at e2; rw [e1.int_inv, e2.int_inv]; exact hb)
          | (rename_i p1 p2; rw [p1] at e1; rw [p2] at e2; rw [e1.bool_inv, e2.bool_inv]; exact hb)
          | (rename_i p1 p2; rw [p1] at e1; rw [p2] at e2; rw [e1.str_inv, e2.str_inv]; exact hb)
          | simp at hb
      simp only [cellsEqR, Array.getElem?_eq_getElem h3, Array.getElem?_eq_getElem h4, hb', ih hq, Option.bind_some]
      exact hfin
    · simp at h
theorem valX_all {n : Nat} {xs : Array Value} (h : xs.size = n + 1) : valX (n + 1) xs 0 = .agg xs := by
  simp only [valX, Nat.zero_add, ← h, Array.extract_size]
theorem aggEq_sound {op : BinOp} {a b v : V} {xa xb : Value} {t : TypeId} {n : Nat} {offs : List (Nat × Nat)} (hs : szOf P t = some n) (hn : n ≠ 0) (ho : eqOffs P 12 t = some offs) (ha : VRel σ w a xa) (hb : VRel σ w b xb)
    (e : aggEq op n offs a b = some v) : ∃ x y, xa = .agg x ∧ xb = .agg y ∧ ∃ r, (binOp op t xa xb).run P w = .ok r w ∧ VRel σ w v r := by
  unfold aggEq at e
  split at e
  · rename_i cs ds
    split at e
    · rename_i hl
      obtain ⟨r, hr, e⟩ := Option.bind_eq_some_iff.1 e
      obtain ⟨xs, rfl, h1, h2⟩ := ha.agg_inv
      obtain ⟨ys, rfl, h3, h4⟩ := hb.agg_inv
      refine ⟨xs, ys, rfl, rfl, ?_⟩
      obtain ⟨n, rfl⟩ : ∃ m, n = m + 1 := ⟨n - 1, by omega⟩
      have hq := cellsEq_rel (σ := σ) (w := w) ⟨h1, h2⟩ ⟨h3, h4⟩ hr
      obtain ⟨d, hd20, hd⟩ := equal_succ
      refine binOp_eq e ?_ ⟨rfl, rfl⟩
      rw [hd]
      have := eqOffs_run (P := P) (w := w) 12 t offs (n + 1) ho hs (d + 1) (by omega) xs ys 0 (by simp [csz]; omega) (by simp [csz]; omega) r (by
        rw [show offs.map (shf 0) = offs from by
          conv => rhs; rw [← List.map_id offs]
          apply List.map_congr_left
          intro x _
          simp [shf]]
        exact hq)
      rwa [valX_all (by omega), valX_all (by omega)] at this
    · simp at e
  · simp at e
end
end Mini
end
/- Further operations that give values: addresses, parts, slices, lengths, conversions. -/
section
set_option linter.unusedVariables false
set_option linter.unusedSimpArgs false
namespace Mini
open Go
section
variable {P : Program} {σ : Sg} {w : World} {h : Heap}
theorem unV_sound {op : UnOp} {a v : V} {xa : Value} (ha : VRel σ w a xa) (e : unV op a = some v) : ∃ r, (Op.unary op xa).run P w = .ok r w ∧ VRel σ w v r := by
  unfold unV at e
  split at e
  · rw [ha.bool_inv]
    injection e with e; subst e
    exact ⟨_, by simp [Op.unary], .frz (.bool _)⟩
  · rw [ha.int_inv]
    simp only [intBin] at e
    injection e with e; subst e
    exact ⟨_, by simp [Op.unary, Op.intArith], .frz (.int _ _)⟩
  · rw [ha.int_inv]
    simp only [intBin] at e
    injection e with e; subst e
    exact ⟨_, by simp [Op.unary, Op.intBits], .frz (.int _ _)⟩
  · simp at e
theorem pickV_sound {c a b v : V} {xc xa xb : Value} (hc : VRel σ w c xc) (ha : VRel σ w a xa) (hb : VRel σ w b xb) (e : pickV c a b = some v) :
    ∃ r, (do pure (if ← asBool xc then xa else xb) : Sem Value).run P w = .ok r w ∧ VRel σ w v r := by
  unfold pickV at e
  split at e
  · rw [hc.bool_inv]
    injection e with e; subst e
    exact ⟨xa, by simp [asBool], ha⟩
  · rw [hc.bool_inv]
    injection e with e; subst e
    exact ⟨xb, by simp [asBool], hb⟩
  · simp at e
theorem fieldOf_spec {t : TypeId} {f off sz : Nat} (e : fieldOf P t f = some (off, sz)) : ∃ fs x, P.underlying t = some (.struct fs) ∧ fs[f]? = some x ∧ x.offset = off ∧ szOf P x.type = some sz := by
  unfold fieldOf at e
  split at e
  · rename_i fs hu
    split at e
    · rename_i x hx
      obtain ⟨n, hn, e⟩ := Option.map_eq_some_iff.1 e
      injection e with e1 e2
      subst e1 e2
      exact ⟨fs, x, hu, hx, rfl, hn⟩
    · simp at e
  · simp at e
theorem run_fieldPlace {x : Field} {sz : Nat} (hs : szOf P x.type = some sz) (b o : Nat) : (fieldPlace ⟨b, o, none⟩ x).run P w = .ok ⟨b, o + x.offset, none⟩ w := by
  have := csz_pos sz
  have hne : ¬ csz sz = 0 := by omega
  simp [fieldPlace, run_sizeOf_sz hs, hne, add_plain]
theorem fz_part {v u : V} {off n : Nat} {b o : Nat} {c : Nat → Value} (hf : Frz σ w b) (hc : ∀ j, j < v.cells.length → w.cell? ⟨b, o + j, none⟩ = some (c j))
    (hr : ∀ j (h : j < v.cells.length), FRel (Frz σ w) w (v.cells[j]) (c j)) (e : takeV v.cells off n = some u) : VRel σ w (.fz u) (.pointer (some ⟨b, o + off, none⟩)) := by
  cases n with
  | zero =>
    obtain ⟨hlt, rfl, ha⟩ := take0 e
    have h1 := vcells_scalar ha
    refine .frz (.fz _ b (o + off) (fun j => c (off + j)) hf (fun j hj => ?_) fun j hj => ?_)
    · rw [Nat.add_assoc]
      have : j = 0 := by rw [h1] at hj; simpa using hj
      subst this
      exact hc off hlt
    · have : j = 0 := by rw [h1] at hj; simpa using hj
      subst this
      have := hr off hlt
      simpa [h1] using this
  | succ n =>
    simp only [takeV] at e
    split at e
    · rename_i hle
      injection e with e
      subst e
      refine .frz (.fz _ b (o + off) (fun j => c (off + j)) hf (fun j hj => ?_) fun j hj => ?_)
      · rw [Nat.add_assoc]
        have : j < n + 1 := by simp [V.cells] at hj; omega
        exact hc (off + j) (by omega)
      · have hj' : j < n + 1 := by simp [V.cells] at hj; omega
        have := hr (off + j) (by omega)
        simpa [V.cells, List.getElem_take, List.getElem_drop] using this
    · simp at e

theorem faV_sound {t : TypeId} {f off sz : Nat} {p v : V} {xp : Value} (hf : fieldOf P t f = some (off, sz)) (hp : VRel σ w p xp) (e : faV off sz p = some v) :
    ∃ r, (Instr.fieldAt t xp f).run P w = .ok r w ∧ VRel σ w v r := by
  obtain ⟨fs, x, hu, hx, rfl, hs⟩ := fieldOf_spec hf
  have key : ∀ b o, (Instr.fieldAt t (.pointer (some ⟨b, o, none⟩)) f).run P w = .ok (.pointer (some ⟨b, o + x.offset, none⟩)) w := by
    intro b o
    simp [Instr.fieldAt, run_underlying_of hu, hx, Instr.sureAddr, run_fieldPlace hs]
  cases p with
  | ptr k o st =>
    simp only [faV] at e
    injection e with e
    subst e
    obtain ⟨b, rfl, h1, h2⟩ := hp.ptr_inv
    exact ⟨_, key b o, .ptr _ _ _ b h1 h2⟩
  | fz u =>
    simp only [faV] at e
    obtain ⟨y, hy, rfl⟩ := Option.map_eq_some_iff.1 e
    obtain ⟨b, o, c, rfl, h1, h2, h3⟩ := hp.fz_inv
    exact ⟨_, key b o, fz_part h1 h2 h3 hy⟩
  | _ => simp [faV] at e
theorem getD_of_CRel {cs : List V} {xs : Array Value} (hl : cs.length = xs.size) (hr : ∀ i (h : i < cs.length) (h' : i < xs.size), VRel σ w (cs[i]) (xs[i])) : ∀ j (h : j < cs.length), VRel σ w (cs[j]) (xs.getD j undef) := by
  intro j h
  rw [getD_lt (by omega)]
  exact hr j h (by omega)
theorem valC_valX {n : Nat} {xs : Array Value} {off : Nat} (h : off + csz n ≤ xs.size) : valC n (fun j => xs.getD (off + j) undef) = valX n xs off := by
  cases n with
  | zero => simp [valC, valX]
  | succ n =>
    simp only [valC, valX]
    congr 1
    simp only [csz_succ] at h
    apply Array.ext
    · simp; omega
    · intro i h1 h2
      have : off + i < xs.size := by simp at h1; omega
      simp [this]
theorem take_part {t : TypeId} {n off : Nat} {cs : List V} {xs : Array Value} {v : V} (hs : szOf P t = some n) (hl : cs.length = xs.size) (hr : ∀ i (h : i < cs.length) (h' : i < xs.size), VRel σ w (cs[i]) (xs[i]))
    (e : takeV cs off n = some v) : ∃ r, (part t xs off).run P w = .ok r w ∧ VRel σ w v r := by
  obtain ⟨hle, hv⟩ := takeV_rel (σ := σ) (w := w) e (fun j => xs.getD j undef) (fun j h _ => getD_of_CRel hl hr j h)
  refine ⟨_, run_part_in hs xs off (by omega), ?_⟩
  rw [valC_valX (by omega)] at hv
  exact hv
theorem fldV_sound {t : TypeId} {f off sz : Nat} {p v : V} {xp : Value} (hf : fieldOf P t f = some (off, sz)) (hp : VRel σ w p xp) (e : fldV off sz p = some v) :
    ∃ r, (Instr.field t xp f).run P w = .ok r w ∧ VRel σ w v r := by
  obtain ⟨fs, x, hu, hx, rfl, hs⟩ := fieldOf_spec hf
  cases p with
  | agg cs =>
    obtain ⟨xs, rfl, h1, h2⟩ := hp.agg_inv
    obtain ⟨r, hr, hv⟩ := take_part hs h1 h2 e
    exact ⟨r, by simp [Instr.field, run_underlying_of hu, hx, asAgg, hr], hv⟩
  | _ => simp [fldV] at e
/-- The elements of a frozen slice, one by one. -/
theorem iaS_sound {t e' : TypeId} {sz : Nat} {x i v : V} {xx xi : Value} (hu : P.underlying t = some (.slice e')) (hs : szOf P e' = some sz) (hx : VRel σ w x xx) (hi : VRel σ w i xi) (e : iaS sz x i = some v) :
    ∃ r, (Instr.indexAt t xx xi).run P w = .ok r w ∧ VRel σ w v r := by
  unfold iaS at e
  split at e
  · rename_i xs k n
    rw [hi.int_inv]
    split at e
    · rename_i hn
      obtain ⟨u, hu', e⟩ := Option.bind_eq_some_iff.1 e
      split at e
      · rename_i hf
        injection e with e
        subst e
        obtain ⟨a, cp, rfl, hcp, hor⟩ := hx.vec_inv
        obtain ⟨hlt, rfl⟩ := List.getElem?_eq_some_iff.1 hu'
        rcases hor with rfl | ⟨b, o, sz', c, rfl, h1, h2, h3, h4⟩
        · simp at hlt
        · have hsz : sz' = csz sz := by rw [← h2 _ hlt]; exact (fitsV_cells hf).1
          subst hsz
          have hlen : (xs[n.toNat]).cells.length = csz sz := h2 _ hlt
          refine ⟨.pointer (some ⟨b, o + n.toNat * csz sz, none⟩), ?_, .frz (.fz _ _ _ (c n.toNat) h1 (fun j hj => ?_) (fun j hj => h4 _ hlt j hj))⟩
          · simp [Instr.indexAt, asIntOf, run_underlying_of hu, run_sizeOf_sz hs, hn, add_plain]
          · rw [hlen] at hj
            rw [Nat.add_assoc]
            exact h3 _ _ hlt hj
      · simp at e
    · simp at e
  · rename_i k off len cap sz' st kk n
    rw [hi.int_inv]
    split at e
    · rename_i hn
      obtain ⟨rfl, h0, h1⟩ := hn
      injection e with e
      subst e
      rcases hx.sl_inv with ⟨hst, ⟨a, rfl, rfl, rfl⟩ | ⟨b, c, rfl, h2, h3, h4, h5⟩⟩
      · omega
      · refine ⟨.pointer (some ⟨b, off + n.toNat * csz sz, none⟩), ?_, .ptr _ _ _ b hst fun b' R hk => (h4 b' R hk).1⟩
        simp [Instr.indexAt, asIntOf, run_underlying_of hu, run_sizeOf_sz hs, h0, h1, add_plain]
    · simp at e
  · simp at e
theorem iaA_sound {t e' : TypeId} {sz len : Nat} {x i v : V} {xx xi : Value} (hu : P.underlying t = some (.array len e')) (hs : szOf P e' = some sz) (hx : VRel σ w x xx) (hi : VRel σ w i xi) (e : iaA len sz x i = some v) :
    ∃ r, (Instr.indexAt t xx xi).run P w = .ok r w ∧ VRel σ w v r := by
  have key : ∀ b o (n : Int) k, 0 ≤ n → n < len → (Instr.indexAt t (.pointer (some ⟨b, o, none⟩)) (.int k n)).run P w = .ok (.pointer (some ⟨b, o + n.toNat * csz sz, none⟩)) w := by
    intro b o n k h0 h1
    simp [Instr.indexAt, asIntOf, run_underlying_of hu, run_sizeOf_sz hs, Instr.sureAddr, h0, h1, add_plain]
  unfold iaA at e
  split at e
  · rename_i u k n
    rw [hi.int_inv]
    split at e
    · rename_i hn
      obtain ⟨y, hy, rfl⟩ := Option.map_eq_some_iff.1 e
      obtain ⟨b, o, c, rfl, h1, h2, h3⟩ := hx.fz_inv
      exact ⟨_, key b o n k hn.1 hn.2, fz_part h1 h2 h3 hy⟩
    · simp at e
  · rename_i kk off st k n
    rw [hi.int_inv]
    split at e
    · rename_i hn
      injection e with e
      subst e
      obtain ⟨b, rfl, h1, h2⟩ := hx.ptr_inv
      exact ⟨_, key b off n k hn.1 hn.2, .ptr _ _ _ b h1 h2⟩
    · simp at e
  · simp at e
theorem ixA_sound {t e' : TypeId} {sz len : Nat} {x i v : V} {xx xi : Value} (hu : P.underlying t = some (.array len e')) (hs : szOf P e' = some sz) (hx : VRel σ w x xx) (hi : VRel σ w i xi) (e : ixA len sz x i = some v) :
    ∃ r, (Instr.index t xx xi).run P w = .ok r w ∧ VRel σ w v r := by
  unfold ixA at e
  split at e
  · rename_i cs k n
    rw [hi.int_inv]
    split at e
    · rename_i hn
      obtain ⟨xs, rfl, h1, h2⟩ := hx.agg_inv
      obtain ⟨r, hr, hv⟩ := take_part hs h1 h2 e
      exact ⟨r, by simp [Instr.index, asIntOf, run_underlying_of hu, run_sizeOf_sz hs, hn, hr], hv⟩
    · simp at e
  · simp at e
theorem ixS_sound {t : TypeId} {x i v : V} {xx xi : Value} (hu : P.underlying t = some .string) (hx : VRel σ w x xx) (hi : VRel σ w i xi) (e : ixS x i = some v) :
    ∃ r, (Instr.index t xx xi).run P w = .ok r w ∧ VRel σ w v r := by
  unfold ixS at e
  split at e
  · rename_i s k n
    rw [hi.int_inv, hx.str_inv]
    split at e
    · rename_i h0
      obtain ⟨b, hb, rfl⟩ := Option.map_eq_some_iff.1 e
      exact ⟨.int .u8 b.toNat, by simp [Instr.index, asIntOf, run_underlying_of hu, h0, hb], .frz (.int _ _)⟩
    · simp at e
  · simp at e
theorem lenS_sound {t ty : TypeId} {x v : V} {xx : Value} (hu : P.underlying t = some .string) (hx : VRel σ w x xx) (e : lenS x = some v) :
    ∃ r, (Builtin.len_ #[t] ty #[xx]).run P w = .ok r w ∧ VRel σ w v r := by
  cases x with
  | str s =>
    simp only [lenS] at e
    injection e with e
    subst e
    rw [hx.str_inv]
    exact ⟨_, by simp [Builtin.len_, run_underlying_of hu, goInt], .frz (.int _ _)⟩
  | _ => simp [lenS] at e
theorem lenV_sound {t ty e' : TypeId} {x v : V} {xx : Value} (hu : P.underlying t = some (.slice e')) (hx : VRel σ w x xx) (e : lenV x = some v) :
    ∃ r, (Builtin.len_ #[t] ty #[xx]).run P w = .ok r w ∧ VRel σ w v r := by
  have key : ∀ a n c, (Builtin.len_ #[t] ty #[.slice a n c]).run P w = .ok (.int .i64 n) w := by
    intro a n c
    simp [Builtin.len_, run_underlying_of hu, goInt]
  cases x with
  | vec xs =>
    simp only [lenV] at e
    injection e with e
    subst e
    obtain ⟨a, cp, rfl, _⟩ := hx.vec_inv
    exact ⟨_, key _ _ _, .frz (.int _ _)⟩
  | sl k off len cap sz st =>
    simp only [lenV] at e
    injection e with e
    subst e
    rcases hx.sl_inv.2 with ⟨a, rfl, rfl, rfl⟩ | ⟨b, c, rfl, _⟩
    · exact ⟨_, key _ _ _, .frz (.int _ _)⟩
    · exact ⟨_, key _ _ _, .frz (.int _ _)⟩
  | nils =>
    simp only [lenV] at e
    injection e with e
    subst e
    rw [hx.nils_inv]
    exact ⟨_, key _ _ _, .frz (.int _ _)⟩
  | _ => simp [lenV] at e
theorem max_sound {xs : List V} {v : V} {ys : List Value} {ats : Array TypeId} {ty : TypeId} (hl : xs.length = ys.length) (hr : ∀ i (h : i < xs.length) (h' : i < ys.length), VRel σ w (xs[i]) (ys[i])) (e : maxV xs = some v) :
    ∃ r, (Builtin.max_ ats ty ys.toArray).run P w = .ok r w ∧ VRel σ w v r := by
  match xs, ys, hl, e with
  | [a, b], [x, y], _, e =>
    have ha := hr 0 (by simp) (by simp)
    have hb := hr 1 (by simp) (by simp)
    simp only [List.getElem_cons_zero, List.getElem_cons_succ] at ha hb
    simp only [maxV, max2V] at e
    split at e
    · injection e with e
      subst e
      rw [ha.int_inv, hb.int_inv]
      exact ⟨_, by simp [Builtin.max_, Builtin.max2], .frz (.int _ _)⟩
    · simp at e
theorem min_sound {xs : List V} {v : V} {ys : List Value} {ats : Array TypeId} {ty : TypeId} (hl : xs.length = ys.length) (hr : ∀ i (h : i < xs.length) (h' : i < ys.length), VRel σ w (xs[i]) (ys[i])) (e : minV xs = some v) :
    ∃ r, (Builtin.min_ ats ty ys.toArray).run P w = .ok r w ∧ VRel σ w v r := by
  match xs, ys, hl, e with
  | [a, b], [x, y], _, e =>
    have ha := hr 0 (by simp) (by simp)
    have hb := hr 1 (by simp) (by simp)
    simp only [List.getElem_cons_zero, List.getElem_cons_succ] at ha hb
    simp only [minV, min2V] at e
    split at e
    · injection e with e
      subst e
      rw [ha.int_inv, hb.int_inv]
      exact ⟨_, by simp [Builtin.min_, Builtin.min2], .frz (.int _ _)⟩
    · simp at e
theorem extV_sound {x v : V} {xx : Value} {i : Nat} (hx : VRel σ w x xx) (e : extV x i = some v) : ∃ r, (Instr.extract xx i).run P w = .ok r w ∧ VRel σ w v r := by
  cases x with
  | tup vs =>
    obtain ⟨xs, rfl, h1, h2⟩ := hx.tup_inv
    obtain ⟨hlt, rfl⟩ := List.getElem?_eq_some_iff.1 e
    refine ⟨xs[i]'(by omega), ?_, h2 i hlt (by omega)⟩
    simp [Instr.extract, show i < xs.size by omega]
  | _ => simp [extV] at e
theorem tasV_sound {t xt : TypeId} {d : TypeDesc} {x v : V} {xx : Value} (hu : P.underlying t = some d) (hd : ∀ ms, d ≠ .interface ms) (hx : VRel σ w x xx) (e : tasV t x = some v) :
    ∃ r, (Instr.typeAssert xx xt t false).run P w = .ok r w ∧ VRel σ w v r := by
  cases x with
  | iface t' u =>
    obtain ⟨y, rfl, hy⟩ := hx.iface_inv
    simp only [tasV] at e
    split at e
    · rename_i ht
      injection e with e
      subst e
      subst ht
      refine ⟨y, ?_, hy⟩
      cases d <;> simp_all [Instr.typeAssert, run_underlying_of hu]
    · simp at e
  | _ => simp [tasV] at e
theorem toIntV_sound {s d : TypeId} {j k : IntKind} {x v : V} {xx : Value} (hs : P.underlying s = some (.int j)) (hd : P.underlying d = some (.int k)) (hx : VRel σ w x xx) (e : toIntV k x = some v) :
    ∃ r, (convert s d xx).run P w = .ok r w ∧ VRel σ w v r := by
  cases x with
  | int kk n =>
    simp only [toIntV] at e
    injection e with e
    subst e
    rw [hx.int_inv]
    exact ⟨_, by simp [convert, run_underlying_of hs, run_underlying_of hd, Conv.intToInt], .frz (.int _ _)⟩
  | _ => simp [toIntV] at e
theorem strStr_sound {s d : TypeId} {x v : V} {xx : Value} (hs : P.underlying s = some .string) (hd : P.underlying d = some .string) (hx : VRel σ w x xx) (e : strStr x = some v) :
    ∃ r, (convert s d xx).run P w = .ok r w ∧ VRel σ w v r := by
  cases x with
  | str t =>
    simp only [strStr] at e
    injection e with e
    subst e
    rw [hx.str_inv]
    exact ⟨_, by simp [convert, run_underlying_of hs, run_underlying_of hd], .frz (.str _)⟩
  | _ => simp [strStr] at e

/-! ### slicing -/
def ORel (σ : Sg) (w : World) (x : Option V) (xv : Option Value) : Prop := match x, xv with | some a, some b => VRel σ w a b | none, none => True | _, _ => False
def bndR (xv : Option Value) (m : Nat) (code : BoundsCode) (d : Nat) : Sem Nat := match xv with | some v => Instr.sliceBound v m code | none => pure d
theorem bndV_sound {x : Option V} {xv : Option Value} {d m n : Nat} {code : BoundsCode} (hx : ORel σ w x xv) (e : bndV x d = some n) (hle : n ≤ m) :
    (bndR xv m code d).run P w = .ok n w := by
  cases x with
  | none =>
    cases xv with
    | some b => exact hx.elim
    | none =>
      simp only [bndV] at e
      injection e with e
      subst e
      rfl
  | some a =>
    cases xv with
    | none => exact hx.elim
    | some b =>
      cases a with
      | int k i =>
        simp only [bndV] at e
        split at e
        · rename_i h0
          injection e with e
          subst e
          have hx : VRel σ w (.int k i) b := hx
          have hb := hx.int_inv
          subst hb
          have : i ≤ m := by omega
          simp [bndR, Instr.sliceBound, asIntOf, h0, this]
        · simp at e
      | _ => simp [bndV] at e
theorem run_bounds {lo hi : Option V} {xlo xhi : Option Value} {b : Bool} {len cap l h' : Nat} (hl : ORel σ w lo xlo) (hh : ORel σ w hi xhi) (e1 : bndV hi len = some h') (e2 : bndV lo 0 = some l) (h1 : l ≤ h') (h2 : h' ≤ cap) :
    (Instr.sliceBounds b len cap xlo xhi none).run P w = .ok (l, h', cap) w := by
  have a1 := bndV_sound (P := P) (code := if b then .sliceAcap else .sliceAlen) hh e1 h2
  have a2 := bndV_sound (P := P) (code := .sliceB) hl e2 h1
  unfold bndR at a1 a2
  unfold Instr.sliceBounds
  cases xhi with
  | none =>
    cases xlo with
    | none => simp at a1 a2 ⊢; exact ⟨a2, a1⟩
    | some y => simp at a1 a2 ⊢; subst a1; simp [a2]
  | some z =>
    cases xlo with
    | none => simp at a1 a2 ⊢; subst a2; simp [a1]
    | some y => simp at a1 a2 ⊢; simp [a1, a2]
/-- A part of a frozen slice. -/
theorem vec_part {xs : List V} {a : Option Addr} {l h' cp : Nat} (hle : l ≤ h') (hh : h' ≤ xs.length) (hcp : xs.length ≤ cp) {sz : Nat}
    (hor : xs = [] ∨ ∃ (b o : Nat) (c : Nat → Nat → Value), a = some ⟨b, o, none⟩ ∧ Frz σ w b ∧
    (∀ i (h : i < xs.length), (xs[i]).cells.length = sz) ∧ (∀ i j, i < xs.length → j < sz → w.cell? ⟨b, o + (i * sz + j), none⟩ = some (c i j)) ∧
    ∀ i (h : i < xs.length) j (hj : j < (xs[i]).cells.length), FRel (Frz σ w) w ((xs[i]).cells[j]) (c i j)) :
    VRel σ w (.vec ((xs.take h').drop l)) (.slice (if cp = l then a else a.map (·.add (l * sz))) (h' - l) (cp - l)) := by
  have hlen : ((xs.take h').drop l).length = h' - l := by simp; omega
  rcases Nat.eq_or_lt_of_le hle with he | hlt
  · have : (xs.take h').drop l = [] := List.eq_nil_of_length_eq_zero (by omega)
    rw [this, he, Nat.sub_self]
    exact .frz (.vec0 _ _)
  · rcases hor with rfl | ⟨b, o, c, rfl, h1, h2, h3, h4⟩
    · simp at hh; omega
    · rw [if_neg (by omega)]
      simp only [Option.map_some, add_plain]
      rw [← hlen]
      have hget : ∀ i (hi : i < ((xs.take h').drop l).length), ((xs.take h').drop l)[i] = xs[l + i]'(by simp at hi; omega) := by
        intro i hi
        simp [List.getElem_drop, List.getElem_take]
      refine .frz (.vec _ b (o + l * sz) (cp - l) sz (fun i j => c (l + i) j) h1 (by omega) (fun i hi => ?_) (fun i j hi hj => ?_) fun i hi j hj => ?_)
      · rw [hget i hi]
        exact h2 _ _
      · have := h3 (l + i) j (by omega) hj
        rw [Nat.add_mul] at this
        rw [← this]
        congr 2
        omega
      · have hj' := hj
        simp only [hget i hi] at hj' ⊢
        exact h4 (l + i) _ j hj'
theorem run_slice_S {t e' : TypeId} {sz : Nat} (hu : P.underlying t = some (.slice e')) (hs : szOf P e' = some sz) {a : Option Addr} {len cap l h' : Nat} {xlo xhi : Option Value}
    (hb : (Instr.sliceBounds true len cap xlo xhi none).run P w = .ok (l, h', cap) w) :
    (Instr.sliceAt t (.slice a len cap) xlo xhi none).run P w = .ok (.slice (if cap = l then a else a.map (·.add (l * csz sz))) (h' - l) (cap - l)) w := by
  simp [Instr.sliceAt, run_underlying_of hu, Instr.slice, hb, run_sizeOf_sz hs]
theorem slS_sound {t e' : TypeId} {sz : Nat} {x v : V} {lo hi : Option V} {xx : Value} {xlo xhi : Option Value} (hu : P.underlying t = some (.slice e')) (hs : szOf P e' = some sz) (hx : VRel σ w x xx)
    (hl : ORel σ w lo xlo) (hh : ORel σ w hi xhi) (e : slS sz x lo hi = some v) : ∃ r, (Instr.sliceAt t xx xlo xhi none).run P w = .ok r w ∧ VRel σ w v r := by
  unfold slS at e
  split at e
  · rename_i xs
    obtain ⟨h', e1, e⟩ := Option.bind_eq_some_iff.1 e
    obtain ⟨l, e2, e⟩ := Option.bind_eq_some_iff.1 e
    split at e
    · rename_i hc
      obtain ⟨hc1, hc2, hc3⟩ := hc
      injection e with e
      subst e
      obtain ⟨a, cp, rfl, hcp, hor⟩ := hx.vec_inv
      refine ⟨_, run_slice_S hu hs (run_bounds hl hh e1 e2 hc1 (by omega)), vec_part hc1 hc2 hcp ?_⟩
      rcases hor with rfl | ⟨b, o, sz', c, rfl, h1, h2, h3, h4⟩
      · exact .inl rfl
      · by_cases hx0 : xs = []
        · exact .inl hx0
        · have hpos : 0 < xs.length := List.length_pos_iff.2 hx0
          have : sz' = csz sz := by
            rw [← h2 0 hpos]
            exact (fitsV_cells (List.all_eq_true.1 hc3 _ (List.getElem_mem hpos))).1
          subst this
          exact .inr ⟨b, o, c, rfl, h1, h2, h3, h4⟩
    · simp at e
  · rename_i k off len cap sz' st
    obtain ⟨h', e1, ea⟩ := Option.bind_eq_some_iff.1 e
    obtain ⟨l, e2, eb⟩ := Option.bind_eq_some_iff.1 ea
    split at eb
    · rename_i hc
      obtain ⟨rfl, hc1, hc2⟩ := hc
      injection eb with eb
      subst eb
      rcases hx.sl_inv with ⟨hst, ⟨a, rfl, rfl, rfl⟩ | ⟨b, c, rfl, h2, h3, h4, h5⟩⟩
      · have : l = 0 := by omega
        subst this
        have : h' = 0 := by omega
        subst this
        refine ⟨_, run_slice_S hu hs (run_bounds hl hh e1 e2 hc1 hc2), ?_⟩
        simp
        exact .sl0 _ _ _ _ _ hst
      · refine ⟨_, run_slice_S hu hs (run_bounds hl hh e1 e2 hc1 (by omega)), ?_⟩
        by_cases hcl : c = l
        · rw [show h' - l = 0 by omega, show cap - l = 0 by omega, show c - l = 0 by omega]
          exact .sl0 _ _ _ _ _ hst
        · rw [if_neg hcl]
          simp only [Option.map_some, add_plain]
          refine .sl _ _ _ _ _ _ b _ hst (by omega) (by omega) (fun b' R hk => ⟨(h4 b' R hk).1, ?_⟩) h5
          have := (h4 b' R hk).2
          rw [Nat.sub_mul]
          have : l * csz sz ≤ c * csz sz := Nat.mul_le_mul_right _ (by omega)
          omega
    · simp at eb
  · obtain ⟨h', e1, ea⟩ := Option.bind_eq_some_iff.1 e
    obtain ⟨l, e2, eb⟩ := Option.bind_eq_some_iff.1 ea
    split at eb
    · rename_i hc
      obtain ⟨rfl, rfl⟩ := hc
      injection eb with eb
      subst eb
      rw [hx.nils_inv]
      refine ⟨_, run_slice_S hu hs (run_bounds hl hh e1 e2 (Nat.le_refl _) (Nat.le_refl _)), ?_⟩
      simp
      exact .frz .nils
    · simp at eb
  · simp at e
theorem slStr_sound {t : TypeId} {x v : V} {lo hi : Option V} {xx : Value} {xlo xhi : Option Value} (hu : P.underlying t = some .string) (hx : VRel σ w x xx)
    (hl : ORel σ w lo xlo) (hh : ORel σ w hi xhi) (e : slStr x lo hi = some v) : ∃ r, (Instr.sliceAt t xx xlo xhi none).run P w = .ok r w ∧ VRel σ w v r := by
  unfold slStr at e
  split at e
  · rename_i s
    obtain ⟨h', e1, e⟩ := Option.bind_eq_some_iff.1 e
    obtain ⟨l, e2, e⟩ := Option.bind_eq_some_iff.1 e
    split at e
    · rename_i hc
      injection e with e
      subst e
      rw [hx.str_inv]
      have hb := run_bounds (P := P) (b := false) hl hh e1 e2 hc.1 hc.2
      exact ⟨_, by simp [Instr.sliceAt, run_underlying_of hu, Instr.slice, hb], .frz (.str _)⟩
    · simp at e
  · simp at e
end
end Mini
end
/- Elements out of cells, arrays' slices, bytes to strings, structs that are built; all operations that give values. -/
section
set_option linter.unusedVariables false
set_option linter.unusedSimpArgs false
namespace Mini
open Go
theorem elems_length (sz n : Nat) (cs : List V) : (elems sz n cs).length = n := by
  induction n generalizing cs with
  | zero => rfl
  | succ n ih => simp [elems, ih]
theorem elems_cells {sz : Nat} : ∀ (n : Nat) (cs : List V), okE sz cs = true → cs.length = n * csz sz → ∀ i (h : i < (elems sz n cs).length), ((elems sz n cs)[i]).cells = (cs.drop (i * csz sz)).take (csz sz) := by
  intro n
  induction n with
  | zero => intro cs _ _ i h; simp [elems] at h
  | succ n ih =>
    intro cs hok hl i h
    rw [Nat.add_mul, Nat.one_mul] at hl
    have hpos := csz_pos sz
    have hok' : okE sz (cs.drop (csz sz)) = true := by
      unfold okE at hok ⊢
      rw [Bool.or_eq_true] at hok ⊢
      rcases hok with h | h
      · exact .inl h
      · right
        rw [List.all_eq_true] at h ⊢
        intro x hx
        exact h x (List.mem_of_mem_drop hx)
    cases i with
    | zero =>
      cases sz with
      | zero =>
        cases cs with
        | nil => simp [csz] at hl
        | cons c cs =>
          have : c.isAgg = false := by simpa [okE] using (by simpa [okE] using hok : c.isAgg = false ∧ _).1
          simp [elems, csz, vcells_scalar this]
      | succ m => simp [elems, csz, V.cells]
    | succ i =>
      have := ih (cs.drop (csz sz)) hok' (by simp; omega) i (by simpa [elems] using h)
      simp only [elems, List.getElem_cons_succ, this, List.drop_drop]
      congr 2
      rw [Nat.add_mul]
      omega
section
variable {P : Program} {σ : Sg} {w : World} {h : Heap}
/-- A frozen slice out of flat cells. -/
theorem vec_flat {fr : Nat → Prop} {sz n b o cp : Nat} {cs : List V} (hok : okE sz cs = true) (hl : cs.length = n * csz sz) (hf : fr b) (hcp : n ≤ cp) (c : Nat → Value)
    (hc : ∀ j, j < cs.length → w.cell? ⟨b, o + j, none⟩ = some (c j)) (hr : ∀ j (h : j < cs.length), FRel fr w (cs[j]) (c j)) :
    FRel fr w (.vec (elems sz n cs)) (.slice (some ⟨b, o, none⟩) n cp) := by
  have hlen := elems_length sz n cs
  have bound : ∀ i j, i < n → j < csz sz → i * csz sz + j < cs.length := by
    intro i j hi hj
    have : (i + 1) * csz sz ≤ n * csz sz := Nat.mul_le_mul_right _ hi
    rw [Nat.add_mul] at this
    omega
  have key := FRel.vec (fr := fr) (w := w) (elems sz n cs) b o cp (csz sz) (fun i j => c (i * csz sz + j)) hf (by omega)
    (fun i hi => by
      rw [elems_cells n cs hok hl i hi]
      have := bound i (csz sz - 1) (by omega) (by have := csz_pos sz; omega)
      simp
      omega)
    (fun i j hi hj => hc _ (bound i j (by omega) hj))
    (fun i hi j hj => by
      have he := elems_cells n cs hok hl i hi
      have hj' : j < csz sz := by rw [he] at hj; simp at hj; omega
      have := hr (i * csz sz + j) (bound i j (by omega) hj')
      simp only [he]
      simpa [List.getElem_take, List.getElem_drop] using this)
  rw [hlen] at key
  exact key
theorem slA_sound (H : HRel σ h w) {t e' : TypeId} {n sz : Nat} {x v : V} {lo hi : Option V} {xx : Value} {xlo xhi : Option Value} (hu : P.underlying t = some (.array n e')) (hs : szOf P e' = some sz) (hx : VRel σ w x xx)
    (hl : ORel σ w lo xlo) (hh : ORel σ w hi xhi) (e : slA n sz x lo hi h = some v) : ∃ r, (Instr.sliceAt t xx xlo xhi none).run P w = .ok r w ∧ VRel σ w v r := by
  have key : ∀ b o l h', (Instr.sliceBounds false n n xlo xhi none).run P w = .ok (l, h', n) w →
      (Instr.sliceAt t (.pointer (some ⟨b, o, none⟩)) xlo xhi none).run P w = .ok (.slice (some (if n = l then ⟨b, o, none⟩ else ⟨b, o + l * csz sz, none⟩)) (h' - l) (n - l)) w := by
    intro b o l h' hb
    simp only [Instr.sliceAt, Sem.run_bind, run_underlying_of hu, Result.andThen_ok, Instr.sureAddr, Sem.run_pure, hb, run_sizeOf_sz hs, add_plain]
  unfold slA at e
  split at e
  · rename_i k off st
    obtain ⟨cs, hcs, ea⟩ := Option.bind_eq_some_iff.1 e
    obtain ⟨h', e1, eb⟩ := Option.bind_eq_some_iff.1 ea
    obtain ⟨l, e2, ec⟩ := Option.bind_eq_some_iff.1 eb
    split at ec
    · rename_i hc
      obtain ⟨hc1, hc2, hc3⟩ := hc
      injection ec with ec
      subst ec
      obtain ⟨b, rfl, hst, hbb⟩ := hx.ptr_inv
      refine ⟨_, key b off l h' (run_bounds hl hh e1 e2 hc1 hc2), ?_⟩
      by_cases hnl : n = l
      · rw [show h' - l = 0 by omega, show n - l = 0 by omega]
        exact .sl0 _ _ _ _ _ hst
      · rw [if_neg hnl]
        have hpos := csz_pos sz
        rcases H.cells hcs with ⟨hk, rfl⟩ | ⟨b', R, xs, ty, fr, hk, hb, hR, hlen, hfr, hrel⟩
        · exfalso
          have : n * csz sz = 0 := by simp at hc3; omega
          rcases Nat.mul_eq_zero.1 this with h0 | h0 <;> omega
        · refine .sl _ _ _ _ _ _ b _ hst (by omega) (Nat.le_refl _) (fun b'' R' hk' => ⟨hbb b'' R' hk', ?_⟩) (by rw [hk]; simp)
          rw [hk] at hk'
          have hR' : R' = R := by injection hk' with _ hk'; simp at hk'; exact hk'.2.symm
          rw [Nat.sub_mul]
          have : l * csz sz ≤ n * csz sz := Nat.mul_le_mul_right _ (by omega)
          omega
    · simp at ec
  · rename_i u
    obtain ⟨h', e1, eb⟩ := Option.bind_eq_some_iff.1 e
    obtain ⟨l, e2, ec⟩ := Option.bind_eq_some_iff.1 eb
    split at ec
    · rename_i hc
      obtain ⟨hc1, hc2, hc3, hc4⟩ := hc
      injection ec with ec
      subst ec
      obtain ⟨b, o, c, rfl, h1, h2, h3⟩ := hx.fz_inv
      refine ⟨_, key b o l h' (run_bounds hl hh e1 e2 hc1 hc2), ?_⟩
      have hv := vec_flat (fr := Frz σ w) (cp := n) hc4 hc3 h1 (Nat.le_refl _) c h2 h3
      have hlen := elems_length sz n u.cells
      obtain ⟨a, cp, he, hcp, hor⟩ := (VRel.frz hv).vec_inv
      injection he with ha hb hcp'
      subst hcp'
      have := vec_part (σ := σ) (w := w) (xs := elems sz n u.cells) (a := some ⟨b, o, none⟩) (l := l) (h' := h') (cp := n) hc1 (by omega) (by omega) (sz := csz sz) (by
        rcases hor with h0 | ⟨b', o', sz', c', ha', g1, g2, g3, g4⟩
        · exact .inl h0
        · by_cases hx0 : elems sz n u.cells = []
          · exact .inl hx0
          · have hpos : 0 < (elems sz n u.cells).length := List.length_pos_iff.2 hx0
            have : sz' = csz sz := by
              rw [← g2 0 hpos, elems_cells n u.cells hc4 hc3 0 hpos]
              have : csz sz ≤ n * csz sz := Nat.le_mul_of_pos_left _ (by omega)
              simp
              omega
            subst this
            exact .inr ⟨b', o', c', ha.trans ha', g1, g2, g3, g4⟩)
      by_cases hnl : n = l
      · simpa [hnl] using this
      · rw [if_neg hnl] at this ⊢
        simpa [add_plain] using this
    · simp at ec
  · simp at e
theorem bytesOfCells_spec : ∀ (cs : List V) (bs : List UInt8), bytesOfCells cs = some bs → ∃ ns : List Int, cs = ns.map (V.int .u8) ∧ bs = ns.map fun n => UInt8.ofNat n.toNat := by
  intro cs
  induction cs with
  | nil => intro bs h; simp [bytesOfCells] at h; subst h; exact ⟨[], rfl, rfl⟩
  | cons c cs ih =>
    intro bs h
    simp only [bytesOfCells, Option.bind_eq_some_iff] at h
    obtain ⟨b, hb, r, hr, h⟩ := h
    injection h with h
    subst h
    obtain ⟨ns, rfl, rfl⟩ := ih r hr
    unfold byteOf at hb
    split at hb
    · rename_i n
      injection hb with hb
      subst hb
      exact ⟨n :: ns, rfl, rfl⟩
    · simp at hb
theorem b2sV_sound (H : HRel σ h w) {s d e' : TypeId} {x v : V} {xx : Value} (hs : P.underlying s = some (.slice e')) (he : P.underlying e' = some (.int .u8)) (hd : P.underlying d = some .string) (hx : VRel σ w x xx) (e : b2sV x h = some v) :
    ∃ r, (convert s d xx).run P w = .ok r w ∧ VRel σ w v r := by
  unfold b2sV at e
  obtain ⟨cs, hcs, e⟩ := Option.bind_eq_some_iff.1 e
  obtain ⟨bs, hbs, e⟩ := Option.bind_eq_some_iff.1 e
  injection e with e
  subst e
  obtain ⟨ns, rfl, rfl⟩ := bytesOfCells_spec cs bs hbs
  have fin0 : ∀ a c, ns = [] → (convert s d (.slice a 0 c)).run P w = .ok (.string ⟨(ns.map fun n => UInt8.ofNat n.toNat).toArray⟩) w := by
    rintro a c rfl
    cases a with
    | none => exact run_convert_bytes_nil w s e' hs he 0 c d hd
    | some a => simp [convert, run_underlying_of hs, run_underlying_of hd, run_underlying_of he, Conv.bytesToString, loadCells, loadCellsFrom]; rfl
  have fin : ∀ b o n c, ns.length = n → (∀ i, i < n → w.cell? ⟨b, o + i, none⟩ = some (.int .u8 (ns.getD i 0))) → (convert s d (.slice (some ⟨b, o, none⟩) n c)).run P w = .ok (.string ⟨(ns.map fun n => UInt8.ofNat n.toNat).toArray⟩) w := by
    intro b o n c hl hc
    exact run_convert_bytes_arg w s e' hs he b o n c ns hl hc d hd
  unfold rowOf at hcs
  split at hcs
  · rename_i xs
    injection hcs with hcs
    subst hcs
    obtain ⟨a, cp, rfl, hcp, hor⟩ := hx.vec_inv
    refine ⟨_, ?_, .frz (.str _)⟩
    rcases hor with h0 | ⟨b, o, sz, c, rfl, h1, h2, h3, h4⟩
    · have hn : ns = [] := by simpa using h0
      rw [hn]
      have := fin0 a cp hn
      rw [hn] at this
      exact this
    · simp only [List.length_map] at *
      refine fin b o ns.length cp rfl fun i hi => ?_
      have hsz : sz = 1 := by
        have := h2 i (by simpa using hi)
        simpa [V.cells] using this.symm
      subst hsz
      have hc := h3 i 0 hi (by omega)
      have hr := h4 i (by simpa using hi) 0 (by simp [V.cells])
      simp only [V.cells, List.getElem_map, List.getElem_cons_zero, Nat.mul_one, Nat.add_zero] at hc hr
      rw [hc, (VRel.frz hr).int_inv]
      simp [List.getD, hi]
  · injection hcs with hcs
    have hn : ns = [] := by simpa using hcs.symm
    rw [hx.nils_inv]
    exact ⟨_, fin0 none 0 hn, .frz (.str _)⟩
  · rename_i k off len cap st
    obtain ⟨cs, hc, hcs⟩ := Option.bind_eq_some_iff.1 hcs
    split at hcs
    · rename_i hle
      injection hcs with hcs
      have hlen : ns.length = len := by
        have := congrArg List.length hcs
        simp at this
        omega
      rcases hx.sl_inv with ⟨hst, ⟨a, rfl, rfl, rfl⟩ | ⟨b, c, rfl, h2, h3, h4, h5⟩⟩
      · exact ⟨_, fin0 a 0 (List.eq_nil_of_length_eq_zero hlen), .frz (.str _)⟩
      · refine ⟨_, fin b off len c hlen fun i hi => ?_, .frz (.str _)⟩
        rcases H.cells hc with ⟨hk, rfl⟩ | ⟨b', R, xs, ty, fr, hk, hb, hR, hl, hfr, hrel⟩
        · exact absurd hk h5
        · obtain ⟨rfl, _⟩ := h4 b' R hk
          rw [cell_of hb, Array.getElem?_eq_getElem (by omega)]
          have hr := hrel (off + i) (by omega) (by omega)
          have hg : cs[off + i]'(by omega) = .int .u8 (ns[i]'(by omega)) := by
            have := congrArg (fun l => l[i]?) hcs
            simp only [List.getElem?_take, if_pos hi, List.getElem?_drop, List.getElem?_map, List.getElem?_eq_getElem (show off + i < cs.length by omega), List.getElem?_eq_getElem (show i < ns.length by omega), Option.map_some] at this
            injection this
          rw [hg] at hr
          rw [hr.int_inv]
          simp [List.getD, show i < ns.length by omega]
    · simp at hcs
  · simp at hcs
theorem nilV_sound {x v : V} {xx : Value} {ρ : Operand → Value} {o : Oper} {y : Operand} (ho : o.op = .nilCheck y) (hy : ρ y = xx) (hx : VRel σ w x xx) (e : nilV x = some v) :
    ∃ r, (execOp ρ o).run P w = .ok (.value r) w ∧ VRel σ w v r := by
  unfold nilV at e
  split at e
  · injection e with e
    subst e
    obtain ⟨b, rfl, h1⟩ := hx.ptr_inv
    exact ⟨_, by simp [execOp, ho, hy], hx⟩
  · injection e with e
    subst e
    obtain ⟨b, o', c, rfl, _⟩ := hx.fz_inv
    exact ⟨_, by simp [execOp, ho, hy], hx⟩
  · injection e with e
    subst e
    obtain ⟨y', rfl, _⟩ := hx.iface_inv
    exact ⟨_, by simp [execOp, ho, hy], hx⟩
  · injection e with e
    subst e
    obtain ⟨xs, ys, rfl, _⟩ := hx.fn_inv
    exact ⟨_, by simp [execOp, ho, hy], hx⟩
  · simp at e

/-! ### structs and arrays that are built -/
theorem foldl_set (off : Nat) : ∀ (vs : List Value) (k : Nat) (cells : Array Value) (i : Nat), ((vs.zipIdx k).foldl (fun cs (x : Value × Nat) => cs.setIfInBounds (off + x.2) x.1) cells)[i]? =
    if off + k ≤ i ∧ i < off + k + vs.length ∧ i < cells.size then vs[i - (off + k)]? else cells[i]? := by
  intro vs
  induction vs with
  | nil => intro k cells i; simp; omega
  | cons v vs ih =>
    intro k cells i
    simp only [List.zipIdx_cons, List.foldl_cons, ih, Array.size_setIfInBounds, Array.getElem?_setIfInBounds]
    by_cases h1 : i = off + k
    · subst h1
      have e1 : ¬ (off + (k + 1) ≤ off + k ∧ off + k < off + (k + 1) + vs.length ∧ off + k < cells.size) := by omega
      rw [if_neg e1, if_pos rfl]
      by_cases h2 : off + k < cells.size
      · have e2 : off + k ≤ off + k ∧ off + k < off + k + (v :: vs).length ∧ off + k < cells.size := ⟨Nat.le_refl _, by simp, h2⟩
        rw [if_pos e2]
        simp [h2]
      · have e2 : ¬ (off + k ≤ off + k ∧ off + k < off + k + (v :: vs).length ∧ off + k < cells.size) := fun hh => h2 hh.2.2
        rw [if_neg e2]
        simp [h2]
    · by_cases h2 : off + (k + 1) ≤ i ∧ i < off + (k + 1) + vs.length ∧ i < cells.size
      · rw [if_pos h2, if_pos (by simp; omega), show i - (off + k) = (i - (off + (k + 1))) + 1 by omega]
        simp
      · rw [if_neg h2, if_neg (by omega), if_neg (by simp; omega)]
theorem foldl_set_arr (off : Nat) (vs : Array Value) (cells : Array Value) (i : Nat) (hle : off + vs.size ≤ cells.size) : (vs.zipIdx.foldl (fun cs (x : Value × Nat) => cs.setIfInBounds (off + x.2) x.1) cells)[i]? =
    if off ≤ i ∧ i < off + vs.size then vs[i - off]? else cells[i]? := by
  have := foldl_set off vs.toList 0 cells i
  simp only [Nat.add_zero] at this
  rw [← Array.foldl_toList, Array.toList_zipIdx, this]
  by_cases h : off ≤ i ∧ i < off + vs.size
  · rw [if_pos h, if_pos (by simp; omega)]
    simp
  · rw [if_neg h, if_neg (by simp; omega)]
theorem size_foldl_set (off : Nat) : ∀ (l : List (Value × Nat)) (cells : Array Value), (l.foldl (fun cs (x : Value × Nat) => cs.setIfInBounds (off + x.2) x.1) cells).size = cells.size := by
  intro l
  induction l with
  | nil => intro c; rfl
  | cons v l ih => intro c; simp [ih]
/-- Cells that are put into others. -/
theorem CRel.put {cs ns : List V} {xs ys : Array Value} {off : Nat} (h : CRel σ w cs xs) (hn : CRel σ w ns ys) (hle : off + ns.length ≤ cs.length) :
    CRel σ w (putCells cs off ns) (ys.zipIdx.foldl (fun cs (x : Value × Nat) => cs.setIfInBounds (off + x.2) x.1) xs) := by
  have hl : (putCells cs off ns).length = cs.length := by simp [putCells]; omega
  have hsz : (ys.zipIdx.foldl (fun cs (x : Value × Nat) => cs.setIfInBounds (off + x.2) x.1) xs).size = xs.size := by
    rw [← Array.foldl_toList]
    exact size_foldl_set off _ _
  refine ⟨by rw [hl, hsz]; exact h.1, fun i h1 h2 => ?_⟩
  have hi : i < cs.length := by omega
  have hx := foldl_set_arr off ys xs i (by have := h.1; have := hn.1; omega)
  rw [Array.getElem?_eq_getElem h2] at hx
  by_cases hc : off ≤ i ∧ i < off + ys.size
  · rw [if_pos hc, Array.getElem?_eq_getElem (by omega)] at hx
    injection hx with hx
    rw [hx]
    have hnl := hn.1
    have : (putCells cs off ns)[i] = ns[i - off]'(by omega) := by
      simp only [putCells]
      rw [List.getElem_append_left (by simp; omega), List.getElem_append_right (by simp; omega)]
      congr 1
      simp
      omega
    rw [this]
    exact hn.2 _ _ _
  · rw [if_neg hc, Array.getElem?_eq_getElem (by have := h.1; omega)] at hx
    injection hx with hx
    rw [hx]
    have hnl := hn.1
    have : (putCells cs off ns)[i] = cs[i] := by
      simp only [putCells]
      by_cases hlt : i < off
      · rw [List.getElem_append_left (by simp; omega), List.getElem_append_left (by simp; omega)]
        simp
      · rw [List.getElem_append_right (by simp; omega)]
        simp only [List.getElem_drop, List.length_append, List.length_take]
        congr 1
        omega
    rw [this]
    exact h.2 _ _ _
end
end Mini
end
/- All operations that give a value, together. -/
section
set_option linter.unusedVariables false
set_option linter.unusedSimpArgs false
namespace Mini
open Go
section
variable {P : Program} {σ : Sg} {w : World} {h : Heap}
theorem CRel.of_fits {sz : Nat} {v : V} {x : Value} (hf : fitsV sz v = true) (ho : v.cells.all V.okCell = true) (hr : VRel σ w v x) : CRel σ w v.cells x.cells ∧ v.cells.length = csz sz := by
  have hne : v ≠ .undef := by
    rintro rfl
    simp [V.cells, V.okCell] at ho
  exact ⟨hr.cells hne, (fitsV_cells hf).1⟩
/-- The parts, as the two machines have them. -/
def PRel (σ : Sg) (w : World) (place : Nat → Option (Nat × Nat)) : List (Nat × Nat × V) → List (Nat × Value) → Prop
  | [], [] => True
  | (off, sz, v) :: l, (i, x) :: m => place i = some (off, csz sz) ∧ VRel σ w v x ∧ PRel σ w place l m
  | _, _ => False
theorem fill_sound {place : Nat → Option (Nat × Nat)} : ∀ (l : List (Nat × Nat × V)) (m : List (Nat × Value)) (cs : List V) (xs : Array Value) (r : List V), PRel σ w place l m → CRel σ w cs xs → fillV cs l = some r →
    ∃ ys, Instr.fill place xs m = some ys ∧ CRel σ w r ys ∧ r.length = cs.length := by
  intro l
  induction l with
  | nil =>
    intro m cs xs r hp hc e
    cases m with
    | nil => simp [fillV] at e; subst e; exact ⟨xs, rfl, hc, rfl⟩
    | cons a m => exact hp.elim
  | cons a l ih =>
    intro m cs xs r hp hc e
    obtain ⟨off, sz, v⟩ := a
    cases m with
    | nil => exact hp.elim
    | cons b m =>
      obtain ⟨i, x⟩ := b
      obtain ⟨hpl, hv, hp⟩ := hp
      simp only [fillV] at e
      split at e
      · rename_i hh
        simp only [Bool.and_eq_true, decide_eq_true_eq] at hh
        obtain ⟨⟨h1, h2⟩, h3⟩ := hh
        obtain ⟨hcr, hl⟩ := CRel.of_fits h1 h2 hv
        have hput := hc.put (off := off) hcr (by omega)
        obtain ⟨ys, hy, hcy, hly⟩ := ih m _ _ r hp hput e
        have hpl2 : (putCells cs off v.cells).length = cs.length := by simp [putCells]; omega
        have hxs : x.cells.size = csz sz := by rw [← hcr.1, hl]
        have hcx := hc.1
        refine ⟨ys, ?_, hcy, by rw [hly, hpl2]⟩
        simp only [Instr.fill, hpl]
        rw [if_neg (by simp; omega)]
        exact hy
      · simp at e
theorem buildV_fill : ∀ (l : List (Nat × Nat × V)) (cs : List V) (v : V), buildV cs l = some v → ∃ r, fillV cs l = some r ∧ v = .agg r := by
  intro l
  induction l with
  | nil => intro cs v e; simp [buildV] at e; subst e; exact ⟨cs, rfl, rfl⟩
  | cons a l ih =>
    intro cs v e
    obtain ⟨off, sz, x⟩ := a
    simp only [buildV] at e
    split at e
    · rename_i hh
      obtain ⟨r, hr, hv⟩ := ih _ _ e
      exact ⟨r, by simp only [fillV, hh, if_true]; exact hr, hv⟩
    · simp at e
theorem cst1_rel (x : Value) : VRel σ w (cst1 x) x := by
  unfold cst1
  split <;> exact .frz (by constructor)
theorem cstV_rel (x : Value) : VRel σ w (cstV x) x := by
  unfold cstV
  split
  · rename_i cs
    exact .agg _ _ (by simp) fun i hi => by simpa using cst1_rel _
  · exact cst1_rel _
theorem zeroOf_spec {t : TypeId} {z : List V} (e : zeroOf P t = some z) : ∃ i x, P.info? t = some i ∧ i.zero = some x ∧ CRel σ w z x.cells ∧ x.cells.size = i.size := by
  unfold zeroOf at e
  split at e
  · rename_i i hi
    split at e
    · rename_i x hx
      split at e
      · rename_i hs
        injection e with e
        subst e
        exact ⟨i, x, hi, hx, ⟨by simp, fun j h1 h2 => by simpa using cst1_rel _⟩, hs⟩
      · simp at e
    · simp at e
  · simp at e
theorem run_zeroValue {t : TypeId} {i : TypeInfo} {x : Value} (hi : P.info? t = some i) (hx : i.zero = some x) : (zeroValue t).run P w = .ok x w := by simp [zeroValue, run_typeInfo_of hi, hx]
theorem mapM_get {α β : Type} {f : α → Option β} : ∀ {l : List α} {r : List β}, l.mapM f = some r → ∀ (i : Nat) (a : α), l[i]? = some a → ∃ b, r[i]? = some b ∧ f a = some b := by
  intro l
  induction l with
  | nil => intro r e i a h; simp at h
  | cons x l ih =>
    intro r e i a h
    rw [List.mapM_cons] at e
    simp only [bind, Option.bind_eq_some_iff, pure, Option.some.injEq] at e
    obtain ⟨y, hy, r', hr', rfl⟩ := e
    cases i with
    | zero => simp at h; subst h; exact ⟨y, by simp, hy⟩
    | succ i => simp at h; simpa using ih hr' i a h
theorem mapM_fieldOf {t : TypeId} {fs : Array Field} (hu : P.underlying t = some (.struct fs)) {ev : Operand → V} {ρ : Operand → Value} (hev : ∀ x, VRel σ w (ev x) (ρ x)) {places : List (Nat × Nat)}
    (hp : fs.toList.mapM (fun f => (P.info? f.type).map fun i => (f.offset, i.size)) = some places) : ∀ (parts : List (Nat × Operand)) (l : List (Nat × Nat × V)),
    parts.mapM (fun x => (fieldOf P t x.1).map fun y => (y.1, y.2, ev x.2)) = some l → PRel σ w (places.toArray[·]?) l (parts.map fun x => (x.1, ρ x.2)) := by
  intro parts
  induction parts with
  | nil => intro l e; simp at e; subst e; trivial
  | cons a parts ih =>
    intro l e
    obtain ⟨i, x⟩ := a
    rw [List.mapM_cons] at e
    simp only [bind, Option.bind_eq_some_iff, pure, Option.some.injEq] at e
    obtain ⟨y, hy, l', hl', rfl⟩ := e
    obtain ⟨⟨off, sz⟩, hf, rfl⟩ := Option.map_eq_some_iff.1 hy
    obtain ⟨fs', f, hu', hf', rfl, hsz⟩ := fieldOf_spec hf
    rw [hu] at hu'
    injection hu' with hu'
    injection hu' with hu'
    subst hu'
    obtain ⟨d, ii, _, hii, his, _⟩ := szOf_spec hsz
    obtain ⟨b, hb, hfb⟩ := mapM_get hp i f (by simpa using hf')
    rw [hii] at hfb
    simp at hfb
    refine ⟨?_, hev x, ih l' hl'⟩
    simp only [List.getElem?_toArray]
    rw [hb, ← hfb, his]
theorem build_sound {t : TypeId} {parts : Array (Nat × Operand)} {ev : Operand → V} {ρ : Operand → Value} (hev : ∀ x, VRel σ w (ev x) (ρ x)) {v : V} {ty : TypeId} (e : valOp P ev h (.build t parts) ty = some v) :
    ∃ r, (Instr.build t (parts.map fun (i, x) => (i, ρ x))).run P w = .ok r w ∧ VRel σ w v r := by
  simp only [valOp] at e
  have agg_of : ∀ {r : List V} {ys : Array Value}, CRel σ w r ys → VRel σ w (.agg r) (.agg ys) := fun hc => .agg _ _ hc.1 fun i hi => hc.2 i hi _
  split at e
  · rename_i z fs hz hu
    split at e
    · rename_i places l hpl hl
      obtain ⟨i, x, hi, hx, hcz, _⟩ := zeroOf_spec (σ := σ) (w := w) hz
      obtain ⟨r, hr, rfl⟩ := buildV_fill _ _ _ e
      have hp := mapM_fieldOf (P := P) hu hev hpl _ _ hl
      obtain ⟨ys, hy, hcy, _⟩ := fill_sound _ _ _ _ _ hp hcz hr
      refine ⟨.agg ys, ?_, agg_of hcy⟩
      refine run_build w t _ ys ?_
      simp only [Program.built, hi, hu, hx, hpl, Array.toList_map]
      exact hy
    · simp at e
  · rename_i z n e' hz hu
    split at e
    · rename_i sz hs
      obtain ⟨i, x, hi, hx, hcz, _⟩ := zeroOf_spec (σ := σ) (w := w) hz
      obtain ⟨r, hr, rfl⟩ := buildV_fill _ _ _ e
      have hp : ∀ (l : List (Nat × Operand)), PRel σ w (fun i => some (i * csz sz, csz sz)) (l.map fun x => (x.1 * csz sz, sz, ev x.2)) (l.map fun x => (x.1, ρ x.2)) := by
        intro l
        induction l with
        | nil => trivial
        | cons a l ih => exact ⟨rfl, hev _, ih⟩
      obtain ⟨ys, hy, hcy, _⟩ := fill_sound _ _ _ _ _ (hp _) hcz hr
      refine ⟨.agg ys, ?_, agg_of hcy⟩
      simp only [Instr.build, Sem.run_bind, run_zeroValue hi hx, run_underlying_of hu, Result.andThen_ok, run_sizeOf_sz hs, Array.toList_map, hy, Sem.run_pure]
    · simp at e
  · simp at e

theorem VRel.map_get {ev : Operand → V} {ρ : Operand → Value} (hev : ∀ x, VRel σ w (ev x) (ρ x)) (l : List Operand) : ∀ i (h : i < (l.map ev).length) (h' : i < (l.map ρ).length), VRel σ w ((l.map ev)[i]) ((l.map ρ)[i]) := by
  intro i h h'
  simp only [List.getElem_map]
  exact hev _
theorem ORel.of_map {ev : Operand → V} {ρ : Operand → Value} (hev : ∀ x, VRel σ w (ev x) (ρ x)) (o : Option Operand) : ORel σ w (o.map ev) (o.map ρ) := by
  cases o with
  | none => trivial
  | some x => exact hev x
theorem run_eqGuard_plain (op : BinOp) (t : TypeId) (x y : Operand) (a b : Value) (h1 : a ≠ .nilIface) (h2 : ∀ cs, a ≠ .agg cs) : (eqGuard op t x y a b).run P w = .ok () w := by
  cases a <;> first | exact absurd rfl h1 | exact absurd rfl (h2 _) | (cases op <;> rfl)
theorem valOp_sound (H : HRel σ h w) {o : Oper} {ev : Operand → V} {ρ : Operand → Value} (hev : ∀ x, VRel σ w (ev x) (ρ x)) {v : V} (e : valOp P ev h o.op o.type = some v) :
    ∃ r, (execOp ρ o).run P w = .ok (.value r) w ∧ VRel σ w v r := by
  have fin : ∀ {s : Sem Value} {u : V}, (∃ r, s.run P w = .ok r w ∧ VRel σ w u r) → ∀ {q : Sem Next}, q = (do pure (.value (← s))) → ∃ r, q.run P w = .ok (.value r) w ∧ VRel σ w u r := by
    rintro s u ⟨r, hr, hv⟩ q rfl
    exact ⟨r, by simp [hr], hv⟩
  cases hop : o.op with
  | move x =>
    rw [hop] at e
    simp only [valOp] at e
    injection e with e
    subst e
    exact ⟨ρ x, by simp [execOp, hop], hev x⟩
  | assign x =>
    rw [hop] at e
    simp only [valOp] at e
    injection e with e
    subst e
    exact ⟨ρ x, by simp [execOp, hop], hev x⟩
  | pick c a b =>
    rw [hop] at e
    simp only [valOp] at e
    exact fin (pickV_sound (hev c) (hev a) (hev b) e) (by simp [execOp, hop])
  | load t a =>
    rw [hop] at e
    simp only [valOp] at e
    split at e
    · rename_i n hs
      exact fin (ld_sound H (hev a) hs e) (by simp [execOp, hop])
    · simp at e
  | nilCheck x =>
    rw [hop] at e
    exact nilV_sound hop rfl (hev x) e
  | binOp op t x y yt =>
    rw [hop] at e
    simp only [valOp] at e
    have key : ∀ {u : V}, (eqGuard op t x y (ρ x) (ρ y)).run P w = .ok () w → (∃ r, (binOp op t (ρ x) (ρ y)).run P w = .ok r w ∧ VRel σ w u r) → ∃ r, (execOp ρ o).run P w = .ok (.value r) w ∧ VRel σ w u r := by
      rintro u hg ⟨r, hr, hv⟩
      exact ⟨r, by simp [execOp, hop, hg, hr], hv⟩
    have agg : ∀ {d}, P.underlying t = some d → (match szOf P t, eqOffs P 12 t with
      | some n, some offs => if P.eqGuardType P.depth t = true then none else aggEq op n offs (ev x) (ev y)
      | _, _ => none) = some v → aggD d = true → ∃ r, (execOp ρ o).run P w = .ok (.value r) w ∧ VRel σ w v r := by
      intro d hu e hd
      split at e
      · rename_i n offs hs ho
        split at e
        · simp at e
        · rename_i hg
          obtain ⟨d', i, hu', hi, his, he⟩ := szOf_spec hs
          rw [hu] at hu'
          injection hu' with hu'
          subst hu'
          rw [hd] at he
          obtain ⟨a, b, ha, hb, hr⟩ := aggEq_sound hs (by simpa using he.symm) ho (hev x) (hev y) e
          refine key ?_ hr
          rw [ha, hb]
          exact run_eqGuard_agg w op t x y a b (by simpa using hg)
      · simp at e
    split at e
    · rename_i fs hu
      exact agg hu e rfl
    · rename_i n e' hu
      exact agg hu e rfl
    · obtain ⟨k, a, k', b, ha, hb, hr⟩ := intV_sound (t := t) (P := P) (hev x) (hev y) e
      exact key (run_eqGuard_plain _ _ _ _ _ _ (by rw [ha]; simp) (by rw [ha]; simp)) hr
    · obtain ⟨a, b, ha, hb, hr⟩ := strV_sound (t := t) (P := P) (hev x) (hev y) e
      exact key (run_eqGuard_plain _ _ _ _ _ _ (by rw [ha]; simp) (by rw [ha]; simp)) hr
    · rename_i hu
      obtain ⟨a, b, ha, hb, hr⟩ := boolV_sound (t := t) hu (hev x) (hev y) e
      exact key (run_eqGuard_plain _ _ _ _ _ _ (by rw [ha]; simp) (by rw [ha]; simp)) hr
    · rename_i pe hu
      obtain ⟨a, b, ha, hb, hr⟩ := ptrV_sound (t := t) hu (hev x) (hev y) e
      exact key (run_eqGuard_plain _ _ _ _ _ _ (by rw [ha]; simp) (by rw [ha]; simp)) hr
    · rename_i ps rs vr hu
      obtain ⟨ha, hb, hr⟩ := fnV_sound (t := t) hu (hev x) (hev y) e
      exact key (run_eqGuard_plain _ _ _ _ _ _ hb ha) hr
    · simp at e
  | unOp op t x =>
    rw [hop] at e
    simp only [valOp] at e
    exact fin (unV_sound (hev x) e) (by simp [execOp, hop])
  | convert s d x =>
    rw [hop] at e
    simp only [valOp] at e
    split at e
    · rename_i j k hs hd
      exact fin (toIntV_sound hs hd (hev x) e) (by simp [execOp, hop])
    · rename_i hs hd
      exact fin (strStr_sound hs hd (hev x) e) (by simp [execOp, hop])
    · rename_i e' hs hd
      split at e
      · rename_i he
        exact fin (b2sV_sound H hs he hd (hev x) e) (by simp [execOp, hop])
      · simp at e
    · simp at e
  | makeInterface t x =>
    rw [hop] at e
    simp only [valOp] at e
    split at e
    · simp at e
    · simp at e
    · rename_i d hd hu
      injection e with e
      subst e
      refine ⟨.iface t (ρ x), ?_, .iface _ _ _ (hev x)⟩
      cases d <;> simp_all [execOp, hop, Instr.makeInterface, run_underlying_of hu]
  | makeFunc f a b =>
    rw [hop] at e
    simp only [valOp] at e
    injection e with e
    subst e
    refine ⟨.func f (a.map ρ) (b.map ρ), by simp [execOp, hop, Instr.makeFunc], .fn _ _ _ _ _ (by simp) (by simp) (fun i hi => ?_) (fun i hi => ?_)⟩
    · simpa using hev _
    · simpa using hev _
  | slice t x lo hi mx =>
    rw [hop] at e
    simp only [valOp] at e
    split at e
    · simp at e
    · split at e
      · rename_i hu
        exact fin (slStr_sound hu (hev x) (ORel.of_map hev lo) (ORel.of_map hev hi) e) (by simp [execOp, hop])
      · rename_i e' hu
        split at e
        · rename_i sz hs
          exact fin (slS_sound hu hs (hev x) (ORel.of_map hev lo) (ORel.of_map hev hi) e) (by simp [execOp, hop])
        · simp at e
      · rename_i n e' hu
        split at e
        · rename_i sz hs
          exact fin (slA_sound H hu hs (hev x) (ORel.of_map hev lo) (ORel.of_map hev hi) e) (by simp [execOp, hop])
        · simp at e
      · simp at e
  | fieldAddr t x f =>
    rw [hop] at e
    simp only [valOp] at e
    split at e
    · rename_i off sz hf
      exact fin (faV_sound hf (hev x) e) (by simp [execOp, hop])
    · simp at e
  | field t x f =>
    rw [hop] at e
    simp only [valOp] at e
    split at e
    · rename_i off sz hf
      exact fin (fldV_sound hf (hev x) e) (by simp [execOp, hop])
    · simp at e
  | indexAddr t x i =>
    rw [hop] at e
    simp only [valOp] at e
    split at e
    · rename_i e' hu
      split at e
      · rename_i sz hs
        exact fin (iaS_sound hu hs (hev x) (hev i) e) (by simp [execOp, hop])
      · simp at e
    · rename_i n e' hu
      split at e
      · rename_i sz hs
        exact fin (iaA_sound hu hs (hev x) (hev i) e) (by simp [execOp, hop])
      · simp at e
    · simp at e
  | index t x i =>
    rw [hop] at e
    simp only [valOp] at e
    split at e
    · rename_i hu
      exact fin (ixS_sound hu (hev x) (hev i) e) (by simp [execOp, hop])
    · rename_i n e' hu
      split at e
      · rename_i sz hs
        exact fin (ixA_sound hu hs (hev x) (hev i) e) (by simp [execOp, hop])
      · simp at e
    · simp at e
  | typeAssert x xt t ok =>
    rw [hop] at e
    simp only [valOp] at e
    split at e
    · simp at e
    · simp at e
    · rename_i d hd hu
      split at e
      · simp at e
      · rename_i hok
        have : ok = false := by simpa using hok
        subst this
        exact fin (tasV_sound (xt := xt) hu (fun ms h => hd ms (by rw [h])) (hev x) e) (by simp [execOp, hop])
  | extract x i =>
    rw [hop] at e
    simp only [valOp] at e
    exact fin (extV_sound (hev x) e) (by simp [execOp, hop])
  | build t parts =>
    rw [hop] at e
    exact fin (build_sound (P := P) hev e) (by simp [execOp, hop])
  | call c =>
    rw [hop] at e
    obtain ⟨callee, args, ats⟩ := c
    cases callee with
    | builtin b =>
      cases b <;> simp only [valOp] at e <;> first | (simp at e; done) | skip
      · -- len
        split at e
        · rename_i x t hx ht
          have hx' : args = #[x] := by
            apply Array.ext'
            simpa using hx
          have ht' : ats = #[t] := by
            apply Array.ext'
            simpa using ht
          subst hx' ht'
          split at e
          · rename_i hu
            exact fin (lenS_sound (ty := o.type) hu (hev x) e) (by simp [execOp, hop, resolve, invoke, builtin])
          · rename_i e' hu
            exact fin (lenV_sound (ty := o.type) hu (hev x) e) (by simp [execOp, hop, resolve, invoke, builtin])
          · rename_i n e' hu
            injection e with e
            subst e
            refine ⟨.int .i64 n, ?_, .frz (.int _ _)⟩
            simp [execOp, hop, resolve, invoke, builtin, Builtin.len_, run_underlying_of hu, goInt]
          · simp at e
        · simp at e
      · exact fin (max_sound (P := P) (ats := ats) (ty := o.type) (by simp) (VRel.map_get hev args.toList) e) (by simp [execOp, hop, resolve, invoke, builtin, ← Array.toList_map])
      · exact fin (min_sound (P := P) (ats := ats) (ty := o.type) (by simp) (VRel.map_get hev args.toList) e) (by simp [execOp, hop, resolve, invoke, builtin, ← Array.toList_map])
    | value f => simp [valOp] at e
    | invoke r name => simp [valOp] at e
  | _ => rw [hop] at e; simp [valOp] at e
end
end Mini
end
/- What becomes of the relation where a slot, or memory beside the slots, changes. -/
section
set_option linter.unusedVariables false
set_option linter.unusedSimpArgs false
namespace Mini
open Go
section
variable {P : Program} {σ : Sg} {w : World} {h : Heap}
mutual
theorem noRef_frel {fr : Nat → Prop} : ∀ (v : V) (x : Value), v.noRef = true → VRel σ w v x → FRel (Frz σ w) w v x
  | .undef, x, _, h => .undef x
  | .bool b, x, _, h => by rw [h.bool_inv]; exact .bool b
  | .int k n, x, _, h => by rw [h.int_inv]; exact .int k n
  | .str s, x, _, h => by rw [h.str_inv]; exact .str s
  | .nilp, x, _, h => by rw [h.nilp_inv]; exact .nilp
  | .nils, x, _, h => by rw [h.nils_inv]; exact .nils
  | .nilf, x, _, h => by rw [h.nilf_inv]; exact .nilf
  | .nili, x, _, h => by rw [h.nili_inv]; exact .nili
  | .fz v, x, _, h => by cases h with | frz h => exact h
  | .vec xs, x, _, h => by cases h with | frz h => exact h
  | .ptr .., x, e, _ => by simp [V.noRef] at e
  | .sl .., x, e, _ => by simp [V.noRef] at e
  | .iface t v, x, e, h => by
    obtain ⟨y, rfl, hy⟩ := h.iface_inv
    exact .iface _ _ _ (noRef_frel (fr := fr) v y (by simpa [V.noRef] using e) hy)
  | .agg cs, x, e, h => by
    obtain ⟨xs, rfl, hl, hr⟩ := h.agg_inv
    exact .agg _ _ hl fun i hi => noRefL_frel (fr := fr) cs (by simpa [V.noRef] using e) i hi _ (hr i hi (by omega))
  | .tup cs, x, e, h => by
    obtain ⟨xs, rfl, hl, hr⟩ := h.tup_inv
    exact .tup _ _ hl fun i hi => noRefL_frel (fr := fr) cs (by simpa [V.noRef] using e) i hi _ (hr i hi (by omega))
  | .fn f a b, x, e, h => by
    obtain ⟨xs, ys, rfl, ha, hb, hx, hy⟩ := h.fn_inv
    have e' : noRefL a = true ∧ noRefL b = true := by simpa [V.noRef] using e
    exact .fn _ _ _ _ _ ha hb (fun i hi => noRefL_frel (fr := fr) a e'.1 i hi _ (hx i hi (by omega))) (fun i hi => noRefL_frel (fr := fr) b e'.2 i hi _ (hy i hi (by omega)))
theorem noRefL_frel {fr : Nat → Prop} : ∀ (cs : List V), noRefL cs = true → ∀ i (h : i < cs.length) (x : Value), VRel σ w (cs[i]) x → FRel (Frz σ w) w (cs[i]) x
  | [], _, i, h, _, _ => by simp at h
  | v :: l, e, 0, _, x, hv => by
    have e' : v.noRef = true ∧ noRefL l = true := by simpa [noRefL] using e
    exact noRef_frel (fr := fr) v x e'.1 hv
  | v :: l, e, i + 1, h, x, hv => by
    have e' : v.noRef = true ∧ noRefL l = true := by simpa [noRefL] using e
    exact noRefL_frel (fr := fr) l e'.2 i (by simpa using h) x hv
end
/-- The world is as it was, but for new blocks (and a count). -/
structure More (w w' : World) : Prop where
  os : w'.os = w.os
  tape : w'.tape = w.tape
  output : w'.output = w.output
  size : w.heap.size ≤ w'.heap.size
  block : ∀ b, b < w.heap.size → w'.heap[b]? = w.heap[b]?
theorem More.ext {w' : World} (m : More w w') (σ : Sg) : Ext σ w σ w' := ⟨m.os, m.tape, m.output, m.size, fun b hb _ => m.block b hb, fun k b R h _ => ⟨k, R, h⟩, fun _ => .inl rfl, rfl⟩
theorem More.hrel {w' : World} (m : More w w') (H : HRel σ h w) : HRel σ h w' :=
  ⟨H.st, fun k => (H.sl k).mono (m.ext σ) fun b R e => m.block b (H.lt e), H.inj, fun b hb => Nat.lt_of_lt_of_le (H.nfl b hb) m.size, H.nfd⟩
def updS (σ : Sg) (k : Nat) (e : Ent) : Sg := ⟨fun j => if j = k then e else σ j, σ.nf⟩
theorem updS_same (σ : Sg) (k : Nat) : updS σ k (σ k) = σ := by
  cases σ with
  | mk ent nf =>
    unfold updS
    congr 1
    funext j
    simp only
    split
    · rename_i h
      rw [h]
    · rfl
/-- A slot changes; in memory at most its own block does, and new ones come. -/
structure Turn (σ : Sg) (w : World) (k : Nat) (e : Ent) (w' : World) : Prop where
  os : w'.os = w.os
  tape : w'.tape = w.tape
  output : w'.output = w.output
  size : w.heap.size ≤ w'.heap.size
  block : ∀ b, b < w.heap.size → (∀ R, (σ k).bl ≠ some (some (b, R))) → w'.heap[b]? = w.heap[b]?
  st : e = σ k ∨ (σ k).st < e.st
  news : ∀ b R, e.bl = some (some (b, R)) → (∃ R', (σ k).bl = some (some (b, R'))) ∨ w.heap.size ≤ b
theorem Turn.ext {k : Nat} {e : Ent} {w' : World} (t : Turn σ w k e w') : Ext σ w (updS σ k e) w' where
  os := t.os
  tape := t.tape
  output := t.output
  size := t.size
  block := fun b hb hn => t.block b hb fun R => hn k R
  news := fun j b R h hb => by
    unfold updS at h
    simp only at h
    split at h
    · rcases t.news b R h with ⟨R', h'⟩ | h'
      · exact ⟨k, R', h'⟩
      · omega
    · exact ⟨j, R, h⟩
  sts := fun j => by
    unfold updS
    simp only
    split
    · rename_i hj
      subst hj
      exact t.st
    · exact .inl rfl
  nf := rfl
theorem Turn.hrel {k : Nat} {e : Ent} {w' : World} (t : Turn σ w k e w') (H : HRel σ h w) {s : Slot} (hs : s.st = e.st) (hr : SlotRel (updS σ k e) w' s.bl e.bl) : HRel (updS σ k e) (hset h k s) w' where
  st := fun j => by
    rw [hget_hset]
    unfold updS
    simp only
    split
    · exact hs
    · exact H.st j
  sl := fun j => by
    rw [hget_hset]
    by_cases hj : j = k
    · subst hj
      simp only [if_true]
      have : (updS σ j e j) = e := by simp [updS]
      rw [this]
      exact hr
    · simp only [if_neg hj]
      have : (updS σ k e j) = σ j := by simp [updS, hj]
      rw [this]
      exact (H.sl j).mono t.ext fun b R hb => t.block b (H.lt hb) fun R' h' => hj (H.inj _ _ _ _ _ hb h')
  inj := fun i j b R R' hi hj => by
    unfold updS at hi hj
    simp only at hi hj
    split at hi <;> split at hj
    · simp_all
    · rename_i h1 h2
      rcases t.news b R hi with ⟨R'', h'⟩ | h'
      · exact absurd (H.inj _ _ _ _ _ hj h') h2
      · have := H.lt hj
        omega
    · rename_i h1 h2
      rcases t.news b R' hj with ⟨R'', h'⟩ | h'
      · exact absurd (H.inj _ _ _ _ _ hi h') h1
      · have := H.lt hi
        omega
    · exact H.inj _ _ _ _ _ hi hj
  nfl := fun b hb => Nat.lt_of_lt_of_le (H.nfl b hb) t.size
  nfd := fun j b R hj hb => by
    unfold updS at hj
    simp only at hj
    split at hj
    · rcases t.news b R hj with ⟨R', h'⟩ | h'
      · exact H.nfd _ _ _ h' hb
      · have := H.nfl b hb
        omega
    · exact H.nfd _ _ _ hj hb
/-- Cells, as many as are told or more. -/
def CLe (σ : Sg) (w : World) (cs : List V) (xs : Array Value) : Prop := cs.length ≤ xs.size ∧ ∀ i (h : i < cs.length) (h' : i < xs.size), VRel σ w (cs[i]) (xs[i])
theorem CRel.le {cs : List V} {xs : Array Value} (h : CRel σ w cs xs) : CLe σ w cs xs := ⟨by have := h.1; omega, h.2⟩
theorem CLe.ext {σ' : Sg} {w' : World} {cs : List V} {xs : Array Value} (h : CLe σ w cs xs) (hx : Ext σ w σ' w') : CLe σ' w' cs xs := ⟨h.1, fun i a b => (h.2 i a b).ext hx⟩
theorem CRel.ext {σ' : Sg} {w' : World} {cs : List V} {xs : Array Value} (h : CRel σ w cs xs) (hx : Ext σ w σ' w') : CRel σ' w' cs xs := ⟨h.1, fun i a b => (h.2 i a b).ext hx⟩
/-- A block is pushed, and comes into a slot. -/
theorem push_slot (H : HRel σ h w) (k : Nat) {cs : List V} {xs : Array Value} {ty : TypeId} (hc : CLe σ w cs xs) {w' : World} (hw : w'.heap = w.heap.push (.cells xs ty)) (h1 : w'.os = w.os) (h2 : w'.tape = w.tape) (h3 : w'.output = w.output) :
    ∃ σ', Ext σ w σ' w' ∧ HRel σ' (newS k cs h) w' ∧ σ' k = ⟨(σ k).st + 1, some (some (w.heap.size, xs.size))⟩ := by
  have t : Turn σ w k ⟨(σ k).st + 1, some (some (w.heap.size, xs.size))⟩ w' :=
    ⟨h1, h2, h3, by rw [hw]; simp, fun b hb _ => by rw [hw, Array.getElem?_push]; simp; omega, .inr (Nat.lt_succ_self _), fun b R e => by simp at e; exact .inr (by omega)⟩
  refine ⟨_, t.ext, t.hrel H (by rw [H.st]) ⟨xs, ty, (0, 0), by rw [hw]; simp, rfl, hc.1, by simp, fun j a b => (hc.2 j a b).ext t.ext⟩, by simp [updS]⟩
/-- A block is pushed, beside the slots. -/
theorem push_more {xs : Array Value} {ty : TypeId} {w' : World} (hw : w'.heap = w.heap.push (.cells xs ty)) (h1 : w'.os = w.os) (h2 : w'.tape = w.tape) (h3 : w'.output = w.output) : More w w' :=
  ⟨h1, h2, h3, by rw [hw]; simp, fun b hb => by rw [hw, Array.getElem?_push]; simp; omega⟩
theorem push_frz (H : HRel σ h w) {xs : Array Value} {ty : TypeId} {w' : World} (hw : w'.heap = w.heap.push (.cells xs ty)) : Frz σ w' w.heap.size :=
  ⟨by rw [hw]; simp, fun k R e => by have := H.lt e; omega, fun hb => by have := H.nfl _ hb; omega⟩
theorem push_cell {xs : Array Value} {ty : TypeId} {w' : World} (hw : w'.heap = w.heap.push (.cells xs ty)) (j : Nat) : w'.cell? ⟨w.heap.size, j, none⟩ = xs[j]? := by
  simp [World.cell?, hw]
end
end Mini
end
/- Operations that write or make memory. -/
section
set_option linter.unusedVariables false
set_option linter.unusedSimpArgs false
namespace Mini
open Go
/-- Cells that are stored one by one. -/
def putA : Array Value → Nat → List Value → Array Value
  | xs, _, [] => xs
  | xs, o, v :: vs => putA (xs.setIfInBounds o v) (o + 1) vs
theorem size_putA : ∀ (vs : List Value) (xs : Array Value) (o : Nat), (putA xs o vs).size = xs.size
  | [], _, _ => rfl
  | v :: vs, xs, o => by simp [putA, size_putA vs]
theorem get_putA : ∀ (vs : List Value) (xs : Array Value) (o i : Nat), o + vs.length ≤ xs.size → (putA xs o vs)[i]? = if o ≤ i ∧ i < o + vs.length then vs[i - o]? else xs[i]?
  | [], xs, o, i, _ => by
    rw [if_neg (by simp <;> omega)]
    rfl
  | v :: vs, xs, o, i, hl => by
    simp only [List.length_cons] at hl
    rw [putA, get_putA vs _ _ _ (by simp; omega), Array.getElem?_setIfInBounds]
    by_cases h1 : o + 1 ≤ i ∧ i < o + 1 + vs.length
    · rw [if_pos h1, if_pos (by simp; omega), show i - o = (i - (o + 1)) + 1 by omega]
      simp
    · rw [if_neg h1]
      by_cases h2 : o = i
      · subst h2
        rw [if_pos rfl, if_pos (by omega), if_pos (by simp)]
        simp
      · rw [if_neg h2, if_neg (by simp; omega)]
section
variable {P : Program} {σ : Sg} {w : World} {h : Heap}
theorem CLe.put {cs ns : List V} {xs : Array Value} {ys : List Value} {off : Nat} (hc : CLe σ w cs xs) (hl : ns.length = ys.length) (hn : ∀ i (h : i < ns.length) (h' : i < ys.length), VRel σ w (ns[i]) (ys[i])) (hle : off + ns.length ≤ cs.length) :
    CLe σ w (putCells cs off ns) (putA xs off ys) := by
  have hpl : (putCells cs off ns).length = cs.length := by simp [putCells]; omega
  refine ⟨by rw [hpl, size_putA]; exact hc.1, fun i h1 h2 => ?_⟩
  have hi : i < cs.length := by omega
  have hcl := hc.1
  have hx := get_putA ys xs off i (by omega)
  rw [Array.getElem?_eq_getElem h2] at hx
  by_cases hcnd : off ≤ i ∧ i < off + ys.length
  · rw [if_pos hcnd, List.getElem?_eq_getElem (by omega)] at hx
    injection hx with hx
    rw [hx]
    have : (putCells cs off ns)[i] = ns[i - off]'(by omega) := by
      simp only [putCells]
      rw [List.getElem_append_left (by simp; omega), List.getElem_append_right (by simp; omega)]
      congr 1
      simp
      omega
    rw [this]
    exact hn _ _ _
  · rw [if_neg hcnd, Array.getElem?_eq_getElem (by omega)] at hx
    injection hx with hx
    rw [hx]
    have : (putCells cs off ns)[i] = cs[i] := by
      simp only [putCells]
      by_cases hlt : i < off
      · rw [List.getElem_append_left (by simp; omega), List.getElem_append_left (by simp; omega)]
        simp
      · rw [List.getElem_append_right (by simp; omega)]
        simp only [List.getElem_drop, List.length_append, List.length_take]
        congr 1
        omega
    rw [this]
    exact hc.2 _ _ _
/-- The world with a block's cells turned. -/
structure Put (w : World) (b : Nat) (o : Obj) (w' : World) : Prop where
  os : w'.os = w.os
  tape : w'.tape = w.tape
  output : w'.output = w.output
  size : w'.heap.size = w.heap.size
  self : w'.heap[b]? = some o
  other : ∀ b', b' ≠ b → w'.heap[b']? = w.heap[b']?
theorem run_storeCells (b o : Nat) : ∀ (vs : List Value) (i : Nat) (w : World) (xs : Array Value) (ty : TypeId) (fr : Nat × Nat), w.heap[b]? = some (.cells xs ty fr) → o + i + vs.length ≤ xs.size → (∀ v ∈ vs, v.oneCell' = true) →
    (∀ j, j < xs.size → ¬ (fr.1 ≤ j ∧ j < fr.2)) → ∃ w', (storeCells ⟨b, o, none⟩ vs i).run P w = .ok () w' ∧ Put w b (.cells (putA xs (o + i) vs) ty fr) w'
  | [], i, w, xs, ty, fr, hb, _, _, _ => ⟨w, by simp [storeCells], rfl, rfl, rfl, rfl, hb, fun _ _ => rfl⟩
  | v :: vs, i, w, xs, ty, fr, hb, hl, h1, hf => by
    simp only [List.length_cons] at hl
    have hlt : o + i < xs.size := by omega
    have hc : w.cell? ⟨b, o + i, none⟩ = some xs[o + i] := by rw [cell_of hb, Array.getElem?_eq_getElem hlt]
    have hfz : w.frozen? ⟨b, o + i, none⟩ = false := by
      simp only [World.frozen?, hb]
      have := hf (o + i) hlt
      simp
      omega
    have hbl : b < w.heap.size := (Array.getElem?_eq_some_iff.1 hb).1
    have hset : (w.setCell ⟨b, o + i, none⟩ v).heap[b]? = some (.cells (xs.setIfInBounds (o + i) v) ty fr) := by
      simp [World.setCell, Array.getElem?_modify, hb]
    obtain ⟨w', hr, p⟩ := run_storeCells b o vs (i + 1) (w.setCell ⟨b, o + i, none⟩ v) (xs.setIfInBounds (o + i) v) ty fr hset (by simp; omega) (fun u hu => h1 u (by simp [hu])) (by simpa using hf)
    refine ⟨w', ?_, ?_⟩
    · simp only [storeCells, Sem.run_bind, add_plain]
      rw [run_store P w _ v _ (h1 v (by simp)), hc]
      simp only [hfz, Bool.false_eq_true, if_false, Result.andThen_ok]
      exact hr
    · refine ⟨p.os, p.tape, p.output, p.size.trans (by simp [World.setCell]), p.self, fun b' hb' => (p.other b' hb').trans ?_⟩
      simp [World.setCell, Array.getElem?_modify, Ne.symm hb']
/-- Cells of a slot's block are turned. -/
theorem put_slot (H : HRel σ h w) {k st b R : Nat} (hk : σ k = ⟨st, some (some (b, R))⟩) {ys : Array Value} {ty : TypeId} {fr : Nat × Nat} {w' : World} (p : Put w b (.cells ys ty fr) w') (hR : ys.size = R)
    (hf : ∀ j, j < R → ¬ (fr.1 ≤ j ∧ j < fr.2)) {cs : List V} (hc : CLe σ w cs ys) : Ext σ w σ w' ∧ HRel σ (hset h k ⟨st, some cs⟩) w' := by
  have t : Turn σ w k (σ k) w' := ⟨p.os, p.tape, p.output, by rw [p.size]; exact Nat.le_refl _, fun b' hb' hn => p.other b' (fun e => hn R (by rw [hk, e])), .inl rfl, fun b' R' e => .inl ⟨R', e⟩⟩
  have he : updS σ k (σ k) = σ := updS_same σ k
  have hx := t.ext
  have hh := t.hrel (s := ⟨st, some cs⟩) H (by rw [hk]) (by
    rw [hk, ← hk, he] at *
    exact ⟨ys, ty, fr, p.self, hR, by have := hc.1; omega, hf, fun j a b => (hc.2 j a b).ext hx⟩)
  rw [he] at hx hh
  exact ⟨hx, hh⟩

/-- What an operation that writes or makes memory comes to. -/
def Done (P : Program) (σ : Sg) (w : World) (s : Sem Value) (v : V) (h' : Heap) : Prop :=
  ∃ r w' σ', s.run P w = .ok r w' ∧ Ext σ w σ' w' ∧ HRel σ' h' w' ∧ VRel σ' w' v r
theorem all_one {vs : List V} {ys : List Value} (hl : vs.length = ys.length) (hr : ∀ i (h : i < vs.length) (h' : i < ys.length), VRel σ w (vs[i]) (ys[i])) (ho : vs.all V.okCell = true) : ∀ y ∈ ys, y.oneCell' = true := by
  intro y hy
  obtain ⟨i, hi, rfl⟩ := List.mem_iff_getElem.1 hy
  exact VRel.okCell_one (hr i (by omega) hi) (List.all_eq_true.1 ho _ (List.getElem_mem _))
theorem st_sound (H : HRel σ h w) {t : TypeId} {n : Nat} {p x : V} {xp xx : Value} (hs : szOf P t = some n) (hp : VRel σ w p xp) (hx : VRel σ w x xx) {h' : Heap} (e : stV n p x h = some h') :
    ∃ w' σ', (Instr.storeAt t xp xx).run P w = .ok () w' ∧ Ext σ w σ' w' ∧ HRel σ' h' w' := by
  cases p with
  | ptr k off st =>
    simp only [stV] at e
    obtain ⟨cs, hcs, e⟩ := Option.bind_eq_some_iff.1 e
    split at e
    · rename_i hh
      simp only [Bool.and_eq_true, decide_eq_true_eq] at hh
      obtain ⟨⟨h1, h2⟩, h3⟩ := hh
      injection e with e
      subst e
      obtain ⟨hcr, hl⟩ := CRel.of_fits h1 h2 hx
      rcases H.cells hcs with ⟨hk, rfl⟩ | ⟨b, R, xs, ty, fr, hk, hb, hR, hlen, hfr, hrel⟩
      · have := csz_pos n
        simp at h3
        omega
      · obtain ⟨b', rfl, _, hbb⟩ := hp.ptr_inv
        obtain rfl := hbb b R hk
        have hone := all_one (σ := σ) (w := w) (vs := x.cells) (ys := xx.cells.toList) (by simpa using hcr.1) (fun i a b => by simpa using hcr.2 i a (by simpa using b)) h2
        obtain ⟨w', hr, hput⟩ := run_storeCells (P := P) b off xx.cells.toList 0 w xs ty fr hb (by have := hcr.1; simp; omega) hone (by rw [hR]; exact hfr)
        have hcl := CLe.put (σ := σ) (w := w) (cs := cs) (xs := xs) (ns := x.cells) (ys := xx.cells.toList) (off := off) ⟨by omega, hrel⟩ (by simpa using hcr.1) (fun i a b => by simpa using hcr.2 i a (by simpa using b)) (by omega)
        obtain ⟨g1, g2⟩ := put_slot H hk hput (by rw [size_putA]; exact hR) hfr hcl
        refine ⟨w', σ, ?_, g1, g2⟩
        have hsz : xx.cells.size = csz n := by rw [← hcr.1, hl]
        simp only [Instr.storeAt, Instr.sureAddr, storeVar, Sem.run_bind, Sem.run_pure, Result.andThen_ok, run_sizeOf_sz hs, hsz, ne_eq, not_true, if_false, Sem.run_ite]
        simpa using hr
    · simp at e
  | _ => simp [stV] at e
theorem push_eq (w : World) (o : Obj) : ({ w with heap := w.heap.push o } : World).heap = w.heap.push o := rfl
/-- A new variable. -/
theorem new_done (H : HRel σ h w) {t : TypeId} {n : Nat} {cs : List V} {xs : Array Value} (hc : CRel σ w cs xs) (hn : cs.length = csz n) {id : Option Nat} {v : V} {h' : Heap}
    (e : (match id with | some k => some (ptrTo k h, newS k cs h) | none => (takeV cs 0 n).bind fun u => if noRefL cs = true then some (V.fz u, h) else none) = some (v, h')) :
    Done P σ w (do pure (.pointer (some (← newRow t xs)))) v h' := by
  have hw := push_eq w (.cells xs t)
  cases id with
  | some k =>
    injection e with e
    injection e with e1 e2
    subst e1 e2
    obtain ⟨σ', g1, g2, g3⟩ := push_slot H k hc.le hw rfl rfl rfl
    refine ⟨.pointer (some ⟨w.heap.size, 0, none⟩), _, σ', by simp [newRow], g1, g2, ?_⟩
    unfold ptrTo
    refine .ptr _ _ _ _ (by rw [g3, H.st]; exact Nat.le_refl _) fun b' R hk => ?_
    rw [g3, H.st] at hk
    simp at hk
    exact hk.1.symm
  | none =>
    obtain ⟨u, hu, e⟩ := Option.bind_eq_some_iff.1 e
    split at e
    · rename_i hnr
      injection e with e
      injection e with e1 e2
      subst e1 e2
      have m := push_more hw rfl rfl rfl
      have hfz := push_frz H hw
      refine ⟨.pointer (some ⟨w.heap.size, 0, none⟩), _, σ, by simp [newRow], m.ext σ, m.hrel H, ?_⟩
      have hc' := hc.ext (m.ext σ)
      have := fz_part (σ := σ) (v := .agg cs) (off := 0) (o := 0) (c := fun j => xs.getD j undef) hfz (fun j hj => by
        rw [push_cell hw]
        have : j < xs.size := by have := hc.1; simp only [V.cells] at hj; omega
        simp [this]) (fun j hj => noRefL_frel (fr := fun _ => True) cs hnr j hj _ (by rw [getD_lt (by have := hc.1; simp only [V.cells] at hj; omega)]; exact hc'.2 j hj _)) hu
      simpa using this
    · simp at e
theorem takeV_whole {n : Nat} {x : V} (hf : fitsV n x = true) (ho : x.cells.all V.okCell = true) : takeV x.cells 0 n = some x := by
  obtain ⟨hl, ha⟩ := fitsV_cells hf
  cases n with
  | zero =>
    have := vcells_scalar (v := x) (by simpa using ha)
    rw [this]
    have : x.isAgg = false := by simpa using ha
    simp [takeV, this]
  | succ n =>
    cases x <;> simp [V.isAgg] at ha
    rename_i cs
    simp only [V.cells, csz_succ] at hl ⊢
    have hte : List.take (n + 1) cs = cs := by rw [← hl]; exact List.take_length
    simp [takeV, hl, hte]
theorem noRefL_cells {x : V} (h : x.noRef = true) : noRefL x.cells = true := by
  cases x <;> simp_all [V.cells, noRefL, V.noRef]
theorem box_done (H : HRel σ h w) {t : TypeId} {n : Nat} {x : V} {xx : Value} (hx : VRel σ w x xx) {id : Option Nat} {v : V} {h' : Heap} (e : boxV id n x h = some (v, h')) : Done P σ w (Instr.box t xx) v h' := by
  unfold boxV at e
  split at e
  · rename_i hh
    simp only [Bool.and_eq_true] at hh
    obtain ⟨hcr, hl⟩ := CRel.of_fits hh.1 hh.2 hx
    refine new_done (P := P) (t := t) (id := id) H hcr hl ?_
    cases id with
    | some k => exact e
    | none =>
      simp only at e
      split at e
      · rename_i hnr
        rw [takeV_whole hh.1 hh.2]
        simp only [Option.bind_some, noRefL_cells hnr, if_true]
        exact e
      · simp at e
  · simp at e
theorem alloc_done (H : HRel σ h w) {t : TypeId} {n : Nat} {z : List V} (hs : szOf P t = some n) (hz : zeroOf P t = some z) {id : Option Nat} {v : V} {h' : Heap} (e : allocV id n z h = some (v, h')) : Done P σ w (Instr.alloc t true (.tuple #[])) v h' := by
  obtain ⟨i, x, hi, hx, hcz, hsz⟩ := zeroOf_spec (σ := σ) (w := w) hz
  obtain ⟨d, i', _, hi', hs', _⟩ := szOf_spec hs
  rw [hi] at hi'
  injection hi' with hi'
  subst hi'
  obtain ⟨r, w', σ', h1, h2⟩ := new_done (P := P) (t := t) (id := id) (n := n) H hcz (by rw [hcz.1, hsz, hs']) e
  refine ⟨r, w', σ', ?_, h2⟩
  simp only [Instr.alloc, Sem.run_bind, run_zeroValue hi hx, Result.andThen_ok]
  simpa [newVar] using h1

/-! ### slices that are made -/
theorem map_range_zero (f : Nat → Value) : (Array.range 0).map f = #[] := Array.eq_empty_of_size_eq_zero (by simp)
theorem rep_length (n : Nat) (z : List V) : (rep n z).length = n * z.length := by
  induction n with
  | zero => simp [rep]
  | succ n ih => simp [rep, ih, Nat.add_mul, Nat.add_comm]
theorem rep_get (n : Nat) (z : List V) : ∀ i, i < n * z.length → (rep n z)[i]? = z[i % z.length]? := by
  induction n with
  | zero => intro i h; simp at h
  | succ n ih =>
    intro i h
    simp only [rep]
    rw [Nat.add_mul, Nat.one_mul] at h
    by_cases hlt : i < z.length
    · rw [List.getElem?_append_left hlt, Nat.mod_eq_of_lt hlt]
    · rw [List.getElem?_append_right (by omega), ih (i - z.length) (by omega)]
      congr 1
      conv => rhs; rw [show i = (i - z.length) + z.length by omega, Nat.add_mod_right]
theorem rep_rel {z : List V} {xs : Array Value} (hc : CRel σ w z xs) (n : Nat) : CRel σ w (rep n z) ((Array.range (n * xs.size)).map fun i => xs[i % xs.size]!) := by
  refine ⟨by rw [rep_length, hc.1]; simp, fun i h1 h2 => ?_⟩
  have h1' := h1
  rw [rep_length, hc.1] at h1'
  have hpos : 0 < xs.size := by
    rcases Nat.eq_zero_or_pos xs.size with h0 | h0
    · rw [h0] at h1'; simp at h1'
    · exact h0
  have hm : i % xs.size < xs.size := Nat.mod_lt _ hpos
  have hg := rep_get n z i (by rw [hc.1]; exact h1')
  rw [List.getElem?_eq_getElem h1, hc.1, List.getElem?_eq_getElem (by rw [hc.1]; exact hm)] at hg
  injection hg with hg
  rw [hg]
  simp only [Array.getElem_map, Array.getElem_range]
  rw [getElem!_pos xs _ hm]
  exact hc.2 _ _ _
theorem newSl_done (H : HRel σ h w) {e' : TypeId} {n sz c : Nat} {cs : List V} {xs : Array Value} (hc : CRel σ w cs xs) (hn : cs.length = n * csz sz) (hcn : n = c) {id : Option Nat} {v : V} {h' : Heap}
    (e : newSl id n sz cs h = some (v, h')) : Done P σ w (do pure (.slice (some (← newRow e' xs)) n c)) v h' := by
  subst hcn
  have hw := push_eq w (.cells xs e')
  unfold newSl at e
  cases id with
  | some k =>
    simp only at e
    injection e with e
    injection e with e1 e2
    subst e1 e2
    obtain ⟨σ', g1, g2, g3⟩ := push_slot H k hc.le hw rfl rfl rfl
    refine ⟨.slice (some ⟨w.heap.size, 0, none⟩) n n, _, σ', by simp [newRow], g1, g2, ?_⟩
    unfold slTo
    refine .sl _ _ _ _ _ _ _ _ (by rw [g3, H.st]; exact Nat.le_refl _) (Nat.le_refl _) (Nat.le_refl _) (fun b' R hk => ?_) (by rw [g3]; simp)
    rw [g3, H.st] at hk
    simp at hk
    refine ⟨hk.1.symm, ?_⟩
    have := hc.1
    omega
  | none =>
    simp only at e
    split at e
    · rename_i hh
      simp only [Bool.and_eq_true] at hh
      injection e with e
      injection e with e1 e2
      subst e1 e2
      have m := push_more hw rfl rfl rfl
      have hfz := push_frz H hw
      refine ⟨.slice (some ⟨w.heap.size, 0, none⟩) n n, _, σ, by simp [newRow], m.ext σ, m.hrel H, ?_⟩
      have hc' := hc.ext (m.ext σ)
      refine .frz (vec_flat hh.1 hn hfz (Nat.le_refl _) (fun j => xs.getD j undef) (fun j hj => ?_) fun j hj => ?_)
      · rw [Nat.zero_add, push_cell hw]
        have : j < xs.size := by have := hc.1; omega
        simp [this]
      · have : j < xs.size := by have := hc.1; omega
        refine noRefL_frel (fr := fun _ => True) cs hh.2 j hj _ ?_
        rw [getD_lt this]
        exact hc'.2 j hj this
    · simp at e
theorem bslice_done (H : HRel σ h w) {t e' : TypeId} {len sz : Nat} {z : List V} {ev : Operand → V} {ρ : Operand → Value} (hev : ∀ x, VRel σ w (ev x) (ρ x)) (hu : P.underlying t = some (.slice e')) (hs : szOf P e' = some sz) (hz : zeroOf P e' = some z)
    (hlim : len * csz sz ≤ 16777216) {parts : Array (Nat × Operand)} {cs : List V} (hf : fillV (rep len z) (parts.toList.map fun x => (x.1 * csz sz, sz, ev x.2)) = some cs) {id : Option Nat} {v : V} {h' : Heap} (e : newSl id len sz cs h = some (v, h')) :
    Done P σ w (Instr.buildSlice t len (parts.map fun (i, x) => (i, ρ x))) v h' := by
  obtain ⟨i, x, hi, hx, hcz, hszz⟩ := zeroOf_spec (σ := σ) (w := w) hz
  obtain ⟨d, i', _, hi', hs', _⟩ := szOf_spec hs
  rw [hi] at hi'
  injection hi' with hi'
  subst hi'
  have hp : ∀ (l : List (Nat × Operand)), PRel σ w (fun i => some (i * csz sz, csz sz)) (l.map fun x => (x.1 * csz sz, sz, ev x.2)) (l.map fun x => (x.1, ρ x.2)) := by
    intro l
    induction l with
    | nil => trivial
    | cons a l ih => exact ⟨rfl, hev _, ih⟩
  have hxs : x.cells.size = csz sz := by rw [hszz, hs']
  have hrep := rep_rel hcz len
  rw [hxs] at hrep
  obtain ⟨ys, hy, hcy, hly⟩ := fill_sound _ _ _ _ _ (hp _) hrep hf
  obtain ⟨r, w', σ', h1, h2⟩ := newSl_done (P := P) (e' := e') H hcy (by rw [hly, rep_length, hcz.1, hxs]) rfl e
  refine ⟨r, w', σ', ?_, h2⟩
  rw [← h1]
  have h24 : ¬ (len * csz sz > 2 ^ 24) := by omega
  simp only [Instr.buildSlice, Sem.run_bind, run_underlying_of hu, Result.andThen_ok, run_sizeOf_sz hs, Sem.run_ite, h24, if_false, Sem.run_pure, Array.toList_map]
  by_cases h0 : len * csz sz = 0
  · have hr0 : (Array.map (fun i => x.cells[i % csz sz]!) (Array.range (len * csz sz))) = #[] := by rw [h0, map_range_zero]
    rw [hr0] at hy
    simp only [h0, if_true, Sem.run_pure, Result.andThen_ok]
    rw [map_range_zero, hy]
    simp
  · simp only [h0, if_false, Sem.run_bind, run_zeroValue hi hx, Result.andThen_ok, Sem.run_pure, hxs, hy]
theorem mkSl_done (H : HRel σ h w) {t e' : TypeId} {sz lim : Nat} {z : List V} (hu : P.underlying t = some (.slice e')) (hs : szOf P e' = some sz) (hz : zeroOf P e' = some z) (hlim : limOf P e' = some lim) {l c : V} {xl xc : Value} (hl : VRel σ w l xl) (hc : VRel σ w c xc)
    {id : Option Nat} {v : V} {h' : Heap} (e : mkSl id lim sz z l c h = some (v, h')) : Done P σ w (Instr.makeSlice t xl xc) v h' := by
  obtain ⟨i, x, hi, hx, hcz, hszz⟩ := zeroOf_spec (σ := σ) (w := w) hz
  obtain ⟨d, i', _, hi', hs', _⟩ := szOf_spec hs
  rw [hi] at hi'
  injection hi' with hi'
  subst hi'
  have hxs : x.cells.size = csz sz := by rw [hszz, hs']
  unfold mkSl at e
  split at e
  · rename_i k1 n k2 m
    rw [hl.int_inv, hc.int_inv]
    split at e
    · rename_i hh
      obtain ⟨h0, hnm, hml⟩ := hh
      have hb : lim * i.bytes ≤ 70368744177664 ∧ 0 < i.bytes := by
        unfold limOf at hlim
        rw [hi] at hlim
        simp only at hlim
        split at hlim
        · simp at hlim
        · injection hlim with hlim
          subst hlim
          exact ⟨Nat.div_mul_le_self _ _, by omega⟩
      have hm46 : m ≤ 70368744177664 := by
        have : lim ≤ lim * i.bytes := Nat.le_mul_of_pos_right _ hb.2
        omega
      have hw1 : IntKind.i64.wrap n = n := by
        have e1 : IntKind.i64.wrap n = n := by
          unfold IntKind.wrap
          simp [IntKind.signed, IntKind.bits]
          omega
        exact e1
      have hw2 : IntKind.i64.wrap m = m := by
        unfold IntKind.wrap
        simp [IntKind.signed, IntKind.bits]
        omega
      have hbm : (i.bytes : Int) * m ≤ 70368744177664 := by
        have h1 : (i.bytes : Int) * m ≤ i.bytes * lim := Int.mul_le_mul_of_nonneg_left hml (by omega)
        have h2 : (i.bytes : Int) * lim = ((lim * i.bytes : Nat) : Int) := by rw [Nat.mul_comm]; simp
        omega
      have hrep := rep_rel hcz m.toNat
      rw [hxs] at hrep
      have hrun : (Instr.makeSlice t (.int k1 n) (.int k2 m)).run P w = (do pure (.slice (some (← newRow e' ((Array.range (m.toNat * csz sz)).map fun i => x.cells[i % csz sz]!))) n.toNat m.toNat) : Sem Value).run P w := by
        have c1 : ¬ (m < 0) := by omega
        have c2 : ¬ ((i.bytes : Int) * m > 2 ^ 48) := by omega
        have c3 : ¬ (n < 0) := by omega
        have c4 : ¬ (n > m) := by omega
        simp only [Instr.makeSlice, Sem.run_bind, run_underlying_of hu, Result.andThen_ok, asInt, asIntOf, Sem.run_pure, run_typeInfo_of hi, hw1, hw2, run_sizeOf_sz hs, Sem.run_ite, run_askRoom, c1, c2, c3, c4, decide_false, Bool.or_false, Bool.false_eq_true, if_false, or_self]
        by_cases hz0 : m.toNat * csz sz = 0
        · simp only [hz0, map_range_zero, if_true, Sem.run_pure, Result.andThen_ok]
        · simp [hz0, run_zeroValue hi hx, hxs]
      have hlenr : (rep m.toNat z).length = m.toNat * csz sz := by rw [rep_length, hcz.1, hxs]
      cases id with
      | some k =>
        simp only at e
        injection e with e
        injection e with e1 e2
        subst e1 e2
        have hw := push_eq w (.cells ((Array.range (m.toNat * csz sz)).map fun i => x.cells[i % csz sz]!) e')
        obtain ⟨σ', g1, g2, g3⟩ := push_slot H k hrep.le hw rfl rfl rfl
        refine ⟨.slice (some ⟨w.heap.size, 0, none⟩) n.toNat m.toNat, _, σ', by rw [hrun]; simp [newRow], g1, g2, ?_⟩
        refine .sl _ _ _ _ _ _ _ _ (by rw [g3, H.st]; exact Nat.le_refl _) (by omega) (Nat.le_refl _) (fun b' R hk => ?_) (by rw [g3]; simp)
        rw [g3, H.st] at hk
        simp at hk
        exact ⟨hk.1.symm, by omega⟩
      | none =>
        simp only at e
        split at e
        · rename_i hq
          obtain ⟨rfl, hq1, hq2⟩ := hq
          obtain ⟨r, w', σ', h1, h2⟩ := newSl_done (P := P) (e' := e') (id := none) (v := v) (h' := h') H hrep hlenr rfl (by
            unfold newSl
            simp only [hq1, hq2, Bool.and_self, if_true]
            exact e)
          exact ⟨r, w', σ', by rw [hrun]; exact h1, h2⟩
        · simp at e
    · simp at e
  · simp at e
end
end Mini
end
/- append and copy. -/
section
set_option linter.unusedVariables false
set_option linter.unusedSimpArgs false
namespace Mini
open Go
section
variable {P : Program} {σ : Sg} {w : World} {h : Heap}
theorem HRel.congr {h' : Heap} (H : HRel σ h w) (e : ∀ j, hget h' j = hget h j) : HRel σ h' w := ⟨fun k => by rw [e]; exact H.st k, fun k => by rw [e]; exact H.sl k, H.inj, H.nfl, H.nfd⟩
theorem elems_rel {xs : List V} {sz : Nat} {b o : Nat} {c : Nat → Nat → Value} (h2 : ∀ i (h : i < xs.length), (xs[i]).cells.length = csz sz) (h3 : ∀ i j, i < xs.length → j < csz sz → w.cell? ⟨b, o + (i * csz sz + j), none⟩ = some (c i j))
    (h4 : ∀ i (h : i < xs.length) j (hj : j < (xs[i]).cells.length), FRel (Frz σ w) w ((xs[i]).cells[j]) (c i j)) :
    (xs.flatMap V.cells).length = xs.length * csz sz ∧ ∀ j (h : j < (xs.flatMap V.cells).length), w.cell? ⟨b, o + j, none⟩ = some (c (j / csz sz) (j % csz sz)) ∧ VRel σ w ((xs.flatMap V.cells)[j]) (c (j / csz sz) (j % csz sz)) := by
  have hpos := csz_pos sz
  have hfl : ∀ (xs : List V), (∀ i (h : i < xs.length), (xs[i]).cells.length = csz sz) → (xs.flatMap V.cells).length = xs.length * csz sz ∧
      ∀ i j (hi : i < xs.length) (hj : j < (xs[i]).cells.length), (xs.flatMap V.cells)[i * csz sz + j]? = some ((xs[i]).cells[j]) := by
    intro xs
    induction xs with
    | nil => intro _; exact ⟨by simp, fun i j hi => by simp at hi⟩
    | cons x xs ih =>
      intro h2
      obtain ⟨e1, e2⟩ := ih fun i h => h2 (i + 1) (by simpa using h)
      have e0 : x.cells.length = csz sz := h2 0 (by simp)
      refine ⟨by simp only [List.flatMap_cons, List.length_append, e0, e1, List.length_cons, Nat.add_mul]; omega, fun i j hi hj => ?_⟩
      cases i with
      | zero =>
        simp only [List.getElem_cons_zero] at hj ⊢
        simp only [List.flatMap_cons, Nat.zero_mul, Nat.zero_add]
        rw [List.getElem?_append_left hj, List.getElem?_eq_getElem hj]
      | succ i =>
        simp only [List.getElem_cons_succ] at hj ⊢
        simp only [List.flatMap_cons]
        rw [List.getElem?_append_right (by rw [e0, Nat.add_mul]; omega), e0, show (i + 1) * csz sz + j - csz sz = i * csz sz + j by rw [Nat.add_mul]; omega]
        exact e2 i j (by simpa using hi) hj
  obtain ⟨e1, e2⟩ := hfl xs h2
  refine ⟨e1, fun j hj => ?_⟩
  rw [e1] at hj
  have hi : j / csz sz < xs.length := by rw [Nat.div_lt_iff_lt_mul hpos]; exact hj
  have hm : j % csz sz < csz sz := Nat.mod_lt _ hpos
  have hj' : j / csz sz * csz sz + j % csz sz = j := by rw [Nat.mul_comm]; exact Nat.div_add_mod _ _
  have hc := h3 _ _ hi hm
  rw [hj'] at hc
  refine ⟨hc, ?_⟩
  have hg := e2 (j / csz sz) (j % csz sz) hi (by rw [h2 _ hi]; exact hm)
  rw [hj'] at hg
  have hlt : j < (xs.flatMap V.cells).length := by rw [e1]; exact hj
  rw [List.getElem?_eq_getElem hlt] at hg
  injection hg with hg
  rw [hg]
  exact .frz (h4 _ hi _ _)
/-- The source of an append or a copy. -/
theorem src_sound (H : HRel σ h w) {sz m : Nat} {x : V} {xx : Value} {cs : List V} (hx : VRel σ w x xx) (e : srcV sz x h = some (m, cs)) :
    (Builtin.lenOf xx).run P w = .ok m w ∧ cs.length = m * csz sz ∧ ∀ n, n ≤ m → ∃ news : Array Value, (∀ d, (Builtin.firstCells (csz sz) n xx).run P { w with drawn := d } = .ok news { w with drawn := d }) ∧ CRel σ w (cs.take (n * csz sz)) news := by
  have loads : ∀ (b o n : Nat) (c : Nat → Value) (d : Nat), (∀ j, j < n → w.cell? ⟨b, o + j, none⟩ = some (c j)) → (loadCells ⟨b, o, none⟩ n).run P { w with drawn := d } = .ok ((List.range n).map c).toArray { w with drawn := d } := by
    intro b o n c d hc
    exact run_loadCells _ _ n c (fun j hj => by rw [add_plain]; exact hc j hj)
  have rel : ∀ (n : Nat) (c : Nat → Value), n * csz sz ≤ cs.length → (∀ j (h : j < cs.length), VRel σ w (cs[j]) (c j)) → CRel σ w (cs.take (n * csz sz)) ((List.range (n * csz sz)).map c).toArray := by
    intro n c hn hr
    exact ⟨by simp; omega, fun i h1 h2 => by simpa using hr i (by simp at h1; omega)⟩
  cases x with
  | nils =>
    simp only [srcV] at e
    injection e with e
    injection e with e1 e2
    subst e1 e2
    rw [hx.nils_inv]
    refine ⟨by simp [Builtin.lenOf], by simp, fun n hn => ⟨#[], fun d => by simp [Builtin.firstCells], ⟨by simp, fun i h => by simp at h⟩⟩⟩
  | str s =>
    simp only [srcV] at e
    split at e
    · rename_i h0
      subst h0
      injection e with e
      injection e with e1 e2
      subst e1 e2
      rw [hx.str_inv]
      have hsz : s.data.size = s.size := rfl
      refine ⟨by simp [Builtin.lenOf], by simp [csz, hsz], fun n hn => ⟨(s.extract 0 n).data.map fun b => .int .u8 b.toNat, fun d => by simp [Builtin.firstCells], ?_⟩⟩
      have hn' : n ≤ s.data.size := hn
      have hd : (s.extract 0 n).data = s.data.extract 0 n := by
        apply Array.ext'
        simp [ByteArray.data_extract]
      refine ⟨by simp [csz, hd, hsz], fun i h1 h2 => ?_⟩
      simp only [Array.getElem_map, hd, Array.getElem_extract, Nat.zero_add, List.getElem_take, List.getElem_map, Array.getElem_toList]
      exact .frz (.int _ _)
    · simp at e
  | vec xs =>
    simp only [srcV] at e
    split at e
    · rename_i hall
      injection e with e
      injection e with e1 e2
      subst e1 e2
      obtain ⟨a, cp, rfl, hcp, hor⟩ := hx.vec_inv
      have h2 : ∀ i (h : i < xs.length), (xs[i]).cells.length = csz sz := fun i h => (fitsV_cells (List.all_eq_true.1 hall _ (List.getElem_mem h))).1
      refine ⟨by simp [Builtin.lenOf], ?_, ?_⟩
      · rcases hor with rfl | ⟨b, o, sz', c, rfl, g1, g2, g3, g4⟩
        · simp
        · by_cases hx0 : xs = []
          · subst hx0; simp
          · have hpos : 0 < xs.length := List.length_pos_iff.2 hx0
            have : sz' = csz sz := by rw [← g2 0 hpos]; exact h2 0 hpos
            subst this
            exact (elems_rel (σ := σ) (w := w) h2 g3 g4).1
      · intro n hn
        by_cases hx0 : xs = []
        · subst hx0
          have : n = 0 := by simpa using hn
          subst this
          refine ⟨#[], fun d => ?_, ⟨by simp, fun i h => by simp at h⟩⟩
          cases a <;> simp [Builtin.firstCells, loadCells, loadCellsFrom]
        · rcases hor with h0 | ⟨b, o, sz', c, rfl, g1, g2, g3, g4⟩
          · exact absurd h0 hx0
          · have hpos : 0 < xs.length := List.length_pos_iff.2 hx0
            have : sz' = csz sz := by rw [← g2 0 hpos]; exact h2 0 hpos
            subst this
            obtain ⟨e1, e2⟩ := elems_rel (σ := σ) (w := w) h2 g3 g4
            have hle : n * csz sz ≤ (xs.flatMap V.cells).length := by rw [e1]; exact Nat.mul_le_mul_right _ hn
            refine ⟨((List.range (n * csz sz)).map fun j => c (j / csz sz) (j % csz sz)).toArray, fun d => ?_, rel n _ hle fun j h => (e2 j h).2⟩
            simp only [Builtin.firstCells]
            exact loads b o _ _ d fun j hj => (e2 j (by omega)).1
    · simp at e
  | sl k off len cap sz' st =>
    simp only [srcV] at e
    split at e
    · rename_i hs
      subst hs
      obtain ⟨ds, hds, e⟩ := Option.bind_eq_some_iff.1 e
      split at e
      · rename_i hle
        injection e with e
        injection e with e1 e2
        subst e1 e2
        have hlen : ((ds.drop off).take (len * csz sz)).length = len * csz sz := by simp; omega
        rcases hx.sl_inv with ⟨hst, ⟨a, rfl, rfl, rfl⟩ | ⟨b, c, rfl, h2, h3, h4, h5⟩⟩
        · refine ⟨by simp [Builtin.lenOf], hlen, fun n hn => ?_⟩
          have : n = 0 := by omega
          subst this
          refine ⟨#[], fun d => ?_, ⟨by simp, fun i h => by simp at h⟩⟩
          cases a <;> simp [Builtin.firstCells, loadCells, loadCellsFrom]
        · refine ⟨by simp [Builtin.lenOf], hlen, fun n hn => ?_⟩
          rcases H.cells hds with ⟨hk, rfl⟩ | ⟨b', R, xs, ty, fr, hk, hb, hR, hl, hfr, hrel⟩
          · exact absurd hk h5
          · obtain ⟨rfl, _⟩ := h4 b' R hk
            have hnle : n * csz sz ≤ len * csz sz := Nat.mul_le_mul_right _ hn
            refine ⟨((List.range (n * csz sz)).map fun j => xs.getD (off + j) undef).toArray, fun d => ?_, rel n _ (by omega) fun j hj => ?_⟩
            · simp only [Builtin.firstCells]
              refine loads b' off _ _ d fun j hj => ?_
              rw [cell_of hb, getD_lt (by omega), Array.getElem?_eq_getElem (by omega)]
            · simp only [List.getElem_take, List.getElem_drop]
              rw [hlen] at hj
              rw [getD_lt (by omega)]
              exact hrel _ _ _
      · simp at e
    · simp at e
  | _ => simp [srcV] at e

theorem limOf_spec {t : TypeId} {lim : Nat} {i : TypeInfo} (hi : P.info? t = some i) (e : limOf P t = some lim) : lim * i.bytes ≤ 70368744177664 ∧ 0 < i.bytes := by
  unfold limOf at e
  rw [hi] at e
  simp only at e
  split at e
  · simp at e
  · injection e with e
    subst e
    exact ⟨Nat.div_mul_le_self _ _, by omega⟩
/-- append where there is no room: a new block. -/
theorem run_append_new {t u e' : TypeId} {du : TypeDesc} {i : TypeInfo} {z : Value} {ty : TypeId} {ats : Array TypeId} (h0 : ats[0]? = some t) (h1 : ats[1]? = some u) (ht : P.underlying t = some (.slice e')) (hu : P.underlying u = some du) (hdu : ∀ k, du ≠ .int k) (hi : P.info? e' = some i) (hz : i.zero = some z)
    {base : Option Addr} {sLen sCap m lim : Nat} {x : Value} {olds news : Array Value} (hm : (Builtin.lenOf x).run P w = .ok m w) (hn : ∀ d, (Builtin.firstCells i.size m x).run P { w with drawn := d } = .ok news { w with drawn := d })
    (ho : ∀ d, (Builtin.firstCells i.size sLen (.slice base sLen sCap)).run P { w with drawn := d } = .ok olds { w with drawn := d }) (hroom : sCap < sLen + m) (hlim : lim * i.bytes ≤ 70368744177664) (hb : 0 < i.bytes) (hle : sLen + m ≤ lim) :
    (Builtin.append_ ats ty #[.slice base sLen sCap, x]).run P w =
      .ok (.slice (some ⟨w.heap.size, 0, none⟩) (sLen + m) (grownCap w (sLen + m) sCap e')) { w with drawn := w.drawn + 1, heap := w.heap.push (.cells (olds ++ news ++ Builtin.zeroCells z.cells (grownCap w (sLen + m) sCap e' - (sLen + m))) e') } := by
  have hneed : (sLen + m) * i.bytes ≤ 140737488355328 := by
    have := Nat.mul_le_mul_right i.bytes hle
    omega
  have hfit := growslice_fits hroom hneed
  have hbig : sLen + m ≤ 70368744177664 := by
    have : sLen + m ≤ (sLen + m) * i.bytes := Nat.le_mul_of_pos_right _ hb
    have := Nat.mul_le_mul_right i.bytes hle
    omega
  have c1 : ¬ (sLen + m ≤ sCap) := by omega
  have c2 : ¬ (9223372036854775807 < ((sLen : Int) + (m : Int))) := by omega
  have c3 : ¬ (281474976710656 < Builtin.nextslicecap (sLen + m) sCap * i.bytes) := by omega
  have hdu' : (match du with | .int _ => true | _ => false) = false := by
    cases du <;> first | rfl | exact absurd rfl (hdu _)
  have hmax : IntKind.i64.max = 9223372036854775807 := by decide
  simp only [Builtin.append_, h0, h1, List.getElem?_toArray, List.getElem?_cons_zero, List.getElem?_cons_succ, Sem.run_bind, run_underlying_of ht, run_underlying_of hu, Result.andThen_ok, run_sizeOf_of hi, Sem.run_pure, hm]
  have c4 : ¬ i.bytes = 0 := by omega
  have c5 : ¬ (Builtin.nextslicecap (sLen + m) sCap * i.bytes > 2 ^ 48) := by omega
  have hd := fun d => hn d
  simp only [Bool.false_eq_true, if_false, false_or, Sem.run_bind, hm, Result.andThen_ok, Sem.run_ite, if_neg c1, run_typeInfo_of hi, c4, and_false, c5, Bool.not_false, if_true, run_choose, Question.forced, run_askRoom, ho, hn, run_zeroValue hi hz, newRow, run_newObj, Sem.run_pure, grownCap]

/-- append where there is room. -/
theorem run_append_in {t u e' : TypeId} {du : TypeDesc} {i : TypeInfo} {ty : TypeId} {ats : Array TypeId} (h0 : ats[0]? = some t) (h1 : ats[1]? = some u) (ht : P.underlying t = some (.slice e')) (hu : P.underlying u = some du) (hdu : ∀ k, du ≠ .int k) (hi : P.info? e' = some i)
    {base : Option Addr} {sLen sCap m : Nat} {x : Value} {news : Array Value} (hm : (Builtin.lenOf x).run P w = .ok m w) (hn : (Builtin.firstCells i.size m x).run P w = .ok news w)
    (hroom : sLen + m ≤ sCap) {w' : World} (hst : ∀ a, base = some a → (storeCells (a.add (sLen * i.size)) news.toList).run P w = .ok () w') (hnone : base = none → w' = w) :
    (Builtin.append_ ats ty #[.slice base sLen sCap, x]).run P w = .ok (.slice base (sLen + m) sCap) w' := by
  have hdu' : (match du with | .int _ => true | _ => false) = false := by
    cases du <;> first | rfl | exact absurd rfl (hdu _)
  simp only [Builtin.append_, h0, h1, List.getElem?_toArray, List.getElem?_cons_zero, List.getElem?_cons_succ, Sem.run_bind, run_underlying_of ht, run_underlying_of hu, Result.andThen_ok, run_sizeOf_of hi, Sem.run_pure, hm]
  simp only [Bool.false_eq_true, if_false, Sem.run_bind, hm, Result.andThen_ok, Sem.run_ite, hroom, if_true, Bool.not_false, hn]
  cases base with
  | none =>
    rw [hnone rfl]
    simp
  | some a => simp [hst a rfl]
theorem size_zeroCells' (z : Array Value) (n : Nat) : (Builtin.zeroCells z n).size = n * z.size := by simp [Builtin.zeroCells]
theorem app_done (H : HRel σ h w) {t u e' : TypeId} {du : TypeDesc} {ty : TypeId} {ats : Array TypeId} (h0 : ats[0]? = some t) (h1 : ats[1]? = some u) (ht : P.underlying t = some (.slice e')) (hu : P.underlying u = some du) (hdu : ∀ k, du ≠ .int k)
    {sz lim : Nat} {z : List V} (hs : szOf P e' = some sz) (hz : zeroOf P e' = some z) (hlim : limOf P e' = some lim) {d x : V} {xd xx : Value} (hd : VRel σ w d xd) (hx : VRel σ w x xx)
    {id : Option Nat} {v : V} {h' : Heap} (e : appV id lim sz d x h = some (v, h')) : Done P σ w (Builtin.append_ ats ty #[xd, xx]) v h' := by
  obtain ⟨i, zx, hi, hzx, hcz, hszz⟩ := zeroOf_spec (σ := σ) (w := w) hz
  obtain ⟨dd, i', _, hi', hs', _⟩ := szOf_spec hs
  rw [hi] at hi'
  injection hi' with hi'
  subst hi'
  obtain ⟨hlim1, hlim2⟩ := limOf_spec hi hlim
  unfold appV at e
  obtain ⟨⟨m, cs⟩, hsrc, e0⟩ := Option.bind_eq_some_iff.1 e
  replace e := e0
  clear e0
  simp only at e
  split at e
  case isFalse => simp at e
  case isTrue hok =>
  obtain ⟨hm, hcl, hnews⟩ := src_sound (P := P) H hx hsrc
  obtain ⟨news, hn, hcr⟩ := hnews m (Nat.le_refl _)
  rw [← hcl, List.take_length] at hcr
  rw [← hs'] at hn
  have hnw : (Builtin.firstCells i.size m xx).run P w = .ok news w := hn w.drawn
  have hns : news.size = m * csz sz := by rw [← hcr.1, hcl]
  -- a new block
  have fresh : ∀ {base : Option Addr} {sLen sCap : Nat} {olds : Array Value} {ocs : List V} {k : Nat}, xd = .slice base sLen sCap → sCap < sLen + m → sLen + m ≤ lim → CRel σ w ocs olds → ocs.length = sLen * csz sz →
      (∀ d, (Builtin.firstCells i.size sLen (.slice base sLen sCap)).run P { w with drawn := d } = .ok olds { w with drawn := d }) →
      Done P σ w (Builtin.append_ ats ty #[xd, xx]) (.sl k 0 (sLen + m) (sLen + m) sz ((hget h k).st + 1)) (newS k (ocs ++ cs) h) := by
    intro base sLen sCap olds ocs k hxd hroom hle hor hol hfo
    subst hxd
    have hrun := run_append_new (P := P) (w := w) (ty := ty) h0 h1 ht hu hdu hi hzx hm hn hfo hroom hlim1 hlim2 hle
    have hge := grownCap_ge w (sLen + m) sCap e'
    have hos : olds.size = sLen * csz sz := by rw [← hor.1, hol]
    have hw : ({ w with drawn := w.drawn + 1, heap := w.heap.push (.cells (olds ++ news ++ Builtin.zeroCells zx.cells (grownCap w (sLen + m) sCap e' - (sLen + m))) e') } : World).heap = w.heap.push (.cells (olds ++ news ++ Builtin.zeroCells zx.cells (grownCap w (sLen + m) sCap e' - (sLen + m))) e') := rfl
    have hcle : CLe σ w (ocs ++ cs) (olds ++ news ++ Builtin.zeroCells zx.cells (grownCap w (sLen + m) sCap e' - (sLen + m))) := by
      refine ⟨by simp [hor.1, hcr.1], fun j h1 h2 => ?_⟩
      simp only [List.length_append, hor.1, hcr.1] at h1
      rw [Array.getElem_append_left (by simp; omega)]
      by_cases hj : j < olds.size
      · rw [List.getElem_append_left (by rw [hor.1]; exact hj), Array.getElem_append_left hj]
        exact hor.2 _ _ _
      · rw [List.getElem_append_right (by rw [hor.1]; omega), Array.getElem_append_right (by omega)]
        simp only [hor.1]
        exact hcr.2 _ _ _
    obtain ⟨σ', g1, g2, g3⟩ := push_slot H k hcle hw rfl rfl rfl
    refine ⟨_, _, σ', hrun, g1, g2, ?_⟩
    refine .sl _ _ _ _ _ _ _ _ (by rw [g3, H.st]; exact Nat.le_refl _) (Nat.le_refl _) hge (fun b' R hk => ?_) (by rw [g3]; simp)
    rw [g3, H.st] at hk
    simp only [Ent.mk.injEq, Option.some.injEq, Prod.mk.injEq, true_and] at hk
    refine ⟨hk.1.symm, ?_⟩
    rw [← hk.2]
    simp only [Array.size_append, size_zeroCells', hszz, hs', hos, hns]
    rw [← Nat.add_mul, ← Nat.add_mul]
    have : sLen + m + (grownCap w (sLen + m) sCap e' - (sLen + m)) = grownCap w (sLen + m) sCap e' := by omega
    rw [this]
    omega
  cases d with
  | nils =>
    simp only at e
    cases id with
    | none => simp at e
    | some k =>
      simp only at e
      split at e
      · rename_i hh
        injection e with e
        injection e with e1 e2
        subst e1 e2
        have := fresh (k := k) (olds := #[]) (ocs := []) hd.nils_inv (by omega) (by omega) ⟨rfl, fun i h => by simp at h⟩ (by simp) (fun d => by simp [Builtin.firstCells])
        simpa [slTo] using this
      · simp at e
  | sl k off len cap sz' st =>
    simp only at e
    split at e
    case isFalse => simp at e
    case isTrue hsz =>
    subst hsz
    obtain ⟨ds, hds, e0⟩ := Option.bind_eq_some_iff.1 e
    replace e := e0
    clear e0
    split at e
    case isFalse => simp at e
    case isTrue hle =>
    have hgk := cellsAt_some hds
    have hstk : (hget h k).st = st := by rw [hgk]
    -- nothing changes
    have stays : ∀ {base : Option Addr} {c : Nat}, xd = .slice base len c → len ≤ c → m = 0 → ∀ {h2 : Heap}, (∀ j, hget h2 j = hget h j) → Done P σ w (Builtin.append_ ats ty #[xd, xx]) (.sl k off len cap sz st) h2 := by
      intro base c hxd hlc hm0 h2 hh2
      have hn0 : news.toList = [] := by
        have : news.size = 0 := by rw [hns, hm0]; simp
        simpa using this
      refine ⟨xd, w, σ, ?_, Ext.refl _ _, H.congr hh2, hd⟩
      rw [hxd, run_append_in (P := P) (w := w) (ty := ty) (w' := w) h0 h1 ht hu hdu hi hm hnw (by omega) (fun a ha => by rw [hn0]; simp [storeCells]) (fun _ => rfl)]
      simp [hm0]
    -- room
    have room : ∀ {b c : Nat}, xd = .slice (some ⟨b, off, none⟩) len c → (∀ b' R, σ k = ⟨st, some (some (b', R))⟩ → b' = b ∧ off + c * csz sz ≤ R) → σ k ≠ ⟨st, some none⟩ → len + m ≤ c →
        ∃ w', (Builtin.append_ ats ty #[xd, xx]).run P w = .ok (.slice (some ⟨b, off, none⟩) (len + m) c) w' ∧ ∃ R xs ty' fr, σ k = ⟨st, some (some (b, R))⟩ ∧ w.heap[b]? = some (.cells xs ty' fr) ∧ xs.size = R ∧ ds.length ≤ R ∧ (∀ j, j < R → ¬ (fr.1 ≤ j ∧ j < fr.2)) ∧ CLe σ w ds xs ∧
          Put w b (.cells (putA xs (off + len * csz sz) news.toList) ty' fr) w' ∧ off + len * csz sz + news.size ≤ R := by
      intro b c hxd hblk hnv hroom
      rcases H.cells hds with ⟨hk, _⟩ | ⟨b', R, xs, ty', fr, hk, hb, hR, hlen, hfr, hrel⟩
      · exact absurd hk hnv
      · obtain ⟨rfl, hR2⟩ := hblk b' R hk
        have hfit : off + len * csz sz + news.size ≤ R := by
          rw [hns]
          have : (len + m) * csz sz ≤ c * csz sz := Nat.mul_le_mul_right _ hroom
          rw [Nat.add_mul] at this
          omega
        have hone := all_one (σ := σ) (w := w) (vs := cs) (ys := news.toList) (by simpa using hcr.1) (fun i a b => by simpa using hcr.2 i a (by simpa using b)) hok
        obtain ⟨w', hr, hput⟩ := run_storeCells (P := P) b' (off + len * csz sz) news.toList 0 w xs ty' fr hb (by simp; omega) hone (by rw [hR]; exact hfr)
        refine ⟨w', ?_, R, xs, ty', fr, hk, hb, hR, hlen, hfr, ⟨by omega, hrel⟩, hput, hfit⟩
        rw [hxd]
        refine run_append_in (P := P) (w := w) (ty := ty) h0 h1 ht hu hdu hi hm hnw hroom (fun a ha => ?_) (fun ha => by simp at ha)
        injection ha with ha
        subst ha
        rw [add_plain, hs']
        exact hr
    split at e
    · rename_i hfront
      obtain ⟨rfl, hdl⟩ := hfront
      split at e
      · rename_i hm0
        injection e with e
        injection e with e1 e2
        subst e1 e2
        rcases hd.sl_inv with ⟨hst, ⟨a, hxd, rfl, rfl⟩ | ⟨b, c, hxd, h2, h3, h4, h5⟩⟩
        · exact stays hxd (Nat.le_refl _) hm0 (fun _ => rfl)
        · exact stays hxd (by omega) hm0 (fun _ => rfl)
      · rename_i hm0
        injection e with e
        injection e with e1 e2
        subst e1 e2
        have hgrow : ∀ {base : Option Addr} {sCap : Nat} {olds : Array Value}, xd = .slice base len sCap → sCap < len + m → CRel σ w ds olds → (∀ d, (Builtin.firstCells i.size len (.slice base len sCap)).run P { w with drawn := d } = .ok olds { w with drawn := d }) →
            Done P σ w (Builtin.append_ ats ty #[xd, xx]) (.sl k 0 (len + m) (len + m) sz (st + 1)) (hset h k ⟨st + 1, some (ds ++ cs)⟩) := by
          intro base sCap olds hxd hroom hor hfo
          have := fresh (k := k) hxd hroom hle hor hdl hfo
          rw [hstk] at this
          unfold newS at this
          rw [hstk] at this
          exact this
        rcases hd.sl_inv with ⟨hst, ⟨a, hxd, rfl, rfl⟩ | ⟨b, c, hxd, h2, h3, h4, h5⟩⟩
        · have hd0 : ds = [] := List.eq_nil_of_length_eq_zero (by simpa using hdl)
          subst hd0
          refine hgrow (olds := #[]) hxd (by omega) ⟨rfl, fun i h => by simp at h⟩ (fun d => ?_)
          cases a <;> simp [Builtin.firstCells, loadCells, loadCellsFrom]
        · by_cases hroom : len + m ≤ c
          · obtain ⟨w', hr, R, xs, ty', fr, hk, hb, hR, hlen, hfr, hcle, hput, hfit⟩ := room hxd h4 h5 hroom
            have t : Turn σ w k ⟨st + 1, some (some (b, R))⟩ w' := ⟨hput.os, hput.tape, hput.output, by rw [hput.size]; exact Nat.le_refl _, fun b' hb' hn => hput.other b' (fun e => hn R (by rw [hk, e])), .inr (by rw [hk]; exact Nat.lt_succ_self _), fun b' R' e => .inl ⟨R, by rw [hk]; simp at e; rw [e.1]⟩⟩
            have hcn : CLe σ w (ds ++ cs) (putA xs (0 + len * csz sz) news.toList) := by
              have hg := fun j => get_putA news.toList xs (0 + len * csz sz) j (by simp; omega)
              refine ⟨by rw [size_putA]; simp [hcr.1]; omega, fun j h1 h2 => ?_⟩
              simp only [List.length_append, hcr.1] at h1
              have hx := hg j
              rw [Array.getElem?_eq_getElem h2] at hx
              by_cases hj : j < ds.length
              · rw [if_neg (by omega), Array.getElem?_eq_getElem (by omega)] at hx
                injection hx with hx
                rw [hx, List.getElem_append_left hj]
                exact hcle.2 _ _ _
              · rw [if_pos (by simp; omega), List.getElem?_eq_getElem (by simp; omega)] at hx
                injection hx with hx
                rw [hx, List.getElem_append_right (by omega)]
                simp only [hdl, Nat.zero_add, Array.getElem_toList]
                exact hcr.2 _ _ _
            refine ⟨_, w', _, hr, t.ext, t.hrel H rfl ⟨_, ty', fr, hput.self, by rw [size_putA]; exact hR, by have := hcn.1; rw [size_putA] at this; omega, hfr, fun j a b => (hcn.2 j a b).ext t.ext⟩, ?_⟩
            have hup : updS σ k ⟨st + 1, some (some (b, R))⟩ k = ⟨st + 1, some (some (b, R))⟩ := by simp [updS]
            refine .sl _ _ _ _ _ _ _ _ (by rw [hup]; exact Nat.le_refl _) (Nat.le_refl _) hroom (fun b' R' hk' => ?_) (by rw [hup]; simp)
            rw [hup] at hk'
            simp only [Ent.mk.injEq, Option.some.injEq, Prod.mk.injEq, true_and] at hk'
            exact ⟨hk'.1.symm, by have := (h4 b R hk).2; omega⟩
          · rcases H.cells hds with ⟨hk, _⟩ | ⟨b', R, xs, ty', fr, hk, hb, hR, hlen, hfr, hrel⟩
            · exact absurd hk h5
            · obtain ⟨rfl, hR2⟩ := h4 b' R hk
              refine hgrow (olds := ((List.range (len * csz sz)).map fun j => xs.getD j undef).toArray) hxd (by omega) ⟨by simp [hdl], fun j h1 h2 => ?_⟩ (fun d => ?_)
              · simp only [List.getElem_toArray, List.getElem_map, List.getElem_range]
                rw [getD_lt (by omega)]
                exact hrel _ _ _
              · simp only [Builtin.firstCells, hs']
                refine run_loadCells _ _ _ (fun j => xs.getD j undef) (fun j hj => ?_)
                rw [add_plain, Nat.zero_add]
                show w.cell? _ = _
                rw [cell_of hb, getD_lt (by omega), Array.getElem?_eq_getElem (by omega)]
    · split at e
      · rename_i hfit
        injection e with e
        injection e with e1 e2
        subst e1 e2
        rcases hd.sl_inv with ⟨hst, ⟨a, hxd, rfl, rfl⟩ | ⟨b, c, hxd, h2, h3, h4, h5⟩⟩
        · have hm0 : m = 0 := by omega
          subst hm0
          have hcs0 : cs = [] := List.eq_nil_of_length_eq_zero (by simpa using hcl)
          subst hcs0
          refine stays hxd (Nat.le_refl _) rfl fun j => ?_
          rw [hget_hset]
          split
          · rename_i hj
            subst hj
            rw [hgk]
            simp [putCells]
          · rfl
        · obtain ⟨w', hr, R, xs, ty', fr, hk, hb, hR, hlen, hfr, hcle, hput, hft⟩ := room hxd h4 h5 (by omega)
          have hcn := CLe.put (σ := σ) (w := w) (cs := ds) (xs := xs) (ns := cs) (ys := news.toList) (off := off + len * csz sz) hcle (by simpa using hcr.1) (fun i a b => by simpa using hcr.2 i a (by simpa using b)) (by omega)
          obtain ⟨g1, g2⟩ := put_slot H hk hput (by rw [size_putA]; exact hR) hfr hcn
          exact ⟨_, w', σ, hr, g1, g2, .sl _ _ _ _ _ _ _ _ hst (by omega) (by omega) (fun b' R' hk' => h4 b' R' hk') h5⟩
      · simp at e
  | _ => simp at e

theorem all_take {cs : List V} {n : Nat} {p : V → Bool} (h : cs.all p = true) : (cs.take n).all p = true := by
  rw [List.all_eq_true] at h ⊢
  intro x hx
  exact h x (List.mem_of_mem_take hx)
theorem copy_done (H : HRel σ h w) {t e' : TypeId} {ty : TypeId} {ats : Array TypeId} (h0 : ats[0]? = some t) (ht : P.underlying t = some (.slice e')) {sz : Nat} (hs : szOf P e' = some sz) {d x : V} {xd xx : Value} (hd : VRel σ w d xd) (hx : VRel σ w x xx)
    {v : V} {h' : Heap} (e : copyV sz d x h = some (v, h')) : Done P σ w (Builtin.copy_ ats ty #[xd, xx]) v h' := by
  unfold copyV at e
  obtain ⟨⟨m, cs⟩, hsrc, e0⟩ := Option.bind_eq_some_iff.1 e
  replace e := e0
  clear e0
  simp only at e
  split at e
  case isFalse => simp at e
  case isTrue hok =>
  obtain ⟨hm, hcl, hnews⟩ := src_sound (P := P) H hx hsrc
  cases d with
  | sl k off len cap sz' st =>
    simp only at e
    split at e
    case isFalse => simp at e
    case isTrue hsz =>
    subst hsz
    obtain ⟨ds, hds, e0⟩ := Option.bind_eq_some_iff.1 e
    replace e := e0
    clear e0
    split at e
    case isFalse => simp at e
    case isTrue hfit =>
    injection e with e
    injection e with e1 e2
    subst e1 e2
    obtain ⟨news, hn, hcr⟩ := hnews (min m len) (Nat.min_le_left _ _)
    have hnw : (Builtin.firstCells (csz sz) (min m len) xx).run P w = .ok news w := hn w.drawn
    have hrun : ∀ {base : Option Addr} {c : Nat} {w' : World}, xd = .slice base len c → (∀ a, base = some a → (storeCells a news.toList).run P w = .ok () w') → (base = none → w' = w) → (Builtin.copy_ ats ty #[xd, xx]).run P w = .ok (.int .i64 (min m len : Nat)) w' := by
      intro base c w' hxd hst hno
      subst hxd
      have hmin : Nat.min m len = min m len := rfl
      simp only [Builtin.copy_, h0, List.getElem?_toArray, List.getElem?_cons_zero, List.getElem?_cons_succ, Sem.run_bind, run_underlying_of ht, Result.andThen_ok, run_sizeOf_sz hs, Sem.run_pure, hm, hmin, hnw]
      cases base with
      | none => rw [hno rfl]; simp [goInt]
      | some a => simp [hst a rfl, goInt]
    have hml : (cs.take (min m len * csz sz)).length = min m len * csz sz := by
      have : min m len * csz sz ≤ m * csz sz := Nat.mul_le_mul_right _ (Nat.min_le_left _ _)
      simp only [List.length_take]
      omega
    have hns : news.size = min m len * csz sz := by rw [← hcr.1, hml]
    rcases hd.sl_inv with ⟨hst, ⟨a, hxd, rfl, rfl⟩ | ⟨b, c, hxd, h2, h3, h4, h5⟩⟩
    · have h00 : min m 0 = 0 := by omega
      have hn0 : news.toList = [] := by
        have : news.size = 0 := by rw [hns, h00]; simp
        simpa using this
      refine ⟨_, w, σ, hrun (w' := w) hxd (fun a ha => by rw [hn0]; simp [storeCells]) (fun _ => rfl), Ext.refl _ _, H.congr fun j => ?_, .frz (.int _ _)⟩
      rw [hget_hset]
      split
      · rename_i hj
        subst hj
        rw [cellsAt_some hds]
        simp [h00, putCells]
      · rfl
    · rcases H.cells hds with ⟨hk, _⟩ | ⟨b', R, xs, ty', fr, hk, hb, hR, hlen, hfr, hrel⟩
      · exact absurd hk h5
      · obtain ⟨rfl, hR2⟩ := h4 b' R hk
        have hmin : min m len * csz sz ≤ len * csz sz := Nat.mul_le_mul_right _ (Nat.min_le_right _ _)
        have hone := all_one (σ := σ) (w := w) (vs := cs.take (min m len * csz sz)) (ys := news.toList) (by simpa using hcr.1) (fun i a b => by simpa using hcr.2 i a (by simpa using b)) (all_take hok)
        obtain ⟨w', hr, hput⟩ := run_storeCells (P := P) b' off news.toList 0 w xs ty' fr hb (by simp; omega) hone (by rw [hR]; exact hfr)
        have hcn := CLe.put (σ := σ) (w := w) (cs := ds) (xs := xs) (ns := cs.take (min m len * csz sz)) (ys := news.toList) (off := off) ⟨by omega, hrel⟩ (by simpa using hcr.1) (fun i a b => by simpa using hcr.2 i a (by simpa using b)) (by omega)
        obtain ⟨g1, g2⟩ := put_slot H hk hput (by rw [size_putA]; exact hR) hfr hcn
        exact ⟨_, w', σ, hrun hxd (fun a ha => by injection ha with ha; subst ha; exact hr) (fun ha => by simp at ha), g1, g2, .frz (.int _ _)⟩
  | _ => simp at e
end
end Mini
end
/- Freezing slots, and nil slices that become empty rows: nothing happens in memory. -/
section
set_option linter.unusedVariables false
set_option linter.unusedSimpArgs false
namespace Mini
open Go
section
variable {P : Program} {w : World}
theorem Turn.same {σ : Sg} {k : Nat} {e : Ent} (hst : e = σ k ∨ (σ k).st < e.st) (hn : ∀ b R, e.bl = some (some (b, R)) → ∃ R', (σ k).bl = some (some (b, R'))) : Turn σ w k e w :=
  ⟨rfl, rfl, rfl, Nat.le_refl _, fun _ _ _ => rfl, hst, fun b R h => .inl (hn b R h)⟩
theorem kill_sound {σ : Sg} {h : Heap} (H : HRel σ h w) (k : Nat) : Ext σ w (updS σ k ⟨(σ k).st + 1, none⟩) w ∧ HRel (updS σ k ⟨(σ k).st + 1, none⟩) (kill h k) w := by
  have t : Turn σ w k ⟨(σ k).st + 1, none⟩ w := Turn.same (.inr (Nat.lt_succ_self _)) (fun b R h => by simp at h)
  exact ⟨t.ext, t.hrel H (by rw [H.st]) trivial⟩
theorem kill_frz {σ : Sg} {h : Heap} (H : HRel σ h w) {k st b R : Nat} (hk : σ k = ⟨st, some (some (b, R))⟩) : Frz (updS σ k ⟨(σ k).st + 1, none⟩) w b := by
  refine ⟨H.lt (by rw [hk]), fun j R' e => ?_, H.nfd _ _ _ (by rw [hk])⟩
  unfold updS at e
  simp only at e
  split at e
  · simp at e
  · rename_i hj
    exact hj (H.inj _ _ _ _ _ e (by rw [hk]))
theorem Ext.frel {σ σ' : Sg} {v : V} {x : Value} (hx : Ext σ w σ' w) (h : FRel (Frz σ w) w v x) : FRel (Frz σ' w) w v x := h.mono fun b hf => ⟨hx.frz hf, rfl⟩
theorem frzL_sound {f : V → Heap → Option (V × Heap)} (hf : ∀ (v : V) (h : Heap) (v' : V) (h' : Heap) (σ : Sg) (x : Value), HRel σ h w → VRel σ w v x → f v h = some (v', h') → ∃ σ', Ext σ w σ' w ∧ HRel σ' h' w ∧ FRel (Frz σ' w) w v' x) :
    ∀ (cs : List V) (h : Heap) (cs' : List V) (h' : Heap) (σ : Sg) (c : Nat → Value), HRel σ h w → (∀ i (hi : i < cs.length), VRel σ w (cs[i]) (c i)) → frzL f cs h = some (cs', h') →
      ∃ σ', Ext σ w σ' w ∧ HRel σ' h' w ∧ cs'.length = cs.length ∧ ∀ i (hi : i < cs'.length), FRel (Frz σ' w) w (cs'[i]) (c i) := by
  intro cs
  induction cs with
  | nil =>
    intro h cs' h' σ c H _ e
    simp [frzL] at e
    obtain ⟨rfl, rfl⟩ := e
    exact ⟨σ, Ext.refl _ _, H, rfl, fun i hi => by simp at hi⟩
  | cons v cs ih =>
    intro h cs' h' σ c H hr e
    simp only [frzL] at e
    obtain ⟨⟨v1, h1⟩, e1, e⟩ := Option.bind_eq_some_iff.1 e
    obtain ⟨⟨l1, h2⟩, e2, e⟩ := Option.bind_eq_some_iff.1 e
    injection e with e
    injection e with ea eb
    subst ea eb
    obtain ⟨σ1, x1, H1, r1⟩ := hf v h v1 h1 σ (c 0) H (hr 0 (by simp)) e1
    obtain ⟨σ2, x2, H2, hl, r2⟩ := ih h1 l1 h2 σ1 (fun i => c (i + 1)) H1 (fun i hi => (hr (i + 1) (by simpa using hi)).ext x1) e2
    refine ⟨σ2, x1.trans x2, H2, by simp [hl], fun i hi => ?_⟩
    cases i with
    | zero => exact x2.frel r1
    | succ i => exact r2 i (by simpa using hi)
theorem frzV_sound : ∀ (n : Nat) (v : V) (h : Heap) (v' : V) (h' : Heap) (σ : Sg) (x : Value), HRel σ h w → VRel σ w v x → frzV n v h = some (v', h') → ∃ σ', Ext σ w σ' w ∧ HRel σ' h' w ∧ FRel (Frz σ' w) w v' x := by
  intro n
  induction n with
  | zero => intro v h v' h' σ x H hr e; simp [frzV] at e
  | succ n ih =>
    intro v h v' h' σ x H hr e
    have same : some (v, h) = some (v', h') → v.noRef = true → ∃ σ', Ext σ w σ' w ∧ HRel σ' h' w ∧ FRel (Frz σ' w) w v' x := by
      intro e hn
      injection e with e
      injection e with e1 e2
      subst e1 e2
      exact ⟨σ, Ext.refl _ _, H, noRef_frel (fr := fun _ => True) v x hn hr⟩
    cases v with
    | undef => simp [frzV] at e
    | ptr k o s => simp [frzV] at e
    | fn f a b => simp [frzV] at e
    | bool b => exact same (by simpa [frzV] using e) rfl
    | int k m => exact same (by simpa [frzV] using e) rfl
    | str s => exact same (by simpa [frzV] using e) rfl
    | nilp => exact same (by simpa [frzV] using e) rfl
    | nilf => exact same (by simpa [frzV] using e) rfl
    | nili => exact same (by simpa [frzV] using e) rfl
    | fz u => exact same (by simpa [frzV] using e) rfl
    | vec xs => exact same (by simpa [frzV] using e) rfl
    | nils =>
      simp only [frzV] at e
      injection e with e
      injection e with e1 e2
      subst e1 e2
      rw [hr.nils_inv]
      exact ⟨σ, Ext.refl _ _, H, .vec0 _ _⟩
    | iface t u =>
      simp only [frzV] at e
      obtain ⟨⟨u1, h1⟩, e1, e⟩ := Option.bind_eq_some_iff.1 e
      injection e with e
      injection e with ea eb
      subst ea eb
      obtain ⟨y, rfl, hy⟩ := hr.iface_inv
      obtain ⟨σ1, x1, H1, r1⟩ := ih u h u1 h1 σ y H hy e1
      exact ⟨σ1, x1, H1, .iface _ _ _ r1⟩
    | agg cs =>
      simp only [frzV] at e
      obtain ⟨⟨l1, h1⟩, e1, e⟩ := Option.bind_eq_some_iff.1 e
      injection e with e
      injection e with ea eb
      subst ea eb
      obtain ⟨xs, rfl, hl, hx⟩ := hr.agg_inv
      obtain ⟨σ1, x1, H1, hl1, r1⟩ := frzL_sound ih cs h l1 h1 σ (fun i => xs.getD i undef) H (fun i hi => by rw [getD_lt (by omega)]; exact hx i hi _) e1
      exact ⟨σ1, x1, H1, .agg _ _ (hl1.trans hl) fun i hi => by have hi' : i < l1.length := hi; have := r1 i hi; rwa [getD_lt (by omega)] at this⟩
    | tup cs =>
      simp only [frzV] at e
      obtain ⟨⟨l1, h1⟩, e1, e⟩ := Option.bind_eq_some_iff.1 e
      injection e with e
      injection e with ea eb
      subst ea eb
      obtain ⟨xs, rfl, hl, hx⟩ := hr.tup_inv
      obtain ⟨σ1, x1, H1, hl1, r1⟩ := frzL_sound ih cs h l1 h1 σ (fun i => xs.getD i undef) H (fun i hi => by rw [getD_lt (by omega)]; exact hx i hi _) e1
      exact ⟨σ1, x1, H1, .tup _ _ (hl1.trans hl) fun i hi => by have hi' : i < l1.length := hi; have := r1 i hi; rwa [getD_lt (by omega)] at this⟩
    | sl k off len cap sz st =>
      simp only [frzV] at e
      obtain ⟨ds, hds, e1⟩ := Option.bind_eq_some_iff.1 e
      split at e1
      case isFalse => simp at e1
      case isTrue hfit =>
      obtain ⟨⟨l1, h1⟩, e2, e3⟩ := Option.bind_eq_some_iff.1 e1
      simp only at e3
      split at e3
      case isFalse => simp at e3
      case isTrue hok =>
      injection e3 with e3
      injection e3 with ea eb
      subst ea eb
      obtain ⟨kx, kH⟩ := kill_sound H k
      have hlen : ((ds.drop off).take (len * csz sz)).length = len * csz sz := by simp; omega
      rcases hr.sl_inv with ⟨hst, ⟨a, rfl, rfl, rfl⟩ | ⟨b, c, rfl, h2, h3, h4, h5⟩⟩
      · obtain ⟨σ1, x1, H1, hl1, r1⟩ := frzL_sound ih _ _ l1 h1 _ (fun _ => undef) kH (fun i hi => by rw [hlen] at hi; simp at hi) e2
        exact ⟨σ1, kx.trans x1, H1, .vec0 _ _⟩
      · rcases H.cells hds with ⟨hk, _⟩ | ⟨b', R, xs, ty, fr, hk, hb, hR, hl, hfr, hrel⟩
        · exact absurd hk h5
        · obtain ⟨rfl, hR2⟩ := h4 b' R hk
          obtain ⟨σ1, x1, H1, hl1, r1⟩ := frzL_sound ih _ _ l1 h1 _ (fun j => xs.getD (off + j) undef) kH (fun i hi => by
            rw [hlen] at hi
            simp only [List.getElem_take, List.getElem_drop]
            rw [getD_lt (by omega)]
            exact (hrel _ (by omega) (by omega)).ext kx) e2
          refine ⟨σ1, kx.trans x1, H1, vec_flat hok (by rw [hl1, hlen]) (x1.frz (kill_frz H hk)) (by omega) (fun j => xs.getD (off + j) undef) (fun j hj => ?_) r1⟩
          rw [hl1, hlen] at hj
          rw [cell_of hb, getD_lt (by omega), Array.getElem?_eq_getElem (by omega)]
theorem frzP_sound {sz : Nat} {p v' : V} {h h' : Heap} {σ : Sg} {x : Value} (H : HRel σ h w) (hr : VRel σ w p x) (e : frzP sz p h = some (v', h')) : ∃ σ', Ext σ w σ' w ∧ HRel σ' h' w ∧ VRel σ' w v' x := by
  unfold frzP at e
  split at e
  · rename_i k st
    obtain ⟨ds, hds, e1⟩ := Option.bind_eq_some_iff.1 e
    split at e1
    case isFalse => simp at e1
    case isTrue hl0 =>
    obtain ⟨⟨l1, h1⟩, e2, e3⟩ := Option.bind_eq_some_iff.1 e1
    obtain ⟨u, hu, e4⟩ := Option.bind_eq_some_iff.1 e3
    injection e4 with e4
    injection e4 with ea eb
    subst ea eb
    obtain ⟨kx, kH⟩ := kill_sound H k
    have hpos := csz_pos sz
    rcases H.cells hds with ⟨hk, rfl⟩ | ⟨b', R, xs, ty, fr, hk, hb, hR, hl, hfr, hrel⟩
    · simp at hl0; omega
    · obtain ⟨b, rfl, _, hbb⟩ := hr.ptr_inv
      obtain rfl := hbb b' R hk
      obtain ⟨σ1, x1, H1, hl1, r1⟩ := frzL_sound (frzV_sound 8) _ _ l1 h1 _ (fun j => xs.getD j undef) kH (fun i hi => by
            rw [getD_lt (by omega)]
            exact (hrel _ (by omega) (by omega)).ext kx) e2
      refine ⟨σ1, kx.trans x1, H1, ?_⟩
      have := fz_part (σ := σ1) (w := w) (v := .agg l1) (off := 0) (o := 0) (c := fun j => xs.getD j undef) (x1.frz (kill_frz H hk)) (fun j hj => by
        have hj' : j < l1.length := hj
        rw [Nat.zero_add, cell_of hb, getD_lt (by omega), Array.getElem?_eq_getElem (by omega)]) (fun j hj => r1 j hj) hu
      simpa using this
  · injection e with e
    injection e with e1 e2
    subst e1 e2
    exact ⟨σ, Ext.refl _ _, H, hr⟩
  · simp at e
theorem new_virtual {σ : Sg} {h : Heap} (H : HRel σ h w) (id : Nat) : Ext σ w (updS σ id ⟨(σ id).st + 1, some none⟩) w ∧ HRel (updS σ id ⟨(σ id).st + 1, some none⟩) (newS id [] h) w := by
  have t : Turn σ w id ⟨(σ id).st + 1, some none⟩ w := Turn.same (.inr (Nat.lt_succ_self _)) (fun b R h => by simp at h)
  exact ⟨t.ext, t.hrel H (by rw [H.st]) rfl⟩
theorem promV_sound {id sz : Nat} {p v' : V} {h h' : Heap} {σ : Sg} {x : Value} (H : HRel σ h w) (hr : VRel σ w p x) (e : promV id sz p h = some (v', h')) : ∃ σ', Ext σ w σ' w ∧ HRel σ' h' w ∧ VRel σ' w v' x := by
  unfold promV at e
  split at e
  · injection e with e
    injection e with e1 e2
    subst e1 e2
    rw [hr.nils_inv]
    obtain ⟨g1, g2⟩ := new_virtual H id
    exact ⟨_, g1, g2, .sl0 _ _ _ _ _ (by simp [updS, H.st])⟩
  · injection e with e
    injection e with e1 e2
    subst e1 e2
    exact ⟨σ, Ext.refl _ _, H, hr⟩
/-- Only what is told of a slot changes. -/
theorem retell {σ : Sg} {h : Heap} (H : HRel σ h w) {k : Nat} {cs : List V} {st : Nat} (hst : (σ k).st = st) (hs : SlotRel σ w (some cs) (σ k).bl) : HRel σ (hset h k ⟨st, some cs⟩) w := by
  have t : Turn σ w k (σ k) w := Turn.same (.inl rfl) (fun b R h => ⟨R, h⟩)
  have he : updS σ k (σ k) = σ := updS_same σ k
  have hh := t.hrel (s := ⟨st, some cs⟩) H hst.symm (by rw [he]; exact hs)
  rwa [he] at hh
theorem promC_sound {id sz : Nat} {p : V} {h h' : Heap} {σ : Sg} (H : HRel σ h w) (e : promC p id sz h = some h') : ∃ σ', Ext σ w σ' w ∧ HRel σ' h' w := by
  unfold promC at e
  split at e
  · rename_i k off st
    obtain ⟨cs, hcs, e1⟩ := Option.bind_eq_some_iff.1 e
    split at e1
    · rename_i hoff
      split at e1
      · simp at e1
      · rename_i hne
        injection e1 with e1
        subst e1
        obtain ⟨g1, g2⟩ := new_virtual H id
        have hk' : updS σ id ⟨(σ id).st + 1, some none⟩ k = σ k := by simp [updS, hne]
        refine ⟨_, g1, retell g2 ?_ ?_⟩
        · rw [hk', ← H.st, cellsAt_some hcs]
        · rw [hk']
          obtain ⟨hlt, hcell⟩ := List.getElem?_eq_some_iff.1 hoff
          rcases H.cells hcs with ⟨hk, rfl⟩ | ⟨b', R, xs, ty, fr, hk, hb, hR, hl, hfr, hrel⟩
          · simp at hlt
          · rw [hk]
            have hcle : CLe σ w cs xs := ⟨by omega, hrel⟩
            have hp := CLe.put (σ := updS σ id ⟨(σ id).st + 1, some none⟩) (w := w) (cs := cs) (xs := xs) (ns := [slTo id 0 sz h]) (ys := [xs[off]'(by omega)]) (off := off) (hcle.ext g1) rfl (fun i h1 h2 => by
              have : i = 0 := by simpa using h1
              subst this
              have hv := hrel off hlt (by omega)
              rw [hcell] at hv
              simp only [List.getElem_cons_zero, hv.nils_inv]
              exact .sl0 _ _ _ _ _ (by simp [updS, H.st])) (by simp; omega)
            have hsame : putA xs off [xs[off]'(by omega)] = xs := by
              apply Array.ext_getElem?
              intro i
              rw [get_putA _ _ _ _ (by simp; omega)]
              split
              · rename_i hi
                have : i = off := by simp at hi; omega
                subst this
                simp [Array.getElem?_eq_getElem (show i < xs.size by omega)]
              · rfl
            rw [hsame] at hp
            exact ⟨xs, ty, fr, hb, hR, by have := hp.1; omega, hfr, hp.2⟩
    · injection e1 with e1
      subst e1
      exact ⟨σ, Ext.refl _ _, H⟩
    · simp at e1
  · simp at e
theorem frzC_sound {p : V} {h h' : Heap} {σ : Sg} (H : HRel σ h w) (e : frzC p h = some h') : ∃ σ', Ext σ w σ' w ∧ HRel σ' h' w := by
  unfold frzC at e
  split at e
  case h_2 => simp at e
  case h_1 k off st =>
  obtain ⟨cs, hcs, e⟩ := Option.bind_eq_some_iff.1 e
  split at e
  case h_2 => simp at e
  case h_1 v hoff =>
  obtain ⟨⟨v', h1⟩, hv, e⟩ := Option.bind_eq_some_iff.1 e
  obtain ⟨cs', hcs', e⟩ := Option.bind_eq_some_iff.1 e
  split at e
  case isFalse => simp at e
  case isTrue hlt' =>
  injection e with e
  subst e
  obtain ⟨hlt, hcell⟩ := List.getElem?_eq_some_iff.1 hoff
  rcases H.cells hcs with ⟨hk, rfl⟩ | ⟨b', R, xs, ty, fr, hk, hb, hR, hl, hfr, hrel⟩
  · simp at hlt
  have hvr := hrel off hlt (by omega)
  rw [hcell] at hvr
  obtain ⟨σ', hx, H', hf⟩ := frzV_sound 8 _ _ _ _ σ _ H hvr hv
  have hst' : (σ' k).st = st := by rw [← H'.st, cellsAt_some hcs']
  have hsame : σ' k = σ k := by
    rcases hx.sts k with h1 | h1
    · exact h1
    · rw [hst', hk] at h1
      exact absurd h1 (Nat.lt_irrefl _)
  refine ⟨σ', hx, retell H' hst' ?_⟩
  rcases H'.cells hcs' with ⟨hk', rfl⟩ | ⟨b2, R2, xs2, ty2, fr2, hk2, hb2, hR2, hl2, hfr2, hrel2⟩
  · simp at hlt'
  rw [hsame, hk] at hk2
  simp only [Ent.mk.injEq, Option.some.injEq, Prod.mk.injEq, true_and] at hk2
  obtain ⟨rfl, rfl⟩ := hk2
  rw [hb] at hb2
  simp only [Option.some.injEq, Obj.cells.injEq] at hb2
  obtain ⟨rfl, rfl, rfl⟩ := hb2
  rw [hsame, hk]
  have hcle : CLe σ' w cs' xs := ⟨by omega, hrel2⟩
  have hp := CLe.put (σ := σ') (w := w) (cs := cs') (xs := xs) (ns := [v']) (ys := [xs[off]'(by omega)]) (off := off) hcle rfl (fun i h1 h2 => by
    have : i = 0 := by simpa using h1
    subst this
    exact .frz hf) (by simp; omega)
  have hsame2 : putA xs off [xs[off]'(by omega)] = xs := by
    apply Array.ext_getElem?
    intro i
    rw [get_putA _ _ _ _ (by simp; omega)]
    split
    · rename_i hi
      have : i = off := by simp at hi; omega
      subst this
      simp [Array.getElem?_eq_getElem (show i < xs.size by omega)]
    · rfl
  rw [hsame2] at hp
  exact ⟨xs, ty, fr, hb, hR, hR ▸ hp.1, hfr, hp.2⟩
end
end Mini
end
