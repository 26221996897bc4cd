/- What is proved: values without memory: what they stand for, and the steps of the memory. No conditions beyond those in the statements. -/
import Derived.Calls
import Derived.Orders
import Derived.Below
import Derived.Deep.LoopGhost
import Derived.Laws.Cells
import Derived.Laws.CopyRow
import Derived.Laws.Append
import Derived.Laws.StructEq
import Derived.Laws.Rows
set_option linter.unusedVariables false
namespace Go.Pi

/-- A value without memory: what a Go value holds. -/
inductive PV where
  | bool (b : Bool)
  | int (k : IntKind) (n : Int)
  | str (s : ByteArray)
  | agg (cs : List PV)
  | tup (vs : List PV)
  | sl (ex : Bool) (xs : List PV)
  | ref (id sz off len cap : Nat) (ex : Bool)
  | ptr (id off : Nat)
  | at_ (cs : List PV)
  | fn (f : FuncId) (caps : List PV)
  | und
  | junk
deriving Inhabited

def PV.cells : PV → List PV
  | .agg cs => cs
  | v => [v]
/-- One cell of memory holds it. -/
def PV.cell1 : PV → Bool
  | .agg _ | .tup _ | .und | .junk => false
  | _ => true
def PV.scalar1 : PV → Bool
  | .bool _ | .int _ _ | .str _ => true
  | _ => false
def PV.scalar : PV → Bool
  | .tup vs => vs.all PV.scalar1
  | v => v.scalar1
/-- What a slice is good for is forgotten but for its elements. -/
def PV.nrm : PV → PV
  | .sl _ xs => .sl false xs
  | v => v
mutual
/-- No address is in it. -/
def clo : PV → Bool
  | .bool _ | .int _ _ | .str _ => true
  | .agg cs => cloL cs
  | .sl _ xs => cloL xs
  | .fn _ cs => cloL cs
  | _ => false
def cloL : List PV → Bool
  | [] => true
  | x :: xs => clo x && cloL xs
end

/-- A block: 'w': it may still be written. -/
inductive Blk where
  | dead
  | live (w : Bool) (ty : TypeId) (cs : List PV)
structure Mem where
  m : Nat → Blk
  nx : Nat
def upd {α : Type} (f : Nat → α) (i : Nat) (x : α) : Nat → α := fun j => if j = i then x else f j
def mem0 : Mem := ⟨fun _ => .dead, 0⟩
def Mem.put (M : Mem) (id : Nat) (b : Blk) : Mem := ⟨upd M.m id b, M.nx⟩
def Mem.new (M : Mem) (b : Blk) : Mem := ⟨upd M.m M.nx b, M.nx + 1⟩

def mkEl (sz : Nat) (cs : List PV) : PV := match sz, cs with | 1, [c] => c | _, _ => .agg cs
def chunk (sz : Nat) : Nat → List PV → List PV
  | 0, _ => []
  | n + 1, cs => .agg (cs.take sz) :: chunk sz n (cs.drop sz)
/-- The elements of a row, from an offset (in cells) on. -/
def elems (sz off len : Nat) (cs : List PV) : List PV :=
  if sz = 1 then (cs.drop off).take len else chunk sz len (cs.drop off)
def unif (size : Nat) (xs : List PV) : Bool := xs.all fun x => x.cells.length == size && x.cells.all PV.cell1
/-- Elements that can be told. -/
def gd (sz off len : Nat) (cs : List PV) : Bool :=
  decide (off + len * sz ≤ cs.length) && cloL (elems sz off len cs) && unif sz (elems sz off len cs) && (sz != 1 || (elems sz off len cs).all PV.cell1)
/-- What a cell holds now, without the right to write it. -/
def frz0 (M : Mem) : PV → Option PV
  | .bool b => some (.bool b)
  | .int k n => some (.int k n)
  | .str s => some (.str s)
  | .sl _ xs => some (.sl false xs)
  | .fn f cs => if cloL cs then some (.fn f cs) else none
  | .ref id sz off len _ _ => match M.m id with
    | .live _ _ cs => if gd sz off len cs = true then some (.sl false (elems sz off len cs)) else none
    | .dead => none
  | _ => none
def frzL0 (M : Mem) : List PV → Option (List PV)
  | [] => some []
  | x :: xs => (frz0 M x).bind fun y => (frzL0 M xs).map (y :: ·)
/-- What a value holds now. -/
def frz1 (M : Mem) : PV → Option PV
  | .agg cs => (frzL0 M cs).map .agg
  | v => frz0 M v
def frzL (M : Mem) : List PV → Option (List PV)
  | [] => some []
  | x :: xs => (frz1 M x).bind fun y => (frzL M xs).map (y :: ·)
def frz (M : Mem) : PV → Option PV
  | .tup vs => (frzL M vs).map .tup
  | v => frz1 M v
/-- What a list of cells leads to is not written any more. -/
def hold (M : Mem) : List PV → Mem
  | [] => M
  | .ref id _ _ _ _ _ :: xs => hold (match M.m id with | .live _ t c => M.put id (.live false t c) | .dead => M) xs
  | _ :: xs => hold M xs

/-! ### Types -/
inductive Sh where
  | slice (e : TypeId)
  | array (n : Nat) (e : TypeId)
  | struct (fs : List (Nat × Nat))
  | int (k : IntKind)
  | bool
  | other
structure Ti where
  sh : Sh
  size : Nat
  bytes : Nat
  zero : List PV
def cst : Value → Option PV
  | .bool b => some (.bool b)
  | .int k n => some (.int k n)
  | .string s => some (.str s)
  | .slice none 0 0 => some (.sl true [])
  | _ => none
def cstL : List Value → Option (List PV)
  | [] => some []
  | x :: xs => (cst x).bind fun y => (cstL xs).map (y :: ·)
def Ti.agg (t : Ti) : Bool := match t.sh with | .struct _ | .array _ _ => true | _ => false
def shOf (P : Program) : TypeDesc → Sh
  | .slice e => .slice e
  | .array n e => .array n e
  | .struct fs => .struct (fs.toList.map fun f => (f.offset, P.cellsOf f.type))
  | .int k => .int k
  | .bool => .bool
  | _ => .other
def fOk (P : Program) : TypeDesc → Bool
  | .struct fs => fs.toList.all fun f => (P.info? f.type).isSome
  | _ => true
def ti (P : Program) (t : TypeId) : Option Ti :=
  match P.info? t, P.underlying t with
  | some i, some d => match i.zero with
    | some z => if fOk P d = true then (cstL z.cells.toList).map fun zs => ⟨shOf P d, i.size, i.bytes, zs⟩ else none
    | none => none
  | _, _ => none

/-! ### Numbers -/
def bin (op : BinOp) : PV → PV → Option PV
  | .int k x, .int k' y =>
    match op with
    | .shl => if y < 0 then none else some (.int k (k.wrap (x * 2 ^ min y.toNat k.bits)))
    | .shr => if y < 0 then none else some (.int k (x.fdiv (2 ^ min y.toNat k.bits)))
    | op => if k = k' then
      match op with
      | .add => some (.int k (k.wrap (x + y)))
      | .sub => some (.int k (k.wrap (x - y)))
      | .mul => some (.int k (k.wrap (x * y)))
      | .quo => if y = 0 then none else some (.int k (k.wrap (x.tdiv y)))
      | .rem => if y = 0 then none else some (.int k (x.tmod y))
      | .and => some (.int k (k.wrap ((BitVec.ofInt k.bits x &&& BitVec.ofInt k.bits y).toNat : Nat)))
      | .or => some (.int k (k.wrap ((BitVec.ofInt k.bits x ||| BitVec.ofInt k.bits y).toNat : Nat)))
      | .eql => some (.bool (x == y))
      | .neq => some (.bool (x != y))
      | .lss => some (.bool (x < y))
      | .leq => some (.bool (x ≤ y))
      | .gtr => some (.bool (x > y))
      | .geq => some (.bool (x ≥ y))
      | _ => none
      else none
  | .bool x, .bool y => match op with
    | .eql => some (.bool (x == y))
    | .neq => some (.bool (!(x == y)))
    | _ => none
  | _, _ => none
/-- Are the cells of two structs equal? -/
def eqC : List PV → List PV → Option Bool
  | [], [] => some true
  | .int k a :: xs, .int k' b :: ys => if k = k' then (eqC xs ys).map (a == b && ·) else none
  | .bool a :: xs, .bool b :: ys => (eqC xs ys).map (a == b && ·)
  | _, _ => none
/-- Are the cells those of fields of whole numbers and bools, one behind the other? -/
def eqF (P : Program) : List Field → Nat → List PV → Bool
  | [], _, [] => true
  | f :: fs, o, c :: cs => f.name != "_" && f.offset == o && (match P.underlying f.type, c with
      | some .bool, .bool _ => true
      | some (.int _), .int _ _ => true
      | _, _ => false) && eqF P fs (o + 1) cs
  | _, _, _ => false
/-- A struct type of whole numbers and bools, and its cells. -/
def eqT (P : Program) (t : TypeId) (cs : List PV) : Bool := match P.underlying t with
  | some (.struct fs) => !P.stoodInHeld t && eqF P fs.toList 0 cs && !P.eqGuardType P.depth t
  | _ => false
def binA (op : BinOp) (ok : Bool) (cs ds : List PV) : Option PV :=
  match op, ok with
  | .eql, true => (eqC cs ds).map .bool
  | .neq, true => (eqC cs ds).map fun b => .bool !b
  | _, _ => none
def una (op : UnOp) : PV → Option PV
  | .int k n => match op with
    | .neg => some (.int k (k.wrap (0 - n)))
    | _ => none
  | .bool b => match op with
    | .not => some (.bool !b)
    | _ => none
  | _ => none

/-! ### Memory -/
def rdAt (t : Ti) (cs : List PV) : Option PV :=
  if t.agg then (if t.size ≤ cs.length then some (.agg (cs.take t.size)) else none) else match cs with | c :: _ => some c | [] => none
def setC (cs : List PV) (off : Nat) : List PV → List PV
  | [] => cs
  | v :: vs => setC (cs.set off v) (off + 1) vs

structure St where
  r : Nat → PV
  M : Mem

section
variable (P : Program) (C : FuncId → List PV → Mem → Option (PV × Mem)) (sh : FuncId → Bool)

def ev (r : Nat → PV) : Operand → Option PV
  | .tmp t => some (r t)
  | .const v => cst v
  | .func f => some (.fn f [])
  | .global _ => none
def evL (r : Nat → PV) : List Operand → Option (List PV)
  | [] => some []
  | x :: xs => (ev r x).bind fun y => (evL r xs).map (y :: ·)
/-- The bounds of a slice expression. -/
def bound (r : Nat → PV) (d : Nat) : Option Operand → Option Nat
  | none => some d
  | some x => match ev r x with
    | some (.int _ n) => if 0 ≤ n then some n.toNat else none
    | _ => none
/-- The elements of what is appended. -/
def items (M : Mem) : PV → Option (List PV)
  | .sl _ xs => some xs
  | .ref id sz off len _ _ => match M.m id with
    | .live _ _ cs => if gd sz off len cs = true then some (elems sz off len cs) else none
    | .dead => none
  | _ => none
def minmax (mx : Bool) : List PV → Option PV
  | [] => none
  | x :: xs => xs.foldlM (fun a y => match a, y with
    | .int k p, .int k' q => if k = k' then some (.int k (if mx then (if q > p then q else p) else (if q < p then q else p))) else none
    | _, _ => none) x
/-- Fields of a literal. -/
def place (fs : List (Nat × Nat)) (cs : List PV) : List (Nat × PV) → Option (List PV)
  | [] => some cs
  | (i, v) :: rest => match fs[i]? with
    | some (off, size) => if v.cells.length = size ∧ off + size ≤ cs.length ∧ v.cells.all PV.cell1 = true then place fs (setC cs off (v.cells.map PV.nrm)) rest else none
    | none => none
def evP (r : Nat → PV) : List (Nat × Operand) → Option (List (Nat × PV))
  | [] => some []
  | (i, x) :: xs => (ev r x).bind fun y => (evP r xs).map ((i, y) :: ·)
/-- Where the elements of a literal lie. -/
def rowF (size : Nat) : Nat → Nat → List (Nat × Nat)
  | _, 0 => []
  | off, n + 1 => (off, size) :: rowF size (off + size) n
def zeros (z : List PV) : Nat → List PV
  | 0 => []
  | n + 1 => z ++ zeros z n

/-- Is the first argument a slice? -/
def isSl (ts : Array TypeId) : Bool := match ts[0]? with
  | some t => match ti P t with
    | some ⟨.slice _, _, _, _⟩ => true
    | _ => false
  | none => false
/-- An operation that only computes. -/
def pureOp (r : Nat → PV) (M : Mem) : Op → Option PV
  | .move x | .assign x => ev r x
  | .pick c a b => match ev r c with
    | some (.bool true) => ev r a
    | some (.bool false) => ev r b
    | _ => none
  | .binOp op t x y _ => match ev r x, ev r y with
    | some (.agg cs), some (.agg ds) => binA op (eqT P t cs) cs ds
    | some (.bool p), some (.bool q) => match ti P t with
      | some ⟨.bool, _, _, _⟩ => bin op (.bool p) (.bool q)
      | _ => none
    | some a, some b => bin op a b
    | _, _ => none
  | .unOp op _ x => (ev r x).bind fun a => una op a
  | .convert s d x => match ev r x, ti P s, ti P d with
    | some (.int _ n), some _, some ⟨.int k, _, _, _⟩ => some (.int k (k.wrap n))
    | _, _, _ => none
  | .load t x => match ti P t, ev r x with
    | some t, some (.ptr id off) => match M.m id with
      | .live _ _ cs => rdAt t (cs.drop off)
      | .dead => none
    | some t, some (.at_ cs) => rdAt t cs
    | _, _ => none
  | .fieldAddr s x f => match ti P s, ev r x with
    | some ⟨.struct fs, _, _, _⟩, some v => match fs[f]? with
      | some (off, size) => if size = 0 then none else match v with
        | .ptr id o => some (.ptr id (o + off))
        | .at_ cs => some (.at_ (cs.drop off))
        | _ => none
      | none => none
    | _, _ => none
  | .indexAddr t x i => match ti P t, ev r x, ev r i with
    | some ⟨.slice e, _, _, _⟩, some v, some (.int _ n) => match ti P e with
      | some te => if 0 ≤ n then match v with
        | .sl _ xs => match xs[n.toNat]? with
          | some x => if x.cells.length = te.size ∧ 0 < te.size then some (.at_ x.cells) else none
          | none => none
        | .ref id sz off len _ _ => if n < len ∧ sz = te.size then some (.ptr id (off + n.toNat * te.size)) else none
        | _ => none else none
      | none => none
    | some ⟨.array k e, _, _, _⟩, some v, some (.int _ n) => match ti P e with
      | some te => if 0 ≤ n ∧ n < k then match v with
        | .ptr id off => some (.ptr id (off + n.toNat * te.size))
        | .at_ cs => some (.at_ (cs.drop (n.toNat * te.size)))
        | _ => none else none
      | none => none
    | _, _, _ => none
  | .slice t x lo hi mx => match ti P t, ev r x, bound r 0 lo with
    | some ⟨.slice e, _, _, _⟩, some v, some l => match ti P e, v with
      | some te, .sl ex xs => match bound r xs.length hi with
        | some h => if l ≤ h ∧ h ≤ xs.length ∧ (l = 0 ∨ unif te.size xs = true) then
            match mx with
            | none => some (.sl (ex && decide (h = xs.length)) ((xs.take h).drop l))
            | some _ => match bound r 0 mx with
              | some m => if m = h ∧ hi.isSome = true then some (.sl true ((xs.take h).drop l)) else none
              | none => none
          else none
        | none => none
      | some te, .ref id sz off len cap ex => match bound r len hi with
        | some h => if l ≤ h ∧ h ≤ cap ∧ h ≤ len ∧ sz = te.size then
            match mx with
            | none => some (.ref id sz (off + l * te.size) (h - l) (cap - l) ex)
            | some _ => match bound r 0 mx with
              | some m => if h ≤ m ∧ m ≤ cap ∧ hi.isSome = true then some (.ref id sz (off + l * te.size) (h - l) (m - l) true) else none
              | none => none
          else none
        | none => none
      | _, _ => none
    | some ⟨.array k e, _, _, _⟩, some (.ptr id off), _ => match lo, hi, mx, ti P e with
      | none, none, none, some te => match M.m id with
        | .live _ _ cs => if off + k * te.size ≤ cs.length then some (.ref id te.size off k k true) else none
        | .dead => none
      | _, _, _, _ => none
    | _, _, _ => none
  | .nilCheck x => match ev r x with
    | some (.ptr id off) => some (.ptr id off)
    | some (.fn f cs) => some (.fn f cs)
    | _ => none
  | .makeFunc (.func f) first caps => if first.size = 0 then (evL r caps.toList).map (.fn f) else none
  | .extract x i => match ev r x with
    | some (.tup vs) => vs[i]?
    | _ => none
  | .build t parts => match ti P t, evP r parts.toList with
    | some ⟨.struct fs, _, _, z⟩, some ps => (place fs z ps).map .agg
    | _, _ => none
  | .buildSlice t n parts => match ti P t, evP r parts.toList with
    | some ⟨.slice e, _, _, _⟩, some ps => match ti P e with
      | some te => if n * te.size ≤ 4096 ∧ 0 < n * te.size ∧ te.zero.length = te.size then match place (rowF te.size 0 n) (zeros te.zero n) ps with
        | some ds => if gd te.size 0 n ds = true then some (.sl true (elems te.size 0 n ds)) else none
        | none => none else none
      | none => none
    | _, _ => none
  | .call ⟨.builtin b, as, ts⟩ => (evL r as.toList).bind fun vs => match b, vs with
    | .len, [.sl _ xs] => if isSl P ts then some (.int .i64 xs.length) else none
    | .len, [.ref _ _ _ len _ _] => if isSl P ts then some (.int .i64 len) else none
    | .cap, [.sl true xs] => if isSl P ts then some (.int .i64 xs.length) else none
    | .cap, [.ref _ _ _ _ cap true] => if isSl P ts then some (.int .i64 cap) else none
    | .max, vs => minmax true vs
    | .min, vs => minmax false vs
    | _, _ => none
  | _ => none

/-! ### What writes -/
def flat (xs : List PV) : List PV := xs.flatMap PV.cells
/-- What the machine's bound on a row's bytes asks. -/
def room (n bytes : Nat) : Prop := (2 * n + 192) * bytes ≤ 281474976710656
instance (n bytes : Nat) : Decidable (room n bytes) := inferInstanceAs (Decidable (_ ≤ _))
/-- 'append' to what is full, its result to be read alone. -/
def appP (as : Array TypeId) (M : Mem) : List PV → Option PV
  | [.sl true xs, y] => match as[0]?, as[1]? with
    | some t, some u => match ti P t, ti P u with
      | some ⟨.slice e, _, _, _⟩, some ⟨.slice _, _, _, _⟩ => match ti P e, items M y with
        | some te, some ys => if ys = [] then some (.sl true xs) else if unif te.size xs && unif te.size ys && decide (0 < te.size ∧ 0 < te.bytes) && decide (room (xs.length + ys.length) te.bytes) then some (.sl false (xs ++ ys)) else none
        | _, _ => none
      | _, _ => none
    | _, _ => none
  | _ => none
/-- What is appended: elements, or so many zeros. -/
def news (te : Ti) (M : Mem) : Option Ti → PV → Option (List PV)
  | some ⟨.slice _, _, _, _⟩, y => items M y
  | some ⟨.int _, _, _, _⟩, .int .i64 n => if 0 ≤ n ∧ n ≤ 9223372036854775807 ∧ n * te.bytes ≤ 281474976710656 then some (List.replicate n.toNat (mkEl te.size (te.zero.map PV.nrm))) else none
  | _, _ => none
def PV.isSl : PV → Bool
  | .sl _ _ | .ref _ _ _ _ _ _ => true
  | _ => false
/-- 'append', its result a row of the call's own; a new one is block 'k'. -/
def app (k : Nat) (as : Array TypeId) (M : Mem) : List PV → Option (PV × (Nat → Blk))
  | [s, y] => match as[0]?, as[1]? with
    | some t, some u => match ti P t with
      | some ⟨.slice e, _, _, _⟩ => match ti P e with
        | some te => match news te M (ti P u) y with
          | some ys => if ys = [] then (if s.isSl then some (s, M.m) else none) else
            if unif te.size ys && decide (0 < te.size ∧ 0 < te.bytes ∧ te.zero.length = te.size) then match s with
            | .sl true xs => if unif te.size xs && decide (room (xs.length + ys.length) te.bytes) then some (.ref k te.size 0 (xs.length + ys.length) (xs.length + ys.length) false, upd M.m k (.live true e (flat xs ++ flat ys))) else none
            | .ref id sz off len cap ex => match M.m id with
              | .live w ty cs => if sz = te.size then
                  if len + ys.length ≤ cap then
                    if off + (len + ys.length) * sz ≤ cs.length ∧ w = true then some (.ref id sz off (len + ys.length) cap ex, upd M.m id (.live true ty (setC cs (off + len * sz) (flat ys)))) else none
                  else if room (len + ys.length) te.bytes then
                    if ex then
                      if off + len * sz ≤ cs.length then some (.ref k sz 0 (len + ys.length) (len + ys.length) false, upd M.m k (.live true e ((cs.drop off).take (len * sz) ++ flat ys))) else none
                    else if off = 0 ∧ cs.length = len * sz ∧ w = true ∧ ty = e then some (.ref k sz 0 (len + ys.length) (len + ys.length) false, upd (upd M.m id .dead) k (.live true e (cs ++ flat ys))) else none
                  else none
                else none
              | .dead => none
            | _ => none else none
          | none => none
        | none => none
      | _ => none
    | _, _ => none
  | _ => none
/-- A call: in the caller's memory, or for itself: then what is handed over, and may be in the answer, is not written any more. -/
def callOp (sh : FuncId → Bool) (f : FuncId) (vs : List PV) (M : Mem) : Option (PV × Mem) :=
  if sh f then (C f vs M).bind fun q => if M.nx ≤ q.2.nx then some q else none else
  (frzL M vs).bind fun as => (C f as mem0).bind fun q => (frz q.2 q.1).bind fun x => some (x, if x.scalar then M else hold M (flat vs))
def putR (r : Nat → PV) : Option Tmp → PV → Nat → PV
  | some d, v => upd r d v
  | none, _ => r
/-- Is an operation wanted? -/
def want (ops : Array Oper) (r : Nat → PV) (o : Oper) : Option Bool :=
  match o.guard with
  | none => some true
  | some (j, b) => match (ops[j]?).bind (·.dst) with
    | some t => match r t with
      | .bool c => some (c == b)
      | .und => some false
      | _ => none
    | none => some false
def store (t : Ti) (M : Mem) : PV → PV → Option Mem
  | .ptr id off, v => match M.m id with
    | .live true ty cs => if v.cells.length = t.size ∧ off + t.size ≤ cs.length ∧ v.cells.all PV.cell1 = true then some (M.put id (.live true ty (setC cs off (v.cells.map PV.nrm)))) else none
    | _ => none
  | _, _ => none
/-- What an operation answers, and the memory behind it. -/
def effOp (r : Nat → PV) (M : Mem) : Op → Option (PV × Mem)
  | .alloc e => (ti P e).bind fun t => some (.ptr M.nx 0, M.new (.live true e (t.zero.map PV.nrm)))
  | .box e x => (ev r x).bind fun v => (ti P e).bind fun t => if v.cells.length = t.size ∧ v.cells.all PV.cell1 = true then some (.ptr M.nx 0, M.new (.live true e (v.cells.map PV.nrm))) else none
  | .store t x v => match ti P t, ev r x, ev r v with
    | some t, some x, some v => (store t M x v).map fun M => (.und, M)
    | _, _, _ => none
  | .makeSlice t l c => match ti P t, ev r l, ev r c with
    | some ⟨.slice e, _, _, _⟩, some (.int .i64 l), some (.int .i64 c) => match ti P e with
      | some te => if 0 ≤ l ∧ l ≤ c ∧ c * te.bytes ≤ 281474976710656 ∧ te.zero.length = te.size ∧ 0 < te.size ∧ 0 < te.bytes then some (.ref M.nx te.size 0 l.toNat c.toNat true, M.new (.live true e (zeros (te.zero.map PV.nrm) c.toNat))) else none
      | none => none
    | _, _, _ => none
  | .call ⟨.builtin .append, xs, as⟩ => (evL r xs.toList).bind fun vs => (app P M.nx as M vs).map fun q => (q.1, ⟨q.2, M.nx + 1⟩)
  | .call ⟨.value g, xs, _⟩ => match ev r g with
    | some (.fn f cs) => (evL r xs.toList).bind fun vs => callOp C sh f (vs ++ cs) M
    | _ => none
  | op => (pureOp P r M op).map fun v => (v, M)
def step (ops : Array Oper) (o : Oper) (s : St) : Option St :=
  match want ops s.r o with
  | some true => (effOp P C sh s.r s.M o.op).map fun q => ⟨putR s.r o.dst q.1, q.2⟩
  | some false => some ⟨putR s.r o.dst .und, s.M⟩
  | none => none
def seqR (ops : Array Oper) : List Oper → St → Option St
  | [], s => some s
  | o :: rest, s => (step P C sh ops o s).bind fun s => seqR ops rest s

/-! ### A region whose order is open: what it makes is laid ahead -/
def preA (base : Nat) : Nat → List Oper → (Nat → Blk) → Option (Nat → Blk)
  | _, [], m => some m
  | i, o :: rest, m => match o.op with
    | .alloc e => (ti P e).bind fun t => preA base (i + 1) rest (upd m (base + i) (.live true e (t.zero.map PV.nrm)))
    | _ => preA base (i + 1) rest m
def nilFirst : List Operand → Bool
  | .const _ :: _ => true
  | _ => false
def ptrsOf : List PV → List Nat
  | [] => []
  | .ptr id _ :: vs => id :: ptrsOf vs
  | _ :: vs => ptrsOf vs
/-- The blocks that a load or a write is about. -/
def foot (k : Nat) (r : Nat → PV) : Op → List Nat
  | .load _ x | .slice _ x _ _ _ | .store _ x _ => match ev r x with
    | some (.ptr id _) => [id]
    | _ => []
  | .call ⟨.builtin .append, xs, _⟩ => k :: (match xs.toList with
    | x :: _ => match ev r x with
      | some (.ref id _ _ _ _ _) => [id]
      | _ => []
    | [] => [])
  | .call ⟨.value (.func _), xs, _⟩ => match evL r xs.toList with
    | some vs => ptrsOf vs
    | none => []
  | _ => []
/-- Two operations whose order is open are about different blocks. -/
def dis (ops : Array Oper) (base : Nat) (r : Nat → PV) (p : Nat × Nat) : Bool :=
  match ops[p.1]?, ops[p.2]? with
  | some x, some y => ((foot (base + p.1) r x.op).all fun a => decide (a < base + ops.size) && (foot (base + p.2) r y.op).all fun b => a != b) && (foot (base + p.2) r y.op).all fun b => decide (b < base + ops.size)
  | _, _ => false
/-- What an operation of such a region answers. -/
def drwOp (k : Nat) (r : Nat → PV) (M : Mem) : Op → Option (PV × Mem)
  | .alloc _ => some (.ptr k 0, M)
  | .store t x v => match ti P t, ev r x, ev r v with
    | some t, some x, some v => (store t M x v).map fun M => (.und, M)
    | _, _, _ => none
  | .call ⟨.builtin .append, xs, as⟩ => if nilFirst xs.toList then (evL r xs.toList).bind fun vs => (appP P as M vs).map fun v => (v, M) else (evL r xs.toList).bind fun vs => match vs with
    | [.sl true _, .sl false _] => (appP P as M vs).map fun v => (v, M)
    | _ => (app P k as M vs).map fun q => (q.1, ⟨q.2, M.nx⟩)
  | .call ⟨.value (.func f), xs, _⟩ => (evL r xs.toList).bind fun vs => callOp C sh f vs M
  | .call ⟨.value g, xs, _⟩ => match ev r g with
    | some (.fn f cs) => (evL r xs.toList).bind fun vs => callOp C (fun _ => false) f (vs ++ cs) M
    | _ => none
  | op => (pureOp P r M op).map fun v => (v, M)
def stepD (ops : Array Oper) (k : Nat) (o : Oper) (s : St) : Option St :=
  match want ops s.r o with
  | some true => (drwOp P C sh k s.r s.M o.op).map fun q => ⟨putR s.r o.dst q.1, q.2⟩
  | some false => some ⟨putR s.r o.dst .und, s.M⟩
  | none => none
def seqD (ops : Array Oper) (base : Nat) : Nat → List Oper → St → Option St
  | _, [], s => some s
  | i, o :: rest, s => (stepD P C sh ops (base + i) o s).bind fun s => seqD ops base (i + 1) rest s
def drwR (cf : List (Nat × Nat)) (ops : Array Oper) (s : St) : Option St :=
  (preA P s.M.nx 0 ops.toList s.M.m).bind fun m => (seqD P C sh ops s.M.nx 0 ops.toList ⟨s.r, ⟨m, s.M.nx + ops.size⟩⟩).bind fun s' => if cf.all (dis ops s.M.nx s'.r) then some s' else none

/-! ### Code -/
inductive Ex where
  | normal | exit (id : Nat) | ret
deriving DecidableEq
def iter : Nat → (St → Option (Ex × St)) → St → Option (Ex × St)
  | 0, _, _ => none
  | n + 1, f, s => match f s with
    | some (.normal, s') => iter n f s'
    | x => x
def seqE (x : Option (Ex × St)) (f : St → Option (Ex × St)) : Option (Ex × St) :=
  match x with
  | some (.normal, s) => f s
  | x => x
def blkE (id : Nat) (x : Option (Ex × St)) : Option (Ex × St) :=
  match x with
  | some (.exit i, s) => if i = id then some (.normal, s) else some (.exit i, s)
  | x => x
def exec (cf : Nat → List (Nat × Nat)) (n : Nat) : Code → St → Option (Ex × St)
  | .skip, s => some (.normal, s)
  | .region id ops draw, s => (if draw then drwR P C sh (cf id) ops s else seqR P C sh ops ops.toList s).map fun s => (.normal, s)
  | .seq a b, s => seqE (exec cf n a s) (exec cf n b)
  | .cond c x y, s => match ev s.r c with
    | some (.bool b) => if b then exec cf n x s else exec cf n y s
    | _ => none
  | .block id c, s => blkE id (exec cf n c s)
  | .loop c, s => iter n (exec cf n c) s
  | .exit id, s => some (.exit id, s)
  | .ret, s => some (.ret, s)
  | _, _ => none
def res1 (s : St) : ResultVar → Option PV
  | .tmp t => some (s.r t)
  | .cell a t => match ti P t, s.r a with
    | some t, .ptr id off => match s.M.m id with
      | .live _ _ cs => rdAt t (cs.drop off)
      | .dead => none
    | _, _ => none
def resL (s : St) : List ResultVar → Option (List PV)
  | [] => some []
  | x :: xs => (res1 P s x).bind fun y => (resL s xs).map (y :: ·)
def one : List PV → PV
  | [v] => v
  | vs => .tup vs
def ini : Nat → List PV → Nat → PV
  | _, [] => fun _ => .junk
  | i, v :: vs => upd (ini (i + 1) vs) i v
def runF (cf : Nat → List (Nat × Nat)) (n : Nat) (fn : Func) (args : List PV) (M : Mem) : Option (PV × Mem) :=
  match fn.body with
  | some c => if args.length ≤ fn.ntmps then
      match exec P C sh cf n c ⟨ini 0 args, M⟩ with
      | some (.normal, s) | some (.ret, s) => (resL P s fn.results.toList).map fun vs => (one vs, s.M)
      | _ => none
    else none
  | none => none
end
/-- A call, with a bound on depth and rounds; 'X': functions that are told apart; 'sh': which calls share their caller's memory; 'cf': which operations of a region may change places only for what they are about. -/
def call (P : Program) (X : FuncId → Option (List PV → Option PV)) (sh : FuncId → FuncId → Bool) (cf : FuncId → Nat → List (Nat × Nat)) : Nat → FuncId → List PV → Mem → Option (PV × Mem)
  | 0, _, _, _ => none
  | k + 1, f, args, M => match X f with
    | some g => (g args).map fun v => (v, M)
    | none => match P.funcs[f]? with
      | some fn => runF P (call P X sh cf k) (sh f) (cf f) k fn args M
      | none => none
end Go.Pi

set_option linter.unusedVariables false
namespace Go.Pi
/-! ### What is looked at once: the code's shape -/
/-- 0: neither reads nor writes memory; 1: reads one block; 2: reads; 3: may write. -/
def kd (sh : FuncId → Bool) : Op → Nat
  | .move _ | .assign _ | .pick .. | .alloc _ | .build .. | .buildSlice .. | .fieldAddr .. | .indexAddr .. | .unOp .. | .binOp .. | .convert .. | .makeFunc .. | .extract .. | .nilCheck _ => 0
  | .load .. | .slice .. => 1
  | .call ⟨.builtin b, xs, _⟩ => match b with
    | .len | .cap | .max | .min => 0
    | .append => if nilFirst xs.toList then 2 else 3
    | _ => 3
  | .call ⟨.value (.func f), _, _⟩ => if sh f then 3 else 2
  | .call ⟨.value (.tmp _), _, _⟩ => 2
  | _ => 3
def bitsOf (acc : List Nat) : List Edge → Nat
  | [] => 0
  | e :: es => if Region.binds .any e then bitsOf acc es ||| 2 ^ e.on ||| acc.getD e.on 0 else bitsOf acc es
/-- What must come ahead of each operation. -/
def befs : List Nat → List Oper → List Nat
  | acc, [] => acc
  | acc, o :: os => befs (acc ++ [bitsOf acc o.after.toList]) os
def tmps : List Operand → List Tmp
  | [] => []
  | .tmp t :: xs => t :: tmps xs
  | _ :: xs => tmps xs
def looks (ops : Array Oper) (o : Oper) : List Tmp :=
  tmps o.op.operands.toList ++ (match o.guard with
   | some (g, _) => match (ops[g]?).bind (·.dst) with | some t => [t] | none => []
   | none => [])
def aparts (lx ly : List Tmp) (dx dy : Option Tmp) : Bool :=
  (match dx with | some d => !ly.contains d && dy != some d | none => true) && (match dy with | some d => !lx.contains d | none => true)
/-- Does nothing from there on write what an operation looks at? -/
def stable (o : Oper) (from_ : List Oper) : Bool := from_.all fun x => match x.dst with | some d => !(tmps o.op.operands.toList).contains d | none => true
/-- May a write be told by what it is about? -/
def wOk (fr : List FuncId) : Op → Bool
  | .store .. => true
  | .call ⟨.builtin .append, _, _⟩ => true
  | .call ⟨.value (.func f), _, _⟩ => fr.contains f
  | _ => false
/-- Two operations whose order is open. -/
def pairOk (sh : FuncId → Bool) (fr : List FuncId) (cf : List (Nat × Nat)) (ops : Array Oper) (j i : Nat) (x y : Oper) : Bool :=
  aparts (looks ops x) (looks ops y) x.dst y.dst &&
    (kd sh x.op == 0 || kd sh y.op == 0 || (decide (kd sh x.op ≤ 2) && decide (kd sh y.op ≤ 2)) ||
      ((kd sh x.op == 1 && wOk fr y.op || wOk fr x.op && kd sh y.op == 1) && cf.contains (j, i) && stable x (ops.toList.drop j) && stable y (ops.toList.drop i)))
/-- One operation after those ahead of it. -/
def rowOk (sh : FuncId → Bool) (fr : List FuncId) (cf : List (Nat × Nat)) (ops : Array Oper) (b i : Nat) (o : Oper) : Nat → List Oper → Bool
  | _, [] => true
  | j, x :: xs => (b.testBit j || pairOk sh fr cf ops j i x o) && rowOk sh fr cf ops b i o (j + 1) xs
def rowsOk (sh : FuncId → Bool) (fr : List FuncId) (cf : List (Nat × Nat)) (ops : Array Oper) (bs : List Nat) : Nat → List Oper → Bool
  | _, [] => true
  | i, o :: os => o.after.toList.all (fun e => !Region.binds .any e || decide (e.on < i)) && rowOk sh fr cf ops (bs.getD i 0) i o 0 (ops.toList.take i) && rowsOk sh fr cf ops bs (i + 1) os
def drawOk (sh : FuncId → Bool) (fr : List FuncId) (cf : List (Nat × Nat)) (ops : Array Oper) : Bool := rowsOk sh fr cf ops (befs [] ops.toList) 0 ops.toList
def dstOk (n : Nat) (ops : Array Oper) : Bool := ops.toList.all fun o => match o.dst with | some d => decide (d < n) | none => true
def codeOk (sh : FuncId → Bool) (fr : List FuncId) (cf : Nat → List (Nat × Nat)) (n : Nat) : Code → Bool
  | .region id ops draw => dstOk n ops && (!draw || drawOk sh fr (cf id) ops)
  | .seq a b => codeOk sh fr cf n a && codeOk sh fr cf n b
  | .cond _ x y => codeOk sh fr cf n x && codeOk sh fr cf n y
  | .block _ c => codeOk sh fr cf n c
  | .loop c => codeOk sh fr cf n c
  | _ => true
def fnOk (sh : FuncId → Bool) (fr : List FuncId) (cf : Nat → List (Nat × Nat)) (fn : Func) : Bool :=
  match fn.body with
  | some c => codeOk sh fr cf fn.ntmps c && !(fn.name == "runtime.NumGoroutine")
  | none => true
end Go.Pi

set_option linter.unusedVariables false
set_option linter.unusedSimpArgs false
namespace Go.Pi
open Go.RowKit

/-! ### What a value stands for in a world -/
abbrev Fx := Nat → Nat → Prop
abbrev Bs := Nat → Option Nat

inductive Rep (w : World) (fx : Fx) (bs : Bs) : PV → Value → Prop
  | bool (b : Bool) : Rep w fx bs (.bool b) (.bool b)
  | int (k : IntKind) (n : Int) : Rep w fx bs (.int k n) (.int k n)
  | str (s : ByteArray) : Rep w fx bs (.str s) (.string s)
  | agg (cs : List PV) (vs : Array Value) (hl : cs.length = vs.size) (h : ∀ (i : Nat) c v, cs[i]? = some c → vs[i]? = some v → Rep w fx bs c v) : Rep w fx bs (.agg cs) (.agg vs)
  | tup (cs : List PV) (vs : Array Value) (hl : cs.length = vs.size) (h : ∀ (i : Nat) c v, cs[i]? = some c → vs[i]? = some v → Rep w fx bs c v) : Rep w fx bs (.tup cs) (.tuple vs)
  | sl (ex : Bool) (xs : List PV) (A : Option Addr) (n c sz : Nat) (vs : Nat → Value) (hn : n = xs.length) (hc : n ≤ c) (he : ex = true → c = n) (hcl : cloL xs = true) (hu : ∀ x, x ∈ xs → x.cells.length = sz)
      (hm : ∀ (j : Nat) x, (flat xs)[j]? = some x → ∃ ad, A = some ad ∧ ad.spot = none ∧ fx ad.block (ad.off + j) ∧ w.cell? ⟨ad.block, ad.off + j, none⟩ = some (vs j))
      (h : ∀ (j : Nat) x, (flat xs)[j]? = some x → Rep w fx bs x (vs j)) : Rep w fx bs (.sl ex xs) (.slice A n c)
  | ref (id sz off len cap : Nat) (ex : Bool) (b off' c : Nat) (hb : bs id = some b) (hl : len ≤ cap) (hc : cap ≤ c) (he : ex = true → c = cap) (ho : 0 < c → off' = off)
      (hr : ∃ (cells : Array Value) (ty : TypeId) (fr : Nat × Nat), w.heap[b]? = some (.cells cells ty fr) ∧ off + c * sz ≤ cells.size) : Rep w fx bs (.ref id sz off len cap ex) (.slice (some ⟨b, off', none⟩) len c)
  | ptr (id off b : Nat) (hb : bs id = some b) : Rep w fx bs (.ptr id off) (.pointer (some ⟨b, off, none⟩))
  | at_ (cs : List PV) (ad : Addr) (vs : Nat → Value) (hs : ad.spot = none) (hcl : cloL cs = true)
      (hm : ∀ (j : Nat) c, cs[j]? = some c → fx ad.block (ad.off + j) ∧ w.cell? ⟨ad.block, ad.off + j, none⟩ = some (vs j))
      (h : ∀ (j : Nat) c, cs[j]? = some c → Rep w fx bs c (vs j)) : Rep w fx bs (.at_ cs) (.pointer (some ad))
  | fn (f : FuncId) (cs : List PV) (vs : Array Value) (hl : cs.length = vs.size) (h : ∀ (i : Nat) c v, cs[i]? = some c → vs[i]? = some v → Rep w fx bs c v) : Rep w fx bs (.fn f cs) (.func (.func f) #[] vs)
  | und : Rep w fx bs .und undef
  | junk (v : Value) : Rep w fx bs .junk v

/-- What is fixed stays; no block has gone, none is shorter. -/
structure Ext (w w' : World) (fx : Fx) : Prop where
  cell : ∀ b o v, fx b o → w.cell? ⟨b, o, none⟩ = some v → w'.cell? ⟨b, o, none⟩ = some v
  row : ∀ (b : Nat) (cells : Array Value) (ty : TypeId) (fr : Nat × Nat), w.heap[b]? = some (.cells cells ty fr) → ∃ (cells' : Array Value) (fr' : Nat × Nat), w'.heap[b]? = some (.cells cells' ty fr') ∧ cells'.size = cells.size
theorem Ext.refl (w : World) (fx : Fx) : Ext w w fx := ⟨fun _ _ _ _ h => h, fun _ c _ fr h => ⟨c, fr, h, rfl⟩⟩
theorem Ext.trans {a b c : World} {fx : Fx} (h : Ext a b fx) (k : Ext b c fx) : Ext a c fx :=
  ⟨fun x o v hf hc => k.cell x o v hf (h.cell x o v hf hc), fun x cs ty fr hx => by
    obtain ⟨c1, f1, h1, e1⟩ := h.row x cs ty fr hx
    obtain ⟨c2, f2, h2, e2⟩ := k.row x c1 ty f1 h1
    exact ⟨c2, f2, h2, e2.trans e1⟩⟩
theorem Ext.less {a b : World} {fx fx' : Fx} (h : Ext a b fx') (hf : ∀ x o, fx x o → fx' x o) : Ext a b fx := ⟨fun x o v hx hc => h.cell x o v (hf x o hx) hc, h.row⟩

theorem Rep.mono {w w' : World} {fx fx' : Fx} {bs bs' : Bs} {p : PV} {v : Value} (h : Rep w fx bs p v) (he : Ext w w' fx) (hf : ∀ b o, fx b o → fx' b o) (hb : ∀ i b, bs i = some b → bs' i = some b) :
    Rep w' fx' bs' p v := by
  induction h with
  | bool b => exact .bool b
  | int k n => exact .int k n
  | str s => exact .str s
  | agg cs vs hl _ ih => exact .agg cs vs hl ih
  | tup cs vs hl _ ih => exact .tup cs vs hl ih
  | sl ex xs A n c sz vs hn hc hx hcl hu hm _ ih =>
    refine .sl ex xs A n c sz vs hn hc hx hcl hu (fun j x hj => ?_) ih
    obtain ⟨ad, h1, h2, h3, h4⟩ := hm j x hj
    exact ⟨ad, h1, h2, hf _ _ h3, he.cell _ _ _ h3 h4⟩
  | ref id sz off len cap ex b off' c hb' hl hc hx ho hr =>
    obtain ⟨cells, ty, fr, h1, h2⟩ := hr
    obtain ⟨c', fr', h3, h4⟩ := he.row _ _ _ _ h1
    exact .ref id sz off len cap ex b off' c (hb _ _ hb') hl hc hx ho ⟨c', ty, fr', h3, by omega⟩
  | ptr id off b hb' => exact .ptr id off b (hb _ _ hb')
  | at_ cs ad vs hs hcl hm _ ih =>
    refine .at_ cs ad vs hs hcl (fun j c hj => ?_) ih
    obtain ⟨h3, h4⟩ := hm j c hj
    exact ⟨hf _ _ h3, he.cell _ _ _ h3 h4⟩
  | fn f cs vs hl _ ih => exact .fn f cs vs hl ih
  | und => exact .und
  | junk v => exact .junk v

theorem cloL_all {xs : List PV} : cloL xs = true ↔ ∀ x, x ∈ xs → clo x = true := by
  induction xs with
  | nil => simp [cloL]
  | cons x xs ih => simp [cloL, ih]
theorem clo_cells {x : PV} (h : clo x = true) : ∀ c, c ∈ x.cells → clo c = true := by
  cases x <;> simp [PV.cells] <;> first | exact h | (simp [clo] at h; exact cloL_all.1 h) | skip
theorem cloL_flat {xs : List PV} (h : cloL xs = true) : ∀ c, c ∈ flat xs → clo c = true := by
  intro c hc
  unfold flat at hc
  obtain ⟨x, hx, hc⟩ := List.mem_flatMap.1 hc
  exact clo_cells (cloL_all.1 h x hx) c hc
/-- A value without addresses is good whatever the blocks are called. -/
theorem Rep.clo {w : World} {fx : Fx} {bs : Bs} {p : PV} {v : Value} (h : Rep w fx bs p v) (hc : clo p = true) (bs' : Bs) : Rep w fx bs' p v := by
  induction h with
  | bool b => exact .bool b
  | int k n => exact .int k n
  | str s => exact .str s
  | agg cs vs hl _ ih => exact .agg cs vs hl fun i c v h1 h2 => ih i c v h1 h2 (cloL_all.1 (by simpa [Pi.clo] using hc) c (List.mem_of_getElem? h1))
  | tup cs vs hl _ ih => simp [Pi.clo] at hc
  | sl ex xs A n c sz vs hn hc' hx hcl hu hm _ ih =>
    exact .sl ex xs A n c sz vs hn hc' hx hcl hu hm fun j x hj => ih j x hj (cloL_flat hcl x (List.mem_of_getElem? hj))
  | ref => simp [Pi.clo] at hc
  | ptr => simp [Pi.clo] at hc
  | at_ => simp [Pi.clo] at hc
  | fn f cs vs hl _ ih => exact .fn f cs vs hl fun i c v h1 h2 => ih i c v h1 h2 (cloL_all.1 (by simpa [Pi.clo] using hc) c (List.mem_of_getElem? h1))
  | und => simp [Pi.clo] at hc
  | junk => simp [Pi.clo] at hc

/-- The memory of the calls that share it: blocks from 'base' on; 'fb': what was fixed below. -/
structure Sim (base : Nat) (w0 : World) (fb : Fx) (fx : Fx) (bs : Bs) (M : Mem) (w : World) : Prop where
  below : Below base w0 w
  bb : base ≤ w.heap.size
  fxlt : ∀ b o, fx b o → b < w.heap.size
  fxb : ∀ b o, fx b o → b < base → fb b o
  live : ∀ id wr ty cs b, M.m id = .live wr ty cs → bs id = some b → base ≤ b ∧ ∃ cells : Array Value, w.heap[b]? = some (.cells cells ty (0, 0)) ∧ cs.length ≤ cells.size ∧
    (∀ (j : Nat) c v, cs[j]? = some c → cells[j]? = some v → Rep w fx bs c v) ∧ (wr = true → ∀ o, ¬ fx b o) ∧ (wr = false → ∀ o, o < cs.length → fx b o)
  inj : ∀ i j b wi ti ci wj tj cj, M.m i = .live wi ti ci → M.m j = .live wj tj cj → bs i = some b → bs j = some b → i = j
  nxt : ∀ id, M.nx ≤ id → M.m id = .dead ∧ bs id = none
/-- What an activation's variables hold. -/
def Env (w : World) (fx : Fx) (bs : Bs) (r : Nat → PV) (a : Act) : Prop := ∀ t, Rep w fx bs (r t) (a.tmps.getD t undef)
def RepL (w : World) (fx : Fx) (bs : Bs) (ps : List PV) (vs : Array Value) : Prop := ps.length = vs.size ∧ ∀ (i : Nat) c v, ps[i]? = some c → vs[i]? = some v → Rep w fx bs c v
theorem Env.mono {w w' : World} {fx fx' : Fx} {bs bs' : Bs} {r : Nat → PV} {a : Act} (h : Env w fx bs r a) (he : Ext w w' fx) (hf : ∀ b o, fx b o → fx' b o) (hb : ∀ i b, bs i = some b → bs' i = some b) : Env w' fx' bs' r a :=
  fun t => (h t).mono he hf hb
theorem RepL.mono {w w' : World} {fx fx' : Fx} {bs bs' : Bs} {ps : List PV} {vs : Array Value} (h : RepL w fx bs ps vs) (he : Ext w w' fx) (hf : ∀ b o, fx b o → fx' b o) (hb : ∀ i b, bs i = some b → bs' i = some b) : RepL w' fx' bs' ps vs :=
  ⟨h.1, fun i c v h1 h2 => (h.2 i c v h1 h2).mono he hf hb⟩
theorem Env.put {w : World} {fx : Fx} {bs : Bs} {r : Nat → PV} {a : Act} (h : Env w fx bs r a) {p : PV} {v : Value} (hp : Rep w fx bs p v) (d : Option Tmp) (hd : ∀ t, d = some t → t < a.tmps.size) : Env w fx bs (putR r d p) (a.put d v) := by
  intro t
  cases d with
  | none => exact h t
  | some d =>
    have := hd d rfl
    simp only [putR, upd, Act.put]
    by_cases e : t = d
    · subst e; simp [this]; exact hp
    · rw [if_neg e]
      have := h t
      simpa [Array.getElem?_setIfInBounds_ne (Ne.symm e)] using this
theorem Act.size_put (a : Act) (d : Option Tmp) (v : Value) : (a.put d v).tmps.size = a.tmps.size := by cases d <;> simp [Act.put]
theorem Act.defers_put (a : Act) (d : Option Tmp) (v : Value) : (a.put d v).defers = a.defers := by cases d <;> rfl
end Go.Pi

set_option linter.unusedVariables false
set_option linter.unusedSimpArgs false
namespace Go.Pi
open Go.RowKit

/-! ### Operations that only compute -/
section
variable {P : Program} {w : World} {fx : Fx} {bs : Bs} {r : Nat → PV} {a : Act}

theorem cst_ok {v : Value} {p : PV} (h : cst v = some p) : Rep w fx bs p v := by
  unfold cst at h
  split at h <;> simp at h <;> subst h
  · exact .bool _
  · exact .int _ _
  · exact .str _
  · exact .sl true [] none 0 0 0 (fun _ => undef) rfl (Nat.le_refl _) (fun _ => rfl) rfl (by simp) (by simp [flat]) (by simp [flat])
theorem ev_ok (hE : Env w fx bs r a) {x : Operand} {p : PV} (h : ev r x = some p) : Rep w fx bs p (a.eval x) := by
  cases x <;> simp [ev] at h
  · subst h; exact hE _
  · exact cst_ok h
  · subst h; exact .fn _ [] #[] rfl (by simp)
theorem evL_ok (hE : Env w fx bs r a) : ∀ {xs : List Operand} {ps : List PV}, evL r xs = some ps → ps.length = xs.length ∧ ∀ (i : Nat) c x, ps[i]? = some c → xs[i]? = some x → Rep w fx bs c (a.eval x)
  | [], ps, h => by simp [evL] at h; subst h; simp
  | x :: xs, ps, h => by
    simp only [evL, Option.bind_eq_some_iff, Option.map_eq_some_iff] at h
    obtain ⟨y, hy, ys, hys, rfl⟩ := h
    obtain ⟨h1, h2⟩ := evL_ok hE hys
    refine ⟨by simp [h1], fun i c z hc hz => ?_⟩
    cases i with
    | zero => simp at hc hz; subst hc; subst hz; exact ev_ok hE hy
    | succ i => simp at hc hz; exact h2 i c z hc hz
theorem evL_rep (hE : Env w fx bs r a) {xs : Array Operand} {ps : List PV} (h : evL r xs.toList = some ps) : RepL w fx bs ps (xs.map a.eval) := by
  obtain ⟨h1, h2⟩ := evL_ok hE h
  refine ⟨by simpa using h1, fun i c v hc hv => ?_⟩
  simp at hv
  obtain ⟨x, hx, rfl⟩ := hv
  exact h2 i c x hc (by simpa using hx)

theorem ti_spec {t : TypeId} {T : Ti} (h : ti P t = some T) : ∃ i d z, P.info? t = some i ∧ P.underlying t = some d ∧ i.zero = some z ∧ cstL z.cells.toList = some T.zero ∧ T.sh = shOf P d ∧ T.size = i.size ∧ T.bytes = i.bytes := by
  unfold ti at h
  split at h
  · rename_i i d hi hd
    split at h
    · rename_i z hz
      split at h
      · simp at h
        obtain ⟨zs, hzs, rfl⟩ := h
        exact ⟨i, d, z, hi, hd, hz, hzs, rfl, rfl, rfl⟩
      · simp at h
    · simp at h
  · simp at h
theorem shOf_slice {d : TypeDesc} {e : TypeId} (h : shOf P d = .slice e) : d = .slice e := by cases d <;> simp [shOf] at h <;> simp [h]
theorem shOf_array {d : TypeDesc} {n : Nat} {e : TypeId} (h : shOf P d = .array n e) : d = .array n e := by cases d <;> simp [shOf] at h <;> simp [h]
theorem shOf_int {d : TypeDesc} {k : IntKind} (h : shOf P d = .int k) : d = .int k := by cases d <;> simp [shOf] at h <;> simp [h]
theorem shOf_struct {d : TypeDesc} {fs : List (Nat × Nat)} (h : shOf P d = .struct fs) : ∃ gs, d = .struct gs ∧ fs = gs.toList.map fun f => (f.offset, P.cellsOf f.type) := by
  cases d <;> simp [shOf] at h
  exact ⟨_, rfl, h.symm⟩
theorem ti_fields {t : TypeId} {T : Ti} (h : ti P t = some T) {gs : Array Field} (hd : P.underlying t = some (.struct gs)) : ∀ f, f ∈ gs.toList → (P.info? f.type).isSome = true := by
  unfold ti at h
  rw [hd] at h
  split at h
  · rename_i i d hi hd'
    simp at hd'; subst hd'
    split at h
    · split at h
      · rename_i hf
        unfold fOk at hf
        rw [List.all_eq_true] at hf
        exact hf
      · simp at h
    · simp at h
  · simp at h
theorem run_sizeOf' {t : TypeId} {i : TypeInfo} (h : P.info? t = some i) (w : World) : (sizeOf t).run P w = .ok i.size w := by simp [sizeOf, typeInfo, h]
theorem run_zero' {t : TypeId} {i : TypeInfo} {z : Value} (h : P.info? t = some i) (hz : i.zero = some z) (w : World) : (zeroValue t).run P w = .ok z w := by simp [zeroValue, typeInfo, h, hz]
theorem run_isAgg' {t : TypeId} {T : Ti} (h : ti P t = some T) (w : World) : (isAgg t).run P w = .ok T.agg w := by
  obtain ⟨i, d, z, _, hd, _, _, hs, _, _⟩ := ti_spec h
  unfold isAgg Ti.agg
  rw [hs]
  cases d <;> simp [run_underlying hd, shOf]

/-! ### Numbers -/
theorem rep_int {k : IntKind} {n : Int} {v : Value} (h : Rep w fx bs (.int k n) v) : v = .int k n := by cases h; rfl
theorem rep_bool {b : Bool} {v : Value} (h : Rep w fx bs (.bool b) v) : v = .bool b := by cases h; rfl
theorem bin_int {op : BinOp} {t : TypeId} {x y : Operand} {k k' : IntKind} {m n : Int} {s : PV} (h : bin op (.int k m) (.int k' n) = some s) :
    ∃ v, (do eqGuard op t x y (.int k m) (.int k' n); binOp op t (.int k m) (.int k' n) : Sem Value).run P w = .ok v w ∧ Rep w fx bs s v := by
  simp only [bin] at h
  split at h
  · split at h
    · simp at h
    · rename_i hn
      simp at h; subst h
      refine ⟨_, ?_, Rep.int _ _⟩; simp [eqGuard_at_int, binOp_shl, Op.shift, hn]
  · split at h
    · simp at h
    · rename_i hn
      simp at h; subst h
      refine ⟨_, ?_, Rep.int _ _⟩; simp [eqGuard_at_int, binOp_shr, Op.shift, hn]
  · split at h
    · rename_i hk
      subst hk
      split at h
      all_goals first
        | (simp at h; done)
        | (split at h
           · simp at h
           · rename_i hn
             simp at h; subst h
             refine ⟨_, ?_, Rep.int _ _⟩; simp [eqGuard_at_int, binOp_quo, binOp_rem, Op.intDiv, hn])
        | (simp at h; subst h; first
           | (refine ⟨_, ?_, Rep.int _ _⟩; simp [eqGuard_at_int, binOp, Op.intArith, Op.intBits, Op.intCmp]; done)
           | (refine ⟨_, ?_, Rep.bool _⟩; simp [eqGuard_at_int, binOp, Op.intArith, Op.intBits, Op.intCmp]; done))
    · simp at h
theorem bin_bool {op : BinOp} {t : TypeId} {x y : Operand} {p q : Bool} {s : PV} {T : Ti} (hT : ti P t = some T) (hb : T.sh = .bool) (h : bin op (.bool p) (.bool q) = some s) :
    ∃ v, (do eqGuard op t x y (.bool p) (.bool q); binOp op t (.bool p) (.bool q) : Sem Value).run P w = .ok v w ∧ Rep w fx bs s v := by
  obtain ⟨i, d, z, _, hd, _, _, hs, _, _⟩ := ti_spec hT
  have hd' : d = .bool := by rw [hs] at hb; cases d <;> simp [shOf] at hb <;> rfl
  subst hd'
  simp only [bin] at h
  split at h
  · simp at h; subst h
    refine ⟨_, ?_, Rep.bool _⟩; simp [eqGuard_at_bool, binOp, run_equal_bool w t p q hd]
  · simp at h; subst h
    refine ⟨_, ?_, Rep.bool _⟩; simp [eqGuard_at_bool, binOp, run_equal_bool w t p q hd]
  · simp at h
theorem una_ok {op : UnOp} {p s : PV} {v : Value} (hx : Rep w fx bs p v) (h : una op p = some s) : ∃ v', (Op.unary op v).run P w = .ok v' w ∧ Rep w fx bs s v' := by
  unfold una at h
  split at h
  · rw [rep_int hx]
    split at h <;> simp at h
    subst h
    refine ⟨_, ?_, Rep.int _ _⟩; simp [Op.unary, Op.intArith]
  · rw [rep_bool hx]
    split at h <;> simp at h
    subst h
    refine ⟨_, ?_, Rep.bool _⟩; simp [Op.unary]
  · simp at h

/-! ### Cells -/
theorem rdAt_load {t : TypeId} {T : Ti} (hT : ti P t = some T) {cs : List PV} {p : PV} (h : rdAt T cs = some p) (ad : Addr)
    (hc : ∀ (j : Nat) c, cs[j]? = some c → ∃ v, w.cell? (ad.add j) = some v ∧ Rep w fx bs c v) : ∃ v, (loadVar t ad).run P w = .ok v w ∧ Rep w fx bs p v := by
  obtain ⟨i, d, z, hi, hd, _, _, hs, hz, _⟩ := ti_spec hT
  unfold rdAt at h
  unfold loadVar
  simp only [Sem.run_bind, run_isAgg' hT, Result.andThen_ok]
  split at h
  · rename_i ha
    split at h
    · rename_i hl
      simp at h; subst h
      have hx : ∀ j, j < T.size → ∃ v, w.cell? (ad.add j) = some v ∧ ∀ c, cs[j]? = some c → Rep w fx bs c v := fun j hj => by
        obtain ⟨v, hv, hr⟩ := hc j cs[j] (by simp [List.getElem?_eq_getElem (show j < cs.length by omega)])
        refine ⟨v, hv, fun c hcj => ?_⟩
        rw [List.getElem?_eq_getElem (show j < cs.length by omega)] at hcj
        simp at hcj; subst hcj; exact hr
      have hx' : ∃ f : Nat → Value, ∀ j, j < T.size → w.cell? (ad.add j) = some (f j) ∧ ∀ c, cs[j]? = some c → Rep w fx bs c (f j) := by
        refine ⟨fun j => (w.cell? (ad.add j)).getD undef, fun j hj => ?_⟩
        obtain ⟨v, hv, hr⟩ := hx j hj
        have e : (w.cell? (ad.add j)).getD undef = v := by rw [hv]; rfl
        show w.cell? (ad.add j) = some ((w.cell? (ad.add j)).getD undef) ∧ ∀ c, cs[j]? = some c → Rep w fx bs c ((w.cell? (ad.add j)).getD undef)
        rw [e]; exact ⟨hv, hr⟩
      obtain ⟨f, hf⟩ := hx'
      refine ⟨.agg ((List.range T.size).map f).toArray, ?_, .agg _ _ (by simp; omega) fun j c v h1 h2 => ?_⟩
      · simp only [ha, if_true, Sem.run_bind, run_sizeOf' hi, Result.andThen_ok, ← hz, run_loadCells w ad T.size f (fun j hj => (hf j hj).1), Sem.run_pure]
      · rw [List.getElem?_take] at h1
        split at h1
        · rename_i hj
          simp [hj] at h2
          subst h2
          exact (hf j hj).2 c h1
        · simp at h1
    · simp at h
  · rename_i ha
    cases cs with
    | nil => simp at h
    | cons c cs =>
      simp at h; subst h
      obtain ⟨v, hv, hr⟩ := hc 0 c rfl
      refine ⟨v, ?_, hr⟩
      have : ad.add 0 = ad := by simp [Addr.add]
      rw [this] at hv
      simp [ha, run_load, hv]
theorem add_none (ad : Addr) (hs : ad.spot = none) (n : Nat) : ad.add n = ⟨ad.block, ad.off + n, none⟩ := by
  obtain ⟨b, o, s⟩ := ad
  simp at hs; subst hs
  unfold Addr.add
  split <;> simp_all
theorem cell_of_block {w : World} {b : Nat} {cells : Array Value} {ty : TypeId} {fr : Nat × Nat} (h : w.heap[b]? = some (.cells cells ty fr)) (o : Nat) : w.cell? ⟨b, o, none⟩ = cells[o]? := by
  simp [World.cell?, h]
/-- What a live block's cells hold. -/
theorem Sim.cell {base : Nat} {w0 : World} {fb fx : Fx} {bs : Bs} {M : Mem} {w : World} (hS : Sim base w0 fb fx bs M w) {id : Nat} {wr : Bool} {ty : TypeId} {cs : List PV} {b : Nat}
    (hl : M.m id = .live wr ty cs) (hb : bs id = some b) {j : Nat} {c : PV} (hj : cs[j]? = some c) : ∃ v, w.cell? ⟨b, j, none⟩ = some v ∧ Rep w fx bs c v := by
  obtain ⟨_, cells, hh, hsz, hr, _, _⟩ := hS.live id wr ty cs b hl hb
  have hlt : j < cs.length := by
    rcases Nat.lt_or_ge j cs.length with h | h
    · exact h
    · rw [List.getElem?_eq_none h] at hj; cases hj
  refine ⟨cells[j]'(by omega), ?_, hr j c _ hj (Array.getElem?_eq_getElem (by omega))⟩
  rw [cell_of_block hh, Array.getElem?_eq_getElem (by omega)]
theorem load_ok {base : Nat} {w0 : World} {fb : Fx} {M : Mem} (hS : Sim base w0 fb fx bs M w) {t : TypeId} {T : Ti} (hT : ti P t = some T) {q p : PV} {v : Value} (hq : Rep w fx bs q v)
    (h : (match q with | .ptr id off => (match M.m id with | .live _ _ cs => rdAt T (cs.drop off) | .dead => none) | .at_ cs => rdAt T cs | _ => none) = some p) :
    ∃ u, (Instr.loadAt t v).run P w = .ok u w ∧ Rep w fx bs p u := by
  cases hq <;> try (simp at h; done)
  · rename_i id off b hb
    simp only at h
    split at h
    · rename_i wr ty cs hl
      obtain ⟨u, hu, hr⟩ := rdAt_load hT h ⟨b, off, none⟩ (fun j c hj => by
        rw [add_none _ rfl]
        rw [List.getElem?_drop] at hj
        exact hS.cell hl hb hj)
      exact ⟨u, by simp [Instr.loadAt, Instr.sureAddr, hu], hr⟩
    · simp at h
  · rename_i cs ad vs hs hcl hm hr'
    simp only at h
    obtain ⟨u, hu, hr⟩ := rdAt_load hT h ad (fun j c hj => by
        rw [add_none _ hs]
        exact ⟨_, (hm j c hj).2, hr' j c hj⟩)
    exact ⟨u, by simp [Instr.loadAt, Instr.sureAddr, hu], hr⟩

/-! ### Addresses -/
theorem fieldAt_ok {t : TypeId} {T : Ti} (hT : ti P t = some T) {fs : List (Nat × Nat)} (hfs : T.sh = .struct fs) {f : Nat} {off size : Nat} (hf : fs[f]? = some (off, size)) (h0 : size ≠ 0) (ad : Addr) :
    (Instr.fieldAt t (.pointer (some ad)) f).run P w = .ok (.pointer (some (ad.add off))) w := by
  obtain ⟨i, d, z, hi, hd, _, _, hs, hz, _⟩ := ti_spec hT
  obtain ⟨gs, rfl, hg⟩ := shOf_struct (hs ▸ hfs)
  subst hg
  simp only [List.getElem?_map, Option.map_eq_some_iff, Prod.mk.injEq] at hf
  obtain ⟨g, hg, rfl, rfl⟩ := hf
  have hg' : gs[f]? = some g := by simpa using hg
  have hc : ∃ j, P.info? g.type = some j ∧ P.cellsOf g.type = j.size := by
    unfold Program.cellsOf at h0 ⊢
    cases hj : P.info? g.type with
    | none => simp [hj] at h0
    | some j => exact ⟨j, rfl, rfl⟩
  obtain ⟨j, hj, hc⟩ := hc
  rw [hc] at h0
  simp [Instr.fieldAt, run_underlying hd, hg', Instr.sureAddr, fieldPlace, run_sizeOf' hj, h0]
theorem at_drop {cs : List PV} {ad : Addr} (h : Rep w fx bs (.at_ cs) (.pointer (some ad))) (off : Nat) : Rep w fx bs (.at_ (cs.drop off)) (.pointer (some (ad.add off))) := by
  cases h with | at_ _ _ vs hs hcl hm hr =>
  rw [add_none _ hs]
  refine .at_ _ _ (fun j => vs (off + j)) rfl ?_ (fun j c hj => ?_) (fun j c hj => ?_)
  · rw [cloL_all] at hcl ⊢
    exact fun x hx => hcl x (List.mem_of_mem_drop hx)
  · rw [List.getElem?_drop] at hj
    have := hm _ _ hj
    simpa [Nat.add_assoc] using this
  · rw [List.getElem?_drop] at hj
    exact hr _ _ hj
theorem ptr_add {id o b : Nat} (hb : bs id = some b) (off : Nat) : Rep w fx bs (.ptr id (o + off)) (.pointer (some ((⟨b, o, none⟩ : Addr).add off))) := by
  rw [add_none _ rfl]; exact .ptr _ _ _ hb

/-- Where an element's cells lie among a slice's. -/
theorem flat_at {sz : Nat} : ∀ {xs : List PV} (hu : ∀ x, x ∈ xs → x.cells.length = sz) {i : Nat} {x : PV} (hi : xs[i]? = some x) (j : Nat) {c : PV} (hj : x.cells[j]? = some c), (flat xs)[i * sz + j]? = some c
  | [], _, i, x, hi, _, _, _ => by simp at hi
  | y :: ys, hu, i, x, hi, j, c, hj => by
    have h0 := hu y (by simp)
    unfold flat at *
    rw [List.flatMap_cons]
    cases i with
    | zero =>
      simp at hi; subst hi
      have hlt : j < y.cells.length := (List.getElem?_eq_some_iff.1 hj).1
      rw [List.getElem?_append_left (by omega)]
      simpa using hj
    | succ i =>
      simp at hi
      rw [List.getElem?_append_right (by rw [h0, Nat.succ_mul]; omega)]
      have := flat_at (xs := ys) (fun x hx => hu x (by simp [hx])) hi j hj
      unfold flat at this
      rw [h0]
      rw [show (i + 1) * sz + j - sz = i * sz + j from by rw [Nat.succ_mul]; omega]
      exact this
theorem flat_length {sz : Nat} : ∀ {xs : List PV} (hu : ∀ x, x ∈ xs → x.cells.length = sz), (flat xs).length = xs.length * sz
  | [], _ => by simp [flat]
  | y :: ys, hu => by
    have := flat_length (xs := ys) (fun x hx => hu x (by simp [hx]))
    have h0 := hu y (by simp)
    unfold flat at *
    rw [List.flatMap_cons, List.length_append, this, h0, List.length_cons, Nat.succ_mul]; omega
theorem info_of {t : TypeId} {T : Ti} (hT : ti P t = some T) : ∃ i, P.info? t = some i ∧ i.size = T.size ∧ i.bytes = T.bytes := by
  obtain ⟨i, d, z, hi, _, _, _, _, h1, h2⟩ := ti_spec hT
  exact ⟨i, hi, h1.symm, h2.symm⟩
theorem slice_ty {t e : TypeId} {T : Ti} (hT : ti P t = some T) (hs : T.sh = .slice e) : P.underlying t = some (.slice e) := by
  obtain ⟨i, d, z, _, hd, _, _, h, _, _⟩ := ti_spec hT
  rw [hd, shOf_slice (P := P) (d := d) (h.symm.trans hs)]
theorem array_ty {t e : TypeId} {n : Nat} {T : Ti} (hT : ti P t = some T) (hs : T.sh = .array n e) : P.underlying t = some (.array n e) := by
  obtain ⟨i, d, z, _, hd, _, _, h, _, _⟩ := ti_spec hT
  rw [hd, shOf_array (P := P) (d := d) (h.symm.trans hs)]
theorem indexAt_slice {t e : TypeId} {T te : Ti} (hT : ti P t = some T) (hs : T.sh = .slice e) (he : ti P e = some te) (ad : Addr) (len c : Nat) (k : IntKind) (n : Int) (h0 : 0 ≤ n) (h1 : n < len) :
    (Instr.indexAt t (.slice (some ad) len c) (.int k n)).run P w = .ok (.pointer (some (ad.add (n.toNat * te.size)))) w := by
  obtain ⟨i, hi, h2, _⟩ := info_of he
  simp [Instr.indexAt, run_underlying (slice_ty hT hs), asIntOf, h0, h1, run_sizeOf' hi, h2]
theorem indexAt_array {t e : TypeId} {N : Nat} {T te : Ti} (hT : ti P t = some T) (hs : T.sh = .array N e) (he : ti P e = some te) (ad : Addr) (k : IntKind) (n : Int) (h0 : 0 ≤ n) (h1 : n < N) :
    (Instr.indexAt t (.pointer (some ad)) (.int k n)).run P w = .ok (.pointer (some (ad.add (n.toNat * te.size)))) w := by
  obtain ⟨i, hi, h2, _⟩ := info_of he
  simp [Instr.indexAt, run_underlying (array_ty hT hs), asIntOf, Instr.sureAddr, h0, h1, run_sizeOf' hi, h2]

/-! ### Slice expressions -/
theorem bound_ok (hE : Env w fx bs r a) {d n : Nat} {o : Option Operand} (h : bound r d o = some n) : (o = none ∧ n = d) ∨ ∃ k m, o.map a.eval = some (.int k m) ∧ o.isSome = true ∧ 0 ≤ m ∧ m.toNat = n := by
  unfold bound at h
  split at h
  · simp at h; exact .inl ⟨rfl, h.symm⟩
  · split at h
    · rename_i x k m hx
      split at h
      · rename_i h0
        simp at h
        exact .inr ⟨k, m, by simp [rep_int (ev_ok hE hx)], rfl, h0, h⟩
      · simp at h
    · simp at h
theorem run_sliceBound {k : IntKind} {m : Int} {y : Nat} {code : BoundsCode} (h0 : 0 ≤ m) (h1 : m ≤ y) : (Instr.sliceBound (.int k m) y code).run P w = .ok m.toNat w := by
  simp [Instr.sliceBound, asIntOf, h0, h1]
theorem run_slice {t e : TypeId} {T te : Ti} (hT : ti P t = some T) (hs : T.sh = .slice e) (he : ti P e = some te) (hE : Env w fx bs r a) {A : Option Addr} {len c l h m : Nat} {lo hi mx : Option Operand}
    (hl : bound r 0 lo = some l) (hh : bound r len hi = some h) (hm : (mx = none ∧ m = c) ∨ (hi.isSome = true ∧ mx.isSome = true ∧ bound r 0 mx = some m)) (h1 : l ≤ h) (h2 : h ≤ m) (h3 : m ≤ c) (hlen : len ≤ c) :
    (Instr.sliceAt t (.slice A len c) (lo.map a.eval) (hi.map a.eval) (mx.map a.eval)).run P w = .ok (.slice (if m = l then A else A.map (·.add (l * te.size))) (h - l) (m - l)) w := by
  obtain ⟨i, hi', h4, _⟩ := info_of he
  have hu := slice_ty hT hs
  have hB : (Instr.sliceBounds true len c (lo.map a.eval) (hi.map a.eval) (mx.map a.eval)).run P w = .ok (l, h, m) w := by
    unfold Instr.sliceBounds
    rcases hm with ⟨rfl, rfl⟩ | ⟨hhi, hmx, hm⟩
    · rcases bound_ok hE hh with ⟨rfl, rfl⟩ | ⟨k, q, hq, _, q0, rfl⟩
      · rcases bound_ok hE hl with ⟨rfl, rfl⟩ | ⟨k', p, hp, _, p0, rfl⟩
        · simp
        · simp [hp, run_sliceBound p0 (show p ≤ (h : Int) by omega)]
      · rcases bound_ok hE hl with ⟨rfl, rfl⟩ | ⟨k', p, hp, _, p0, rfl⟩
        · simp [hq, run_sliceBound q0 (show q ≤ (m : Int) by omega)]
        · simp [hq, hp, run_sliceBound q0 (show q ≤ (m : Int) by omega), run_sliceBound p0 (show p ≤ ((q.toNat : Nat) : Int) by omega)]
    · rcases bound_ok hE hm with ⟨rfl, rfl⟩ | ⟨k2, s, hs2, _, s0, rfl⟩
      · simp at hmx
      · rcases bound_ok hE hh with ⟨rfl, rfl⟩ | ⟨k, q, hq, _, q0, rfl⟩
        · simp at hhi
        · rcases bound_ok hE hl with ⟨rfl, rfl⟩ | ⟨k', p, hp, _, p0, rfl⟩
          · simp [hq, hs2, run_sliceBound s0 (show s ≤ (c : Int) by omega), run_sliceBound q0 (show q ≤ ((s.toNat : Nat) : Int) by omega)]
          · simp [hq, hs2, hp, run_sliceBound s0 (show s ≤ (c : Int) by omega), run_sliceBound q0 (show q ≤ ((s.toNat : Nat) : Int) by omega), run_sliceBound p0 (show p ≤ ((q.toNat : Nat) : Int) by omega)]
  simp [Instr.sliceAt, Instr.slice, run_underlying hu, hB, run_sizeOf' hi', h4]

theorem unif_all {size : Nat} {xs : List PV} (h : unif size xs = true) : ∀ x, x ∈ xs → x.cells.length = size ∧ ∀ c, c ∈ x.cells → c.cell1 = true := by
  intro x hx
  unfold unif at h
  rw [List.all_eq_true] at h
  have := h x hx
  simp at this
  exact ⟨this.1, this.2⟩
theorem flat_append (xs ys : List PV) : flat (xs ++ ys) = flat xs ++ flat ys := by unfold flat; rw [List.flatMap_append]
theorem flat_sub {sz : Nat} {xs : List PV} (hu : ∀ x, x ∈ xs → x.cells.length = sz) {l h : Nat} (hh : h ≤ xs.length) (hl : l ≤ h) {j : Nat} {x : PV} (hj : (flat ((xs.take h).drop l))[j]? = some x) : (flat xs)[l * sz + j]? = some x := by
  have e : xs = (xs.take h).take l ++ ((xs.take h).drop l ++ xs.drop h) := by rw [← List.append_assoc, List.take_append_drop, List.take_append_drop]
  have hlen : (flat ((xs.take h).take l)).length = l * sz := by
    rw [flat_length (sz := sz) (fun x hx => hu x (List.mem_of_mem_take (List.mem_of_mem_take hx)))]
    rw [List.length_take, List.length_take, Nat.min_eq_left (by omega)]
  rw [e, flat_append, flat_append, List.getElem?_append_right (by omega), hlen, show l * sz + j - l * sz = j by omega]
  have hlt : j < (flat ((xs.take h).drop l)).length := (List.getElem?_eq_some_iff.1 hj).1
  rw [List.getElem?_append_left hlt]
  exact hj
theorem sl_sub {ex ex' : Bool} {xs : List PV} {A : Option Addr} {n c l h m size : Nat} (hr : Rep w fx bs (.sl ex xs) (.slice A n c)) (h1 : l ≤ h) (h2 : h ≤ xs.length) (h3 : h ≤ m) (hex : ex' = true → m = h)
    (hz : l = 0 ∨ unif size xs = true) : Rep w fx bs (.sl ex' ((xs.take h).drop l)) (.slice (if m = l then A else A.map (·.add (l * size))) (h - l) (m - l)) := by
  cases hr with | sl _ _ _ _ _ sz vs hn hc he hcl hu hm hr =>
  have hmem : ∀ x, x ∈ (xs.take h).drop l → x ∈ xs := fun x hx => List.mem_of_mem_take (List.mem_of_mem_drop hx)
  refine .sl _ _ _ _ _ sz (fun j => vs (l * sz + j)) ?_ (by omega) (fun hx => by have := hex hx; omega) ?_ (fun x hx => hu x (hmem x hx)) (fun j x hj => ?_) (fun j x hj => hr _ _ (flat_sub hu h2 h1 hj))
  · rw [List.length_drop, List.length_take, Nat.min_eq_left h2]
  · rw [cloL_all] at hcl ⊢
    exact fun x hx => hcl x (hmem x hx)
  · obtain ⟨ad, rfl, hs, hf, hw⟩ := hm _ _ (flat_sub hu h2 h1 hj)
    by_cases e : m = l
    · exfalso
      have : (xs.take h).drop l = [] := List.drop_eq_nil_of_le (by rw [List.length_take]; omega)
      rw [this] at hj; simp [flat] at hj
    · have hsz : l * size = l * sz := by
        rcases hz with rfl | hz
        · simp
        · have hne : xs ≠ [] := fun e0 => by subst e0; simp [flat] at hj
          obtain ⟨x0, hx0⟩ := List.exists_mem_of_ne_nil xs hne
          rw [← (unif_all hz x0 hx0).1, hu x0 hx0]
      refine ⟨ad.add (l * size), by simp [e], ?_⟩
      rw [add_none _ hs, hsz]
      exact ⟨rfl, by simpa [Nat.add_assoc] using hf, by simpa [Nat.add_assoc] using hw⟩
theorem ref_sub {id sz off len cap c l h m cap' : Nat} {ex ex' : Bool} {A : Option Addr} (hr : Rep w fx bs (.ref id sz off len cap ex) (.slice A len c)) (h1 : l ≤ h) (h2 : h ≤ cap') (h3 : cap' ≤ m) (h4 : m ≤ c) (hex : ex' = true → m = cap') :
    Rep w fx bs (.ref id sz (off + l * sz) (h - l) (cap' - l) ex') (.slice (if m = l then A else A.map (·.add (l * sz))) (h - l) (m - l)) := by
  cases hr with | ref _ _ _ _ _ _ b off' _ hb hl hc he ho hr =>
  obtain ⟨cells, ty, fr, hw, hsz⟩ := hr
  have hz : (if m = l then some (⟨b, off', none⟩ : Addr) else (some (⟨b, off', none⟩ : Addr)).map (·.add (l * sz))) = some ⟨b, if m = l then off' else off' + l * sz, none⟩ := by
    split
    · rfl
    · simp [add_none]
  rw [hz]
  refine .ref _ _ _ _ _ _ b _ _ hb (by omega) (by omega) (fun hx => by have := hex hx; omega) (fun h0 => ?_) ⟨cells, ty, fr, hw, ?_⟩
  · rw [if_neg (by omega), ho (by omega)]
  · have : l * sz + (m - l) * sz ≤ c * sz := by
      rw [← Nat.add_mul]
      exact Nat.mul_le_mul_right _ (by omega)
    omega

/-! ### Rows of cells -/
def setL {α : Type} (l : List α) (off : Nat) : List α → List α
  | [] => l
  | v :: vs => setL (l.set off v) (off + 1) vs
theorem setC_setL (cs : List PV) (off : Nat) (vs : List PV) : setC cs off vs = setL cs off vs := by
  induction vs generalizing cs off with
  | nil => rfl
  | cons v vs ih => simp only [setC, setL, ih]
theorem setL_length {α : Type} (l : List α) (off : Nat) (vs : List α) : (setL l off vs).length = l.length := by
  induction vs generalizing l off with
  | nil => rfl
  | cons v vs ih => simp only [setL, ih, List.length_set]
theorem setL_get {α : Type} (l : List α) (off : Nat) (vs : List α) (j : Nat) : (setL l off vs)[j]? = if off ≤ j ∧ j < off + vs.length ∧ j < l.length then vs[j - off]? else l[j]? := by
  induction vs generalizing l off with
  | nil => simp [setL]; omega
  | cons v vs ih =>
    simp only [setL, ih, List.length_set, List.length_cons]
    by_cases h1 : j = off
    · subst h1
      rw [if_neg (by omega)]
      by_cases h2 : j < l.length
      · rw [if_pos (by omega), List.getElem?_set_self h2]; simp
      · rw [if_neg (by omega), List.getElem?_eq_none (by simp; omega), List.getElem?_eq_none (by omega)]
    · by_cases h2 : off + 1 ≤ j ∧ j < off + 1 + vs.length ∧ j < l.length
      · rw [if_pos h2, if_pos (by omega), show j - off = (j - (off + 1)) + 1 by omega, List.getElem?_cons_succ]
      · rw [if_neg h2, if_neg (by omega), List.getElem?_set_ne (by omega)]
theorem setL_splice {α : Type} (l : List α) (off : Nat) (vs : List α) (h : off + vs.length ≤ l.length) : setL l off vs = l.take off ++ vs ++ l.drop (off + vs.length) := by
  apply List.ext_getElem?
  intro j
  rw [setL_get, List.append_assoc]
  by_cases h1 : j < off
  · rw [if_neg (by omega), List.getElem?_append_left (by rw [List.length_take]; omega), List.getElem?_take, if_pos h1]
  · rw [List.getElem?_append_right (by rw [List.length_take]; omega), List.length_take, Nat.min_eq_left (by omega)]
    by_cases h2 : j < off + vs.length
    · rw [if_pos (by omega), List.getElem?_append_left (by omega)]
    · rw [if_neg (by omega), List.getElem?_append_right (by omega), List.getElem?_drop]
      congr 1
      omega
def RepS (w : World) (fx : Fx) (bs : Bs) (cs : List PV) (l : List Value) : Prop := cs.length = l.length ∧ ∀ (j : Nat) c v, cs[j]? = some c → l[j]? = some v → Rep w fx bs c v
theorem RepS.set {cs : List PV} {l : List Value} {ps : List PV} {us : List Value} (h : RepS w fx bs cs l) (k : RepS w fx bs ps us) (off : Nat) : RepS w fx bs (setL cs off ps) (setL l off us) := by
  refine ⟨by rw [setL_length, setL_length]; exact h.1, fun j c v hc hv => ?_⟩
  rw [setL_get] at hc hv
  rw [k.1, h.1] at hc
  split at hc
  · rename_i h1
    rw [if_pos h1] at hv
    exact k.2 _ c v hc hv
  · rename_i h1
    rw [if_neg h1] at hv
    exact h.2 _ c v hc hv
theorem nrm_rep {p : PV} {v : Value} (h : Rep w fx bs p v) : Rep w fx bs p.nrm v := by
  cases p <;> try exact h
  cases h with | sl _ _ _ _ _ sz vs hn hc he hcl hu hm hr => exact .sl false _ _ _ _ sz vs hn hc (by simp) hcl hu hm hr
theorem cells_rep {p : PV} {v : Value} (h : Rep w fx bs p v) (h1 : p.cells.all PV.cell1 = true) : RepS w fx bs p.cells v.cells.toList := by
  cases h with
  | agg cs vs hl h => exact ⟨by simpa [PV.cells, Value.cells] using hl, fun j c v hc hv => h j c v hc (by simpa [Value.cells] using hv)⟩
  | tup => simp [PV.cells, PV.cell1] at h1
  | und => simp [PV.cells, PV.cell1] at h1
  | junk => simp [PV.cells, PV.cell1] at h1
  | bool b => refine ⟨by simp [PV.cells, Value.cells], fun j c v hc hv => ?_⟩; cases j <;> simp [PV.cells, Value.cells] at hc hv; subst hc; subst hv; exact .bool b
  | int k n => refine ⟨by simp [PV.cells, Value.cells], fun j c v hc hv => ?_⟩; cases j <;> simp [PV.cells, Value.cells] at hc hv; subst hc; subst hv; exact .int k n
  | str s => refine ⟨by simp [PV.cells, Value.cells], fun j c v hc hv => ?_⟩; cases j <;> simp [PV.cells, Value.cells] at hc hv; subst hc; subst hv; exact .str s
  | sl ex xs A n c sz vs hn hc he hcl hu hm hr => refine ⟨by simp [PV.cells, Value.cells], fun j c v hc' hv => ?_⟩; cases j <;> simp [PV.cells, Value.cells] at hc' hv; subst hc'; subst hv; exact .sl ex xs A n _ sz vs hn hc he hcl hu hm hr
  | ref id sz off len cap ex b off' c hb hl hc he ho hr => refine ⟨by simp [PV.cells, Value.cells], fun j c v hc' hv => ?_⟩; cases j <;> simp [PV.cells, Value.cells] at hc' hv; subst hc'; subst hv; exact .ref id sz off len cap ex b off' _ hb hl hc he ho hr
  | ptr id off b hb => refine ⟨by simp [PV.cells, Value.cells], fun j c v hc hv => ?_⟩; cases j <;> simp [PV.cells, Value.cells] at hc hv; subst hc; subst hv; exact .ptr id off b hb
  | at_ cs ad vs hs hcl hm hr => refine ⟨by simp [PV.cells, Value.cells], fun j c v hc hv => ?_⟩; cases j <;> simp [PV.cells, Value.cells] at hc hv; subst hc; subst hv; exact .at_ cs ad vs hs hcl hm hr
  | fn f cs vs hl hr => refine ⟨by simp [PV.cells, Value.cells], fun j c v hc hv => ?_⟩; cases j <;> simp [PV.cells, Value.cells] at hc hv; subst hc; subst hv; exact .fn f cs vs hl hr
theorem RepS.nrm {cs : List PV} {l : List Value} (h : RepS w fx bs cs l) : RepS w fx bs (cs.map PV.nrm) l :=
  ⟨by simpa using h.1, fun j c v hc hv => by simp at hc; obtain ⟨d, hd, rfl⟩ := hc; exact nrm_rep (h.2 j d v hd hv)⟩
theorem cell1_one {p : PV} {v : Value} (h : Rep w fx bs p v) (h1 : p.cell1 = true) : v.oneCell' = true := by
  cases h <;> first | (simp [PV.cell1] at h1; done) | rfl
theorem RepS.mono {w' : World} {fx' : Fx} {bs' : Bs} {cs : List PV} {l : List Value} (h : RepS w fx bs cs l) (he : Ext w w' fx) (hf : ∀ b o, fx b o → fx' b o) (hb : ∀ i b, bs i = some b → bs' i = some b) : RepS w' fx' bs' cs l :=
  ⟨h.1, fun j c v hc hv => (h.2 j c v hc hv).mono he hf hb⟩
theorem fold_set (off : Nat) : ∀ (l : List Value) (k : Nat) (cells : Array Value), ((l.zipIdx k).foldl (fun cs (q : Value × Nat) => cs.setIfInBounds (off + q.2) q.1) cells).toList = setL cells.toList (off + k) l
  | [], _, _ => rfl
  | v :: l, k, cells => by
    rw [List.zipIdx_cons, List.foldl_cons, fold_set off l (k + 1)]
    simp [setL, Nat.add_assoc]
theorem evP_ok (hE : Env w fx bs r a) : ∀ {xs : List (Nat × Operand)} {ps : List (Nat × PV)}, evP r xs = some ps → ps.length = xs.length ∧ ∀ (i : Nat) q x, ps[i]? = some q → xs[i]? = some x → q.1 = x.1 ∧ Rep w fx bs q.2 (a.eval x.2)
  | [], ps, h => by simp [evP] at h; subst h; simp
  | (j, x) :: xs, ps, h => by
    simp only [evP, Option.bind_eq_some_iff, Option.map_eq_some_iff] at h
    obtain ⟨y, hy, ys, hys, rfl⟩ := h
    obtain ⟨h1, h2⟩ := evP_ok hE hys
    refine ⟨by simp [h1], fun i c z hc hz => ?_⟩
    cases i with
    | zero => simp at hc hz; subst hc; subst hz; exact ⟨rfl, ev_ok hE hy⟩
    | succ i => simp at hc hz; exact h2 i c z hc hz
theorem fill_ok {fs : List (Nat × Nat)} (pl : Nat → Option (Nat × Nat)) (hp : ∀ i q, fs[i]? = some q → pl i = some q) : ∀ {ps : List (Nat × PV)} {us : List (Nat × Value)} {cs ds : List PV} {cells : Array Value},
    ps.length = us.length → (∀ (i : Nat) q x, ps[i]? = some q → us[i]? = some x → q.1 = x.1 ∧ Rep w fx bs q.2 x.2) → place fs cs ps = some ds → RepS w fx bs cs cells.toList →
    ∃ out, Instr.fill pl cells us = some out ∧ RepS w fx bs ds out.toList
  | [], [], cs, ds, cells, _, _, h, hc => by simp [place] at h; subst h; exact ⟨cells, rfl, hc⟩
  | [], _ :: _, _, _, _, hl, _, _, _ => by simp at hl
  | _ :: _, [], _, _, _, hl, _, _, _ => by simp at hl
  | (i, v) :: ps, (j, u) :: us, cs, ds, cells, hl, hr, h, hc => by
    obtain ⟨e, hvu⟩ := hr 0 (i, v) (j, u) rfl rfl
    simp at e; subst e
    simp only [place] at h
    split at h
    · rename_i off size hf
      split at h
      · rename_i hcond
        obtain ⟨hc1, hc2, hc3⟩ := hcond
        have hcr := cells_rep hvu hc3
        have hlen : v.cells.length = u.cells.size := by simpa using hcr.1
        have hcs : cs.length = cells.size := by simpa using hc.1
        rw [setC_setL] at h
        have hset := hc.set hcr.nrm off
        have hstep : (u.cells.zipIdx.foldl (fun cs (c, j) => cs.setIfInBounds (off + j) c) cells).toList = setL cells.toList off u.cells.toList := by
          rw [← Array.foldl_toList, Array.toList_zipIdx]
          exact fold_set off u.cells.toList 0 cells
        rw [← hstep] at hset
        obtain ⟨out, ho, hro⟩ := fill_ok pl hp (by simpa using hl) (fun i q x h1 h2 => hr (i + 1) q x (by simpa using h1) (by simpa using h2)) h hset
        refine ⟨out, ?_, hro⟩
        simp only [Instr.fill, hp _ _ hf]
        rw [if_neg (by simp; omega)]
        exact ho
      · simp at h
    · simp at h

/-! ### Literals -/
theorem cstL_ok {w : World} {fx : Fx} {bs : Bs} : ∀ {l : List Value} {ps : List PV}, cstL l = some ps → RepS w fx bs ps l
  | [], ps, h => by simp [cstL] at h; subst h; exact ⟨rfl, by simp⟩
  | x :: xs, ps, h => by
    simp only [cstL, Option.bind_eq_some_iff, Option.map_eq_some_iff] at h
    obtain ⟨y, hy, ys, hys, rfl⟩ := h
    obtain ⟨h1, h2⟩ := cstL_ok hys
    refine ⟨by simp [h1], fun i c v hc hv => ?_⟩
    cases i with
    | zero => simp at hc hv; subst hc; subst hv; exact cst_ok hy
    | succ i => simp at hc hv; exact h2 i c v hc hv
theorem run_mapM {α β : Type} (f : α → Sem β) (g : α → β) : ∀ (l : List α), (∀ x, x ∈ l → (f x).run P w = .ok (g x) w) → (l.mapM f).run P w = .ok (l.map g) w
  | [], _ => by simp
  | x :: xs, h => by
    simp only [List.mapM_cons, Sem.run_bind, h x (by simp), Result.andThen_ok, run_mapM f g xs (fun y hy => h y (by simp [hy])), Sem.run_pure, List.map_cons]
theorem run_amapM {α β : Type} (f : α → Sem β) (g : α → β) (l : Array α) (h : ∀ x, x ∈ l.toList → (f x).run P w = .ok (g x) w) : (l.mapM f).run P w = .ok (l.map g) w := by
  have e : l.mapM f = (l.toList.mapM f >>= fun q => pure q.toArray) := by
    rw [Array.mapM_eq_mapM_toList]
    simp
  rw [e]
  simp only [Sem.run_bind, run_mapM f g _ h, Result.andThen_ok, Sem.run_pure]
  congr 1
  simp [← Array.toList_map]
theorem build_ok (hE : Env w fx bs r a) {t : TypeId} {T : Ti} (hT : ti P t = some T) {fs : List (Nat × Nat)} (hs : T.sh = .struct fs) {parts : Array (Nat × Operand)} {ps : List (Nat × PV)} (hp : evP r parts.toList = some ps)
    {ds : List PV} (h : place fs T.zero ps = some ds) : ∃ v, (Instr.build t (parts.map fun (i, x) => (i, a.eval x))).run P w = .ok v w ∧ Rep w fx bs (.agg ds) v := by
  obtain ⟨i, d, z, hi, hd, hz, hzc, hsh, hsz, _⟩ := ti_spec hT
  obtain ⟨gs, rfl, rfl⟩ := shOf_struct (hsh.symm.trans hs)
  have hall := ti_fields hT hd
  obtain ⟨h1, h2⟩ := evP_ok hE hp
  obtain ⟨out, ho, hr⟩ := fill_ok (fs := gs.toList.map fun f => (f.offset, P.cellsOf f.type)) (fun j => (gs.map fun f => (f.offset, P.cellsOf f.type))[j]?) (fun i q hq => by simpa using hq) (ps := ps) (us := (parts.map fun (i, x) => (i, a.eval x)).toList)
    (by simpa using h1) (fun i q x hq hx => by
      simp at hx
      obtain ⟨j, o, hjo, rfl⟩ := hx
      exact h2 i q (j, o) hq (by simpa using hjo)) h (cstL_ok hzc)
  refine ⟨.agg out, ?_, .agg _ _ (by simpa using hr.1) fun j c v hc hv => hr.2 j c v hc (by simpa using hv)⟩
  have hmap : (gs.mapM fun f => do pure (f.offset, ← sizeOf f.type) : Sem (Array (Nat × Nat))).run P w = .ok (gs.map fun f => (f.offset, P.cellsOf f.type)) w := by
    refine run_amapM _ (fun f => (f.offset, P.cellsOf f.type)) gs fun f hf => ?_
    obtain ⟨j, hj⟩ := Option.isSome_iff_exists.1 (hall f hf)
    simp [run_sizeOf' hj, Program.cellsOf, hj]
  simp only [Instr.build, Sem.run_bind, run_zero' hi hz, Result.andThen_ok, run_underlying hd, hmap]
  rw [ho]
  rfl

/-! ### The elements of a row -/
theorem flat_chunk (sz : Nat) : ∀ (n : Nat) (cs : List PV), n * sz ≤ cs.length → flat (chunk sz n cs) = cs.take (n * sz)
  | 0, cs, _ => by simp [chunk, flat]
  | n + 1, cs, h => by
    rw [Nat.succ_mul] at h
    have ih := flat_chunk sz n (cs.drop sz) (by rw [List.length_drop]; omega)
    unfold flat at *
    rw [chunk, List.flatMap_cons, ih]
    simp only [PV.cells]
    rw [Nat.succ_mul, Nat.add_comm (n * sz) sz, List.take_add]
theorem chunk_length (sz : Nat) : ∀ (n : Nat) (cs : List PV), (chunk sz n cs).length = n
  | 0, _ => rfl
  | n + 1, cs => by rw [chunk, List.length_cons, chunk_length sz n]
structure Gd (sz off len : Nat) (cs : List PV) : Prop where
  fit : off + len * sz ≤ cs.length
  clo : cloL (elems sz off len cs) = true
  uni : ∀ x, x ∈ elems sz off len cs → x.cells.length = sz
  one : ∀ x, x ∈ elems sz off len cs → ∀ c, c ∈ x.cells → c.cell1 = true
  num : (elems sz off len cs).length = len
  flat : Pi.flat (elems sz off len cs) = (cs.drop off).take (len * sz)
theorem flat_self {xs : List PV} (h : ∀ x, x ∈ xs → x.cell1 = true) : flat xs = xs := by
  induction xs with
  | nil => rfl
  | cons x xs ih =>
    have h0 := h x (by simp)
    have : x.cells = [x] := by cases x <;> simp [PV.cell1, PV.cells] at h0 ⊢
    have ih := ih (fun y hy => h y (by simp [hy]))
    unfold flat at *
    rw [List.flatMap_cons, ih, this]
    rfl
theorem gd_spec {sz off len : Nat} {cs : List PV} (h : gd sz off len cs = true) : Gd sz off len cs := by
  unfold gd at h
  simp only [Bool.and_eq_true, decide_eq_true_eq, Bool.or_eq_true, bne_iff_ne, ne_eq] at h
  obtain ⟨⟨⟨h1, h2⟩, h3⟩, h4⟩ := h
  have hl : (elems sz off len cs).length = len := by
    unfold elems
    split
    · rename_i e; subst e
      rw [List.length_take, List.length_drop]; omega
    · exact chunk_length _ _ _
  refine ⟨h1, h2, fun x hx => (unif_all h3 x hx).1, fun x hx => (unif_all h3 x hx).2, hl, ?_⟩
  by_cases e : sz = 1
  · subst e
    rcases h4 with h4 | h4
    · simp at h4
    · rw [flat_self (fun x hx => by rw [List.all_eq_true] at h4; exact h4 x hx)]
      simp [elems]
  · simp only [elems, if_neg e]
    exact flat_chunk sz len _ (by rw [List.length_drop]; omega)
theorem zeros_length (z : List PV) : ∀ n, (zeros z n).length = n * z.length
  | 0 => by simp [zeros]
  | n + 1 => by rw [zeros, List.length_append, zeros_length z n, Nat.succ_mul]; omega
theorem range_zeros (z : Array Value) : ∀ n, (((Array.range (n * z.size)).map fun i => z[i % z.size]!).toList) = (List.replicate n z.toList).flatten := by
  intro n
  apply List.ext_getElem?
  intro j
  rcases Nat.eq_zero_or_pos z.size with h0 | h0
  · have : z = #[] := Array.eq_empty_of_size_eq_zero h0
    subst this
    simp
  · have hlen : ∀ m, ((List.replicate m z.toList).flatten).length = m * z.size := fun m => by simp
    have key : ∀ m j, j < m * z.size → ((List.replicate m z.toList).flatten)[j]? = z[j % z.size]? := by
      intro m
      induction m with
      | zero => intro j hj; simp at hj
      | succ m ih =>
        intro j hj
        rw [Nat.succ_mul] at hj
        rw [List.replicate_succ, List.flatten_cons]
        by_cases hlt : j < z.size
        · rw [List.getElem?_append_left (by simpa using hlt), Nat.mod_eq_of_lt hlt]; simp
        · rw [List.getElem?_append_right (by simp; omega)]
          simp only [Array.length_toList]
          rw [ih (j - z.size) (by omega), Nat.mod_eq_sub_mod (a := j) (by omega)]
    by_cases hj : j < n * z.size
    · rw [key n j hj]
      simp [hj]
      have : j % z.size < z.size := Nat.mod_lt _ h0
      simp [this]
    · rw [List.getElem?_eq_none (by simp; omega), List.getElem?_eq_none (by simp; omega)]
theorem zeros_rep {z : List PV} {l : List Value} (h : RepS w fx bs z l) : ∀ n, RepS w fx bs (zeros z n) (List.replicate n l).flatten
  | 0 => ⟨by simp [zeros], by simp [zeros]⟩
  | n + 1 => by
    have ih := zeros_rep h n
    rw [zeros, List.replicate_succ, List.flatten_cons]
    refine ⟨by rw [List.length_append, List.length_append, h.1, ih.1], fun j c v hc hv => ?_⟩
    by_cases hj : j < z.length
    · rw [List.getElem?_append_left hj] at hc
      rw [List.getElem?_append_left (by rw [← h.1]; exact hj)] at hv
      exact h.2 j c v hc hv
    · rw [List.getElem?_append_right (by omega)] at hc
      rw [List.getElem?_append_right (by rw [← h.1]; omega), ← h.1] at hv
      exact ih.2 _ c v hc hv
theorem rowF_get (size : Nat) : ∀ (n off i : Nat) (q : Nat × Nat), (rowF size off n)[i]? = some q → q = (off + i * size, size) ∧ i < n
  | 0, _, _, _, h => by simp [rowF] at h
  | n + 1, off, i, q, h => by
    cases i with
    | zero => simp [rowF] at h; subst h; simp
    | succ i =>
      simp [rowF] at h
      obtain ⟨rfl, h2⟩ := rowF_get size n (off + size) i q h
      refine ⟨by rw [Nat.succ_mul]; congr 1; omega, by omega⟩
theorem place_length {fs : List (Nat × Nat)} : ∀ {ps : List (Nat × PV)} {cs ds : List PV}, place fs cs ps = some ds → ds.length = cs.length
  | [], cs, ds, h => by simp [place] at h; subst h; rfl
  | (i, v) :: ps, cs, ds, h => by
    simp only [place] at h
    split at h
    · split at h
      · rw [place_length h, setC_setL, setL_length]
      · simp at h
    · simp at h
end
end Go.Pi

set_option linter.unusedVariables false
set_option linter.unusedSimpArgs false
namespace Go.Pi
open Go.RowKit

/-! ### Steps of the memory -/
section
variable {base : Nat} {w0 : World} {fb fx : Fx} {bs : Bs} {M : Mem} {w : World}

theorem heap_lt {b : Nat} {o : Obj} (h : w.heap[b]? = some o) : b < w.heap.size := (Array.getElem?_eq_some_iff.1 h).1
theorem Ext.alloc (hf : ∀ b o, fx b o → b < w.heap.size) (o : Obj) : Ext w (w.alloc o) fx := by
  refine ⟨fun b i v hb hc => ?_, fun b cells ty fr hb => ⟨cells, fr, ?_, rfl⟩⟩
  · rw [← hc]; exact World.cell?_of_block (w := w) (Below.heap_alloc w o b (hf b i hb))
  · rw [Below.heap_alloc w o b (heap_lt hb)]; exact hb
/-- A new block that is never written. -/
theorem Sim.fixed (hS : Sim base w0 fb fx bs M w) (cells : Array Value) (ty : TypeId) : Sim base w0 fb (fun b o => fx b o ∨ b = w.heap.size) bs M (w.alloc (.cells cells ty)) := by
  have hE := Ext.alloc hS.fxlt (.cells cells ty)
  refine ⟨hS.below.alloc hS.bb _, by simpa using Nat.le_succ_of_le hS.bb, fun b o hb => ?_, fun b o hb hl => ?_, fun id wr ty' cs b hl hb => ?_, hS.inj, hS.nxt⟩
  · rcases hb with hb | rfl
    · simpa using Nat.lt_succ_of_lt (hS.fxlt b o hb)
    · simp
  · rcases hb with hb | rfl
    · exact hS.fxb b o hb hl
    · have := hS.bb; omega
  · obtain ⟨h1, cells', h2, h3, h4, h5, h6⟩ := hS.live id wr ty' cs b hl hb
    refine ⟨h1, cells', by rw [Below.heap_alloc _ _ _ (heap_lt h2)]; exact h2, h3, fun j c v hc hv => (h4 j c v hc hv).mono hE (fun _ _ h => .inl h) (fun _ _ h => h), fun hw o hx => ?_, fun hw o ho => .inl (h6 hw o ho)⟩
    rcases hx with hx | rfl
    · exact h5 hw o hx
    · exact absurd (heap_lt h2) (Nat.lt_irrefl _)
/-- A new block of the call's own. -/
theorem Sim.own (hS : Sim base w0 fb fx bs M w) {cells : Array Value} {ty : TypeId} {cs : List PV} (hrl : cs.length ≤ cells.size) (hr : ∀ (j : Nat) c v, cs[j]? = some c → cells[j]? = some v → Rep w fx bs c v) {k nx : Nat} (hk : bs k = none) (hn : M.nx ≤ nx) (hkn : k < nx) :
    Sim base w0 fb fx (upd bs k (some w.heap.size)) ⟨upd M.m k (.live true ty cs), nx⟩ (w.alloc (.cells cells ty)) := by
  have hE := Ext.alloc hS.fxlt (.cells cells ty)
  have hbs : ∀ i b, bs i = some b → upd bs k (some w.heap.size) i = some b := fun i b h => by
    unfold upd
    rw [if_neg (fun e => by subst e; rw [hk] at h; cases h)]
    exact h
  have hnew : (w.alloc (.cells cells ty)).heap[w.heap.size]? = some (.cells cells ty) := heap_alloc_new w _
  refine ⟨hS.below.alloc hS.bb _, by simpa using Nat.le_succ_of_le hS.bb, fun b o hb => by simpa using Nat.lt_succ_of_lt (hS.fxlt b o hb), hS.fxb, fun id wr ty' cs' b hl hb => ?_, fun i j b wi ti ci wj tj cj hi hj hbi hbj => ?_, fun id hid => ?_⟩
  · simp only [upd] at hl hb
    split at hl
    · rename_i e
      subst e
      simp at hl hb
      obtain ⟨rfl, rfl, rfl⟩ := hl
      subst hb
      refine ⟨hS.bb, cells, hnew, hrl, fun j c v hc hv => (hr j c v hc hv).mono hE (fun _ _ h => h) hbs, fun _ o hx => absurd (hS.fxlt _ _ hx) (Nat.lt_irrefl _), fun h => by simp at h⟩
    · rename_i e
      rw [if_neg e] at hb
      obtain ⟨h1, cells', h2, h3, h4, h5, h6⟩ := hS.live id wr ty' cs' b hl hb
      exact ⟨h1, cells', by rw [Below.heap_alloc _ _ _ (heap_lt h2)]; exact h2, h3, fun j c v hc hv => (h4 j c v hc hv).mono hE (fun _ _ h => h) hbs, h5, h6⟩
  · have old : ∀ i b wi ti ci, i ≠ k → upd M.m k (.live true ty cs) i = .live wi ti ci → upd bs k (some w.heap.size) i = some b → M.m i = .live wi ti ci ∧ bs i = some b ∧ b < w.heap.size := fun i b wi ti ci hne h1 h2 => by
      simp only [upd, if_neg hne] at h1 h2
      obtain ⟨_, cells', h3, _⟩ := hS.live i wi ti ci b h1 h2
      exact ⟨h1, h2, heap_lt h3⟩
    by_cases ei : i = k
    · by_cases ej : j = k
      · rw [ei, ej]
      · obtain ⟨_, _, h3⟩ := old j b wj tj cj ej hj hbj
        subst ei
        simp [upd] at hbi
        omega
    · by_cases ej : j = k
      · obtain ⟨_, _, h3⟩ := old i b wi ti ci ei hi hbi
        subst ej
        simp [upd] at hbj
        omega
      · obtain ⟨h1, h2, _⟩ := old i b wi ti ci ei hi hbi
        obtain ⟨h3, h4, _⟩ := old j b wj tj cj ej hj hbj
        exact hS.inj i j b wi ti ci wj tj cj h1 h3 h2 h4
  · simp only [upd] at hid ⊢
    have hid : nx ≤ id := hid
    rw [if_neg (by omega), if_neg (by omega)]
    exact hS.nxt id (by omega)
theorem bs_upd {k : Nat} (hk : bs k = none) (b : Nat) : ∀ i c, bs i = some c → upd bs k (some b) i = some c := fun i c h => by
  unfold upd
  rw [if_neg (fun e => by subst e; rw [hk] at h; cases h)]
  exact h

theorem setRow_get (w : World) (g : Nat) (cells : Array Value) (b : Nat) (h : b ≠ g) : (w.setRow g cells).heap[b]? = w.heap[b]? := by
  unfold World.setRow
  simp only [Array.getElem?_modify]
  rw [if_neg (Ne.symm h)]
/-- A block of the call's own is written. -/
theorem Sim.write (hS : Sim base w0 fb fx bs M w) {id : Nat} {ty : TypeId} {cs : List PV} {b : Nat} (hl : M.m id = .live true ty cs) (hb : bs id = some b) {cells : Array Value} (hc : w.heap[b]? = some (.cells cells ty (0, 0)))
    {off : Nat} {ps : List PV} {us : List Value} (hr : RepS w fx bs ps us) (hfit : off + ps.length ≤ cs.length) {m' : Nat → Blk} (hm : ∀ i, m' i = upd M.m id (.live true ty (setC cs off ps)) i) {nx : Nat} (hnx : nx = M.nx) :
    ∃ w', w' = w.setRow b (cells.toList.take off ++ us ++ cells.toList.drop (off + us.length)).toArray ∧ Sim base w0 fb fx bs ⟨m', nx⟩ w' ∧ Ext w w' fx := by
  refine ⟨_, rfl, ?_⟩
  obtain ⟨h1, cells', h2, h3, h4, h5, h6⟩ := hS.live id true ty cs b hl hb
  rw [hc] at h2
  simp at h2
  subst h2
  have hus : us.length = ps.length := hr.1.symm
  have hnew : (cells.toList.take off ++ us ++ cells.toList.drop (off + us.length)).toArray.toList = setL cells.toList off us := by
    rw [setL_splice _ _ _ (by simp; omega)]
  have hsz : (cells.toList.take off ++ us ++ cells.toList.drop (off + us.length)).toArray.size = cells.size := by
    rw [← Array.length_toList, hnew, setL_length, Array.length_toList]
  generalize hq : (cells.toList.take off ++ us ++ cells.toList.drop (off + us.length)).toArray = new at *
  have hh : (w.setRow b new).heap[b]? = some (.cells new ty (0, 0)) := setRow_heap w b cells new ty _ hc
  have hE : Ext w (w.setRow b new) fx := by
    refine ⟨fun x o v hx hv => ?_, fun x cs' ty' fr hx => ?_⟩
    · have : x ≠ b := fun e => by subst e; exact h5 rfl o hx
      rw [← hv]
      exact World.cell?_of_block (w := w) (setRow_get w b new x this)
    · by_cases e : x = b
      · subst e
        rw [hc] at hx
        simp at hx
        obtain ⟨rfl, rfl, rfl⟩ := hx
        exact ⟨new, (0, 0), hh, hsz⟩
      · exact ⟨cs', fr, by rw [setRow_get w b new x e]; exact hx, rfl⟩
  refine ⟨⟨?_, ?_, ?_, hS.fxb, ?_, ?_, ?_⟩, hE⟩
  · refine hS.below.trans ⟨rfl, rfl, rfl, by simp [World.setRow], fun k hk => setRow_get w b new k (by omega)⟩
  · have := hS.bb; simpa [World.setRow] using this
  · intro x o hx; have := hS.fxlt x o hx; simpa [World.setRow] using this
  · intro i wr ty' cs' b' hi hbi
    have hi : m' i = .live wr ty' cs' := hi
    rw [hm] at hi
    simp only [upd] at hi
    split at hi
    · rename_i e
      subst e
      simp at hi
      obtain ⟨rfl, rfl, rfl⟩ := hi
      rw [hb] at hbi
      simp at hbi
      subst hbi
      refine ⟨h1, new, hh, by rw [setC_setL, setL_length]; omega, fun j c v hcj hvj => ?_, h5, fun h => by simp at h⟩
      rw [setC_setL, setL_get] at hcj
      have hvj' : (setL cells.toList off us)[j]? = some v := by rw [← hnew]; simpa using hvj
      rw [setL_get] at hvj'
      by_cases hin : off ≤ j ∧ j < off + ps.length
      · rw [if_pos ⟨hin.1, hin.2, by omega⟩] at hcj
        rw [if_pos ⟨hin.1, by omega, by simp; omega⟩] at hvj'
        exact (hr.2 _ c v hcj hvj').mono hE (fun _ _ h => h) (fun _ _ h => h)
      · rw [if_neg (by omega)] at hcj
        rw [if_neg (by omega)] at hvj'
        exact (h4 j c v hcj (by simpa using hvj')).mono hE (fun _ _ h => h) (fun _ _ h => h)
    · rename_i e
      obtain ⟨g1, c1, g2, g3, g4, g5, g6⟩ := hS.live i wr ty' cs' b' hi hbi
      have hne : b' ≠ b := fun e2 => by subst e2; exact e (hS.inj i id b' wr ty' cs' true ty cs hi hl hbi hb)
      exact ⟨g1, c1, by rw [setRow_get w b new b' hne]; exact g2, g3, fun j c v hcj hvj => (g4 j c v hcj hvj).mono hE (fun _ _ h => h) (fun _ _ h => h), g5, g6⟩
  · intro i j b' wi ti ci wj tj cj hi hj hbi hbj
    have hi : m' i = .live wi ti ci := hi
    have hj : m' j = .live wj tj cj := hj
    rw [hm] at hi hj
    have fix : ∀ i wi ti ci, upd M.m id (.live true ty (setC cs off ps)) i = .live wi ti ci → ∃ wi ti ci, M.m i = .live wi ti ci := fun i wi ti ci h => by
      simp only [upd] at h
      split at h
      · rename_i e; subst e; exact ⟨_, _, _, hl⟩
      · exact ⟨_, _, _, h⟩
    obtain ⟨_, _, _, hi⟩ := fix i wi ti ci hi
    obtain ⟨_, _, _, hj⟩ := fix j wj tj cj hj
    exact hS.inj i j b' _ _ _ _ _ _ hi hj hbi hbj
  · intro i hi
    have hi : nx ≤ i := hi
    obtain ⟨g1, g2⟩ := hS.nxt i (by omega)
    refine ⟨?_, g2⟩
    show m' i = .dead
    rw [hm]
    simp only [upd]
    rw [if_neg (fun e => by subst e; rw [g1] at hl; cases hl)]
    exact g1
/-- A block of the call's own gets another name, and more cells of it are told. -/
theorem Sim.rename (hS : Sim base w0 fb fx bs M w) {id k nx b n : Nat} {ty : TypeId} {cs : List PV} {cells : Array Value} (hl : M.m id = .live true ty cs) (hb : bs id = some b) (hc : w.heap[b]? = some (.cells cells ty (0, 0)))
    (hn : cs.length + n ≤ cells.size) (hk : bs k = none) (hnx : M.nx ≤ nx) (hkn : k < nx) :
    Sim base w0 fb fx (upd bs k (some b)) ⟨upd (upd M.m id .dead) k (.live true ty (cs ++ List.replicate n .junk)), nx⟩ w := by
  have hE : Ext w w fx := Ext.refl w fx
  have hbs := bs_upd hk b
  have hne : id ≠ k := fun e => by subst e; rw [hk] at hb; cases hb
  have old : ∀ i wi ti ci, i ≠ k → upd (upd M.m id .dead) k (.live true ty (cs ++ List.replicate n .junk)) i = .live wi ti ci → i ≠ id ∧ M.m i = .live wi ti ci := fun i wi ti ci h1 h2 => by
    simp only [upd, if_neg h1] at h2
    split at h2
    · cases h2
    · rename_i e; exact ⟨e, h2⟩
  have old' : ∀ i c, i ≠ k → upd bs k (some b) i = some c → bs i = some c := fun i c h1 h2 => by simpa only [upd, if_neg h1] using h2
  obtain ⟨h1, cells', h2, h3, h4, h5, h6⟩ := hS.live id true ty cs b hl hb
  rw [hc] at h2
  simp at h2
  subst h2
  refine ⟨hS.below, hS.bb, hS.fxlt, hS.fxb, fun i wr ty' cs' b' hi hbi => ?_, fun i j b' wi ti ci wj tj cj hi hj hbi hbj => ?_, fun i hi => ?_⟩
  · by_cases e : i = k
    · subst e
      simp [upd] at hi hbi
      obtain ⟨rfl, rfl, rfl⟩ := hi
      subst hbi
      refine ⟨h1, cells, hc, by simpa using hn, fun j c v hcj hvj => ?_, h5, fun h => by simp at h⟩
      rw [List.getElem?_append] at hcj
      split at hcj
      · exact (h4 j c v hcj hvj).mono hE (fun _ _ h => h) hbs
      · rw [List.getElem?_replicate] at hcj
        split at hcj
        · simp at hcj; subst hcj; exact .junk _
        · simp at hcj
    · obtain ⟨e2, h7⟩ := old i wr ty' cs' e hi
      obtain ⟨g1, c1, g2, g3, g4, g5, g6⟩ := hS.live i wr ty' cs' b' h7 (old' i b' e hbi)
      exact ⟨g1, c1, g2, g3, fun j c v hcj hvj => (g4 j c v hcj hvj).mono hE (fun _ _ h => h) hbs, g5, g6⟩
  · by_cases ei : i = k
    · by_cases ej : j = k
      · rw [ei, ej]
      · obtain ⟨e2, h7⟩ := old j wj tj cj ej hj
        subst ei
        simp [upd] at hbi
        subst hbi
        exact absurd (hS.inj j id b _ _ _ _ _ _ h7 hl (old' j b ej hbj) hb) e2
    · obtain ⟨e1, h8⟩ := old i wi ti ci ei hi
      by_cases ej : j = k
      · subst ej
        simp [upd] at hbj
        subst hbj
        exact absurd (hS.inj i id b _ _ _ _ _ _ h8 hl (old' i b ei hbi) hb) e1
      · obtain ⟨e2, h7⟩ := old j wj tj cj ej hj
        exact hS.inj i j b' _ _ _ _ _ _ h8 h7 (old' i b' ei hbi) (old' j b' ej hbj)
  · have hi : nx ≤ i := hi
    obtain ⟨g1, g2⟩ := hS.nxt i (by omega)
    have hik : i ≠ k := by omega
    simp only [upd, if_neg hik]
    refine ⟨?_, g2⟩
    split
    · rfl
    · exact g1
/-- A draw. -/
theorem Sim.drew (hS : Sim base w0 fb fx bs M w) : Sim base w0 fb fx bs M w.drew := by
  have hE : Ext w w.drew fx := ⟨fun _ _ _ _ h => h, fun _ c _ fr h => ⟨c, fr, h, rfl⟩⟩
  exact ⟨hS.below.drew, hS.bb, hS.fxlt, hS.fxb, fun id wr ty cs b hl hb => by
    obtain ⟨h1, cells, h2, h3, h4, h5, h6⟩ := hS.live id wr ty cs b hl hb
    exact ⟨h1, cells, h2, h3, fun j c v hc hv => (h4 j c v hc hv).mono hE (fun _ _ h => h) (fun _ _ h => h), h5, h6⟩, hS.inj, hS.nxt⟩
theorem Ext.drew : Ext w w.drew fx := ⟨fun _ _ _ _ h => h, fun _ c _ fr h => ⟨c, fr, h, rfl⟩⟩
end
/-- From one state of the memory to a later one; 'ne': what may be made. -/
structure Fwd (base : Nat) (w0 : World) (fb : Fx) (ne : Nat → Prop) (w : World) (fx : Fx) (bs : Bs) (M : Mem) (w' : World) (fx' : Fx) (bs' : Bs) (M' : Mem) : Prop where
  sim : Sim base w0 fb fx' bs' M' w'
  ext : Ext w w' fx
  fxm : ∀ b o, fx b o → fx' b o
  bsm : ∀ i b, bs i = some b → bs' i = some b
  keep : ∀ id, id < M.nx → ¬ ne id → bs id = none → bs' id = none ∧ M'.m id = M.m id
  nx : M.nx ≤ M'.nx
section
variable {base : Nat} {w0 : World} {fb : Fx}
theorem Fwd.refl {ne : Nat → Prop} {w : World} {fx : Fx} {bs : Bs} {M : Mem} (hS : Sim base w0 fb fx bs M w) : Fwd base w0 fb ne w fx bs M w fx bs M :=
  ⟨hS, .refl _ _, fun _ _ h => h, fun _ _ h => h, fun _ _ _ h => ⟨h, rfl⟩, Nat.le_refl _⟩
theorem Fwd.trans {ne ne' ne2 : Nat → Prop} {w w1 w2 : World} {fx fx1 fx2 : Fx} {bs bs1 bs2 : Bs} {M M1 M2 : Mem} (h : Fwd base w0 fb ne w fx bs M w1 fx1 bs1 M1) (k : Fwd base w0 fb ne' w1 fx1 bs1 M1 w2 fx2 bs2 M2)
    (hn : ∀ i, ¬ ne2 i → i < M.nx → ¬ ne i ∧ ¬ ne' i) : Fwd base w0 fb ne2 w fx bs M w2 fx2 bs2 M2 :=
  ⟨k.sim, h.ext.trans (k.ext.less h.fxm), fun b o x => k.fxm b o (h.fxm b o x), fun i b x => k.bsm i b (h.bsm i b x), fun id hid hne hb => by
    obtain ⟨h1, h2⟩ := hn id hne hid
    obtain ⟨h3, h4⟩ := h.keep id hid h1 hb
    obtain ⟨h5, h6⟩ := k.keep id (Nat.lt_of_lt_of_le hid h.nx) h2 h3
    exact ⟨h5, h6.trans h4⟩, Nat.le_trans h.nx k.nx⟩
end
end Go.Pi
