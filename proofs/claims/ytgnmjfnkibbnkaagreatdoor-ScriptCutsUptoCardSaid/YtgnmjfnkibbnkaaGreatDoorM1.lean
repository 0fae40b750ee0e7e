/- The engine, part 3: from the model's code to the interpreter's. -/
import Derived.Calls
set_option linter.unusedSimpArgs false
set_option linter.unusedVariables false
namespace Go.Proofs.PantryEng
open Go

/-- A map from numbers, for the kernel's own reckoning. -/
inductive Tree (α : Type) where
  | nil
  | node (l : Tree α) (v : Option α) (r : Tree α)

def Tree.get {α : Type} : Tree α → Nat → Option α
  | .nil, _ => none
  | .node l v r, k => bif Nat.beq k 0 then v else bif Nat.beq (k % 2) 1 then l.get (k / 2) else r.get (k / 2 - 1)

def Tree.putF {α : Type} : Nat → Tree α → Nat → Option α → Tree α
  | 0, t, _, _ => t
  | n + 1, .nil, k, x => bif Nat.beq k 0 then .node .nil x .nil else bif Nat.beq (k % 2) 1 then .node (Tree.putF n .nil (k / 2) x) none .nil else .node .nil none (Tree.putF n .nil (k / 2 - 1) x)
  | n + 1, .node l v r, k, x => bif Nat.beq k 0 then .node l x r else bif Nat.beq (k % 2) 1 then .node (Tree.putF n l (k / 2) x) v r else .node l v (Tree.putF n r (k / 2 - 1) x)

def Tree.put {α : Type} (t : Tree α) (k : Nat) (x : Option α) : Tree α := Tree.putF (k + 1) t k x

/-- What a block holds: cells of the run's own; cells that may only be read; a map with whole numbers as keys. -/
inductive AObj where
  | cells (cs : List Value)
  | ro (cs : List Value)
  | map (es : List (Int × Value))

structure AHeap where
  next : Nat
  t : Tree AObj

def AHeap.get (h : AHeap) (b : Nat) : Option AObj := h.t.get b
def AHeap.set (h : AHeap) (b : Nat) (o : AObj) : AHeap := { next := h.next, t := h.t.put b (some o) }
def AHeap.del (h : AHeap) (b : Nat) : AHeap := { next := h.next, t := h.t.put b none }
def AHeap.new (h : AHeap) (o : AObj) : AHeap := { next := h.next + 1, t := h.t.put h.next (some o) }

def AHeap.cells? (h : AHeap) (b : Nat) : Option (List Value) :=
  match h.get b with
  | some (.cells cs) => some cs
  | some (.ro cs) => some cs
  | _ => none
def AHeap.cell (h : AHeap) (b o : Nat) : Option Value := (h.cells? b).bind fun cs => cs[o]?
def takeN (n : Nat) (l : List Value) : Option (List Value) := if (l.take n).length = n then some (l.take n) else none
def AHeap.cellsAt (h : AHeap) (b o n : Nat) : Option (List Value) := (h.cells? b).bind fun cs => takeN n (cs.drop o)
def setMany : List Value → Nat → List Value → List Value
  | cs, _, [] => cs
  | cs, o, v :: vs => setMany (cs.set o v) (o + 1) vs
def AHeap.store (h : AHeap) (b o : Nat) (vs : List Value) : Option AHeap :=
  match h.get b with
  | some (.cells cs) => if o + vs.length ≤ cs.length then some (h.set b (.cells (setMany cs o vs))) else none
  | _ => none
def AHeap.map? (h : AHeap) (b : Nat) : Option (List (Int × Value)) :=
  match h.get b with
  | some (.map es) => some es
  | _ => none

/-- Maps. -/
def mGet : List (Int × Value) → Int → Option Value
  | [], _ => none
  | (k, v) :: es, x => if k = x then some v else mGet es x
def mPut : List (Int × Value) → Int → Value → List (Int × Value)
  | [], x, v => [(x, v)]
  | (k, u) :: es, x, v => if k = x then (x, v) :: es else (k, u) :: mPut es x v
def mDel : List (Int × Value) → Int → List (Int × Value)
  | [], _ => []
  | (k, u) :: es, x => if k = x then es else (k, u) :: mDel es x

abbrev Env := Tree Value
def noValue : Value := .tuple #[]
def Env.at (e : Env) (t : Nat) : Value := (e.get t).getD noValue
def Env.put (e : Env) (d : Option Nat) (v : Value) : Env :=
  match d with
  | some d => Tree.put e d (some v)
  | none => e

inductive Opd where
  | tmp (t : Nat)
  | lit (v : Value)

def Opd.ev (e : Env) : Opd → Value
  | .tmp t => e.at t
  | .lit v => v

def cellsOf : Value → List Value
  | .agg ⟨l⟩ => l
  | v => [v]

def mkPart (agg : Bool) (cs : List Value) : Option Value :=
  match agg, cs with
  | true, cs => some (.agg ⟨cs⟩)
  | false, [v] => some v
  | false, _ => none

/-- Operations that leave the heap as it is. -/
inductive POp where
  | move (x : Opd)
  | pick (c a b : Opd)
  | build (zero : List Value) (parts : List (Nat × Nat × Opd))
  | load (agg : Bool) (n : Nat) (a : Opd)
  | nilCheck (x : Opd)
  | bin (op : BinOp) (x y : Opd)
  | eqBool (neg : Bool) (x y : Opd)
  | eqAgg (neg : Bool) (kinds : List Bool) (x y : Opd)
  | eqPtr (neg : Bool) (x y : Opd)
  | eqNil (neg : Bool) (kind : Nat) (x y : Opd)
  | eqIface (neg : Bool) (x y : Opd)
  | not (x : Opd)
  | neg (x : Opd)
  | conv (k : IntKind) (x : Opd)
  | makeIface (t : TypeId) (x : Opd)
  | makeFunc (f : FuncId) (first captured : List Opd)
  | fieldAddr (off : Nat) (x : Opd)
  | field (agg : Bool) (off n : Nat) (x : Opd)
  | indexAddr (size : Nat) (x i : Opd)
  | indexAddrA (len size : Nat) (x i : Opd)
  | index (agg : Bool) (len size : Nat) (x i : Opd)
  | indexS (x i : Opd)
  | slice (str : Bool) (size : Nat) (x : Opd) (lo hi max : Option Opd)
  | lookup (zero : Value) (commaOk : Bool) (m k : Opd)
  | extract (x : Opd) (i : Nat)
  | lenL (n : Nat)
  | len (str : Bool) (x : Opd)
  | lenM (x : Opd)
  | max (l : List Opd)
  | min (l : List Opd)
  | string (x : Opd)
  | bad

/-- Operations that lay a new block. -/
inductive LOp where
  | box (x : Opd)
  | alloc (cells : List Value)
  | buildSlice (zero : List Value) (size len : Nat) (parts : List (Nat × Opd))
  | makeMap
  | makeSlice (zero : List Value) (bytes : Nat) (len cap : Opd)

inductive ACallee where
  | value (x : Opd)
  | invoke (x : Opd) (m : Nat)

/-- Operations that write, and calls. -/
inductive EOp where
  | store (n : Nat) (a x : Opd)
  | mapUpdate (m k x : Opd)
  | call (c : ACallee) (args : List Opd)
  | append (size bytes : Nat) (s x : Opd)
  | copy (size : Nat) (dst src : Opd)
  | delete (m k : Opd)
  | clearS (zero : List Value) (x : Opd)

inductive AOp where
  | p (op : POp)
  | l (op : LOp)
  | e (op : EOp)

structure AOper where
  dst : Option Nat
  op : AOp
  guard : Option (Nat × Bool)

inductive ACode where
  | skip
  | region (ops : List AOper)
  | draw (ops : List (AOper × List Nat))
  | seq (a b : ACode)
  | cond (c : Opd) (thn els : ACode)
  | block (id : Nat) (body : ACode)
  | loop (body : ACode)
  | exit (id : Nat)
  | ret
  | bad

inductive ARes where
  | tmp (t : Nat)
  | cell (agg : Bool) (n : Nat) (a : Nat)

structure AFunc where
  ntmps : Nat
  results : List ARes
  body : ACode

end Go.Proofs.PantryEng
namespace Go.Proofs.PantryEng
open Go

/-- 'k.wrap', for the kernel's own reckoning. -/
def wr (k : IntKind) (n : Int) : Int :=
  match k, n with
  | .i64, .ofNat m => bif Nat.ble m 9223372036854775807 then n else bif Nat.ble 9223372036854775808 (m % 18446744073709551616) then Int.ofNat (m % 18446744073709551616) - 18446744073709551616 else Int.ofNat (m % 18446744073709551616)
  | .i64, .negSucc m => bif Nat.ble m 9223372036854775807 then n else k.wrap n
  | .u64, .ofNat m => Int.ofNat (m % 18446744073709551616)
  | k, n => k.wrap n

def bitsI (op : BinOp) (k : IntKind) (x y : Int) : Option Value :=
  let a := BitVec.ofInt k.bits x
  let b := BitVec.ofInt k.bits y
  match op with
  | .and => some (.int k (wr k (a &&& b).toNat))
  | .or => some (.int k (wr k (a ||| b).toNat))
  | .xor => some (.int k (wr k (a ^^^ b).toNat))
  | .andNot => some (.int k (wr k (a &&& ~~~b).toNat))
  | _ => none

def binI (op : BinOp) (k : IntKind) (a b : Int) : Option Value :=
  match op with
  | .add => some (.int k (wr k (a + b)))
  | .sub => some (.int k (wr k (a - b)))
  | .mul => some (.int k (wr k (a * b)))
  | .quo => if b = 0 then none else some (.int k (wr k (a.tdiv b)))
  | .rem => if b = 0 then none else some (.int k (a.tmod b))
  | .and | .or | .xor | .andNot => bitsI op k a b
  | .eql => some (.bool (a == b))
  | .neq => some (.bool (a != b))
  | .lss => some (.bool (a < b))
  | .leq => some (.bool (a ≤ b))
  | .gtr => some (.bool (a > b))
  | .geq => some (.bool (a ≥ b))
  | _ => none

def shiftI (op : BinOp) (k : IntKind) (a b : Int) : Option Value :=
  if b < 0 then none else
  match op with
  | .shl => some (.int k (wr k (a * ((2 ^ (min b.toNat k.bits) : Nat) : Int))))
  | .shr => some (.int k (a.fdiv ((2 ^ (min b.toNat k.bits) : Nat) : Int)))
  | _ => none

def binV (op : BinOp) (x y : Value) : Option Value :=
  match x, y with
  | .int k a, .int k' b =>
    match op with
    | .shl | .shr => shiftI op k a b
    | op => if k = k' then binI op k a b else none
  | .string a, .string b =>
    match op with
    | .eql => some (.bool (a.toList == b.toList))
    | .neq => some (.bool !(a.toList == b.toList))
    | _ => none
  | _, _ => none

/-- Two cells, of bools (true) or whole numbers. -/
def cellEq : Bool → Value → Value → Option Bool
  | false, .int k a, .int k' b => if k = k' then some (a == b) else none
  | true, .bool a, .bool b => some (a == b)
  | _, _, _ => none

def cellsEq : List Bool → List Value → List Value → Option Bool
  | [], [], [] => some true
  | k :: ks, a :: as, b :: bs =>
    match cellEq k a b with
    | some true => cellsEq ks as bs
    | some false => some false
    | none => none
  | _, _, _ => none

def AHeap.owns (h : AHeap) (b : Nat) : Bool :=
  match h.get b with
  | some (.cells _) => true
  | _ => false

def ptrEq (h : AHeap) : Value → Value → Option Bool
  | .pointer none, .pointer none => some true
  | .pointer none, .pointer (some _) => some false
  | .pointer (some _), .pointer none => some false
  | .pointer (some ⟨b, o, none⟩), .pointer (some ⟨b', o', none⟩) =>
    if b = b' then some (o == o') else if h.owns b && h.owns b' then some false else none
  | _, _ => none

def nilEq : Nat → Value → Value → Option Bool
  | 0, .slice none _ _, .slice b _ _ => some b.isNone
  | 0, .slice (some _) _ _, .slice none _ _ => some false
  | 1, .map none, .map b => some b.isNone
  | 1, .map (some _), .map none => some false
  | 2, .nilFunc, .nilFunc => some true
  | 2, .nilFunc, .func (.func _) _ _ => some false
  | 2, .func (.func _) _ _, .nilFunc => some false
  | _, _, _ => none

def ifaceEq : Value → Value → Option Bool
  | .nilIface, .nilIface => some true
  | .nilIface, .iface _ _ => some false
  | .iface _ _, .nilIface => some false
  | _, _ => none

def flip (neg : Bool) (r : Option Bool) : Option Value := r.map fun b => .bool (b != neg)

def isStr : Value → Bool
  | .string _ => true
  | _ => false

def isTup : Value → Bool
  | .tuple _ => true
  | _ => false

/-- A value of one cell that holds no other value. -/
def scal : Value → Bool
  | .bool _ => true
  | .int _ _ => true
  | .string _ => true
  | .pointer _ => true
  | .slice _ _ _ => true
  | .map _ => true
  | .nilFunc => true
  | .nilIface => true
  | _ => false

def fillC (e : Env) : List Value → List (Nat × Nat × Opd) → Option (List Value)
  | cs, [] => some cs
  | cs, (off, size, x) :: rest =>
    let vs := cellsOf (x.ev e)
    if vs.length = size ∧ off + size ≤ cs.length ∧ isTup (x.ev e) = false then fillC e (setMany cs off vs) rest else none

def addrAdd (b o n : Nat) : Value := .pointer (some ⟨b, o + n, none⟩)

def asInt? : Value → Option Int
  | .int _ n => some n
  | _ => none

/-- A slice's third part: 0: no room behind it at all; 1: nothing is known of that room; n + 1, n from 1 on: what is appended to it, of elements of n cells, may go on in its block. -/
def sliceV (size : Nat) (v : Value) (lo hi mx : Option Value) : Option Value :=
  match v with
  | .slice a len c =>
    match (match lo with | none => some 0 | some x => asInt? x), (match hi with | none => some (len : Int) | some x => asInt? x) with
    | some l, some h =>
      if 0 ≤ l ∧ l ≤ h ∧ h ≤ len then
        match mx with
        | none =>
          match a with
          | none => some (.slice none 0 0)
          | some ⟨b, o, none⟩ => some (.slice (some ⟨b, o + l.toNat * size, none⟩) (h.toNat - l.toNat) (if c = 0 then 0 else if l = 0 then c else 1))
          | _ => none
        | some m =>
          match asInt? m, hi with
          | some m, some _ =>
            if h ≤ m ∧ m ≤ len then
              match a with
              | none => some (.slice none 0 0)
              | some ⟨b, o, none⟩ => if m = l then some (.slice (some ⟨b, o, none⟩) 0 0) else some (.slice (some ⟨b, o + l.toNat * size, none⟩) (h.toNat - l.toNat) 1)
              | _ => none
            else none
          | _, _ => none
      else none
    | _, _ => none
  | .string s =>
    match (match lo with | none => some 0 | some x => asInt? x), (match hi with | none => some (s.size : Int) | some x => asInt? x), mx with
    | some l, some h, none => if 0 ≤ l ∧ l ≤ h ∧ h ≤ s.size then some (.string (s.extract l.toNat h.toNat)) else none
    | _, _, _ => none
  | _ => none

def maxF (k : IntKind) : Int → List Value → Option Value
  | x, [] => some (.int k x)
  | x, .int _ y :: rest => maxF k (if y > x then y else x) rest
  | _, _ => none
def minF (k : IntKind) : Int → List Value → Option Value
  | x, [] => some (.int k x)
  | x, .int _ y :: rest => minF k (if y < x then y else x) rest
  | _, _ => none
def maxV : List Value → Option Value
  | .int k x :: rest => maxF k x rest
  | _ => none
def minV : List Value → Option Value
  | .int k x :: rest => minF k x rest
  | _ => none

def bytesOf? : List Value → Option (List UInt8)
  | [] => some []
  | .int .u8 n :: vs => (bytesOf? vs).map (UInt8.ofNat n.toNat :: ·)
  | _ => none

def lookV (zero : Value) (ok : Bool) : Option Value → Value
  | some v => if ok then .tuple #[v, .bool true] else v
  | none => if ok then .tuple #[zero, .bool false] else zero

def mapOf (h : AHeap) : Value → Option (List (Int × Value))
  | .map none => some []
  | .map (some r) => h.map? r
  | _ => none

def lookIn (h : AHeap) (zero : Value) (ok : Bool) (m : Value) : Value → Option Value
  | .int .i64 k => (mapOf h m).map fun es => lookV zero ok (mGet es k)
  | _ => none

def fieldAddrV (off : Nat) : Value → Option Value
  | .pointer (some ⟨b, o, none⟩) => some (addrAdd b o off)
  | _ => none
def fieldV (agg : Bool) (off n : Nat) : Value → Option Value
  | .agg ⟨cs⟩ => (takeN n (cs.drop off)).bind (mkPart agg)
  | _ => none
def indexAddrV (size : Nat) : Value → Value → Option Value
  | .slice (some ⟨b, o, none⟩) len _, .int _ i => if 0 ≤ i ∧ i < len then some (addrAdd b o (i.toNat * size)) else none
  | _, _ => none
def indexAddrAV (len size : Nat) : Value → Value → Option Value
  | .pointer (some ⟨b, o, none⟩), .int _ i => if 0 ≤ i ∧ i < len then some (addrAdd b o (i.toNat * size)) else none
  | _, _ => none
def indexV (agg : Bool) (len size : Nat) : Value → Value → Option Value
  | .agg ⟨cs⟩, .int _ i => if 0 ≤ i ∧ i < len then (takeN size (cs.drop (i.toNat * size))).bind (mkPart agg) else none
  | _, _ => none
def indexSV : Value → Value → Option Value
  | .string s, .int _ i => if 0 ≤ i then (s.toList[i.toNat]?).map fun b => .int .u8 b.toNat else none
  | _, _ => none
def extractV (i : Nat) : Value → Option Value
  | .tuple ⟨vs⟩ => vs[i]?
  | _ => none

def strOf (h : AHeap) : Value → Option Value
  | .slice none _ _ => some (.string .empty)
  | .slice (some ⟨b, o, none⟩) len _ => ((h.cellsAt b o len).bind bytesOf?).map fun l => .string ⟨⟨l⟩⟩
  | _ => none

def nilV : Value → Option Value
  | .pointer (some a) => some (.pointer (some a))
  | .func (.func f) first cap => some (.func (.func f) first cap)
  | .iface t v => some (.iface t v)
  | _ => none

def evP (e : Env) (h : AHeap) : POp → Option Value
  | .move x => some (x.ev e)
  | .pick c a b => match c.ev e with | .bool true => some (a.ev e) | .bool false => some (b.ev e) | _ => none
  | .build zero parts => (fillC e zero parts).map fun cs => .agg ⟨cs⟩
  | .load agg n a =>
    match a.ev e with
    | .pointer (some ⟨b, o, none⟩) => if agg then (h.cellsAt b o n).map fun cs => .agg ⟨cs⟩ else h.cell b o
    | _ => none
  | .nilCheck x => nilV (x.ev e)
  | .bin op x y => binV op (x.ev e) (y.ev e)
  | .eqBool neg x y => match x.ev e, y.ev e with | .bool a, .bool b => flip neg (some (a == b)) | _, _ => none
  | .eqAgg neg ks x y => match x.ev e, y.ev e with | .agg ⟨a⟩, .agg ⟨b⟩ => flip neg (cellsEq ks a b) | _, _ => none
  | .eqPtr neg x y => flip neg (ptrEq h (x.ev e) (y.ev e))
  | .eqNil neg k x y => flip neg (nilEq k (x.ev e) (y.ev e))
  | .eqIface neg x y => flip neg (ifaceEq (x.ev e) (y.ev e))
  | .not x => match x.ev e with | .bool b => some (.bool !b) | _ => none
  | .neg x => match x.ev e with | .int k n => some (.int k (wr k (0 - n))) | _ => none
  | .conv k x => match x.ev e with | .int _ n => some (.int k (wr k n)) | _ => none
  | .makeIface t x => if scal (x.ev e) then some (.iface t (x.ev e)) else none
  | .makeFunc f first captured => if (first.map (·.ev e)).all scal && (captured.map (·.ev e)).all scal then some (.func (.func f) ⟨first.map (·.ev e)⟩ ⟨captured.map (·.ev e)⟩) else none
  | .fieldAddr off x => fieldAddrV off (x.ev e)
  | .field agg off n x => fieldV agg off n (x.ev e)
  | .indexAddr size x i => indexAddrV size (x.ev e) (i.ev e)
  | .indexAddrA len size x i => indexAddrAV len size (x.ev e) (i.ev e)
  | .index agg len size x i => indexV agg len size (x.ev e) (i.ev e)
  | .indexS x i => indexSV (x.ev e) (i.ev e)
  | .slice str size x lo hi mx => if isStr (x.ev e) != str then none else sliceV size (x.ev e) (lo.map (·.ev e)) (hi.map (·.ev e)) (mx.map (·.ev e))
  | .lookup zero ok m k => lookIn h zero ok (m.ev e) (k.ev e)
  | .extract x i => extractV i (x.ev e)
  | .lenL n => some (.int .i64 n)
  | .len str x => match str, x.ev e with | false, .slice _ n _ => some (.int .i64 n) | true, .string s => some (.int .i64 s.size) | _, _ => none
  | .lenM x => match x.ev e with | .map none => some (.int .i64 0) | .map (some r) => (h.map? r).map fun es => .int .i64 es.length | _ => none
  | .max l => maxV (l.map (·.ev e))
  | .min l => minV (l.map (·.ev e))
  | .string x => strOf h (x.ev e)
  | .bad => none

def zeroMany (zero : List Value) : Nat → List Value
  | 0 => []
  | n + 1 => zero ++ zeroMany zero n

def fillS (e : Env) (size : Nat) : List Value → List (Nat × Opd) → Option (List Value)
  | cs, [] => some cs
  | cs, (i, x) :: rest =>
    let vs := cellsOf (x.ev e)
    if vs.length = size ∧ i * size + size ≤ cs.length ∧ isTup (x.ev e) = false then fillS e size (setMany cs (i * size) vs) rest else none

def ptrTo (b : Nat) : Value := .pointer (some ⟨b, 0, none⟩)

/-- What is laid, and the value that names it. -/
def evL (e : Env) : LOp → Option (AObj × (Nat → Value))
  | .box x => if isTup (x.ev e) then none else some (.cells (cellsOf (x.ev e)), ptrTo)
  | .alloc cs => some (.cells cs, ptrTo)
  | .buildSlice zero size len parts => (fillS e size (zeroMany zero len) parts).map fun cs => (.cells cs, fun b => .slice (some ⟨b, 0, none⟩) len (size + 1))
  | .makeMap => some (.map [], fun b => .map (some b))
  | .makeSlice zero bytes len cap =>
    match len.ev e, cap.ev e with
    | .int .i64 l, .int .i64 c => if 0 ≤ l ∧ l ≤ c ∧ c * bytes ≤ 1099511627776 ∧ c ≤ 1099511627776 then some (.cells (zeroMany zero c.toNat), fun b => .slice (some ⟨b, 0, none⟩) l.toNat (zero.length + 1)) else none
    | _, _ => none

abbrev CallF := FuncId → List Value → AHeap → Option (Value × AHeap)

/-- The cells of a slice's first elements. -/
def firstOf (h : AHeap) (size n : Nat) : Value → Option (List Value)
  | .slice (some ⟨b, o, none⟩) _ _ => if n = 0 then some [] else h.cellsAt b o (n * size)
  | .slice none _ _ => if n = 0 then some [] else none
  | _ => none

def appendV (h : AHeap) (size bytes : Nat) (s x : Value) : Option (Value × AHeap) :=
  match s, x with
  | .slice base sLen c, .slice _ n _ =>
    if n = 0 then some (s, h) else
    if (sLen + n) * bytes ≤ 1099511627776 ∧ sLen + n ≤ 1099511627776 then
      match firstOf h size n x with
      | none => none
      | some new =>
        match base with
        | none => if sLen = 0 then some (.slice (some ⟨h.next, 0, none⟩) n (size + 1), h.new (.cells new)) else none
        | some ⟨b, o, none⟩ =>
          if c = 0 then (if sLen = 0 then some (.slice (some ⟨h.next, 0, none⟩) n (size + 1), h.new (.cells new)) else none)
          else if c = size + 1 ∧ o = 0 then
            match h.get b with
            | some (.cells cs) => if sLen * size ≤ cs.length then some (.slice (some ⟨h.next, 0, none⟩) (sLen + n) (size + 1), (h.del b).new (.cells (cs.take (sLen * size) ++ new))) else none
            | _ => none
          else none
        | _ => none
    else none
  | _, _ => none

def storeS (h : AHeap) (s : Value) (vs : List Value) : Option AHeap :=
  if vs = [] then some h else
  match s with
  | .slice (some ⟨b, o, none⟩) _ _ => h.store b o vs
  | _ => none

def evE (tbl : List (List (TypeId × FuncId))) (call : CallF) (e : Env) (h : AHeap) : EOp → Option (Value × AHeap)
  | .store n a x =>
    match a.ev e with
    | .pointer (some ⟨b, o, none⟩) => if (cellsOf (x.ev e)).length = n ∧ isTup (x.ev e) = false then (h.store b o (cellsOf (x.ev e))).map fun h' => (noValue, h') else none
    | _ => none
  | .mapUpdate m k x =>
    match m.ev e, k.ev e with
    | .map (some r), .int .i64 k => if isTup (x.ev e) then none else (h.map? r).map fun es => (noValue, h.set r (.map (mPut es k (x.ev e))))
    | _, _ => none
  | .call (.value f) args =>
    match f.ev e with
    | .func (.func f) ⟨first⟩ ⟨cap⟩ => call f (first ++ args.map (·.ev e) ++ cap) h
    | _ => none
  | .call (.invoke x m) args =>
    match x.ev e with
    | .iface t v => match (tbl.getD m []).lookup t with | some f => call f (v :: args.map (·.ev e)) h | none => none
    | _ => none
  | .append size bytes s x => appendV h size bytes (s.ev e) (x.ev e)
  | .copy size dst src =>
    match dst.ev e, src.ev e with
    | .slice _ dLen _, .slice _ sLen _ =>
      match firstOf h size (min sLen dLen) (src.ev e) with
      | some cs => (storeS h (dst.ev e) cs).map fun h' => (.int .i64 (min sLen dLen), h')
      | none => none
    | _, _ => none
  | .delete m k =>
    match m.ev e, k.ev e with
    | .map none, .int .i64 _ => some (noValue, h)
    | .map (some r), .int .i64 k => (h.map? r).map fun es => (noValue, h.set r (.map (mDel es k)))
    | _, _ => none
  | .clearS zero x =>
    match x.ev e with
    | .slice _ n _ => (storeS h (x.ev e) (zeroMany zero n)).map fun h' => (noValue, h')
    | _ => none

def yieldedA (e : Env) (t : Nat) : Option Bool :=
  match e.get t with
  | some (.bool b) => some b
  | _ => none

def wantedA (o : AOper) (e : Env) : Bool :=
  match o.guard with
  | none => true
  | some (t, want) => match yieldedA e t with | some b => b == want | none => false

structure AProg where
  fn : Tree AFunc
  tbl : List (List (TypeId × FuncId))
  prim : FuncId → Option (List Value → AHeap → Option (Value × AHeap))

section
variable (tbl : List (List (TypeId × FuncId))) (call : CallF)

/-- One operation that is wanted. -/
def evOp (e : Env) (h : AHeap) : AOp → Option (Value × AHeap)
  | .p op => (evP e h op).map fun v => (v, h)
  | .l op => (evL e op).map fun (o, mk) => (mk h.next, h.new o)
  | .e op => evE tbl call e h op

def evOps : List AOper → Env → AHeap → Option (Env × AHeap)
  | [], e, h => some (e, h)
  | o :: rest, e, h =>
    bif wantedA o e then
      match evOp tbl call e h o.op with
      | some (v, h') => evOps rest (e.put o.dst v) h'
      | none => none
    else evOps rest (e.put o.dst noValue) h

/-- Are two values one, as far as can be told at once? -/
def sameC : Value → Value → Bool
  | .bool a, .bool b => a == b
  | .int k a, .int j b => k == j && a == b
  | .pointer a, .pointer b => a == b
  | .slice a n c, .slice b m d => a == b && n == m && c == d
  | .map a, .map b => a == b
  | .nilIface, .nilIface => true
  | .nilFunc, .nilFunc => true
  | .iface t (.int k a), .iface u (.int j b) => t == u && k == j && a == b
  | .iface t (.pointer a), .iface u (.pointer b) => t == u && a == b
  | _, _ => false
def sameL : List Value → List Value → Bool
  | [], [] => true
  | a :: as, b :: bs => sameC a b && sameL as bs
  | _, _ => false
def sameV : Value → Value → Bool
  | .agg ⟨a⟩, .agg ⟨b⟩ => sameL a b
  | .tuple ⟨a⟩, .tuple ⟨b⟩ => sameL a b
  | a, b => sameC a b

/-- Does an operation that only reads tell the same in earlier heaps? -/
def steady (e : Env) (o : AOper) (v : Value) (snaps : List AHeap) (back : List Nat) : Bool :=
  match back, o.op with
  | [], _ => true
  | back, .p op => back.all fun j => match snaps[j]? with
    | some h => (match evP e h op with | some u => sameV u v | none => false)
    | none => false
  | _, _ => true

/-- One operation, wanted or not. -/
def evStep (o : AOper) (e : Env) (h : AHeap) : Option (Value × AHeap) :=
  bif wantedA o e then evOp tbl call e h o.op else some (noValue, h)

/-- A region that draws its order, in an order in which writes and calls come as soon as they may. -/
def evDraw : List (AOper × List Nat) → Env → AHeap → List AHeap → Option (Env × AHeap)
  | [], e, h, _ => some (e, h)
  | (o, back) :: rest, e, h, snaps =>
    match evStep tbl call o e h with
    | some (v, h') => bif Nat.ble h.next h'.next && steady e o v snaps (bif wantedA o e then back else []) then evDraw rest (e.put o.dst v) h' (h :: snaps) else none
    | none => none

inductive AExit where
  | normal
  | exit (id : Nat)
  | ret

abbrev Outc := Option (AExit × Env × AHeap)

def loopN (body : Env → AHeap → Outc) : Nat → Env → AHeap → Outc
  | 0, _, _ => none
  | n + 1, e, h =>
    match body e h with
    | some (.normal, e', h') => loopN body n e' h'
    | r => r

def evCode (fuel : Nat) : ACode → Env → AHeap → Outc
  | .skip, e, h => some (.normal, e, h)
  | .region ops, e, h => (evOps tbl call ops e h).map fun (e', h') => (.normal, e', h')
  | .draw ops, e, h => (evDraw tbl call ops e h []).map fun (e', h') => (.normal, e', h')
  | .seq a b, e, h =>
    match evCode fuel a e h with
    | some (.normal, e', h') => evCode fuel b e' h'
    | r => r
  | .cond c t f, e, h =>
    match c.ev e with
    | .bool true => evCode fuel t e h
    | .bool false => evCode fuel f e h
    | _ => none
  | .block id b, e, h =>
    match evCode fuel b e h with
    | some (.exit i, e', h') => if i = id then some (.normal, e', h') else some (.exit i, e', h')
    | r => r
  | .loop b, e, h => loopN (evCode fuel b) fuel e h
  | .exit id, e, h => some (.exit id, e, h)
  | .ret, e, h => some (.ret, e, h)
  | .bad, _, _ => none

end

def ARes.ev (e : Env) (h : AHeap) : ARes → Option Value
  | .tmp t => some (e.at t)
  | .cell agg n a => evP e h (.load agg n (.tmp a))

def evRes (e : Env) (h : AHeap) : List ARes → Option (List Value)
  | [] => some []
  | r :: rs => match r.ev e h, evRes e h rs with | some v, some vs => if isTup v then none else some (v :: vs) | _, _ => none

def packV : List Value → Value
  | [v] => v
  | vs => .tuple ⟨vs⟩

def argsEnv : Nat → List Value → Env → Env
  | _, [], e => e
  | i, v :: vs, e => argsEnv (i + 1) vs (Tree.put e i (some v))

def evBody (tbl : List (List (TypeId × FuncId))) (call : CallF) (fuel : Nat) (fn : AFunc) (args : List Value) (h : AHeap) : Option (Value × AHeap) :=
  match evCode tbl call fuel fn.body (argsEnv 0 args .nil) h with
  | some (.normal, e, h') => (evRes e h' fn.results).map fun vs => (packV vs, h')
  | some (.ret, e, h') => (evRes e h' fn.results).map fun vs => (packV vs, h')
  | _ => none

def evCall (A : AProg) : Nat → CallF
  | 0, _, _, _ => none
  | n + 1, f, args, h =>
    match A.prim f with
    | some p => p args h
    | none =>
      match A.fn.get f with
      | some fn => if args.length ≤ fn.ntmps then evBody A.tbl (evCall A n) n fn args h else none
      | none => none

end Go.Proofs.PantryEng
namespace Go.Proofs.PantryEng
open Go

/-- One cell's value that may stand as a constant. -/
def litC : Value → Bool
  | .bool _ => true
  | .int _ _ => true
  | .string _ => true
  | .pointer none => true
  | .slice none 0 0 => true
  | .map none => true
  | .nilFunc => true
  | .nilIface => true
  | _ => false

def litOK : Value → Bool
  | .agg ⟨l⟩ => l.all litC
  | v => litC v

def litCells (v : Value) : Option (List Value) := if (cellsOf v).all litC then some (cellsOf v) else none

section
variable (P : Program) (ms : List String) (N : Nat)

def cOpd : Operand → Option Opd
  | .tmp t => if t < N then some (.tmp t) else none
  | .const v => if litOK v then some (.lit v) else none
  | .func f => some (.lit (.func (.func f) #[] #[]))
  | .global _ => none

def cOpds : List Operand → Option (List Opd)
  | [] => some []
  | x :: xs => match cOpd N x, cOpds xs with | some y, some ys => some (y :: ys) | _, _ => none

def cOpt : Option Operand → Option (Option Opd)
  | none => some none
  | some x => (cOpd N x).map some

def sizeT (t : TypeId) : Option Nat := (P.info? t).map (·.size)
def bytesT (t : TypeId) : Option Nat := (P.info? t).map (·.bytes)
def zeroT (t : TypeId) : Option Value := (P.info? t).bind (·.zero)
def aggT (t : TypeId) : Option Bool :=
  match P.underlying t with
  | some (.struct _) => some true
  | some (.array _ _) => some true
  | some _ => some false
  | none => none

def cParts (place : Nat → Option (Nat × Nat)) : List (Nat × Operand) → Option (List (Nat × Nat × Opd))
  | [] => some []
  | (i, x) :: rest => match place i, cOpd N x, cParts place rest with | some (off, size), some y, some ys => some ((off, size, y) :: ys) | _, _, _ => none

def cPartsS : List (Nat × Operand) → Option (List (Nat × Opd))
  | [] => some []
  | (i, x) :: rest => match cOpd N x, cPartsS rest with | some y, some ys => some ((i, y) :: ys) | _, _ => none

def isC : Operand → Bool
  | .const _ => true
  | _ => false

/-- A struct made of whole numbers and bools alone, one behind the other: which. -/
def flatF : Nat → List Field → Option (List Bool)
  | _, [] => some []
  | i, f :: fs =>
    if f.name != "_" && f.offset == i then
      match P.underlying f.type, flatF (i + 1) fs with
      | some .bool, some l => some (true :: l)
      | some (.int _), some l => some (false :: l)
      | _, _ => none
    else none

/-- The place and the size of each field. -/
def sizesF : List Field → Option (List (Nat × Nat))
  | [] => some []
  | f :: fs => match sizeT P f.type, sizesF fs with | some n, some l => some ((f.offset, n) :: l) | _, _ => none

def cEq (neg : Bool) (t : TypeId) (x y : Operand) (a b : Opd) : POp :=
  match P.underlying t with
  | some .bool => .eqBool neg a b
  | some (.int _) => .bin (if neg then .neq else .eql) a b
  | some .string => .bin (if neg then .neq else .eql) a b
  | some (.pointer e) => if (sizeT P e).any (· != 0) then .eqPtr neg a b else .bad
  | some (.slice _) => .eqNil neg 0 a b
  | some (.map _ _) => .eqNil neg 1 a b
  | some (.func _ _ _) => .eqNil neg 2 a b
  | some (.interface _) => if isC x || isC y then .eqIface neg a b else .bad
  | some (.struct fs) => (match flatF P 0 fs.toList with | some ks => if !P.stoodInHeld t && !P.eqGuardType P.depth t then .eqAgg neg ks a b else .bad | none => .bad)
  | _ => .bad

def cBin (op : BinOp) (t : TypeId) (x y : Operand) (a b : Opd) : POp :=
  match op with
  | .eql => cEq P false t x y a b
  | .neq => cEq P true t x y a b
  | op => .bin op a b

def cConv (src dst : TypeId) (x : Opd) : POp :=
  match P.underlying src, P.underlying dst with
  | some (.int _), some (.int k) => .conv k x
  | some (.slice e), some .string => (match P.underlying e with | some (.int .u8) => .string x | _ => .bad)
  | _, _ => .bad

def cBuiltin (b : Builtin) (ts : List TypeId) (args : List Opd) : AOp :=
  match b, ts, args with
  | .len, [t], [x] =>
    .p (match P.underlying t with
      | some .string => .len true x
      | some (.slice _) => .len false x
      | some (.array n _) => .lenL n
      | some (.pointer a) => (match P.underlying a with | some (.array n _) => .lenL n | _ => .bad)
      | some (.map _ _) => .lenM x
      | _ => .bad)
  | .max, _, l => .p (.max l)
  | .min, _, l => .p (.min l)
  | .append, [s, t], [x, y] =>
    match P.underlying s, P.underlying t with
    | some (.slice e), some (.slice _) => (match sizeT P e, bytesT P e, zeroT P e with | some n, some b, some z => if 0 < n && 0 < b && z.cells.size == n then .e (.append n b x y) else .p .bad | _, _, _ => .p .bad)
    | _, _ => .p .bad
  | .copy, [s, _], [x, y] =>
    match P.underlying s with
    | some (.slice e) => (match sizeT P e with | some n => .e (.copy n x y) | none => .p .bad)
    | _ => .p .bad
  | .delete, [s, _], [x, y] =>
    match P.underlying s with
    | some (.map k _) => (match P.underlying k with | some (.int .i64) => .e (.delete x y) | _ => .p .bad)
    | _ => .p .bad
  | .clear, [s], [x] =>
    match P.underlying s with
    | some (.slice e) => (match (zeroT P e).bind litCells with | some z => .e (.clearS z x) | none => .p .bad)
    | _ => .p .bad
  | _, _, _ => .p .bad

def get1 {α : Type} (x : Option α) (k : α → AOp) : AOp := match x with | some a => k a | none => .p .bad

def cOp (op : Op) : AOp :=
  match op with
  | .move x | .assign x => get1 (cOpd N x) fun x => .p (.move x)
  | .pick c a b => get1 (cOpd N c) fun c => get1 (cOpd N a) fun a => get1 (cOpd N b) fun b => .p (.pick c a b)
  | .alloc t => get1 ((zeroT P t).bind litCells) fun z => .l (.alloc z)
  | .box _ x => get1 (cOpd N x) fun x => .l (.box x)
  | .build t parts =>
    get1 ((zeroT P t).bind litCells) fun z =>
      match P.underlying t with
      | some (.struct fs) => get1 (sizesF P fs.toList) fun pl => get1 (cParts N (fun i => pl[i]?) parts.toList) fun ps => .p (.build z ps)
      | some (.array _ e) => get1 (sizeT P e) fun n => get1 (cParts N (fun i => some (i * n, n)) parts.toList) fun ps => .p (.build z ps)
      | _ => .p .bad
  | .buildSlice t len parts =>
    match P.underlying t with
    | some (.slice e) => get1 (sizeT P e) fun n => get1 ((zeroT P e).bind litCells) fun z => if z.length = n ∧ 0 < n ∧ len * n ≤ 2 ^ 24 then get1 (cPartsS N parts.toList) fun ps => .l (.buildSlice z n len ps) else .p .bad
    | _ => .p .bad
  | .load t a => get1 (cOpd N a) fun a => get1 (aggT P t) fun g => get1 (sizeT P t) fun n => .p (.load g n a)
  | .store t a x => get1 (cOpd N a) fun a => get1 (cOpd N x) fun x => get1 (sizeT P t) fun n => .e (.store n a x)
  | .nilCheck x => get1 (cOpd N x) fun x => .p (.nilCheck x)
  | .binOp op t x y _ => get1 (cOpd N x) fun a => get1 (cOpd N y) fun b => .p (cBin P op t x y a b)
  | .unOp .not _ x => get1 (cOpd N x) fun x => .p (.not x)
  | .unOp .neg _ x => get1 (cOpd N x) fun x => .p (.neg x)
  | .convert s d x => get1 (cOpd N x) fun x => .p (cConv P s d x)
  | .makeInterface t x => get1 (cOpd N x) fun x => (match P.underlying t with | some (.interface _) => .p .bad | some _ => .p (.makeIface t x) | none => .p .bad)
  | .makeFunc (.func f) first captured => get1 (cOpds N first.toList) fun a => get1 (cOpds N captured.toList) fun b => .p (.makeFunc f a b)
  | .makeMap _ none => .l .makeMap
  | .makeSlice t len cap =>
    match P.underlying t with
    | some (.slice e) => get1 (cOpd N len) fun l => get1 (cOpd N cap) fun c => get1 (sizeT P e) fun n => get1 (bytesT P e) fun b => get1 ((zeroT P e).bind litCells) fun z => if z.length = n ∧ 0 < n then .l (.makeSlice z b l c) else .p .bad
    | _ => .p .bad
  | .slice t x lo hi mx =>
    get1 (cOpd N x) fun x => get1 (cOpt N lo) fun lo => get1 (cOpt N hi) fun hi => get1 (cOpt N mx) fun mx =>
      match P.underlying t with
      | some (.slice e) => get1 (sizeT P e) fun n => if 0 < n then .p (.slice false n x lo hi mx) else .p .bad
      | some .string => .p (.slice true 1 x lo hi mx)
      | _ => .p .bad
  | .fieldAddr t x i =>
    match P.underlying t with
    | some (.struct fs) => get1 (fs[i]?) fun f => get1 (cOpd N x) fun x => if (sizeT P f.type).any (· != 0) then .p (.fieldAddr f.offset x) else .p .bad
    | _ => .p .bad
  | .field t x i =>
    match P.underlying t with
    | some (.struct fs) => get1 (fs[i]?) fun f => get1 (cOpd N x) fun x => get1 (aggT P f.type) fun g => get1 (sizeT P f.type) fun n => .p (.field g f.offset n x)
    | _ => .p .bad
  | .indexAddr t x i =>
    get1 (cOpd N x) fun x => get1 (cOpd N i) fun i =>
      match P.underlying t with
      | some (.slice e) => get1 (sizeT P e) fun n => .p (.indexAddr n x i)
      | some (.array len e) => get1 (sizeT P e) fun n => .p (.indexAddrA len n x i)
      | _ => .p .bad
  | .index t x i =>
    get1 (cOpd N x) fun x => get1 (cOpd N i) fun i =>
      match P.underlying t with
      | some (.array len e) => get1 (sizeT P e) fun n => get1 (aggT P e) fun g => .p (.index g len n x i)
      | some .string => .p (.indexS x i)
      | _ => .p .bad
  | .lookup t m k ok =>
    match P.underlying t with
    | some (.map kt e) => (match P.underlying kt with | some (.int .i64) => get1 (cOpd N m) fun m => get1 (cOpd N k) fun k => get1 (zeroT P e) fun z => if litOK z then .p (.lookup z ok m k) else .p .bad | _ => .p .bad)
    | _ => .p .bad
  | .mapUpdate t m k x =>
    match P.underlying t with
    | some (.map kt _) => (match P.underlying kt with | some (.int .i64) => get1 (cOpd N m) fun m => get1 (cOpd N k) fun k => get1 (cOpd N x) fun x => .e (.mapUpdate m k x) | _ => .p .bad)
    | _ => .p .bad
  | .extract x i => get1 (cOpd N x) fun x => .p (.extract x i)
  | .call { callee := .value f, args, argTypes := _ } => get1 (cOpd N f) fun f => get1 (cOpds N args.toList) fun as => .e (.call (.value f) as)
  | .call { callee := .invoke x name, args, argTypes := _ } => get1 (cOpd N x) fun x => get1 (cOpds N args.toList) fun as => match ms.idxOf? name with | some m => .e (.call (.invoke x m) as) | none => .p .bad
  | .call { callee := .builtin b, args, argTypes } => get1 (cOpds N args.toList) fun as => cBuiltin P b argTypes.toList as
  | _ => .p .bad

/-- A place for a result: below the number of slots. -/
def cDst : Option Tmp → Bool
  | none => true
  | some d => d < N

def badOper : AOper := { dst := none, op := .p .bad, guard := none }

def cOper (ops : Array Oper) (o : Oper) : AOper :=
  if cDst N o.dst then
    match o.guard with
    | none => { dst := o.dst, op := cOp P ms N o.op, guard := none }
    | some (j, want) =>
      match (ops[j]?).bind (·.dst) with
      | some t => if t < N then { dst := o.dst, op := cOp P ms N o.op, guard := some (t, want) } else badOper
      | none => badOper
  else badOper

/-- Of each operation those that come ahead of it in every order, as bits. -/
def ancStep (acc : List Nat) (o : Oper) : List Nat :=
  acc ++ [o.after.toList.foldl (fun s e => if Region.binds .any e then s ||| 2 ^ e.on ||| acc.getD e.on 0 else s) 0]
def ancs (ops : List Oper) : List Nat := ops.foldl ancStep []

def isEff : AOper → Bool
  | { op := .e _, .. } => true
  | _ => false

/-- An order in which writes and calls come as soon as they may. -/
def orderGo (n : Nat) (an : List Nat) : List Nat → List Nat → List Nat
  | [], done => done ++ (List.range n).filter fun i => !done.contains i
  | e :: es, done => orderGo n an es (done ++ (List.range n).filter fun i => !done.contains i && (i == e || (an.getD e 0).testBit i))

/-- The slots that an operation of the model's looks at. -/
def looks (ops : Array Oper) (o : Oper) : List Nat :=
  (o.op.operands.toList.filterMap fun | .tmp t => some t | _ => none) ++
  (match o.guard with
   | some (g, _) => ((ops[g]?).bind (·.dst)).toList
   | none => [])

/-- The operands of an operation. -/
def optL {α : Type} : Option α → List α
  | some x => [x]
  | none => []
def POp.opds : POp → List Opd
  | .move x => [x]
  | .pick c a b => [c, a, b]
  | .build _ parts => parts.map (·.2.2)
  | .load _ _ a => [a]
  | .nilCheck x => [x]
  | .bin _ x y => [x, y]
  | .eqBool _ x y => [x, y]
  | .eqAgg _ _ x y => [x, y]
  | .eqPtr _ x y => [x, y]
  | .eqNil _ _ x y => [x, y]
  | .eqIface _ x y => [x, y]
  | .not x => [x]
  | .neg x => [x]
  | .conv _ x => [x]
  | .makeIface _ x => [x]
  | .makeFunc _ a b => a ++ b
  | .fieldAddr _ x => [x]
  | .field _ _ _ x => [x]
  | .indexAddr _ x i => [x, i]
  | .indexAddrA _ _ x i => [x, i]
  | .index _ _ _ x i => [x, i]
  | .indexS x i => [x, i]
  | .slice _ _ x lo hi mx => x :: (optL lo ++ optL hi ++ optL mx)
  | .lookup _ _ m k => [m, k]
  | .extract x _ => [x]
  | .lenL _ => []
  | .len _ x => [x]
  | .lenM x => [x]
  | .max l => l
  | .min l => l
  | .string x => [x]
  | .bad => []
def LOp.opds : LOp → List Opd
  | .box x => [x]
  | .alloc _ => []
  | .buildSlice _ _ _ parts => parts.map (·.2)
  | .makeMap => []
  | .makeSlice _ _ l c => [l, c]
def EOp.opds : EOp → List Opd
  | .store _ a x => [a, x]
  | .mapUpdate m k x => [m, k, x]
  | .call (.value f) args => f :: args
  | .call (.invoke x _) args => x :: args
  | .append _ _ s x => [s, x]
  | .copy _ d s => [d, s]
  | .delete m k => [m, k]
  | .clearS _ x => [x]
def AOp.opds : AOp → List Opd
  | .p q => q.opds
  | .l q => q.opds
  | .e q => q.opds
def AOper.looks (o : AOper) : List Nat :=
  (o.op.opds.filterMap fun | .tmp t => some t | _ => none) ++ (match o.guard with | some (t, _) => [t] | none => [])

def allLooks (ops : Array Oper) (ao : List AOper) (x : Nat) : List Nat := looks ops (ops.getD x default) ++ (ao.getD x badOper).looks

def clash (ops : Array Oper) (ao : List AOper) (x y : Nat) : Bool :=
  (match (ops.getD x default).dst with | some d => (ops.getD y default).dst == some d || (allLooks ops ao y).contains d | none => false) ||
  (match (ops.getD y default).dst with | some d => (allLooks ops ao x).contains d | none => false)

/-- Does an operation look at the heap? -/
def readsHeap : AOper → Bool
  | { op := .p (.load ..), .. } => true
  | { op := .p (.lookup ..), .. } => true
  | { op := .p (.lenM ..), .. } => true
  | { op := .p (.eqPtr ..), .. } => true
  | { op := .p (.string ..), .. } => true
  | _ => false

/-- An operand that is a slot, or a literal. -/
def okOpd (N : Nat) : Opd → Bool
  | .tmp t => t < N
  | .lit v => litOK v

/-- The checks on an order: each operation once; behind what it must be behind; all that stands ahead of a write or a call must; operations that touch one slot are ordered. -/
def orderOK (N : Nat) (ops : Array Oper) (ao : List AOper) (an : List Nat) (order : List Nat) : Bool :=
  order.length == ops.size && (List.range ops.size).all (order.contains ·) &&
  (List.range ops.size).all fun p =>
    let x := order.getD p 0
    let ax := an.getD x 0
    decide (x < ops.size) && (!(readsHeap (ao.getD x badOper)) || (ao.getD x badOper).op.opds.all (okOpd N)) &&
    (List.range p).all (fun q =>
      let y := order.getD q 0
      !(Nat.beq y x) && (ax.testBit y || (!(isEff (ao.getD x badOper)) && !(clash ops ao y x)))) &&
    (ops.getD x default).after.toList.all fun e => !(Region.binds .any e) || (order.take p).contains e.on

def backs (ao : List AOper) (an : List Nat) : List Nat → List Nat → List (AOper × List Nat)
  | _, [] => []
  | before, x :: rest => (ao.getD x badOper, if readsHeap (ao.getD x badOper) then (List.range before.length).filter (fun j => isEff (ao.getD (before.getD j 0) badOper) && !((an.getD x 0).testBit (before.getD j 0))) else []) :: backs ao an (x :: before) rest

def cRegion (ops : Array Oper) (draw : Bool) : ACode :=
  let ao := ops.toList.map (cOper P ms N ops)
  if draw then
    let an := ancs ops.toList
    let order := orderGo ops.size an ((List.range ops.size).filter fun i => isEff (ao.getD i badOper)) []
    if orderOK N ops ao an order then .draw (backs ao an [] order) else .bad
  else .region ao

def cCode : Code → ACode
  | .skip => .skip
  | .region _ ops draw => cRegion P ms N ops draw
  | .seq a b => .seq (cCode a) (cCode b)
  | .cond c a b => match cOpd N c with | some c => .cond c (cCode a) (cCode b) | none => .bad
  | .block id b => .block id (cCode b)
  | .loop b => .loop (cCode b)
  | .exit id => .exit id
  | .ret => .ret
  | _ => .bad

def cRes : List ResultVar → Option (List ARes)
  | [] => some []
  | .tmp t :: rs => if t < N then (cRes rs).map (.tmp t :: ·) else none
  | .cell a t :: rs => if a < N then (match aggT P t, sizeT P t, cRes rs with | some g, some n, some l => some (.cell g n a :: l) | _, _, _ => none) else none

end

def cFunc (P : Program) (ms : List String) (fn : Func) : Option AFunc :=
  match fn.body, cRes P fn.ntmps fn.results.toList with
  | some b, some rs => if fn.name == "runtime.NumGoroutine" then none else some { ntmps := fn.ntmps, results := rs, body := cCode P ms fn.ntmps b }
  | _, _ => none

/-! ### short words for printed functions -/
namespace Lt1
def t (n : Nat) : Opd := .tmp n
def l (v : Value) : Opd := .lit v
def i (n : Int) : Opd := .lit (.int .i64 n)
def m (d : Nat) (x : Opd) : AOper := ⟨some d, .p (.move x), none⟩
def n (d : Nat) (x : Opd) : AOper := ⟨some d, .p (.nilCheck x), none⟩
def f (d o : Nat) (x : Opd) : AOper := ⟨some d, .p (.fieldAddr o x), none⟩
def r (d : Nat) (x : Opd) : AOper := ⟨some d, .p (.load false 1 x), none⟩
def p (d : Nat) (q : POp) : AOper := ⟨some d, .p q, none⟩
def g (d : Nat) (q : POp) (t : Nat) (b : Bool) : AOper := ⟨some d, .p q, some (t, b)⟩
def a (d : Nat) (q : LOp) : AOper := ⟨some d, .l q, none⟩
def c (d F : Nat) (args : List Opd) : AOper := ⟨some d, .e (.call (.value (.lit (.func (.func F) #[] #[]))) args), none⟩
def e (d : Nat) (q : EOp) : AOper := ⟨some d, .e q, none⟩
def z (q : EOp) : AOper := ⟨none, .e q, none⟩
def d (o : AOper) : AOper × List Nat := (o, [])
end Lt1
end Go.Proofs.PantryEng
