/- The small machine AM: its definitions (an own deterministic evaluator over the program's code: blocks without capacities, no draws). -/
import Derived.Calls
import Derived.Orders
namespace Go.AM

/-! ## A store: a trie over the natural numbers -/
inductive T (α : Type) where
  | leaf
  | node (l : T α) (v : Option α) (r : T α)

namespace T
variable {α : Type}
def get : T α → Nat → Option α
  | .leaf, _ => none
  | .node l v r, n => cond (Nat.beq n 0) v (cond (Nat.beq (n % 2) 1) (l.get (n / 2)) (r.get (n / 2 - 1)))

def put : Nat → T α → Nat → Option α → T α
  | 0, t, _, _ => t
  | f + 1, .leaf, n, o => cond (Nat.beq n 0) (.node .leaf o .leaf)
      (cond (Nat.beq (n % 2) 1) (.node (put f .leaf (n / 2) o) none .leaf) (.node .leaf none (put f .leaf (n / 2 - 1) o)))
  | f + 1, .node l v r, n, o => cond (Nat.beq n 0) (.node l o r)
      (cond (Nat.beq (n % 2) 1) (.node (put f l (n / 2) o) v r) (.node l v (put f r (n / 2 - 1) o)))

def set (t : T α) (n : Nat) (v : α) : T α := put (n + 1) t n (some v)
def del (t : T α) (n : Nat) : T α := put (n + 1) t n none
def ofListFrom : List α → Nat → T α → T α
  | [], _, t => t
  | v :: l, i, t => ofListFrom l (i + 1) (t.set i v)
def ofList (l : List α) : T α := ofListFrom l 0 .leaf
end T

/-! ## Memory -/
structure Blk where
  size : Nat
  esz : Nat
  ro : Bool
  cells : T Value

structure Heap where
  next : Nat
  blks : T Blk

def Heap.cell (h : Heap) (b o : Nat) : Option Value :=
  match h.blks.get b with
  | some B => cond (Nat.blt o B.size) (B.cells.get o) none
  | none => none

def Blk.row (B : Blk) : Nat → Nat → Option (List Value)
  | _, 0 => some []
  | o, n + 1 => match B.cells.get o with
    | none => none
    | some v => match B.row (o + 1) n with
      | none => none
      | some l => some (v :: l)

def Heap.row (h : Heap) (b o n : Nat) : Option (List Value) :=
  match h.blks.get b with
  | some B => cond (Nat.ble (o + n) B.size) (B.row o n) none
  | none => none

def Blk.fill (B : Blk) : Nat → List Value → Blk
  | _, [] => B
  | o, v :: l => Blk.fill { B with cells := B.cells.set o v } (o + 1) l

def Heap.store (h : Heap) (b o : Nat) (l : List Value) : Option Heap :=
  match h.blks.get b with
  | some B => cond (!B.ro && Nat.ble (o + l.length) B.size) (some { h with blks := h.blks.set b (B.fill o l) }) none
  | none => none

def Heap.alloc (h : Heap) (l : List Value) (esz : Nat) : Heap :=
  { next := h.next + 1, blks := h.blks.set h.next { size := l.length, esz, ro := false, cells := T.ofList l } }

/-! ## Tables -/
structure Env where
  P : Program
  gl : Nat
  info : Nat → Option TypeInfo
  und : Nat → Option TypeDesc
  fn : Nat → Option Func

def isAggD : TypeDesc → Bool
  | .struct _ | .array _ _ => true
  | _ => false

/-! ## Values without an address -/
def scalar : Value → Bool
  | .bool _ | .int _ _ | .float _ _ | .complex _ _ _ | .string _ | .pointer none | .nilFunc | .nilIface | .map none | .slice none 0 0 => true
  | _ => false

def allS : List Value → Bool
  | [] => true
  | v :: l => cond (scalar v) (allS l) false

def flat : Value → Bool
  | .agg cs => allS cs.toList
  | v => scalar v

def plain : Value → Bool
  | .agg cs => allS cs.toList
  | .iface _ v => flat v
  | v => scalar v

def oneCell : Value → Bool
  | .agg _ | .tuple _ | .chan _ => false
  | _ => true

def allOne : List Value → Bool
  | [] => true
  | v :: l => cond (oneCell v) (allOne l) false

def cellsOf : Value → List Value
  | .agg cs => cs.toList
  | v => [v]

/-- a computation that neither reads nor writes -/
def peel {α : Type} (P : Program) : Sem α → Option α
  | .pure a => some a
  | .program k => peel P (k P)
  | .mark _ k => peel P k
  | _ => none

inductive Out where
  | value (v : Value) (h : Heap)
  | skip (h : Heap)
  | enter (f : Nat) (args : List Value)

def ptr (b o : Nat) : Value := .pointer (some ⟨b, o, none⟩)

section
variable (E : Env)

def load (h : Heap) (t : Nat) (v : Value) : Option Value :=
  match v with
  | .pointer (some ⟨b, o, none⟩) =>
    match E.und t, E.info t with
    | some d, some i => cond (isAggD d) (match h.row b o i.size with | some l => some (.agg l.toArray) | none => none) (h.cell b o)
    | _, _ => none
  | _ => none

def storeV (h : Heap) (t : Nat) (a v : Value) : Option Heap :=
  match a with
  | .pointer (some ⟨b, o, none⟩) =>
    match E.info t with
    | some i => cond (Nat.beq (cellsOf v).length i.size && allOne (cellsOf v)) (h.store b o (cellsOf v)) none
    | none => none
  | _ => none

def zeroCells (t : Nat) : Option (List Value) :=
  match E.info t with
  | some i => match i.zero with
    | some z => cond (Nat.beq (cellsOf z).length i.size && allS (cellsOf z)) (some (cellsOf z)) none
    | none => none
  | none => none

def alloc (h : Heap) (t : Nat) : Option (Value × Heap) :=
  match zeroCells E t with
  | some l => some (ptr h.next 0, h.alloc l 0)
  | none => none

def box (h : Heap) (v : Value) : Option (Value × Heap) :=
  cond (allOne (cellsOf v)) (some (ptr h.next 0, h.alloc (cellsOf v) 0)) none

def fieldAddr (t : Nat) (x : Value) (f : Nat) : Option Value :=
  match E.und t, x with
  | some (.struct fs), .pointer (some ⟨b, o, none⟩) =>
    match fs.toList[f]? with
    | some fd => match E.info fd.type with
      | some i => cond (Nat.beq i.size 0) none (some (ptr b (o + fd.offset)))
      | none => none
    | none => none
  | _, _ => none

def indexAddr (t : Nat) (x i : Value) : Option Value :=
  match i, E.und t, x with
  | .int _ i, some (.slice e), .slice (some ⟨b, o, none⟩) len _ =>
    match E.info e with
    | some inf => cond (decide (0 ≤ i) && decide (i < len)) (some (ptr b (o + i.toNat * inf.size))) none
    | none => none
  | .int _ i, some (.array len e), .pointer (some ⟨b, o, none⟩) =>
    match E.info e with
    | some inf => cond (decide (0 ≤ i) && decide (i < len)) (some (ptr b (o + i.toNat * inf.size))) none
    | none => none
  | _, _, _ => none

/-- a part of an aggregate -/
def part (t : Nat) (cs : List Value) (off : Nat) : Option Value :=
  match E.und t, E.info t with
  | some d, some i => cond (isAggD d) (some (.agg ((cs.drop off).take i.size).toArray)) (cs[off]?)
  | _, _ => none

def field (t : Nat) (x : Value) (f : Nat) : Option Value :=
  match E.und t, x with
  | some (.struct fs), .agg cs => match fs.toList[f]? with
    | some fd => part E fd.type cs.toList fd.offset
    | none => none
  | _, _ => none

def index (t : Nat) (x i : Value) : Option Value :=
  match i, E.und t, x with
  | .int _ i, some .string, .string s =>
    cond (decide (0 ≤ i)) (match s.data.toList[i.toNat]? with | some c => some (.int .u8 c.toNat) | none => none) none
  | .int _ i, some (.array len e), .agg cs =>
    cond (decide (0 ≤ i) && decide (i < len)) (match E.info e with | some inf => part E e cs.toList (i.toNat * inf.size) | none => none) none
  | _, _, _ => none

/-- fields or elements laid into a row of zeros -/
def lay (place : Nat → Option (Nat × Nat)) : List Value → List (Nat × Value) → Option (List Value)
  | cells, [] => some cells
  | cells, (i, v) :: rest => match place i with
    | none => none
    | some (off, size) => cond (Nat.beq (cellsOf v).length size && (Nat.ble (off + size) cells.length && allOne (cellsOf v)))
        (lay place (cells.take off ++ (cellsOf v ++ cells.drop (off + size))) rest) none

def fieldPlaces : List Field → Option (List (Nat × Nat))
  | [] => some []
  | f :: l => match E.info f.type, fieldPlaces l with
    | some i, some ps => some ((f.offset, i.size) :: ps)
    | _, _ => none

def build (t : Nat) (parts : List (Nat × Value)) : Option Value :=
  match E.und t, zeroCells E t with
  | some (.struct fs), some z => match fieldPlaces E fs.toList with
    | some ps => match lay (fun i => ps[i]?) z parts with | some l => some (.agg l.toArray) | none => none
    | none => none
  | some (.array _ e), some z => match E.info e with
    | some i => match lay (fun k => some (k * i.size, i.size)) z parts with | some l => some (.agg l.toArray) | none => none
    | none => none
  | _, _ => none

def repeated (z : List Value) : Nat → List Value
  | 0 => []
  | n + 1 => z ++ repeated z n

def buildSlice (h : Heap) (t len : Nat) (parts : List (Nat × Value)) : Option (Value × Heap) :=
  match E.und t with
  | some (.slice e) => match E.info e, zeroCells E e with
    | some i, some z => cond (Nat.beq i.size 0 || Nat.blt 16777216 (len * i.size)) none
        (match lay (fun k => some (k * i.size, i.size)) (repeated z len) parts with
          | some l => cond (allOne l) (some (.slice (some ⟨h.next, 0, none⟩) len len, h.alloc l i.size)) none
          | none => none)
    | _, _ => none
  | _ => none

def makeSlice (h : Heap) (t : Nat) (l c : Value) : Option (Value × Heap) :=
  match E.und t, l, c with
  | some (.slice e), .int _ l, .int _ c => match E.info e, zeroCells E e with
    | some i, some z => cond (decide (0 < i.size) && (decide (0 ≤ l) && (decide (l ≤ c) && (decide (c ≤ 1099511627776) && decide (i.bytes ≤ 256)))))
        (some (.slice (some ⟨h.next, 0, none⟩) l.toNat c.toNat, h.alloc (repeated z c.toNat) i.size)) none
    | _, _ => none
  | _, _, _ => none

def bound (v : Option Value) (dflt most : Nat) : Option Nat :=
  match v with
  | none => some dflt
  | some (.int _ i) => cond (decide (0 ≤ i) && decide (i ≤ most)) (some i.toNat) none
  | _ => none

def slice (h : Heap) (t : Nat) (x : Value) (lo hi : Option Value) : Option Value :=
  match E.und t, x with
  | some .string, .string s => match bound hi s.size s.size with
    | some h => match bound lo 0 h with
      | some l => some (.string (s.extract l h))
      | none => none
    | none => none
  | some (.slice e), .slice (some ⟨b, o, none⟩) len cap => match E.info e, bound hi len cap with
    | some i, some hi => match bound lo 0 hi, h.blks.get b with
      | some _, none => cond (Nat.beq cap 0) (some (.slice (some ⟨b, o, none⟩) 0 0)) none
      | some l, some B => cond (Nat.beq B.esz 0 || Nat.beq B.esz i.size) (some (.slice (some ⟨b, o + l * i.size, none⟩) (hi - l) (cap - l))) none
      | _, _ => none
    | _, _ => none
  | some (.slice e), .slice none 0 0 => match E.info e, bound hi 0 0 with
    | some _, some hi => match bound lo 0 hi with
      | some _ => some (.slice none 0 0)
      | none => none
    | _, _ => none
  | some (.array n e), .pointer (some ⟨b, o, none⟩) => match E.info e, bound hi n n with
    | some i, some hi => match bound lo 0 hi, h.blks.get b with
      | some l, some B => cond (Nat.beq n l || !Nat.beq B.esz 0) none (some (.slice (some ⟨b, o + l * i.size, none⟩) (hi - l) (n - l)))
      | _, _ => none
    | _, _ => none
  | _, _ => none

/-- the cells that a source of append or copy bears -/
def sourceCells (h : Heap) (size n : Nat) : Value → Option (List Value)
  | .slice (some ⟨b, o, none⟩) _ _ => cond (Nat.beq (n * size) 0) (some []) (h.row b o (n * size))
  | .slice none _ _ => cond (Nat.beq n 0) (some []) none
  | .string s => cond (Nat.beq size 1) (some ((s.data.toList.take n).map fun c => .int .u8 c.toNat)) none
  | _ => none

def lenOf : Value → Option Nat
  | .slice _ n _ => some n
  | .string s => some s.size
  | _ => none

/-- append: within the known capacity in place, else a new block, the old one gone -/
def append (h : Heap) (t : Nat) (s x : Value) : Option (Value × Heap) :=
  match E.und t with
  | some (.slice e) => match E.info e, s, lenOf x with
    | some i, .slice base sLen sCap, some n => match sourceCells h i.size n x, zeroCells E e with
      | some new, some _ =>
        cond (Nat.beq i.size 0 || (Nat.blt 549755813888 (sLen + n) || (Nat.blt 256 i.bytes || !allOne new))) none
        (cond (Nat.ble (sLen + n) sCap)
          (match base with
            | none => some (s, h)
            | some ⟨b, o, none⟩ => match h.store b (o + sLen * i.size) new with
              | some h' => some (.slice base (sLen + n) sCap, h')
              | none => none
            | _ => none)
          (match base with
            | none => some (.slice (some ⟨h.next, 0, none⟩) (sLen + n) (sLen + n), h.alloc new i.size)
            | some ⟨b, o, none⟩ => match h.blks.get b, h.row b o (sLen * i.size) with
              | some B, some old => cond (Nat.beq B.esz i.size && !B.ro)
                  (some (.slice (some ⟨h.next, 0, none⟩) (sLen + n) (sLen + n), { h with blks := h.blks.del b }.alloc (old ++ new) i.size)) none
              | _, _ => none
            | _ => none))
      | _, _ => none
    | _, _, _ => none
  | _ => none

def copy (h : Heap) (t : Nat) (d x : Value) : Option (Value × Heap) :=
  match E.und t with
  | some (.slice e) => match E.info e, d, lenOf x with
    | some i, .slice base dLen _, some xl => match sourceCells h i.size (Nat.min xl dLen) x with
      | some new => match base with
        | none => some (.int .i64 (Nat.min xl dLen : Nat), h)
        | some ⟨b, o, none⟩ => cond (!allOne new || Nat.beq dLen 0) none <| match h.store b o new with
          | some h' => some (.int .i64 (Nat.min xl dLen : Nat), h')
          | none => none
        | _ => none
      | none => none
    | _, _, _ => none
  | _ => none

def lenV (t : Nat) (x : Value) : Option Value :=
  match E.und t, x with
  | some .string, .string s => some (.int .i64 s.size)
  | some (.array n _), _ => some (.int .i64 n)
  | some (.slice _), .slice _ n _ => some (.int .i64 n)
  | some (.map _ _), .map none => some (.int .i64 0)
  | _, _ => none

def bytesOf : List Value → Option (List UInt8)
  | [] => some []
  | .int .u8 n :: l => match bytesOf l with | some bs => some (UInt8.ofNat n.toNat :: bs) | none => none
  | _ => none

/-- a value without an address -/
def valP (h : Heap) : Option Value → Option (Value × Heap)
  | some v => cond (plain v) (some (v, h)) none
  | none => none

def byteCells (s : ByteArray) : List Value := s.data.toList.map fun c => .int .u8 (c.toNat : Int)

def convert (h : Heap) (src dst : Nat) (x : Value) : Option (Value × Heap) :=
  match E.und src, E.und dst, x with
  | some (.slice e), some .string, .slice a len _ => match E.und e with
    | some (.int .u8) => match a with
      | none => some (.string .empty, h)
      | some ⟨b, o, none⟩ => match h.row b o len with
        | some l => match bytesOf l with
          | some bs => some (.string ⟨bs.toArray⟩, h)
          | none => none
        | none => none
      | _ => none
    | _ => none
  | some .string, some (.slice e), .string s => match E.und e with
    | some (.int .u8) => cond (Nat.blt 1099511627776 s.size) none (some (.slice (some ⟨h.next, 0, none⟩) s.size s.size, h.alloc (byteCells s) 1))
    | _ => none
  | some (.slice _), some (.slice e), .slice (some ⟨b, _, none⟩) _ _ => match E.und e, h.blks.get b with
    | some (.int .u8), some B => cond (Nat.beq src dst && !B.ro) (some (x, h)) none
    | _, _ => none
  | _, _, _ => cond (plain x) (valP h (peel E.P (Go.convert src dst x))) none

/-- two values held against each other, where one may bear an address -/
def eqNil (d : TypeDesc) (x y : Value) : Option Bool :=
  match d, x, y with
  | .pointer _, .pointer (some _), .pointer none | .pointer _, .pointer none, .pointer (some _) => some false
  | .slice _, .slice (some _) _ _, .slice none _ _ | .slice _, .slice none _ _, .slice (some _) _ _ => some false
  | .interface _, .iface _ _, .nilIface | .interface _, .nilIface, .iface _ _ => some false
  | .func _ _ _, .func _ _ _, .nilFunc | .func _ _ _, .nilFunc, .func _ _ _ => some false
  | _, _, _ => none

def binOpV (op : BinOp) (t : Nat) (x y : Operand) (a b : Value) : Option Value :=
  cond (plain a && plain b)
    (match peel E.P (do eqGuard op t x y a b; Go.binOp op t a b) with | some v => cond (plain v) (some v) none | none => none)
    (match op, E.und t with
      | .eql, some d => match eqNil d a b with | some r => some (.bool r) | none => none
      | .neq, some d => match eqNil d a b with | some r => some (.bool (!r)) | none => none
      | _, _ => none)

def nilCheck : Value → Option Value
  | .pointer (some ⟨b, o, none⟩) => some (ptr b o)
  | .iface t v => some (.iface t v)
  | .func (.func f) a c => some (.func (.func f) a c)
  | _ => none

/-! ## Operations -/
def argsOf (ρ : Operand → Value) : List Operand → List Value
  | [] => []
  | x :: l => ρ x :: argsOf ρ l

def callFn (f : Nat) (args : List Value) : Option Out :=
  match E.fn f with
  | some fn => match fn.body with
    | some _ => cond (fn.name == "runtime.NumGoroutine") none (some (.enter f args))
    | none => none
  | none => none

def val (h : Heap) : Option Value → Option Out
  | some v => some (.value v h)
  | none => none

def valH : Option (Value × Heap) → Option Out
  | some (v, h) => some (.value v h)
  | none => none

def call (ρ : Operand → Value) (h : Heap) (c : Call) : Option Out :=
  match c.callee with
  | .value f => match ρ f with
    | .func (.func k) first captured => callFn E k (first.toList ++ (argsOf ρ c.args.toList ++ captured.toList))
    | _ => none
  | .invoke .. => none
  | .builtin b => match b, argsOf ρ c.args.toList, c.argTypes.toList with
    | .len, [x], [t] => val h (lenV E t x)
    | .append, [s, x], [t, u] => match E.und u with
      | some (.int _) => none
      | some _ => valH (append E h t s x)
      | none => none
    | .copy, [d, x], t :: _ => valH (copy E h t d x)
    | .min, args, ts => cond (allS args) (valH (valP h (peel E.P (Builtin.min_ ts.toArray 0 args.toArray)))) none
    | .max, args, ts => cond (allS args) (valH (valP h (peel E.P (Builtin.max_ ts.toArray 0 args.toArray)))) none
    | _, _, _ => none

def pairsOf (ρ : Operand → Value) : List (Nat × Operand) → List (Nat × Value)
  | [] => []
  | (i, x) :: l => (i, ρ x) :: pairsOf ρ l

def op (ρ : Operand → Value) (h : Heap) (o : Op) : Option Out :=
  match o with
  | .move x | .assign x => some (.value (ρ x) h)
  | .pick c a b => match ρ c with | .bool t => some (.value (cond t (ρ a) (ρ b)) h) | _ => none
  | .alloc t => valH (alloc E h t)
  | .box _ x => valH (box h (ρ x))
  | .build t ps => val h (build E t (pairsOf ρ ps.toList))
  | .buildSlice t n ps => valH (buildSlice E h t n (pairsOf ρ ps.toList))
  | .load t a => val h (load E h t (ρ a))
  | .store t a v => match storeV E h t (ρ a) (ρ v) with | some h' => some (.skip h') | none => none
  | .nilCheck x => val h (nilCheck (ρ x))
  | .binOp b t x y _ => val h (binOpV E b t x y (ρ x) (ρ y))
  | .unOp u _ x => cond (plain (ρ x)) (valH (valP h (peel E.P (Op.unary u (ρ x))))) none
  | .convert s d x => valH (convert E h s d (ρ x))
  | .makeInterface t x => match E.und t with
    | some (.interface _) => none
    | some _ => some (.value (.iface t (ρ x)) h)
    | none => none
  | .makeFunc f first captured => some (.value (.func f (argsOf ρ first.toList).toArray (argsOf ρ captured.toList).toArray) h)
  | .makeSlice t l c => valH (makeSlice E h t (ρ l) (ρ c))
  | .slice t x lo hi none => val h (slice E h t (ρ x) (lo.map ρ) (hi.map ρ))
  | .fieldAddr t x f => val h (fieldAddr E t (ρ x) f)
  | .field t x f => val h (field E t (ρ x) f)
  | .indexAddr t x i => val h (indexAddr E t (ρ x) (ρ i))
  | .index t x i => val h (index E t (ρ x) (ρ i))
  | .extract x i => match ρ x with | .tuple vs => val h (vs.toList[i]?) | _ => none
  | .call c => call E ρ h c
  | _ => none

abbrev CallF := Nat → List Value → Heap → Option (Value × Heap)

/-! ## States, regions -/
structure St where
  n : Nat
  ts : T Value
  h : Heap

def undefV : Value := .tuple #[]

def St.eval (st : St) (gl : Nat) : Operand → Value
  | .tmp t => match st.ts.get t with | some v => v | none => undefV
  | .const v => cond (scalar v) v (.chan none)
  | .global g => cond (Nat.blt g gl) (ptr g 0) (.chan none)
  | .func f => .func (.func f) #[] #[]

def St.put (st : St) (d : Option Nat) (v : Value) : Option St :=
  match d with
  | none => some st
  | some d => cond (Nat.blt d st.n) (some { st with ts := st.ts.set d v }) none

/-- is the operation run? -/
def wantedA (ops : List Oper) (ts : T Value) (o : Oper) : Option Bool :=
  match o.guard with
  | none => some true
  | some (j, want) => match ops[j]? with
    | some oj => match oj.dst with
      | some d => match ts.get d with
        | some (.bool b) => some (b == want)
        | some (.tuple _) => some false
        | none => some false
        | _ => none
      | none => some false
    | none => some false

def step1 (call : Nat → List Value → Heap → Option (Value × Heap)) (ops : List Oper) (o : Oper) (st : St) : Option St :=
  match wantedA ops st.ts o with
  | some true => match op E (st.eval E.gl) st.h o.op with
      | some (.value v h) => { st with h := h }.put o.dst v
      | some (.skip h) => { st with h := h }.put o.dst undefV
      | some (.enter f args) => match call f args st.h with
        | some (v, h) => { st with h := h }.put o.dst v
        | none => none
      | none => none
  | some false => st.put o.dst undefV
  | none => none

def steps (call : Nat → List Value → Heap → Option (Value × Heap)) (ops : List Oper) : List Oper → St → Option St
  | [], st => some st
  | o :: l, st => match step1 E call ops o st with
    | some st' => steps call ops l st'
    | none => none

/-! ## Code, calls -/
inductive Ex where
  | normal
  | exit (id : Nat)
  | ret

def argsT : List Value → Nat → T Value → T Value
  | [], _, t => t
  | v :: l, i, t => argsT l (i + 1) (t.set i v)

def results (st : St) : List ResultVar → Option (List Value)
  | [] => some []
  | .tmp t :: l => match results st l with | some vs => some (st.eval 0 (.tmp t) :: vs) | none => none
  | .cell a t :: l => match load E st.h t (st.eval 0 (.tmp a)), results st l with
    | some v, some vs => some (v :: vs)
    | _, _ => none

def tupled : List Value → Value
  | [v] => v
  | vs => .tuple vs.toArray

def callWith (rec : Code → St → Option (Ex × St)) (f : Nat) (args : List Value) (h : Heap) : Option (Value × Heap) :=
  match E.fn f with
  | some fn => match fn.body with
    | some c => cond (Nat.ble args.length fn.ntmps)
      (match rec c { n := fn.ntmps, ts := T.ofList args, h := h } with
        | some (.exit _, _) => none
        | some (_, st) => match results E st fn.results.toList with
          | some vs => some (tupled vs, st.h)
          | none => none
        | none => none) none
    | none => none
  | none => none

/-! ## Regions that draw their order -/
inductive Cls where
  | pure | read | alloc | eff
  deriving DecidableEq

def clsCall : Callee → Cls
  | .builtin .len | .builtin .min | .builtin .max => .pure
  | _ => .eff

def cls : Op → Cls
  | .move _ | .assign _ | .pick .. | .build .. | .nilCheck _ | .binOp .. | .unOp .. | .makeInterface .. | .makeFunc .. | .fieldAddr .. | .field .. | .indexAddr .. | .index .. | .extract .. => .pure
  | .load .. | .slice .. => .read
  | .alloc _ | .box .. | .buildSlice .. | .makeSlice .. => .alloc
  | .call c => clsCall c.callee
  | _ => .eff

structure Ent where
  bit : Nat
  bef : Nat
  o : Oper

def tmpsOf : List Operand → List Nat
  | [] => []
  | .tmp t :: l => t :: tmpsOf l
  | _ :: l => tmpsOf l

/-- the slots that an operation reads or writes -/
def namesOf (ops : List Oper) (o : Oper) : List Nat :=
  tmpsOf o.op.operands.toList ++ ((match o.guard with
    | some (j, _) => (match ops[j]? with | some oj => (match oj.dst with | some d => [d] | none => []) | none => [])
    | none => []) ++ (match o.dst with | some d => [d] | none => []))

def hasBit (m i : Nat) : Bool := Nat.testBit m i

/-- the operations that must come before, out of those of the earlier ones -/
def befOf (masks : List Nat) : List Edge → Option Nat
  | [] => some 0
  | e :: l => match befOf masks l with
    | none => none
    | some m => cond (Region.binds .any e) (match masks[e.on]? with | some k => some (m ||| (k ||| 2 ^ e.on)) | none => none) (some m)

def masksOf : List Oper → List Nat → Option (List Nat)
  | [], acc => some acc
  | o :: l, acc => match befOf acc o.after.toList with
    | some m => masksOf l (acc ++ [m])
    | none => none

def entsOf : List Oper → List Nat → Nat → List Ent
  | o :: l, m :: ms, i => ⟨i, m, o⟩ :: entsOf l ms (i + 1)
  | _, _, _ => []

def sub (a b : Nat) : Bool := Nat.beq (a &&& b) a

def pick (eff : Bool) (done : Nat) : List Ent → Option (Ent × List Ent)
  | [] => none
  | x :: l => cond (sub x.bef done && (decide (cls x.o.op = .eff) == eff)) (some (x, l)) (match pick eff done l with | some (y, r) => some (y, x :: r) | none => none)

def orderOf : Nat → Nat → List Ent → List Ent
  | 0, _, _ => []
  | f + 1, done, l => match pick false done l with
    | some (x, r) => x :: orderOf f (done ||| 2 ^ x.bit) r
    | none => match pick true done l with
      | some (x, r) => x :: orderOf f (done ||| 2 ^ x.bit) r
      | none => []

/-- in this order: each behind what must come before; each behind all earlier effects by an edge; the names -/
def topo : Nat → Nat → List Ent → Bool
  | _, _, [] => true
  | done, effs, x :: l => sub x.bef done && (sub effs x.bef && (!hasBit done x.bit && topo (done ||| 2 ^ x.bit) (cond (decide (cls x.o.op = .eff)) (effs ||| 2 ^ x.bit) effs) l))

def namesOk (ops : List Oper) (l : List Ent) : Bool :=
  l.all fun x => l.all fun y => Nat.beq x.bit y.bit || (match x.o.dst with
    | none => true
    | some d => !(namesOf ops y.o).contains d || (hasBit y.bef x.bit || hasBit x.bef y.bit))

def bitsOk (ops : List Oper) (l : List Ent) : Bool :=
  Nat.beq l.length ops.length && ((l.all fun x => Nat.blt x.bit ops.length) && (List.range ops.length).all fun i => l.any fun x => Nat.beq x.bit i)

/-- the order in which a region that draws is run here, if every order serves -/
def schedOf (ops : List Oper) : Option (List Ent) :=
  match masksOf ops [] with
  | none => none
  | some ms =>
    let l := orderOf ops.length 0 (entsOf ops ms 0)
    cond (topo 0 0 l && (namesOk ops l && bitsOk ops l)) (some l) none

def eqS : Value → Value → Bool
  | .bool a, .bool b => a == b
  | .int k a, .int k' b => decide (k = k') && decide (a = b)
  | .string a, .string b => decide (a.data.toList = b.data.toList)
  | .pointer none, .pointer none => true
  | .pointer (some ⟨b, o, none⟩), .pointer (some ⟨b', o', none⟩) => Nat.beq b b' && Nat.beq o o'
  | .slice none n c, .slice none n' c' => Nat.beq n n' && Nat.beq c c'
  | .slice (some ⟨b, o, none⟩) n c, .slice (some ⟨b', o', none⟩) n' c' => (Nat.beq b b' && Nat.beq o o') && (Nat.beq n n' && Nat.beq c c')
  | .nilIface, .nilIface => true
  | .nilFunc, .nilFunc => true
  | .func (.func f) a c, .func (.func f') a' c' => Nat.beq f f' && (Nat.beq (a.size + c.size) 0 && Nat.beq (a'.size + c'.size) 0)
  | _, _ => false

def eqL : List Value → List Value → Bool
  | [], [] => true
  | a :: l, b :: m => eqS a b && eqL l m
  | _, _ => false

def eqV : Value → Value → Bool
  | .agg a, .agg b => eqL a.toList b.toList
  | .iface t a, .iface u b => Nat.beq t u && eqS a b
  | a, b => eqS a b

inductive Watch where
  | read (st : St) (o : Op) (v : Value)
  | blk (b : Nat) (l : List Value) (esz : Nat)

section
variable (E : Env)
def Watch.ok (h : Heap) : Watch → Bool
  | .read st o v => match op E (st.eval E.gl) h o with
    | some (.value u _) => eqV v u
    | _ => false
  | .blk b l esz => match h.blks.get b with
    | some B => Nat.beq B.size l.length && (Nat.beq B.esz esz && (!B.ro && (match B.row 0 l.length with | some r => eqL l r | none => false)))
    | none => false

def watchOk (h : Heap) (bef : Nat) (always : Bool) : List (Nat × Watch) → Bool
  | [] => true
  | (i, x) :: l => (!always && hasBit bef i || x.ok E h) && watchOk h bef always l

def newWatch (x : Ent) (st st' : St) : Option (List Watch) :=
  match cls x.o.op with
  | .read => match op E (st.eval E.gl) st.h x.o.op with | some (.value v _) => some [.read st x.o.op v] | _ => none
  | .alloc => match st'.h.blks.get st.h.next with
    | some B => match B.row 0 B.size with | some l => some [.blk st.h.next l B.esz] | none => none
    | none => none
  | _ => some []

def drun (call : CallF) (ops : List Oper) : List Ent → List (Nat × Watch) → St → Option St
  | [], _, st => some st
  | x :: l, ws, st => match step1 E call ops x.o st with
    | none => none
    | some st' => match wantedA ops st.ts x.o with
      | some true => match cls x.o.op with
        | .pure => drun call ops l ws st'
        | .eff => cond (Nat.ble st.h.next st'.h.next && watchOk E st'.h x.bef false ws) (drun call ops l ws st') none
        | .read => match newWatch E x st st' with
          | some [y] => drun call ops l ((x.bit, y) :: ws) st'
          | _ => none
        | .alloc => match newWatch E x st st' with
          | some [y] => cond (watchOk E st'.h x.bef true ws) (drun call ops l ((x.bit, y) :: ws) st') none
          | _ => none
      | _ => drun call ops l ws st'

def draws (call : CallF) (ops : List Oper) (st : St) : Option St :=
  match schedOf ops with
  | some l => drun E call ops l [] st
  | none => none
end

def execWith (draws : CallF → List Oper → St → Option St) (rec : Code → St → Option (Ex × St)) (c : Code) (st : St) : Option (Ex × St) :=
  match c with
  | .skip => some (.normal, st)
  | .region _ ops draw =>
      match cond draw (draws (callWith E rec) ops.toList st) (steps E (callWith E rec) ops.toList ops.toList st) with
        | some st' => some (.normal, st')
        | none => none
  | .seq a b => match rec a st with
    | some (.normal, st') => rec b st'
    | r => r
  | .cond x a b => match st.eval E.gl x with
    | .bool t => cond t (rec a st) (rec b st)
    | _ => none
  | .block id a => match rec a st with
    | some (.exit k, st') => cond (Nat.beq k id) (some (.normal, st')) (some (.exit k, st'))
    | r => r
  | .loop a => match rec a st with
    | some (.normal, st') => rec (.loop a) st'
    | r => r
  | .exit id => some (.exit id, st)
  | .ret => some (.ret, st)
  | _ => none

def execG (draws : CallF → List Oper → St → Option St) : Nat → Code → St → Option (Ex × St) :=
  Nat.rec (fun _ _ => none) fun _ rec => execWith E draws rec

def exec : Nat → Code → St → Option (Ex × St) := execG E (draws E)
def run (fuel : Nat) (f : Nat) (args : List Value) (h : Heap) : Option (Value × Heap) := callWith E (exec E fuel) f args h
end
end Go.AM
