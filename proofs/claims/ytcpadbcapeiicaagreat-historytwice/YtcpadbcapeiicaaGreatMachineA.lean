/- A small deterministic memory machine, and that what it comes to the model comes to (first part). No conditions. -/
import Derived.OrdersIn
import Derived.RangeFuncLeaves
import Derived.RangeFuncIn
import Derived.RangeFuncCalls
import Derived.Below
import Derived.Laws.StructEq
import Derived.Laws.Append
import Derived.Laws.BytesArg
set_option linter.unusedVariables false
set_option linter.unusedSimpArgs false
/- A small deterministic memory machine for Go's structured code: values, memory, operations, code, calls. Definitions alone. -/
namespace Go.Proofs.Am
open Go

/-- A capacity that is not known (no slice has it). -/
def UC : Nat := 18446744073709551616

/-- An operand: a temporary, a constant that holds no address, a function. -/
inductive AX where
  | t (n : Nat)
  | c (v : Value)
  | f (id : FuncId)
  deriving Inhabited

/-- The kinds of what may be nil. -/
inductive NK where
  | ptr | slice | map | func | iface
  deriving Inhabited

/-- The kinds of cells that are compared; of keys. -/
inductive PK where
  | int | bool | str
  deriving Inhabited, DecidableEq
inductive KT where
  | sc (p : PK)
  | st (ps : List PK)
  deriving Inhabited

inductive AOp where
  | move (x : AX)
  | pick (c a b : AX)
  | box (t : TypeId) (x : AX)
  | new (t : TypeId) (z : List Value)
  | build (z : List Value) (ps : List (Nat × Nat × AX))
  | row (t : TypeId) (len : Nat) (z : List Value) (ps : List (Nat × Nat × AX))
  | load (a : AX)
  | loadN (n : Nat) (a : AX)
  | store (n : Nat) (a v : AX)
  | nilCheck (x : AX)
  | bin (op : BinOp) (x y : AX)
  | eqB (neg : Bool) (x y : AX)
  | eqNil (k : NK) (neg : Bool) (x y : AX)
  | eqFlat (ks : List PK) (neg : Bool) (x y : AX)
  | un (op : UnOp) (x : AX)
  | conv (k : IntKind) (x : AX)
  | convId (x : AX)
  | bytesOf (t : TypeId) (x : AX)
  | strOf (x : AX)
  | slice (size : Nat) (x : AX) (lo hi mx : Option AX)
  | sliceStr (x : AX) (lo hi : Option AX)
  | sliceArr (n size : Nat) (x : AX) (lo hi : Option AX)
  | fieldAddr (off : Nat) (x : AX)
  | field (off : Nat) (n : Option Nat) (x : AX)
  | indexAddr (size : Nat) (x i : AX)
  | indexArr (len size : Nat) (x i : AX)
  | indexVal (len size : Nat) (n : Option Nat) (x i : AX)
  | indexStr (x i : AX)
  | extract (x : AX) (i : Nat)
  | func (fn : FuncId) (first cap : List AX)
  | makeSlice (t : TypeId) (bytes : Nat) (z : List Value) (len cap : AX)
  | makeMap
  | lookup (kt : KT) (ok : Bool) (z : Value) (m k : AX)
  | update (kt : KT) (m k v : AX)
  | iface (t : TypeId) (x : AX)
  | call (f : AX) (args : List AX)
  | lenS (x : AX)
  | lenStr (x : AX)
  | lenMap (x : AX)
  | append (t : TypeId) (size bytes : Nat) (s x : AX)
  | copy (size : Nat) (d s : AX)
  | clear (z : List Value) (x : AX)
  | min2 (x y : AX)
  | max2 (x y : AX)
  | panic (x : AX)
  deriving Inhabited

structure AOper where
  dst : Option Nat
  op : AOp
  guard : Option (Nat × Bool)
  deriving Inhabited

inductive ACode where
  | skip
  /-- chk: pairs (i, j): operation i only reads, j acts, and neither goes ahead of the other; pk: the operations at which a panic may come up. -/
  | region (draw : Bool) (ops : List AOper) (chk : List (Nat × Nat)) (pk : List Nat)
  | seq (a b : ACode)
  | cond (c : AX) (thn els : ACode)
  | block (id : Nat) (body : ACode)
  | loop (body : ACode)
  | rangeFunc (f : AX) (params : List Nat) (assign body : ACode)
  | exit (id : Nat)
  | ret
  deriving Inhabited

inductive ARes where
  | tmp (t : Nat)
  | cell (t : Nat) (n : Option Nat)
  deriving Inhabited

structure AFunc where
  ntmps : Nat
  results : List ARes
  body : ACode
  deriving Inhabited

inductive Blk where
  | cells (cs : List Value) (t : TypeId) (ro : Bool)
  | map (es : List MapEntry) (clock : Nat)
  | loop (st : LoopState) (pend : Option ACode) (tmps : List Value) (params : List Nat) (assign body : ACode)
  | gone
  deriving Inhabited

abbrev Mem := List Blk

/-- What a call leads to. -/
inductive Tgt where
  | fn (f : FuncId)
  | yield (l : Nat)

inductive AR where
  | val (v : Value)
  | enter (g : Tgt) (args : List Value)
  | panic (v : Value)

inductive AOut where
  | normal
  | exit (id : Nat)
  | ret
  | panic (v : Value)

def ev (fr : List Value) : AX → Value
  | .t n => fr.getD n undef
  | .c v => v
  | .f id => .func (.func id) #[] #[]

/-- The cells of a value that can be stored. -/
def cellsOf : Value → Option (List Value)
  | .agg cs => some cs.toList
  | .tuple _ => none
  | v => some [v]

def one : Value → Bool
  | .agg _ | .tuple _ => false
  | _ => true

def wr : List Value → Nat → List Value → List Value
  | cs, _, [] => cs
  | cs, o, v :: vs => wr (cs.set o v) (o + 1) vs

def rd1 (H : Mem) (b o : Nat) : Option Value :=
  match H[b]? with
  | some (.cells cs _ _) => cs[o]?
  | _ => none

def rdN (H : Mem) (b o n : Nat) : Option (List Value) :=
  match H[b]? with
  | some (.cells cs _ _) => if o + n ≤ cs.length then some ((cs.drop o).take n) else none
  | _ => none

def wrN (H : Mem) (b o : Nat) (vs : List Value) : Option Mem :=
  match H[b]? with
  | some (.cells cs t false) => if o + vs.length ≤ cs.length && vs.all one then some (H.set b (.cells (wr cs o vs) t false)) else none
  | _ => none

def fillA (e : AX → Value) : List Value → List (Nat × Nat × AX) → Option (List Value)
  | cs, [] => some cs
  | cs, (off, size, x) :: ps =>
    match cellsOf (e x) with
    | some vs => if vs.length = size ∧ off + size ≤ cs.length then fillA e (wr cs off vs) ps else none
    | none => none

def abin (op : BinOp) : Value → Value → Option Value
  | .int k a, .int k' b =>
    match op with
    | .shl => if 0 ≤ b then some (.int k (k.wrap (a * 2 ^ min b.toNat k.bits))) else none
    | .shr => if 0 ≤ b then some (.int k (a.fdiv (2 ^ min b.toNat k.bits))) else none
    | _ =>
      if k = k' then
        match op with
        | .add => some (.int k (k.wrap (a + b)))
        | .sub => some (.int k (k.wrap (a - b)))
        | .mul => some (.int k (k.wrap (a * b)))
        | .quo => if b = 0 then none else some (.int k (k.wrap (a.tdiv b)))
        | .rem => if b = 0 then none else some (.int k (a.tmod b))
        | .and => some (.int k (k.wrap (BitVec.ofInt k.bits a &&& BitVec.ofInt k.bits b).toNat))
        | .or => some (.int k (k.wrap (BitVec.ofInt k.bits a ||| BitVec.ofInt k.bits b).toNat))
        | .xor => some (.int k (k.wrap (BitVec.ofInt k.bits a ^^^ BitVec.ofInt k.bits b).toNat))
        | .andNot => some (.int k (k.wrap (BitVec.ofInt k.bits a &&& ~~~ BitVec.ofInt k.bits b).toNat))
        | .eql => some (.bool (a == b))
        | .neq => some (.bool (a != b))
        | .lss => some (.bool (a < b))
        | .leq => some (.bool (a ≤ b))
        | .gtr => some (.bool (a > b))
        | .geq => some (.bool (a ≥ b))
        | _ => none
      else none
  | .string a, .string b =>
    match op with
    | .add => if a.size + b.size ≤ 140737488355328 then some (.string (a ++ b)) else none
    | .eql => some (.bool (a.toList == b.toList))
    | .neq => some (.bool !(a.toList == b.toList))
    | .lss => some (.bool (Op.bytesLess a.toList b.toList))
    | _ => none
  | _, _ => none

/-- Is a value nil? -/
def isNil : NK → Value → Option Bool
  | .ptr, .pointer a => some a.isNone
  | .slice, .slice a _ _ => some a.isNone
  | .map, .map r => some r.isNone
  | .func, .nilFunc => some true
  | .func, .func _ _ _ => some false
  | .iface, .nilIface => some true
  | .iface, .iface _ _ => some false
  | _, _ => none

def eqPrim : PK → Value → Value → Option Bool
  | .int, .int k a, .int k' b => if k = k' then some (a == b) else none
  | .bool, .bool a, .bool b => some (a == b)
  | .str, .string a, .string b => some (a == b)
  | _, _, _ => none

/-- Cells that hold numbers, bools and texts: are they the same? -/
def eqCells : List PK → List Value → List Value → Option Bool
  | [], [], [] => some true
  | p :: ps, x :: xs, y :: ys =>
    match eqPrim p x y, eqCells ps xs ys with
    | some a, some b => some (a && b)
    | _, _ => none
  | _, _, _ => none

def eqKey : KT → Value → Value → Option Bool
  | .sc p, x, y => eqPrim p x y
  | .st ps, .agg a, .agg b => eqCells ps a.toList b.toList
  | _, _, _ => none

def aun (op : UnOp) : Value → Option Value
  | .bool b => match op with
    | .not => some (.bool !b)
    | _ => none
  | .int k n => match op with
    | .neg => some (.int k (k.wrap (0 - n)))
    | .xor => some (.int k (k.wrap (BitVec.ofInt k.bits (if k.signed then -1 else k.max) ^^^ BitVec.ofInt k.bits n).toNat))
    | _ => none
  | _ => none

/-- A bound of a slice: a number from 0 to y. -/
def bnd (y : Nat) : Value → Option Nat
  | .int _ i => if 0 ≤ i ∧ i ≤ y then some i.toNat else none
  | _ => none

def bndO (e : AX → Value) (y d : Nat) : Option AX → Option Nat
  | none => some d
  | some x => bnd y (e x)

/-- A slice of a slice. A capacity that is not known: UC and the size of an element. -/
def asliced (size : Nat) (e : AX → Value) (a : Option Addr) (n c : Nat) (lo hi mx : Option AX) : Option Value :=
  if UC ≤ c then
    if c = UC + size ∧ n < UC then
      match mx with
      | none =>
        match bndO e n n hi with
        | some h => match bndO e h 0 lo with
          | some l => some (.slice (a.map (·.add (l * size))) (h - l) c)
          | none => none
        | none => none
      | some x =>
        match bnd n (e x), hi with
        | some m, some y => match bnd m (e y) with
          | some h => match bndO e h 0 lo with
            | some l => some (.slice (if m = l then a else a.map (·.add (l * size))) (h - l) (m - l))
            | none => none
          | none => none
        | _, _ => none
    else none
  else
    match mx with
    | none =>
      match bndO e c n hi with
      | some h => match bndO e h 0 lo with
        | some l => some (.slice (if c = l then a else a.map (·.add (l * size))) (h - l) (c - l))
        | none => none
      | none => none
    | some x =>
      match bnd c (e x), hi with
      | some m, some y => match bnd m (e y) with
        | some h => match bndO e h 0 lo with
          | some l => some (.slice (if m = l then a else a.map (·.add (l * size))) (h - l) (m - l))
          | none => none
        | none => none
      | _, _ => none

def findA (kt : KT) (k : Value) : List MapEntry → Nat → Option (Option (Nat × Value))
  | [], _ => some none
  | e :: es, i =>
    match eqKey kt k e.key with
    | some true => some (some (i, e.val))
    | some false => findA kt k es (i + 1)
    | none => none

def partA (n : Option Nat) (cs : List Value) (off : Nat) : Option Value :=
  match n with
  | none => cs[off]?
  | some k => if off + k ≤ cs.length then some (.agg ⟨(cs.drop off).take k⟩) else none

def loadA (H : Mem) (n : Option Nat) : Value → Option Value
  | .pointer (some ⟨b, o, none⟩) =>
    match n with
    | none => rd1 H b o
    | some k => (rdN H b o k).map fun cs => .agg ⟨cs⟩
  | _ => none

/-- The cells of the first m elements that a slice (a text) leads to. -/
def sliceCells (H : Mem) (m size : Nat) : Value → Option (List Value)
  | .slice (some ⟨b, o, none⟩) n _ => if m = 0 then some [] else if m ≤ n then rdN H b o (m * size) else none
  | .slice none _ _ => if m = 0 then some [] else none
  | .string s => if size = 1 ∧ m = s.size then some (s.data.toList.map fun b => .int .u8 b.toNat) else none
  | _ => none

def lenOfA : Value → Option Nat
  | .slice _ n _ => some n
  | .string s => some s.size
  | _ => none

def appendA (t : TypeId) (size bytes : Nat) (s x : Value) (H : Mem) : Option (Value × Mem) :=
  match s, lenOfA x with
  | .slice a n c, some m =>
    match sliceCells H m size x with
    | none => none
    | some new =>
      if m = 0 then some (s, H)
      else if (n + m) * bytes ≤ 140737488355328 ∧ new.all one = true then
        if UC ≤ c then
          if c ≠ UC + size then none else
          match a with
          | some ⟨b, o, none⟩ =>
            if n = 0 then none else
            match H[b]? with
            | some (.cells cs _ false) =>
              if o + n * size ≤ cs.length then
                some (.slice (some ⟨H.length, 0, none⟩) (n + m) (UC + size), H.set b .gone ++ [.cells ((cs.drop o).take (n * size) ++ new) t false])
              else none
            | _ => none
          | _ => none
        else if n + m ≤ c then
          match a with
          | some ⟨b, o, none⟩ => (wrN H b (o + n * size) new).map fun H' => (.slice a (n + m) c, H')
          | _ => none
        else
          (sliceCells H n size s).map fun old => (.slice (some ⟨H.length, 0, none⟩) (n + m) (UC + size), H ++ [.cells (old ++ new) t false])
      else none
  | _, _ => none

def aop (o : AOp) (e : AX → Value) (H : Mem) : Option (AR × Mem) :=
  let pure (v : Option Value) : Option (AR × Mem) := v.map fun v => (.val v, H)
  match o with
  | .move x => some (.val (e x), H)
  | .pick c a b => match e c with
    | .bool t => some (.val (if t then e a else e b), H)
    | _ => none
  | .box t x => (cellsOf (e x)).map fun cs => (.val (.pointer (some ⟨H.length, 0, none⟩)), H ++ [.cells cs t false])
  | .new t z => some (.val (.pointer (some ⟨H.length, 0, none⟩)), H ++ [.cells z t false])
  | .build z ps => (fillA e z ps).map fun cs => (.val (.agg ⟨cs⟩), H)
  | .row t len z ps => (fillA e z ps).map fun cs => (.val (.slice (some ⟨H.length, 0, none⟩) len len), H ++ [.cells cs t false])
  | .load a => pure (loadA H none (e a))
  | .loadN n a => pure (loadA H (some n) (e a))
  | .store n a v => match e a, cellsOf (e v) with
    | .pointer (some ⟨b, o, none⟩), some vs => if vs.length = n then (wrN H b o vs).map fun H' => (.val undef, H') else none
    | _, _ => none
  | .nilCheck x => match e x with
    | .pointer (some a) => some (.val (.pointer (some a)), H)
    | .func (.func f) a b => some (.val (.func (.func f) a b), H)
    | _ => none
  | .bin op x y => pure (abin op (e x) (e y))
  | .eqB neg x y => match e x, e y with
    | .bool a, .bool b => some (.val (.bool ((a == b) != neg)), H)
    | _, _ => none
  | .eqNil k neg x y => match isNil k (e x), isNil k (e y) with
    | some a, some b => if a || b then some (.val (.bool ((a && b) != neg)), H) else none
    | _, _ => none
  | .eqFlat ks neg x y => match e x, e y with
    | .agg a, .agg b => (eqCells ks a.toList b.toList).map fun r => (.val (.bool (r != neg)), H)
    | _, _ => none
  | .un op x => pure (aun op (e x))
  | .conv k x => match e x with
    | .int _ n => some (.val (.int k (k.wrap n)), H)
    | _ => none
  | .convId x => match e x with
    | .string s => some (.val (.string s), H)
    | _ => none
  | .bytesOf t x => match e x with
    | .string s => if s.size ≤ 140737488355328 then some (.val (.slice (some ⟨H.length, 0, none⟩) s.size (UC + 1)), H ++ [.cells (s.data.toList.map fun b => .int .u8 b.toNat) t false]) else none
    | _ => none
  | .strOf x => match e x with
    | .slice a n c => match sliceCells H n 1 (.slice a n c) with
      | some cs => if cs.all (fun | .int .u8 _ => true | _ => false) then some (.val (.string ⟨⟨cs.map fun | .int _ n => UInt8.ofNat n.toNat | _ => 0⟩⟩), H) else none
      | none => none
    | _ => none
  | .slice size x lo hi mx => match e x with
    | .slice a n c => pure (asliced size e a n c lo hi mx)
    | _ => none
  | .sliceStr x lo hi => match e x with
    | .string s => match bndO e s.size s.size hi with
      | some h => match bndO e h 0 lo with
        | some l => some (.val (.string (s.extract l h)), H)
        | none => none
      | none => none
    | _ => none
  | .sliceArr n size x lo hi => match e x with
    | .pointer (some a) => if UC ≤ n then none else match bndO e n n hi with
      | some h => match bndO e h 0 lo with
        | some l => some (.val (.slice (some (if n = l then a else a.add (l * size))) (h - l) (n - l)), H)
        | none => none
      | none => none
    | _ => none
  | .fieldAddr off x => match e x with
    | .pointer (some a) => some (.val (.pointer (some (a.add off))), H)
    | _ => none
  | .field off n x => match e x with
    | .agg cs => pure (partA n cs.toList off)
    | _ => none
  | .indexAddr size x i => match e x, e i with
    | .slice (some a) n _, .int _ i => if 0 ≤ i ∧ i < n then some (.val (.pointer (some (a.add (i.toNat * size)))), H) else none
    | _, _ => none
  | .indexArr len size x i => match e x, e i with
    | .pointer (some a), .int _ i => if 0 ≤ i ∧ i < len then some (.val (.pointer (some (a.add (i.toNat * size)))), H) else none
    | _, _ => none
  | .indexVal len size n x i => match e x, e i with
    | .agg cs, .int _ i => if 0 ≤ i ∧ i < len then pure (partA n cs.toList (i.toNat * size)) else none
    | _, _ => none
  | .indexStr x i => match e x, e i with
    | .string s, .int _ i => if 0 ≤ i then pure ((s.data.toList[i.toNat]?).map fun b => .int .u8 b.toNat) else none
    | _, _ => none
  | .extract x i => match e x with
    | .tuple vs => pure vs.toList[i]?
    | _ => none
  | .func fn first cap => some (.val (.func (.func fn) ⟨first.map e⟩ ⟨cap.map e⟩), H)
  | .makeSlice t bytes z len cap => match e len, e cap with
    | .int _ l, .int _ c => if 0 ≤ l ∧ l ≤ c ∧ bytes * c ≤ 140737488355328 ∧ c ≤ 140737488355328 then
        some (.val (.slice (some ⟨H.length, 0, none⟩) l.toNat c.toNat), H ++ [.cells (List.flatten (List.replicate c.toNat z)) t false]) else none
    | _, _ => none
  | .makeMap => some (.val (.map (some H.length)), H ++ [.map [] 0])
  | .lookup kt ok z m k =>
    let done (v : Value) (b : Bool) : Option (AR × Mem) := some (.val (if ok then .tuple #[v, .bool b] else v), H)
    match eqKey kt (e k) (e k) with
    | none => none
    | some _ =>
      match e m with
      | .map none => done z false
      | .map (some r) => match H[r]? with
        | some (.map es _) => match findA kt (e k) es 0 with
          | some (some (_, v)) => done v true
          | some none => done z false
          | none => none
        | _ => none
      | _ => none
  | .update kt m k v =>
    match eqKey kt (e k) (e k) with
    | none => none
    | some _ =>
      match e m with
      | .map (some r) => match H[r]? with
        | some (.map es clock) => match findA kt (e k) es 0 with
          | some (some (i, _)) => some (.val undef, H.set r (.map (es.modify i fun x => { x with key := e k, val := e v }) clock))
          | some none => some (.val undef, H.set r (.map (es ++ [{ key := e k, val := e v, born := clock }]) (clock + 1)))
          | none => none
        | _ => none
      | _ => none
  | .iface t x => some (.val (.iface t (e x)), H)
  | .call f args => match e f with
    | .func (.func g) first cap => some (.enter (.fn g) (first.toList ++ args.map e ++ cap.toList), H)
    | .func (.yield l) _ _ => some (.enter (.yield l) (args.map e), H)
    | _ => none
  | .lenS x => match e x with
    | .slice _ n _ => some (.val (.int .i64 n), H)
    | _ => none
  | .lenStr x => match e x with
    | .string s => some (.val (.int .i64 s.size), H)
    | _ => none
  | .lenMap x => match e x with
    | .map none => some (.val (.int .i64 0), H)
    | .map (some r) => match H[r]? with
      | some (.map es _) => some (.val (.int .i64 es.length), H)
      | _ => none
    | _ => none
  | .append t size bytes s x => (appendA t size bytes (e s) (e x) H).map fun (v, H') => (.val v, H')
  | .copy size d s => match e d, e s with
    | .slice a n _, .slice a' m c' =>
      let k := Nat.min m n
      match sliceCells H k size (.slice a' m c') with
      | some cs => if k = 0 then some (.val (.int .i64 0), H) else
        match a with
        | some ⟨b, o, none⟩ => (wrN H b o cs).map fun H' => (.val (.int .i64 k), H')
        | _ => none
      | none => none
    | _, _ => none
  | .clear z x => match e x with
    | .slice a n _ => if n = 0 then some (.val undef, H) else match a with
      | some ⟨b, o, none⟩ => (wrN H b o (List.flatten (List.replicate n z))).map fun H' => (.val undef, H')
      | _ => none
    | _ => none
  | .min2 x y => match e x, e y with
    | .int k a, .int _ b => some (.val (.int k (if b < a then b else a)), H)
    | _, _ => none
  | .max2 x y => match e x, e y with
    | .int k a, .int _ b => some (.val (.int k (if b > a then b else a)), H)
    | _, _ => none
  | .panic x => match e x with
    | .iface t v => some (.panic (.iface t v), H)
    | _ => none

def put (fr : List Value) (d : Option Nat) (v : Value) : List Value :=
  match d with
  | some d => fr.set d v
  | none => fr

/-- Is an operation carried out, by its guard? -/
def wantedA (ops : List AOper) (fr : List Value) (o : AOper) : Option Bool :=
  match o.guard with
  | none => some true
  | some (j, b) =>
    match (ops[j]?).bind (·.dst) with
    | some d => match fr[d]? with
      | some (.bool c) => some (c == b)
      | some (.chan _) => none
      | _ => some false
    | none => some false

/-- A call's function: what a call comes to. -/
abbrev Inv := Tgt → List Value → Mem → Option (Except Value Value × Mem)

/-- One operation, its call made. -/
def step1 (inv : Inv) (o : AOp) (e : AX → Value) (H : Mem) : Option (Except Value Value × Mem) :=
  match aop o e H with
  | some (.val v, H') => some (.ok v, H')
  | some (.panic v, H') => some (.error v, H')
  | some (.enter g args, H') => inv g args H'
  | none => none

/-- Operations in the text's order; what stood ahead of each (the last one done stands first). -/
def exOps (inv : Inv) (all : List AOper) : List AOper → List Value → Mem → List (List Value × Mem) → Option (AOut × List Value × Mem × List (List Value × Mem))
  | [], fr, H, tr => some (.normal, fr, H, tr)
  | o :: ops, fr, H, tr =>
    match wantedA all fr o with
    | some true =>
      match step1 inv o.op (ev fr) H with
      | some (.ok v, H') => exOps inv all ops (put fr o.dst v) H' ((fr, H) :: tr)
      | some (.error v, H') => some (.panic v, fr, H', (fr, H) :: tr)
      | none => none
    | some false => exOps inv all ops (put fr o.dst undef) H ((fr, H) :: tr)
    | none => none

mutual
/-- Are two values the same? (It may say no.) -/
def veq : Value → Value → Bool
  | .int k a, .int k' b => decide (k = k') && decide (a = b)
  | .bool a, .bool b => decide (a = b)
  | .string a, .string b => decide (a.data.toList = b.data.toList)
  | .pointer a, .pointer b => decide (a = b)
  | .slice a n c, .slice b m d => decide (a = b) && decide (n = m) && decide (c = d)
  | .map a, .map b => decide (a = b)
  | .nilFunc, .nilFunc => true
  | .nilIface, .nilIface => true
  | .func f ⟨a⟩ ⟨b⟩, .func g ⟨c⟩ ⟨d⟩ => decide (f = g) && veqL a c && veqL b d
  | .iface t v, .iface u w => decide (t = u) && veq v w
  | .agg ⟨a⟩, .agg ⟨b⟩ => veqL a b
  | .tuple ⟨a⟩, .tuple ⟨b⟩ => veqL a b
  | _, _ => false
def veqL : List Value → List Value → Bool
  | [], [] => true
  | x :: xs, y :: ys => veq x y && veqL xs ys
  | _, _ => false
end

/-- Operation i reads the same ahead of operation j and behind it. tr: what stood ahead of each, in order; behind the last one: (fr, H). -/
def chkOk (ops : List AOper) (tr : List (List Value × Mem)) (p : Nat × Nat) : Bool :=
  match ops[p.1]?, ops[p.2]?, tr[p.1]?, tr[p.2]?, tr[p.2 + 1]? with
  | some oi, some oj, some (fi, _), some (fj, Hj), some (_, Hj') =>
    if wantedA ops fi oi == some true && wantedA ops fj oj == some true then
      match aop oi.op (ev fi) Hj, aop oi.op (ev fi) Hj' with
      | some (.val v, _), some (.val v', _) => veq v v'
      | _, _ => false
    else true
  | _, _, _, _, _ => false

def exRegion (inv : Inv) (draw : Bool) (ops : List AOper) (chk : List (Nat × Nat)) (pk : List Nat) (fr : List Value) (H : Mem) : Option (AOut × List Value × Mem) :=
  match exOps inv ops ops fr H [] with
  | some (.normal, fr', H', tr) => if !draw || chk.all (chkOk ops ((fr', H') :: tr).reverse) then some (.normal, fr', H') else none
  | some (out, fr', H', tr) => if !draw || (pk.contains (tr.length - 1) && chk.all fun p => decide (tr.length - 1 ≤ p.2) || decide (tr.length - 1 < p.1) || chkOk ops tr.reverse p) then some (out, fr', H') else none
  | none => none

/-- So many rounds of a loop at the most. -/
def iter (body : List Value → Mem → Option (AOut × List Value × Mem)) : Nat → List Value → Mem → Option (AOut × List Value × Mem)
  | 0, _, _ => none
  | n + 1, fr, H =>
    match body fr H with
    | some (.normal, fr', H') => iter body n fr' H'
    | r => r

/-- Code. rd: in a round of a range over a function. -/
def exec (inv : Inv) (n : Nat) (rd : Bool) : ACode → List Value → Mem → Option (AOut × List Value × Mem)
  | .skip, fr, H => some (.normal, fr, H)
  | .region draw ops chk pk, fr, H => exRegion inv draw ops chk pk fr H
  | .seq a b, fr, H =>
    match exec inv n rd a fr H with
    | some (.normal, fr', H') => exec inv n rd b fr' H'
    | r => r
  | .cond c a b, fr, H =>
    match ev fr c with
    | .bool t => if t then exec inv n rd a fr H else exec inv n rd b fr H
    | _ => none
  | .block id body, fr, H =>
    match exec inv n rd body fr H with
    | some (.exit id', fr', H') => if id' = id then some (.normal, fr', H') else some (.exit id', fr', H')
    | r => r
  | .loop body, fr, H => iter (exec inv n rd body) n fr H
  | .exit id, fr, H => some (.exit id, fr, H)
  | .ret, fr, H => some (.ret, fr, H)
  | .rangeFunc f params assign body, fr, H =>
    let l := H.length
    if rd then none else
    match ev fr f with
    | .func (.func g) first cap =>
      match inv (.fn g) (first.toList ++ [.func (.yield l) #[] #[]] ++ cap.toList) (H ++ [.loop .ready none fr params assign body]) with
      | some (.ok _, H') =>
        match H'[l]? with
        | some (.loop st pend ..) =>
          if st = .busy then none else
          match pend with
          | none => some (.normal, fr, H'.set l .gone)
          | some .ret => some (.ret, fr, H'.set l .gone)
          | some (.exit id) => some (.exit id, fr, H'.set l .gone)
          | some _ => none
        | _ => none
      | _ => none
    | _ => none

def resA (fr : List Value) (H : Mem) : ARes → Option Value
  | .tmp t => some (fr.getD t undef)
  | .cell t n => loadA H n (fr.getD t undef)

def resultsA (fr : List Value) (H : Mem) (rs : List ARes) : Option Value :=
  match rs with
  | [r] => resA fr H r
  | rs => (rs.mapM (resA fr H)).map fun vs => .tuple ⟨vs⟩

def setAll : List Value → List Nat → List Value → List Value
  | fr, p :: ps, v :: vs => setAll (fr.set p v) ps vs
  | fr, _, _ => fr

/-- The functions: a text, or a law of its own. -/
inductive AFn where
  | code (f : AFunc)
  | prim (F : List Value → Mem → Option (Value × Mem))

abbrev Tbl := FuncId → Option AFn

def inv (T : Tbl) : Nat → Tgt → List Value → Mem → Option (Except Value Value × Mem)
  | 0, _, _, _ => none
  | n + 1, .fn f, args, H =>
    match T f with
    | some (.prim F) => (F args H).map fun (v, H') => (.ok v, H')
    | some (.code fn) =>
      match exec (inv T n) n false fn.body (args ++ List.replicate (fn.ntmps - args.length) undef) H with
      | some (.normal, fr, H') | some (.ret, fr, H') => (resultsA fr H' fn.results).map fun v => (.ok v, H')
      | some (.panic v, _, H') => some (.error v, H')
      | _ => none
    | none => none
  | n + 1, .yield l, args, H =>
    match H[l]? with
    | some (.loop .ready pend tmps params assign body) =>
      if args.length = params.length then
        match exec (inv T n) n true assign (setAll tmps params args) H with
        | some (.normal, fr, H1) =>
          match H1[l]? with
          | some (.loop .ready pend t p a b) =>
            match exec (inv T n) n true body fr (H1.set l (.loop .busy pend t p a b)) with
            | some (out, _, H2) =>
              match H2[l]? with
              | some (.loop .busy _ t p a b) =>
                match out with
                | .normal => some (.ok (.bool true), H2.set l (.loop .ready none t p a b))
                | .ret => some (.ok (.bool false), H2.set l (.loop .done (some .ret) t p a b))
                | .exit id => some (.ok (.bool false), H2.set l (.loop .done (some (.exit id)) t p a b))
                | .panic _ => none
              | _ => none
            | none => none
          | _ => none
        | _ => none
      else none
    | _ => none

end Go.Proofs.Am

/- What the small machine's memory says of the model's world. -/
namespace Go.Proofs.Am
open Go Go.RowKit

/-- Where a block of the small memory lies: the model's block, the place in it, how many cells that has. -/
abbrev Ren := Nat → Option (Nat × Nat × Nat)

mutual
/-- A value of the small machine, and one of the model's. -/
inductive VR (ρ : Ren) : Value → Value → Prop
  /-- A cell of which nothing is known. -/
  | junk (v : Value) (h : one v = true) : VR ρ (.chan none) v
  | bool (b : Bool) : VR ρ (.bool b) (.bool b)
  | int (k : IntKind) (n : Int) : VR ρ (.int k n) (.int k n)
  | string (s : ByteArray) : VR ρ (.string s) (.string s)
  | nilFunc : VR ρ .nilFunc .nilFunc
  | nilIface : VR ρ .nilIface .nilIface
  | ptrNil : VR ρ (.pointer none) (.pointer none)
  | ptr {b o A s N : Nat} (h : ρ b = some (A, s, N)) : VR ρ (.pointer (some ⟨b, o, none⟩)) (.pointer (some ⟨A, s + o, none⟩))
  | sliceNil : VR ρ (.slice none 0 0) (.slice none 0 0)
  | slice {b o n c c' A s N : Nat} (h : ρ b = some (A, s, N)) (hc : (c = c' ∧ c < UC) ∨ ∃ k, c = UC + k ∧ s + o + c' * k ≤ N) (hn : n ≤ c') : VR ρ (.slice (some ⟨b, o, none⟩) n c) (.slice (some ⟨A, s + o, none⟩) n c')
  | sliceE {a a' : Addr} {c c' : Nat} (hc : UC ≤ c ∨ c = 0 ∧ c' = 0) : VR ρ (.slice (some a) 0 c) (.slice (some a') 0 c')
  | mapNil : VR ρ (.map none) (.map none)
  | map {b A : Nat} (h : ρ b = some (A, 0, 0)) : VR ρ (.map (some b)) (.map (some A))
  | func (f : FuncId) {xs xs' ys ys' : List Value} (h : VRL ρ xs xs') (h' : VRL ρ ys ys') : VR ρ (.func (.func f) ⟨xs⟩ ⟨ys⟩) (.func (.func f) ⟨xs'⟩ ⟨ys'⟩)
  | yield {l A : Nat} (h : ρ l = some (A, 0, 0)) : VR ρ (.func (.yield l) #[] #[]) (.func (.yield A) #[] #[])
  | iface (t : TypeId) {v v' : Value} (h : VR ρ v v') : VR ρ (.iface t v) (.iface t v')
  | agg {xs xs' : List Value} (h : VRL ρ xs xs') : VR ρ (.agg ⟨xs⟩) (.agg ⟨xs'⟩)
  | tuple {xs xs' : List Value} (h : VRL ρ xs xs') : VR ρ (.tuple ⟨xs⟩) (.tuple ⟨xs'⟩)
inductive VRL (ρ : Ren) : List Value → List Value → Prop
  | nil : VRL ρ [] []
  | cons {x x' : Value} {xs xs' : List Value} (h : VR ρ x x') (t : VRL ρ xs xs') : VRL ρ (x :: xs) (x' :: xs')
end

/-- ρ' says what ρ says. -/
def Sub (ρ ρ' : Ren) : Prop := ∀ b x, ρ b = some x → ρ' b = some x
theorem Sub.refl (ρ : Ren) : Sub ρ ρ := fun _ _ h => h
theorem Sub.trans {ρ ρ' ρ'' : Ren} (h : Sub ρ ρ') (k : Sub ρ' ρ'') : Sub ρ ρ'' := fun b x e => k b x (h b x e)

mutual
theorem VR.mono {ρ ρ' : Ren} (hs : Sub ρ ρ') : ∀ {v v' : Value}, VR ρ v v' → VR ρ' v v'
  | _, _, .junk v h => .junk v h
  | _, _, .bool b => .bool b
  | _, _, .int k n => .int k n
  | _, _, .string s => .string s
  | _, _, .nilFunc => .nilFunc
  | _, _, .nilIface => .nilIface
  | _, _, .ptrNil => .ptrNil
  | _, _, .ptr h => .ptr (hs _ _ h)
  | _, _, .sliceNil => .sliceNil
  | _, _, .slice h hc hn => .slice (hs _ _ h) hc hn
  | _, _, .sliceE hc => .sliceE hc
  | _, _, .mapNil => .mapNil
  | _, _, .map h => .map (hs _ _ h)
  | _, _, .func f h h' => .func f (VRL.mono hs h) (VRL.mono hs h')
  | _, _, .yield h => .yield (hs _ _ h)
  | _, _, .iface t h => .iface t (VR.mono hs h)
  | _, _, .agg h => .agg (VRL.mono hs h)
  | _, _, .tuple h => .tuple (VRL.mono hs h)
theorem VRL.mono {ρ ρ' : Ren} (hs : Sub ρ ρ') : ∀ {v v' : List Value}, VRL ρ v v' → VRL ρ' v v'
  | _, _, .nil => .nil
  | _, _, .cons h t => .cons (VR.mono hs h) (VRL.mono hs t)
end

theorem VRL.length {ρ : Ren} : ∀ {xs xs' : List Value}, VRL ρ xs xs' → xs.length = xs'.length
  | _, _, .nil => rfl
  | _, _, .cons _ t => by simp [t.length]

theorem VRL.append {ρ : Ren} : ∀ {xs xs' ys ys' : List Value}, VRL ρ xs xs' → VRL ρ ys ys' → VRL ρ (xs ++ ys) (xs' ++ ys')
  | _, _, _, _, .nil, k => k
  | _, _, _, _, .cons h t, k => .cons h (t.append k)

theorem VRL.get {ρ : Ren} : ∀ {xs xs' : List Value}, VRL ρ xs xs' → ∀ (i : Nat) (v : Value), xs[i]? = some v → ∃ v', xs'[i]? = some v' ∧ VR ρ v v'
  | _, _, .nil, i, v, h => by simp at h
  | _, _, .cons h t, 0, v, e => by simp at e; subst e; exact ⟨_, rfl, h⟩
  | _, _, .cons h t, i + 1, v, e => by simpa using t.get i v (by simpa using e)

theorem VRL.getD {ρ : Ren} {xs xs' : List Value} (h : VRL ρ xs xs') (i : Nat) : VR ρ (xs.getD i undef) (xs'.getD i undef) := by
  rw [List.getD_eq_getElem?_getD, List.getD_eq_getElem?_getD]
  cases e : xs[i]? with
  | none =>
    have e' : xs'[i]? = none := by
      rw [List.getElem?_eq_none_iff] at e ⊢
      have := h.length; omega
    rw [e']; exact .tuple .nil
  | some v => obtain ⟨v', e', hv⟩ := h.get i v e; rw [e']; exact hv

theorem VRL.of_get {ρ : Ren} : ∀ {xs xs' : List Value}, xs.length = xs'.length → (∀ (i : Nat) (v v' : Value), xs[i]? = some v → xs'[i]? = some v' → VR ρ v v') → VRL ρ xs xs'
  | [], [], _, _ => .nil
  | [], _ :: _, h, _ => by simp at h
  | _ :: _, [], h, _ => by simp at h
  | x :: xs, x' :: xs', h, k => .cons (k 0 x x' rfl rfl) (VRL.of_get (by simpa using h) fun i v v' e e' => k (i + 1) v v' (by simpa using e) (by simpa using e'))

theorem VRL.set {ρ : Ren} : ∀ {xs xs' : List Value}, VRL ρ xs xs' → ∀ {v v' : Value}, VR ρ v v' → ∀ i, VRL ρ (xs.set i v) (xs'.set i v')
  | _, _, .nil, _, _, _, _ => .nil
  | _, _, .cons _ t, _, _, k, 0 => .cons k t
  | _, _, .cons h t, _, _, k, i + 1 => .cons h (t.set k i)

theorem VRL.drop {ρ : Ren} : ∀ {xs xs' : List Value}, VRL ρ xs xs' → ∀ n, VRL ρ (xs.drop n) (xs'.drop n)
  | _, _, h, 0 => h
  | _, _, .nil, _ + 1 => .nil
  | _, _, .cons _ t, n + 1 => t.drop n

theorem VRL.take {ρ : Ren} : ∀ {xs xs' : List Value}, VRL ρ xs xs' → ∀ n, VRL ρ (xs.take n) (xs'.take n)
  | _, _, _, 0 => by simp only [List.take_zero]; exact .nil
  | _, _, .nil, _ + 1 => .nil
  | _, _, .cons h t, n + 1 => .cons h (t.take n)

theorem VRL.replicate {ρ : Ren} {v v' : Value} (h : VR ρ v v') : ∀ n, VRL ρ (List.replicate n v) (List.replicate n v')
  | 0 => .nil
  | n + 1 => .cons h (VRL.replicate h n)

theorem VRL.map {ρ : Ren} {α : Type} {f g : α → Value} (l : List α) (h : ∀ x ∈ l, VR ρ (f x) (g x)) : VRL ρ (l.map f) (l.map g) := by
  induction l with
  | nil => exact .nil
  | cons x l ih => exact .cons (h x (by simp)) (ih fun y hy => h y (by simp [hy]))

theorem VRL.refl_of {ρ : Ren} (l : List Value) (h : ∀ x ∈ l, VR ρ x x) : VRL ρ l l := by
  simpa using VRL.map (f := id) (g := id) l h

theorem VRL.wr {ρ : Ren} : ∀ {vs vs' cs cs' : List Value} (o : Nat), VRL ρ vs vs' → VRL ρ cs cs' → VRL ρ (Am.wr cs o vs) (Am.wr cs' o vs')
  | _, _, _, _, _, .nil, k => k
  | _, _, _, _, o, .cons h t, k => t.wr (o + 1) (k.set h o)

theorem wr_length : ∀ (vs cs : List Value) (o : Nat), (wr cs o vs).length = cs.length
  | [], _, _ => rfl
  | v :: vs, cs, o => by simp [wr, wr_length vs]

theorem wr_get : ∀ (vs cs : List Value) (o i : Nat), o + vs.length ≤ cs.length →
    (wr cs o vs)[i]? = if o ≤ i ∧ i < o + vs.length then vs[i - o]? else cs[i]?
  | [], cs, o, i, _ => by simp only [wr, List.length_nil, Nat.add_zero]; rw [if_neg (by omega)]
  | v :: vs, cs, o, i, h => by
    simp only [List.length_cons] at h
    simp only [wr, List.length_cons]
    rw [wr_get vs (cs.set o v) (o + 1) i (by simp; omega)]
    by_cases h1 : i = o
    · subst h1
      rw [if_neg (by omega), if_pos (by omega)]
      simp [List.getElem?_set_self (show i < cs.length by omega)]
    · by_cases h2 : o + 1 ≤ i ∧ i < o + 1 + vs.length
      · rw [if_pos h2, if_pos (by omega)]
        obtain ⟨j, rfl⟩ : ∃ j, i = o + 1 + j := ⟨i - (o + 1), by omega⟩
        rw [show o + 1 + j - o = j + 1 from by omega, show o + 1 + j - (o + 1) = j from by omega]; rfl
      · rw [if_neg h2, if_neg (by omega), List.getElem?_set_ne (Ne.symm h1)]

theorem VR.cells {ρ : Ren} {v v' : Value} {cs : List Value} (h : VR ρ v v') (hc : cellsOf v = some cs) : VRL ρ cs v'.cells.toList := by
  cases h
  case junk h1 =>
    simp only [cellsOf, Option.some.injEq] at hc
    subst hc
    have : v'.cells.toList = [v'] := by cases v' <;> simp_all [Am.one, Value.cells]
    rw [this]; exact .cons (.junk _ h1) .nil
  all_goals simp only [cellsOf, Option.some.injEq] at hc
  all_goals first
    | (cases hc; done)
    | (subst hc; exact .cons (by constructor <;> assumption) .nil)
    | (subst hc; assumption)

theorem VR.one {ρ : Ren} {v v' : Value} (h : VR ρ v v') (h1 : one v = true) : one v' = true := by
  cases h <;> simp_all [Am.one]

/-! ### Code -/
/-- What a pending jump is. -/
inductive PendR : Option ACode → Option Code → Prop
  | none : PendR none none
  | ret : PendR (some .ret) (some .ret)
  | exit (id : Nat) : PendR (some (.exit id)) (some (.exit id))

def Blk.isW : Blk → Bool
  | .cells _ _ ro => !ro
  | .map _ _ => true
  | .loop .. => true
  | .gone => false

def Blk.live : Blk → Bool
  | .gone => false
  | _ => true

/-- A block that may be written. -/
def wrt (H : Mem) (b : Nat) : Prop := ∃ blk, H[b]? = some blk ∧ blk.isW = true

/-- What is given once: the program, what code is of what code, the first block of the run's own, and the world that it began in. -/
structure Ctx where
  P : Program
  comp : Code → Option ACode
  B : Nat
  w0 : World

inductive ER (ρ : Ren) : List MapEntry → List MapEntry → Prop
  | nil : ER ρ [] []
  | cons {e e' : MapEntry} {es es' : List MapEntry} (hk : VR ρ e.key e'.key) (hv : VR ρ e.val e'.val) (hb : e.born = e'.born) (t : ER ρ es es') : ER ρ (e :: es) (e' :: es')

theorem ER.mono {ρ ρ' : Ren} (hs : Sub ρ ρ') : ∀ {es es' : List MapEntry}, ER ρ es es' → ER ρ' es es'
  | _, _, .nil => .nil
  | _, _, .cons hk hv hb t => .cons (hk.mono hs) (hv.mono hs) hb (t.mono hs)

theorem ER.length {ρ : Ren} : ∀ {es es' : List MapEntry}, ER ρ es es' → es.length = es'.length
  | _, _, .nil => rfl
  | _, _, .cons _ _ _ t => by simp [t.length]

theorem ER.append {ρ : Ren} : ∀ {es es' fs fs' : List MapEntry}, ER ρ es es' → ER ρ fs fs' → ER ρ (es ++ fs) (es' ++ fs')
  | _, _, _, _, .nil, k => k
  | _, _, _, _, .cons hk hv hb t, k => .cons hk hv hb (t.append k)

theorem ER.get {ρ : Ren} : ∀ {es es' : List MapEntry}, ER ρ es es' → ∀ (i : Nat) (e : MapEntry), es[i]? = some e → ∃ e', es'[i]? = some e' ∧ VR ρ e.key e'.key ∧ VR ρ e.val e'.val ∧ e.born = e'.born
  | _, _, .nil, i, v, h => by simp at h
  | _, _, .cons hk hv hb t, 0, v, e => by simp at e; subst e; exact ⟨_, rfl, hk, hv, hb⟩
  | _, _, .cons _ _ _ t, i + 1, v, e => by simpa using t.get i v (by simpa using e)

theorem ER.modify {ρ : Ren} {f g : MapEntry → MapEntry} (hf : ∀ e e' : MapEntry, VR ρ e.key e'.key → VR ρ e.val e'.val → e.born = e'.born → VR ρ (f e).key (g e').key ∧ VR ρ (f e).val (g e').val ∧ (f e).born = (g e').born) :
    ∀ {es es' : List MapEntry}, ER ρ es es' → ∀ i, ER ρ (es.modify i f) (es'.modify i g)
  | _, _, .nil, i => by simp; exact .nil
  | _, _, .cons hk hv hb t, 0 => by
    obtain ⟨a, b, c⟩ := hf _ _ hk hv hb
    exact .cons a b c t
  | _, _, .cons hk hv hb t, i + 1 => by simpa using ER.cons hk hv hb (t.modify hf i)

/-- Cells of the small memory, from place s on in a row of the model's. -/
def CB (ρ : Ren) (cs : List Value) (C : Array Value) (s : Nat) : Prop := ∀ (i : Nat) (v : Value), cs[i]? = some v → ∃ v', C[s + i]? = some v' ∧ VR ρ v v'

theorem CB.mono {ρ ρ' : Ren} (hs : Sub ρ ρ') {cs : List Value} {C : Array Value} {s : Nat} (h : CB ρ cs C s) : CB ρ' cs C s :=
  fun i v e => let ⟨v', e', r⟩ := h i v e; ⟨v', e', r.mono hs⟩

/-- A block of the small memory at block A of the model's, from place s on. -/
def BR (K : Ctx) (ρ : Ren) (blk : Blk) (A s N : Nat) (w : World) : Prop :=
  match blk with
  | .cells cs _ ro => ∃ C t' fz, w.heap[A]? = some (.cells C t' fz) ∧ C.size = N ∧ CB ρ cs C s ∧ s + cs.length ≤ C.size ∧ (ro = false → K.B ≤ A ∧ (fz.2 ≤ fz.1 ∨ C.size ≤ fz.1))
  | .map es clock => s = 0 ∧ N = 0 ∧ K.B ≤ A ∧ ∃ es' : Array MapEntry, w.heap[A]? = some (.map es' clock) ∧ ER ρ es es'.toList
  | .loop st pend tmps params assign body => s = 0 ∧ N = 0 ∧ K.B ≤ A ∧ ∃ r : Loop, w.heap[A]? = some (.loop r) ∧ r.state = st ∧ PendR pend r.pending ∧ VRL ρ tmps r.tmps.toList ∧
      r.params.toList = params ∧ K.comp r.assign = some assign ∧ K.comp r.body = some body
  | .gone => True

theorem BR.mono {K : Ctx} {ρ ρ' : Ren} (hs : Sub ρ ρ') {blk : Blk} {A s N : Nat} {w : World} (h : BR K ρ blk A s N w) : BR K ρ' blk A s N w := by
  cases blk with
  | cells cs t ro => obtain ⟨C, t', fz, h1, hN, h2, h3, h4⟩ := h; exact ⟨C, t', fz, h1, hN, h2.mono hs, h3, h4⟩
  | map es clock => obtain ⟨h0, hN, hB, es', h1, h2⟩ := h; exact ⟨h0, hN, hB, es', h1, h2.mono hs⟩
  | loop st pend tmps params assign body => obtain ⟨h0, hN, hB, r, h1, h2, h3, h4, h5⟩ := h; exact ⟨h0, hN, hB, r, h1, h2, h3, h4.mono hs, h5⟩
  | gone => trivial

theorem BR.world {K : Ctx} {ρ : Ren} {blk : Blk} {A s N : Nat} {w w' : World} (h : BR K ρ blk A s N w) (e : w'.heap[A]? = w.heap[A]?) : BR K ρ blk A s N w' := by
  cases blk with
  | cells cs t ro => obtain ⟨C, t', fz, h1, r⟩ := h; exact ⟨C, t', fz, e.trans h1, r⟩
  | map es clock => obtain ⟨h0, hN, hB, es', h1, r⟩ := h; exact ⟨h0, hN, hB, es', e.trans h1, r⟩
  | loop st pend tmps params assign body => obtain ⟨h0, hN, hB, r, h1, h2⟩ := h; exact ⟨h0, hN, hB, r, e.trans h1, h2⟩
  | gone => trivial

/-- The small memory H stands, by ρ, in the world w. -/
structure HR (K : Ctx) (ρ : Ren) (H : Mem) (w : World) : Prop where
  blk : ∀ b blk A s N, H[b]? = some blk → ρ b = some (A, s, N) → BR K ρ blk A s N w
  inj : ∀ b b' A s s', b ≠ b' → ρ b = some (A, s) → ρ b' = some (A, s') → wrt H b → H[b']? = some .gone
  lt : ∀ b A s, ρ b = some (A, s) → A < w.heap.size
  below : Below K.B K.w0 w
  base : K.B ≤ w.heap.size

/-- A step: the small memory went from H to H', the world from w to w'. -/
structure Stp (K : Ctx) (ρ : Ren) (H : Mem) (w : World) (ρ' : Ren) (H' : Mem) (w' : World) : Prop where
  ext : ∀ b, b < H.length ∨ H'.length ≤ b → ρ' b = ρ b
  hr : HR K ρ' H' w'
  fr : ∀ A, A < w.heap.size → (∀ b s, ρ b = some (A, s) → ¬ wrt H b) → w'.heap[A]? = w.heap[A]?
  afr : ∀ b, b < H.length → ρ b = none → H'[b]? = H[b]?
  wr : ∀ b, b < H.length → wrt H' b → wrt H b
  len : H.length ≤ H'.length
  wlen : w.heap.size ≤ w'.heap.size
  img : ∀ b A s, ρ' b = some (A, s) → wrt H' b → w.heap.size ≤ A ∨ ∃ b0 s0, ρ b0 = some (A, s0) ∧ wrt H b0
  new : ∀ b A s, ρ' b = some (A, s) → ρ b = some (A, s) ∨ w.heap.size ≤ A ∨ ∃ b0 s0, b0 < H'.length ∧ ρ b0 = some (A, s0)

/-- Blocks that are to come have no place yet. -/
def Free (ρ : Ren) (n m : Nat) : Prop := ∀ b, n ≤ b → b < m → ρ b = none

theorem Stp.sub {K : Ctx} {ρ ρ' : Ren} {H H' : Mem} {w w' : World} (h : Stp K ρ H w ρ' H' w') (hf : Free ρ H.length H'.length) : Sub ρ ρ' := by
  intro b x e
  by_cases hb : b < H.length ∨ H'.length ≤ b
  · rw [h.ext b hb]; exact e
  · rw [hf b (by omega) (by omega)] at e; cases e

theorem Stp.refl {K : Ctx} {ρ : Ren} {H : Mem} {w : World} (h : HR K ρ H w) : Stp K ρ H w ρ H w :=
  ⟨fun _ _ => rfl, h, fun _ _ _ => rfl, fun _ _ _ => rfl, fun _ _ h => h, Nat.le_refl _, Nat.le_refl _, fun b A s e k => .inr ⟨b, s, e, k⟩, fun b A s e => .inl e⟩

theorem Stp.trans {K : Ctx} {ρ ρ1 ρ2 : Ren} {H H1 H2 : Mem} {w w1 w2 : World} (h : Stp K ρ H w ρ1 H1 w1) (k : Stp K ρ1 H1 w1 ρ2 H2 w2) : Stp K ρ H w ρ2 H2 w2 where
  ext b hb := by
    have h1 := h.len; have h2 := k.len
    rw [k.ext b (by omega), h.ext b (by omega)]
  hr := k.hr
  fr A hA hn := by
    have e1 := h.fr A hA hn
    have e2 := k.fr A (Nat.lt_of_lt_of_le hA h.wlen) (fun b s e hw => by
      rcases h.img b A s e hw with h' | ⟨b0, s0, e0, w0⟩
      · omega
      · exact hn b0 s0 e0 w0)
    rw [e2, e1]
  afr b hb e := by
    have h1 := h.len
    rw [k.afr b (by omega) (by rw [h.ext b (.inl hb)]; exact e), h.afr b hb e]
  wr b hb hw := h.wr b hb (k.wr b (Nat.lt_of_lt_of_le hb h.len) hw)
  len := Nat.le_trans h.len k.len
  wlen := Nat.le_trans h.wlen k.wlen
  img b A s e hw := by
    rcases k.img b A s e hw with h' | ⟨b0, s0, e0, w0⟩
    · exact .inl (Nat.le_trans h.wlen h')
    · exact h.img b0 A s0 e0 w0
  new b A s e := by
    have hl := k.len
    have up : ∀ b0 s0, b0 < H2.length → ρ1 b0 = some (A, s0) → w.heap.size ≤ A ∨ ∃ b0 s0, b0 < H2.length ∧ ρ b0 = some (A, s0) := by
      intro b0 s0 hb e0
      rcases h.new b0 A s0 e0 with h1 | h1 | ⟨b1, s1, hb1, e1⟩
      · exact .inr ⟨b0, s0, hb, h1⟩
      · exact .inl h1
      · exact .inr ⟨b1, s1, by omega, e1⟩
    rcases k.new b A s e with h' | h' | ⟨b0, s0, hb, e0⟩
    · rcases h.new b A s h' with h1 | h1 | ⟨b1, s1, hb1, e1⟩
      · exact .inl h1
      · exact .inr (.inl h1)
      · exact .inr (.inr ⟨b1, s1, by omega, e1⟩)
    · exact .inr (.inl (Nat.le_trans h.wlen h'))
    · exact .inr (up b0 s0 hb e0)

/-- Temporaries. -/
def FR (ρ : Ren) (fr : List Value) (a : Act) : Prop := VRL ρ fr a.tmps.toList

theorem FR.getD {ρ : Ren} {fr : List Value} {a : Act} (h : FR ρ fr a) (i : Nat) : VR ρ (fr.getD i undef) (a.tmps.getD i undef) := by
  have := VRL.getD h i
  simpa [Array.getD_eq_getD_getElem?, List.getD_eq_getElem?_getD] using this

theorem FR.put {ρ : Ren} {fr : List Value} {a : Act} (h : FR ρ fr a) (d : Option Nat) {v v' : Value} (hv : VR ρ v v') : FR ρ (put fr d v) (a.put d v') := by
  cases d with
  | none => exact h
  | some d =>
    unfold FR at *
    simp only [Am.put, Act.put, Array.toList_setIfInBounds]
    exact VRL.set h hv d

end Go.Proofs.Am

/- From the model's code to the small machine's. -/
namespace Go.Proofs.Am
open Go Go.RowKit

def ground : Value → Bool
  | .bool _ | .int _ _ | .string _ | .nilFunc | .nilIface | .pointer none | .slice none 0 0 | .map none => true
  | _ => false

def groundV : Value → Bool
  | .agg cs => cs.toList.all ground
  | v => ground v

def cX : Operand → Option AX
  | .tmp t => some (.t t)
  | .const v => if ground v then some (.c v) else none
  | .func f => some (.f f)
  | .global _ => none

def cXO : Option Operand → Option (Option AX)
  | none => some none
  | some x => (cX x).map some

def cXs : List Operand → Option (List AX)
  | [] => some []
  | x :: xs => do
    let y ← cX x
    let ys ← cXs xs
    some (y :: ys)

def zOf (P : Program) (t : TypeId) : Option (List Value) := do
  let i ← P.info? t
  let z ← i.zero
  if z.cells.toList.all ground ∧ z.cells.size = i.size then some z.cells.toList else none

def nOf (P : Program) (t : TypeId) : Option (Option Nat) := do
  let i ← P.info? t
  match ← P.underlying t with
  | .struct _ | .array _ _ => some (some i.size)
  | _ => some none

def szOf (P : Program) (t : TypeId) : Option Nat := (P.info? t).map (·.size)

def cParts (place : Nat → Option (Nat × Nat)) : List (Nat × Operand) → Option (List (Nat × Nat × AX))
  | [] => some []
  | (i, x) :: ps => do
    let (off, size) ← place i
    let y ← cX x
    let r ← cParts place ps
    some ((off, size, y) :: r)

def fieldPlaces (P : Program) : List Field → Option (List (Nat × Nat))
  | [] => some []
  | f :: fs => do
    let s ← szOf P f.type
    let r ← fieldPlaces P fs
    some ((f.offset, s) :: r)

/-- Structs and arrays whose cells are all numbers, bools or texts, and that are compared cell by cell. -/
def pkOf1 (P : Program) (t : TypeId) : Option PK :=
  match P.underlying t, szOf P t with
  | some (.int _), some 1 => some .int
  | some .bool, some 1 => some .bool
  | some .string, some 1 => some .str
  | _, _ => none

def flatFields (P : Program) : List Field → Nat → Option (List PK)
  | [], _ => some []
  | f :: fs, off =>
    match pkOf1 P f.type, flatFields P fs (off + 1) with
    | some p, some ps => if f.offset = off ∧ f.name ≠ "_" then some (p :: ps) else none
    | _, _ => none

def flat (P : Program) (t : TypeId) : Option (List PK) :=
  match P.underlying t with
  | some (.struct fs) => if P.stoodInHeld t then none else flatFields P fs.toList 0
  | some (.array n e) => (pkOf1 P e).map fun p => List.replicate n p
  | _ => none

def keyOk (P : Program) (t : TypeId) : Option KT :=
  match P.underlying t with
  | some (.int _) => some (.sc .int)
  | some .string => some (.sc .str)
  | some (.struct fs) => if P.stoodInHeld t then none else (flatFields P fs.toList 0).map .st
  | _ => none

def nkOf : TypeDesc → Option NK
  | .pointer _ => some .ptr
  | .slice _ => some .slice
  | .map _ _ => some .map
  | .func _ _ _ => some .func
  | .interface _ => some .iface
  | _ => none

def isConst : Operand → Bool
  | .const _ => true
  | _ => false

def cBin (P : Program) (op : BinOp) (t : TypeId) (x y : Operand) : Option AOp :=
  match cX x, cX y, P.underlying t with
  | some a, some b, some d =>
    match d with
    | .int _ | .string => some (.bin op a b)
    | .bool => match op with
      | .eql => some (.eqB false a b)
      | .neq => some (.eqB true a b)
      | _ => none
    | .struct _ | .array _ _ =>
      match flat P t with
      | some ks =>
        if P.eqGuardType P.depth t then none else
        match op with
        | .eql => some (.eqFlat ks false a b)
        | .neq => some (.eqFlat ks true a b)
        | _ => none
      | none => none
    | d =>
      match nkOf d with
      | some k =>
        if isConst x || isConst y then
          match op with
          | .eql => some (.eqNil k false a b)
          | .neq => some (.eqNil k true a b)
          | _ => none
        else none
      | none => none
  | _, _, _ => none

def cCall (P : Program) (c : Call) : Option AOp :=
  match c.callee with
  | .value f => do some (.call (← cX f) (← cXs c.args.toList))
  | .invoke _ _ => none
  | .builtin b =>
    match b, c.args.toList, c.argTypes.toList with
    | .len, [x], [t] => do
      match ← P.underlying t with
      | .slice _ => some (.lenS (← cX x))
      | .string => some (.lenStr (← cX x))
      | .map _ _ => some (.lenMap (← cX x))
      | _ => none
    | .append, [s, x], [t, u] => do
      match ← P.underlying t, ← P.underlying u with
      | .slice e, .slice _ | .slice e, .string => do
        let i ← P.info? e
        let _ ← zOf P e
        if 0 < i.size ∧ 0 < i.bytes then some (.append e i.size i.bytes (← cX s) (← cX x)) else none
      | _, _ => none
    | .copy, [d, s], [t, _] => do
      match ← P.underlying t with
      | .slice e => do some (.copy (← szOf P e) (← cX d) (← cX s))
      | _ => none
    | .clear, [x], [t] => do
      match ← P.underlying t with
      | .slice e => do some (.clear (← zOf P e) (← cX x))
      | _ => none
    | .min, [x, y], _ => do some (.min2 (← cX x) (← cX y))
    | .max, [x, y], _ => do some (.max2 (← cX x) (← cX y))
    | .panic, [x], _ => do some (.panic (← cX x))
    | _, _, _ => none

def cOp (P : Program) (o : Op) : Option AOp :=
  match o with
  | .move x | .assign x => do some (.move (← cX x))
  | .pick c a b => do some (.pick (← cX c) (← cX a) (← cX b))
  | .alloc t => do some (.new t (← zOf P t))
  | .box t x => do some (.box t (← cX x))
  | .build t ps => do
    let z ← zOf P t
    match ← P.underlying t with
    | .struct fs =>
      let pl ← fieldPlaces P fs.toList
      some (.build z (← cParts (fun i => pl[i]?) ps.toList))
    | .array _ e =>
      let s ← szOf P e
      some (.build z (← cParts (fun i => some (i * s, s)) ps.toList))
    | _ => none
  | .buildSlice t len ps => do
    match ← P.underlying t with
    | .slice e =>
      let s ← szOf P e
      let z ← zOf P e
      if 0 < s ∧ len * s ≤ 16777216 then some (.row e len (List.flatten (List.replicate len z)) (← cParts (fun i => some (i * s, s)) ps.toList)) else none
    | _ => none
  | .load t a => do
    match ← nOf P t with
    | none => some (.load (← cX a))
    | some k => some (.loadN k (← cX a))
  | .store t a v => do some (.store (← szOf P t) (← cX a) (← cX v))
  | .nilCheck x => do some (.nilCheck (← cX x))
  | .binOp op t x y _ => cBin P op t x y
  | .unOp op _ x => do some (.un op (← cX x))
  | .convert src dst x => do
    match ← P.underlying src, ← P.underlying dst with
    | .int _, .int k => some (.conv k (← cX x))
    | .string, .string => some (.convId (← cX x))
    | .string, .slice e => do
      match ← P.underlying e with
      | .int .u8 => some (.bytesOf e (← cX x))
      | _ => none
    | .slice e, .string => do
      match ← P.underlying e with
      | .int .u8 => some (.strOf (← cX x))
      | _ => none
    | _, _ => none
  | .slice t x lo hi mx => do
    match ← P.underlying t with
    | .slice e => some (.slice (← szOf P e) (← cX x) (← cXO lo) (← cXO hi) (← cXO mx))
    | .string => if mx.isNone then some (.sliceStr (← cX x) (← cXO lo) (← cXO hi)) else none
    | .array n e => if mx.isNone then some (.sliceArr n (← szOf P e) (← cX x) (← cXO lo) (← cXO hi)) else none
    | _ => none
  | .fieldAddr t x f => do
    match ← P.underlying t with
    | .struct fs => do
      let fd ← fs.toList[f]?
      let s ← szOf P fd.type
      if s = 0 then none else some (.fieldAddr fd.offset (← cX x))
    | _ => none
  | .field t x f => do
    match ← P.underlying t with
    | .struct fs => do
      let fd ← fs.toList[f]?
      some (.field fd.offset (← nOf P fd.type) (← cX x))
    | _ => none
  | .indexAddr t x i => do
    match ← P.underlying t with
    | .slice e => some (.indexAddr (← szOf P e) (← cX x) (← cX i))
    | .array n e => some (.indexArr n (← szOf P e) (← cX x) (← cX i))
    | _ => none
  | .index t x i => do
    match ← P.underlying t with
    | .array n e => some (.indexVal n (← szOf P e) (← nOf P e) (← cX x) (← cX i))
    | .string => some (.indexStr (← cX x) (← cX i))
    | _ => none
  | .extract x i => do some (.extract (← cX x) i)
  | .makeFunc fn first cap =>
    match fn with
    | .func f => do some (.func f (← cXs first.toList) (← cXs cap.toList))
    | _ => none
  | .makeSlice t l c => do
    match ← P.underlying t with
    | .slice e => do
      let i ← P.info? e
      let z ← zOf P e
      if 0 < i.size ∧ 0 < i.bytes then some (.makeSlice e i.bytes z (← cX l) (← cX c)) else none
    | _ => none
  | .makeMap _ r => if r.isNone then some .makeMap else none
  | .lookup t m k ok => do
    match ← P.underlying t with
    | .map key e => do
      let i ← P.info? e
      let z ← i.zero
      let kt ← keyOk P key
      if groundV z then some (.lookup kt ok z (← cX m) (← cX k)) else none
    | _ => none
  | .mapUpdate t m k v | .insert t m k v => do
    match ← P.underlying t with
    | .map key _ => some (.update (← keyOk P key) (← cX m) (← cX k) (← cX v))
    | _ => none
  | .makeInterface t x => do
    match ← P.underlying t with
    | .interface _ => none
    | _ => some (.iface t (← cX x))
  | .call c => cCall P c
  | .panic x => do some (.panic (← cX x))
  | _ => none

def cOper (P : Program) (o : Oper) : Option AOper := do some { dst := o.dst, op := ← cOp P o.op, guard := o.guard }

def cOpers (P : Program) : List Oper → Option (List AOper)
  | [] => some []
  | o :: os => do
    let a ← cOper P o
    let r ← cOpers P os
    some (a :: r)

/-- What stands ahead of each operation, by the edges that bind, and theirs. -/
def befs : List Oper → List (List Nat) → List (List Nat)
  | [], acc => acc
  | o :: os, acc => befs os (acc ++ [(o.after.toList.filter (Region.binds .any ·)).flatMap fun e => e.on :: acc.getD e.on []])

/-- Operations that act (a store, a call, an append ..). -/
def acts : AOp → Bool
  | .store .. | .update .. | .call .. | .append .. | .copy .. | .clear .. | .panic _ => true
  | _ => false

/-- Operations that look into memory. -/
def looks : AOp → Bool
  | .load _ | .loadN .. | .strOf _ | .lookup .. | .lenMap _ => true
  | _ => false

/-- Operations that make a block of memory, and do nothing else. -/
def allocs : AOp → Bool
  | .new .. | .box .. | .row .. | .makeSlice .. | .makeMap | .bytesOf .. => true
  | _ => false

/-- The operands of an operation. -/
def axs : AOp → List AX
  | .move x | .box _ x | .load x | .loadN _ x | .nilCheck x | .un _ x | .conv _ x | .convId x | .bytesOf _ x | .strOf x | .fieldAddr _ x | .field _ _ x | .extract x _ | .iface _ x
  | .lenS x | .lenStr x | .lenMap x | .clear _ x | .panic x => [x]
  | .pick c a b => [c, a, b]
  | .new .. | .makeMap => []
  | .build _ ps | .row _ _ _ ps => ps.map (·.2.2)
  | .store _ x y | .bin _ x y | .eqB _ x y | .eqNil _ _ x y | .eqFlat _ _ x y | .indexAddr _ x y | .indexArr _ _ x y | .indexVal _ _ _ x y | .indexStr x y | .makeSlice _ _ _ x y | .lookup _ _ _ x y
  | .append _ _ _ x y | .copy _ x y | .min2 x y | .max2 x y => [x, y]
  | .slice _ x lo hi mx => x :: (lo.toList ++ hi.toList ++ mx.toList)
  | .sliceStr x lo hi | .sliceArr _ _ x lo hi => x :: (lo.toList ++ hi.toList)
  | .func _ first cap => first ++ cap
  | .update _ m k v => [m, k, v]
  | .call f args => f :: args

def tmpsOf (o : AOper) : List Nat := (axs o.op).filterMap fun | .t t => some t | _ => none

/-- The temporaries that an operation names, its guard's among them. -/
def namesOf (ops : List AOper) (o : AOper) : List Nat :=
  tmpsOf o ++ (match o.guard with
    | some (g, _) => ((ops[g]?).bind (·.dst)).toList
    | none => [])

def pairsOf (n : Nat) : List (Nat × Nat) := (List.range n).flatMap fun j => (List.range j).map fun i => (i, j)

/-- Is the order of two operations, i ahead of j in the text, fixed wherever it must be? -/
def pairOk (as : List AOper) (bs : List (List Nat)) (p : Nat × Nat) : Bool :=
  match as[p.1]?, as[p.2]? with
  | some ai, some aj =>
    (bs.getD p.2 []).contains p.1 ||
    (!(match ai.dst with | some d => (namesOf as aj).contains d || aj.dst == some d | none => false) &&
     !(match aj.dst with | some d => (namesOf as ai).contains d | none => false) &&
     !(acts ai.op && acts aj.op))
  | _, _ => false

def drawOk (ops : List Oper) (as : List AOper) (bs : List (List Nat)) : Bool :=
  (ops.zipIdx.all fun (o, j) => o.after.toList.all (fun e => !Region.binds .any e || decide (e.on < j))) &&
  (pairsOf ops.length).all (pairOk as bs)

/-- Pairs of a look and an act whose order is open. -/
def chkOf (as : List AOper) (bs : List (List Nat)) : List (Nat × Nat) :=
  (pairsOf as.length).flatMap fun (i, j) =>
    match as[i]?, as[j]? with
    | some ai, some aj =>
      if (bs.getD j []).contains i then []
      else if looks ai.op && acts aj.op then [(i, j)]
      else if acts ai.op && looks aj.op then [(j, i)]
      else []
    | _, _ => []

/-- Operations that all that follows waits for. -/
def pkOf (n : Nat) (bs : List (List Nat)) : List Nat :=
  (List.range n).filter fun i => (List.range n).all fun j => decide (j ≤ i) || (bs.getD j []).contains i

def cCode (P : Program) : Code → Option ACode
  | .skip => some .skip
  | .region _ ops draw => do
    let as ← cOpers P ops.toList
    if draw then
      let bs := befs ops.toList []
      if drawOk ops.toList as bs then some (.region true as (chkOf as bs) (pkOf as.length bs)) else none
    else some (.region false as [] [])
  | .seq a b => do some (.seq (← cCode P a) (← cCode P b))
  | .cond c a b => do some (.cond (← cX c) (← cCode P a) (← cCode P b))
  | .block id c => do some (.block id (← cCode P c))
  | .loop c => do some (.loop (← cCode P c))
  | .rangeFunc f ps assign body => do some (.rangeFunc (← cX f) ps.toList (← cCode P assign) (← cCode P body))
  | .exit id => some (.exit id)
  | .ret => some .ret
  | .label _ => some .skip
  | _ => none

def cRes (P : Program) : List ResultVar → Option (List ARes)
  | [] => some []
  | .tmp t :: rs => do some (.tmp t :: (← cRes P rs))
  | .cell t ty :: rs => do some (.cell t (← nOf P ty) :: (← cRes P rs))

def cFunc (P : Program) (f : Func) : Option AFunc := do
  let b ← f.body
  if f.name == "runtime.NumGoroutine" then none else
  some { ntmps := f.ntmps, results := ← cRes P f.results.toList, body := ← cCode P b }

end Go.Proofs.Am

/- How the model's small steps run, in the small machine's words; new blocks, blocks that are written. -/
namespace Go.Proofs.Am
open Go Go.RowKit

section runs
variable {P : Program} {w : World} {t : TypeId}
theorem run_und {d : TypeDesc} (h : P.underlying t = some d) : (underlying t).run P w = .ok d w := by simp [underlying, h]
theorem run_ti {i : TypeInfo} (h : P.info? t = some i) : (typeInfo t).run P w = .ok i w := by simp [typeInfo, h]
theorem run_sz {n : Nat} (h : szOf P t = some n) : (sizeOf t).run P w = .ok n w := by
  unfold szOf at h
  cases e : P.info? t with
  | none => simp [e] at h
  | some i => simp [e] at h; simp [sizeOf, run_ti e, h]
theorem run_zv {i : TypeInfo} {z : Value} (h : P.info? t = some i) (hz : i.zero = some z) : (zeroValue t).run P w = .ok z w := by simp [zeroValue, run_ti h, hz]
theorem run_agg_yes {n : Nat} (h : nOf P t = some (some n)) : (isAgg t).run P w = .ok true w ∧ (sizeOf t).run P w = .ok n w := by
  unfold nOf at h
  simp only [Option.bind_eq_bind] at h
  cases e : P.info? t with
  | none => simp [e] at h
  | some i =>
    cases e2 : P.underlying t with
    | none => simp [e, e2] at h
    | some d => cases d <;> simp [e, e2] at h <;> (subst h; exact ⟨by simp [isAgg, run_und e2], run_sz (by simp [szOf, e])⟩)
theorem run_agg_no (h : nOf P t = some none) : (isAgg t).run P w = .ok false w := by
  unfold nOf at h
  simp only [Option.bind_eq_bind] at h
  cases e : P.info? t with
  | none => simp [e] at h
  | some i =>
    cases e2 : P.underlying t with
    | none => simp [e, e2] at h
    | some d => cases d <;> simp [e, e2] at h <;> simp [isAgg, run_und e2]
end runs

theorem zOf_spec {P : Program} {t : TypeId} {z : List Value} (h : zOf P t = some z) :
    ∃ i zv, P.info? t = some i ∧ i.zero = some zv ∧ zv.cells.toList = z ∧ z.all ground = true ∧ z.length = i.size := by
  unfold zOf at h
  simp only [Option.bind_eq_bind, Option.bind_eq_some_iff] at h
  obtain ⟨i, hi, zv, hz, h⟩ := h
  split at h
  · rename_i hc; cases h
    exact ⟨i, zv, hi, hz, rfl, by simpa using hc.1, by simpa using hc.2⟩
  · cases h

theorem add_at (A o j : Nat) : (⟨A, o, none⟩ : Addr).add j = ⟨A, o + j, none⟩ := by
  unfold Addr.add; split
  · subst_vars; rfl
  · rfl

theorem cell_at {w : World} {A : Nat} {C : Array Value} {t : TypeId} {fz : Nat × Nat} (h : w.heap[A]? = some (.cells C t fz)) (o : Nat) : w.cell? ⟨A, o, none⟩ = C[o]? := by
  simp [World.cell?, h]

theorem run_loadCellsFrom {P : Program} {w : World} {A : Nat} {C : Array Value} {t : TypeId} {fz : Nat × Nat} (h : w.heap[A]? = some (.cells C t fz)) (o : Nat) :
    ∀ (n i : Nat) (acc : Array Value), o + i + n ≤ C.size → (loadCellsFrom ⟨A, o, none⟩ i n acc).run P w = .ok ⟨acc.toList ++ (C.toList.drop (o + i)).take n⟩ w
  | 0, i, acc, _ => by simp [loadCellsFrom]
  | n + 1, i, acc, hn => by
    have hlt : o + i < C.size := by omega
    have hcell : w.cell? ((⟨A, o, none⟩ : Addr).add i) = some C[o + i] := by rw [add_at, cell_at h]; simp [hlt]
    simp only [loadCellsFrom, Sem.run_bind, run_load, hcell, Result.andThen_ok]
    rw [run_loadCellsFrom h o n (i + 1) _ (by omega)]
    congr 2
    rw [show o + (i + 1) = o + i + 1 from by omega]
    rw [List.drop_eq_getElem_cons (show o + i < C.toList.length by simpa using hlt)]
    simp

theorem run_loadCells {P : Program} {w : World} {A : Nat} {C : Array Value} {t : TypeId} {fz : Nat × Nat} (h : w.heap[A]? = some (.cells C t fz)) (o n : Nat) (hn : o + n ≤ C.size) :
    (loadCells ⟨A, o, none⟩ n).run P w = .ok ⟨(C.toList.drop o).take n⟩ w := by
  simp [loadCells, run_loadCellsFrom h o n 0 #[] (by omega)]

/-- A world with another thing at a block. -/
def setBlk (w : World) (A : Nat) (o : Obj) : World := { w with heap := w.heap.setIfInBounds A o }

theorem setBlk_get (w : World) (A : Nat) (o : Obj) (B : Nat) : (setBlk w A o).heap[B]? = if B = A then (if A < w.heap.size then some o else none) else w.heap[B]? := by
  simp only [setBlk, Array.getElem?_setIfInBounds]
  by_cases h : B = A
  · subst h; simp
  · rw [if_neg h, if_neg (Ne.symm h)]

theorem setBlk_same {w : World} {A : Nat} (o : Obj) (h : A < w.heap.size) : (setBlk w A o).heap[A]? = some o := by rw [setBlk_get]; simp [h]
theorem setBlk_ne {w : World} {A B : Nat} (o : Obj) (h : B ≠ A) : (setBlk w A o).heap[B]? = w.heap[B]? := by rw [setBlk_get]; simp [h]

theorem setBlk_setBlk (w : World) (A : Nat) (o o' : Obj) : setBlk (setBlk w A o) A o' = setBlk w A o' := by
  simp [setBlk]

theorem lt_of_heap {w : World} {A : Nat} {o : Obj} (h : w.heap[A]? = some o) : A < w.heap.size := (Array.getElem?_eq_some_iff.1 h).1

theorem setCell_eq {w : World} {A : Nat} {C : Array Value} {t : TypeId} {fz : Nat × Nat} (h : w.heap[A]? = some (.cells C t fz)) (o : Nat) (v : Value) :
    w.setCell ⟨A, o, none⟩ v = setBlk w A (.cells (C.setIfInBounds o v) t fz) := by
  have hA := lt_of_heap h
  have hg : w.heap[A] = .cells C t fz := (Array.getElem?_eq_some_iff.1 h).2
  have e : (w.setCell ⟨A, o, none⟩ v).heap = (setBlk w A (.cells (C.setIfInBounds o v) t fz)).heap := by
    apply Array.ext_getElem?
    intro i
    simp only [World.setCell, setBlk, Array.getElem?_modify, Array.getElem?_setIfInBounds]
    by_cases hi : A = i
    · subst hi; simp [hA, hg]
    · simp [hi]
  have e2 : w.setCell ⟨A, o, none⟩ v = { w with heap := (w.setCell ⟨A, o, none⟩ v).heap } := rfl
  rw [e2, e]; rfl

theorem frozen_at {w : World} {A : Nat} {C : Array Value} {t : TypeId} {fz : Nat × Nat} (h : w.heap[A]? = some (.cells C t fz)) (o : Nat) (ho : o < C.size) (hf : fz.2 ≤ fz.1 ∨ C.size ≤ fz.1) :
    w.frozen? ⟨A, o, none⟩ = false := by
  obtain ⟨lo, hi⟩ := fz
  simp only [World.frozen?, h]
  simp only at hf
  rw [Bool.and_eq_false_iff]
  simp only [decide_eq_false_iff_not]
  omega

theorem run_storeCells {P : Program} : ∀ (vs : List Value) {w : World} {A : Nat} {C : Array Value} {t : TypeId} {fz : Nat × Nat} (_ : w.heap[A]? = some (.cells C t fz)) (o i : Nat),
    (fz.2 ≤ fz.1 ∨ C.size ≤ fz.1) → o + i + vs.length ≤ C.size → vs.all one = true →
    (storeCells ⟨A, o, none⟩ vs i).run P w = .ok () (if vs = [] then w else setBlk w A (.cells ⟨wr C.toList (o + i) vs⟩ t fz))
  | [], w, A, C, t, fz, _, o, i, _, _, _ => by simp [storeCells]
  | v :: vs, w, A, C, t, fz, h, o, i, hf, hn, h1 => by
    simp only [List.length_cons] at hn
    simp only [List.all_cons, Bool.and_eq_true] at h1
    have hlt : o + i < C.size := by omega
    have h1' : v.oneCell' = true := by have := h1.1; cases v <;> simp_all [Am.one, Value.oneCell']
    have hcell : w.cell? ((⟨A, o, none⟩ : Addr).add i) = some C[o + i] := by rw [add_at, cell_at h]; simp [hlt]
    have hfr : w.frozen? ((⟨A, o, none⟩ : Addr).add i) = false := by rw [add_at]; exact frozen_at h _ hlt hf
    simp only [storeCells, Sem.run_bind, run_store P w _ v _ h1', hcell, hfr, Result.andThen_ok, if_false, Bool.false_eq_true]
    rw [add_at, setCell_eq h]
    have hA := lt_of_heap h
    rw [run_storeCells vs (setBlk_same _ hA) o (i + 1) (by simpa using hf) (by simp; omega) h1.2]
    rw [if_neg (List.cons_ne_nil _ _)]
    congr 1
    cases vs with
    | nil =>
      simp only [if_true, wr]
      congr 2
      cases C; simp
    | cons u us =>
      rw [if_neg (List.cons_ne_nil _ _), setBlk_setBlk]
      congr 2
      simp only [wr, Array.toList_setIfInBounds]
      rw [show o + (i + 1) = o + i + 1 from by omega]

/-- The world with one block more. -/
def pushObj (w : World) (o : Obj) : World := { w with heap := w.heap.push o }

theorem pushObj_old {w : World} (o : Obj) {A : Nat} (h : A < w.heap.size) : (pushObj w o).heap[A]? = w.heap[A]? := by
  simp only [pushObj, Array.getElem?_push]; rw [if_neg (by omega)]
theorem pushObj_new (w : World) (o : Obj) : (pushObj w o).heap[w.heap.size]? = some o := by
  show (w.heap.push o)[w.heap.size]? = some o
  rw [Array.getElem?_push, if_pos rfl]
@[simp] theorem pushObj_size (w : World) (o : Obj) : (pushObj w o).heap.size = w.heap.size + 1 := by simp [pushObj]
@[simp] theorem setBlk_size (w : World) (A : Nat) (o : Obj) : (setBlk w A o).heap.size = w.heap.size := by simp [setBlk]

/-- A place for one block more. -/
def Ren.upd (ρ : Ren) (n : Nat) (x : Nat × Nat × Nat) : Ren := fun b => if b = n then some x else ρ b
theorem Ren.upd_same (ρ : Ren) (n : Nat) (x : Nat × Nat × Nat) : ρ.upd n x n = some x := by simp [Ren.upd]
theorem Ren.upd_ne (ρ : Ren) {n b : Nat} (x : Nat × Nat × Nat) (h : b ≠ n) : ρ.upd n x b = ρ b := by simp [Ren.upd, h]
theorem Ren.sub_upd {ρ : Ren} {n : Nat} (x : Nat × Nat × Nat) (h : ρ n = none) : Sub ρ (ρ.upd n x) := by
  intro b y e
  by_cases hb : b = n
  · subst hb; rw [h] at e; cases e
  · rw [Ren.upd_ne ρ x hb]; exact e

theorem below_push {K : Ctx} {w : World} (h : Below K.B K.w0 w) (hb : K.B ≤ w.heap.size) (o : Obj) : Below K.B K.w0 (pushObj w o) := h.alloc hb o
theorem below_set {K : Ctx} {w : World} (h : Below K.B K.w0 w) {A : Nat} (hA : K.B ≤ A) (o : Obj) : Below K.B K.w0 (setBlk w A o) :=
  h.trans ⟨rfl, rfl, rfl, by simp, fun k hk => setBlk_ne _ (by omega)⟩

theorem get_append_last (H : Mem) (x : Blk) : (H ++ [x])[H.length]? = some x := by simp

theorem get_append {H : Mem} {x blk : Blk} {b : Nat} (h : (H ++ [x])[b]? = some blk) : (b < H.length ∧ H[b]? = some blk) ∨ (b = H.length ∧ blk = x) := by
  rcases Nat.lt_trichotomy b H.length with hb | hb | hb
  · exact .inl ⟨hb, by rwa [List.getElem?_append_left hb] at h⟩
  · subst hb; rw [get_append_last] at h; exact .inr ⟨rfl, by cases h; rfl⟩
  · rw [List.getElem?_eq_none (by simp; omega)] at h; cases h

theorem wrt_append {H : Mem} {x : Blk} {b : Nat} (h : wrt (H ++ [x]) b) : wrt H b ∨ (b = H.length ∧ x.isW = true) := by
  obtain ⟨blk, e, hw⟩ := h
  rcases get_append e with ⟨_, e'⟩ | ⟨rfl, rfl⟩
  · exact .inl ⟨blk, e', hw⟩
  · exact .inr ⟨rfl, hw⟩

theorem wrt_lt {H : Mem} {b : Nat} (h : wrt H b) : b < H.length := by
  obtain ⟨blk, e, _⟩ := h
  exact (List.getElem?_eq_some_iff.1 e).1

/-- One block more on both sides. -/
theorem stp_new {K : Ctx} {ρ : Ren} {H : Mem} {w : World} (h : HR K ρ H w) (hfree : ρ H.length = none) (x : Blk) (o : Obj) (N : Nat)
    (hbr : BR K (ρ.upd H.length (w.heap.size, 0, N)) x w.heap.size 0 N (pushObj w o)) :
    Stp K ρ H w (ρ.upd H.length (w.heap.size, 0, N)) (H ++ [x]) (pushObj w o) where
  ext b hb := Ren.upd_ne ρ _ (by simp at hb; omega)
  hr := by
    have hsub := Ren.sub_upd (w.heap.size, 0, N) hfree
    refine ⟨fun b blk A s N' e r => ?_, fun b b' A s s' hne r r' hw => ?_, fun b A s r => ?_, below_push h.below h.base o, by simp; have := h.base; omega⟩
    · rcases get_append e with ⟨hb, e'⟩ | ⟨rfl, rfl⟩
      · rw [Ren.upd_ne ρ _ (by omega)] at r
        exact ((h.blk b blk A s N' e' r).mono hsub).world (pushObj_old o (h.lt b A _ r))
      · rw [Ren.upd_same] at r; cases r; exact hbr
    · by_cases hb : b = H.length
      · subst hb
        rw [Ren.upd_same] at r; cases r
        rw [Ren.upd_ne ρ _ (Ne.symm hne)] at r'
        have := h.lt b' _ _ r'
        omega
      · rw [Ren.upd_ne ρ _ hb] at r
        have hA := h.lt b A s r
        by_cases hb' : b' = H.length
        · subst hb'; rw [Ren.upd_same] at r'; cases r'; omega
        · rw [Ren.upd_ne ρ _ hb'] at r'
          rcases wrt_append hw with hw' | ⟨e, _⟩
          · have e' := h.inj b b' A s s' hne r r' hw'
            have hlt := (List.getElem?_eq_some_iff.1 e').1
            rw [List.getElem?_append_left hlt]; exact e'
          · exact absurd e hb
    · by_cases hb : b = H.length
      · subst hb; rw [Ren.upd_same] at r; cases r; simp
      · rw [Ren.upd_ne ρ _ hb] at r; have := h.lt b A s r; simp; omega
  fr A hA _ := pushObj_old o hA
  afr b hb _ := List.getElem?_append_left hb
  wr b hb hw := (wrt_append hw).resolve_right (fun e => by omega)
  len := by simp
  wlen := by simp
  img b A s r hw := by
    by_cases hb : b = H.length
    · subst hb; rw [Ren.upd_same] at r; cases r; exact .inl (Nat.le_refl _)
    · rw [Ren.upd_ne ρ _ hb] at r
      rcases wrt_append hw with hw' | ⟨e, _⟩
      · exact .inr ⟨b, s, r, hw'⟩
      · exact absurd e hb
  new b A s r := by
    by_cases hb : b = H.length
    · subst hb; rw [Ren.upd_same] at r; cases r; exact .inr (.inl (Nat.le_refl _))
    · rw [Ren.upd_ne ρ _ hb] at r; exact .inl r

theorem get_set {H : Mem} {b b' : Nat} {x blk : Blk} (h : (H.set b x)[b']? = some blk) : (b' = b ∧ blk = x ∧ b < H.length) ∨ (b' ≠ b ∧ H[b']? = some blk) := by
  rw [List.getElem?_set] at h
  by_cases e : b = b'
  · subst e
    rw [if_pos rfl] at h
    split at h
    · rename_i hl; cases h; exact .inl ⟨rfl, rfl, hl⟩
    · cases h
  · rw [if_neg e] at h; exact .inr ⟨Ne.symm e, h⟩

theorem wrt_set {H : Mem} {b b' : Nat} {x blk0 : Blk} (h0 : H[b]? = some blk0) (hw0 : blk0.isW = true) (h : wrt (H.set b x) b') : wrt H b' := by
  obtain ⟨blk, e, hw⟩ := h
  rcases get_set e with ⟨rfl, _, _⟩ | ⟨_, e'⟩
  · exact ⟨blk0, h0, hw0⟩
  · exact ⟨blk, e', hw⟩

/-- A block that may be written is written on both sides. -/
theorem stp_set {K : Ctx} {ρ : Ren} {H : Mem} {w : World} (h : HR K ρ H w) {b A s N : Nat} {blk0 : Blk} (h0 : H[b]? = some blk0) (hw0 : blk0.isW = true) (hρ : ρ b = some (A, s, N)) (hA : K.B ≤ A)
    (x : Blk) (o : Obj) (hbr : BR K ρ x A s N (setBlk w A o)) : Stp K ρ H w ρ (H.set b x) (setBlk w A o) where
  ext _ _ := rfl
  hr := by
    refine ⟨fun b' blk A' s' N' e r => ?_, fun b1 b2 A1 s1 s2 hne r1 r2 hw => ?_, fun b' A' s' r => by rw [setBlk_size]; exact h.lt b' A' s' r, below_set h.below hA o, by rw [setBlk_size]; exact h.base⟩
    · rcases get_set e with ⟨rfl, rfl, _⟩ | ⟨hne, e'⟩
      · rw [hρ] at r; cases r; exact hbr
      · by_cases hA' : A' = A
        · subst hA'
          have hg := h.inj b b' A' _ _ (Ne.symm hne) hρ r ⟨blk0, h0, hw0⟩
          rw [hg] at e'; cases e'; trivial
        · exact (h.blk b' blk A' s' N' e' r).world (setBlk_ne o hA')
    · have hg := h.inj b1 b2 A1 s1 s2 hne r1 r2 (wrt_set h0 hw0 hw)
      rw [List.getElem?_set]
      by_cases hb : b = b2
      · subst hb; rw [h0] at hg; cases hg; simp [Blk.isW] at hw0
      · rw [if_neg hb]; exact hg
  fr A' _ hn := setBlk_ne o (fun e => by subst e; exact hn b _ hρ ⟨blk0, h0, hw0⟩)
  afr b' _ e := by
    rw [List.getElem?_set, if_neg]
    intro hb; subst hb; rw [hρ] at e; cases e
  wr b' _ hw := wrt_set h0 hw0 hw
  len := by simp
  wlen := by simp
  img b' A' s' r hw := .inr ⟨b', s', r, wrt_set h0 hw0 hw⟩
  new b' A' s' r := .inl r

/-- The count of draws is nobody's. -/
theorem hr_drawn {K : Ctx} {ρ : Ren} {H : Mem} {w : World} (h : HR K ρ H w) (n : Nat) : HR K ρ H { w with drawn := n } :=
  ⟨fun b blk A s N e r => (h.blk b blk A s N e r).world rfl, h.inj, h.lt, ⟨h.below.os, h.below.tape, h.below.output, h.below.size, h.below.block⟩, h.base⟩

theorem stp_drawn {K : Ctx} {ρ : Ren} {H : Mem} {w : World} (h : HR K ρ H w) (n : Nat) : Stp K ρ H w ρ H { w with drawn := n } :=
  ⟨fun _ _ => rfl, hr_drawn h n, fun _ _ _ => rfl, fun _ _ _ => rfl, fun _ _ h => h, Nat.le_refl _, Nat.le_refl _, fun b A s e k => .inr ⟨b, s, e, k⟩, fun b A s e => .inl e⟩

/-- A block of the model's own. -/
theorem stp_hidden {K : Ctx} {ρ : Ren} {H : Mem} {w : World} (h : HR K ρ H w) (o : Obj) : Stp K ρ H w ρ H (pushObj w o) where
  ext _ _ := rfl
  hr := ⟨fun b blk A s N e r => (h.blk b blk A s N e r).world (pushObj_old o (h.lt b A _ r)), h.inj, fun b A s r => by have := h.lt b A s r; simp; omega, below_push h.below h.base o, by have := h.base; simp; omega⟩
  fr A hA _ := pushObj_old o hA
  afr _ _ _ := rfl
  wr _ _ h := h
  len := Nat.le_refl _
  wlen := by simp
  img b A s e k := .inr ⟨b, s, e, k⟩
  new b A s e := .inl e

end Go.Proofs.Am

/- Each operation of the small machine does what the model's does: reads, writes, numbers. -/
namespace Go.Proofs.Am
open Go Go.RowKit

theorem ground_VR {v : Value} (h : ground v = true) (ρ : Ren) : VR ρ v v := by
  cases v with
  | bool b => exact .bool b
  | int k n => exact .int k n
  | string s => exact .string s
  | nilFunc => exact .nilFunc
  | nilIface => exact .nilIface
  | pointer a => cases a with
    | none => exact .ptrNil
    | some a => simp [ground] at h
  | slice a n c =>
    cases a with
    | some a => simp [ground] at h
    | none =>
      cases n with
      | succ n => simp [ground] at h
      | zero => cases c with
        | succ c => simp [ground] at h
        | zero => exact .sliceNil
  | map r => cases r with
    | none => exact .mapNil
    | some a => simp [ground] at h
  | _ => simp [ground] at h

theorem ground_VRL {vs : List Value} (h : vs.all ground = true) (ρ : Ren) : VRL ρ vs vs :=
  VRL.refl_of vs fun x hx => ground_VR (List.all_eq_true.1 h x hx) ρ

theorem ground_one {vs : List Value} (h : vs.all ground = true) : vs.all one = true := by
  rw [List.all_eq_true] at *
  intro x hx
  have := h x hx
  cases x <;> simp_all [ground, one]

theorem groundV_VR {v : Value} (h : groundV v = true) (ρ : Ren) : VR ρ v v := by
  cases v with
  | agg cs =>
    obtain ⟨l⟩ := cs
    exact .agg (ground_VRL (by simpa [groundV] using h) ρ)
  | _ => exact ground_VR (by simpa [groundV] using h) ρ

theorem cX_sound {ρ : Ren} {fr : List Value} {a : Act} (hf : FR ρ fr a) {x : Operand} {y : AX} (h : cX x = some y) : VR ρ (ev fr y) (a.eval x) := by
  cases x with
  | tmp t => simp only [cX, Option.some.injEq] at h; subst h; exact hf.getD t
  | const v =>
    simp only [cX] at h
    split at h
    · rename_i hg; cases h; exact ground_VR hg ρ
    · cases h
  | global g => simp [cX] at h
  | func f => simp only [cX, Option.some.injEq] at h; subst h; exact .func f .nil .nil

theorem cXs_sound {ρ : Ren} {fr : List Value} {a : Act} (hf : FR ρ fr a) : ∀ {xs : List Operand} {ys : List AX}, cXs xs = some ys → VRL ρ (ys.map (ev fr)) (xs.map a.eval)
  | [], ys, h => by simp [cXs] at h; subst h; exact .nil
  | x :: xs, ys, h => by
    simp only [cXs, Option.bind_eq_bind, Option.bind_eq_some_iff, Option.some.injEq] at h
    obtain ⟨y, hy, zs, hz, rfl⟩ := h
    exact .cons (cX_sound hf hy) (cXs_sound hf hz)

theorem rd1_sound {K : Ctx} {ρ : Ren} {H : Mem} {w : World} (hr : HR K ρ H w) {b A s o N : Nat} (hρ : ρ b = some (A, s, N)) {v : Value} (h : rd1 H b o = some v) :
    ∃ v', w.cell? ⟨A, s + o, none⟩ = some v' ∧ VR ρ v v' := by
  unfold rd1 at h
  split at h
  · rename_i cs t ro hb
    obtain ⟨C, t', fz, hC, _, hcb, _, _⟩ := hr.blk b _ A s N hb hρ
    obtain ⟨v', e, hv⟩ := hcb o v h
    exact ⟨v', by rw [cell_at hC]; exact e, hv⟩
  · cases h

theorem CB.range {ρ : Ren} {cs : List Value} {C : Array Value} {s : Nat} (h : CB ρ cs C s) (o n : Nat) (hn : o + n ≤ cs.length) (hC : s + cs.length ≤ C.size) :
    VRL ρ ((cs.drop o).take n) ((C.toList.drop (s + o)).take n) := by
  apply VRL.of_get
  · simp; omega
  · intro i v v' e e'
    rw [List.getElem?_take] at e e'
    split at e
    · rename_i hi
      rw [if_pos hi] at e'
      rw [List.getElem?_drop] at e e'
      obtain ⟨u, hu, hv⟩ := h (o + i) v e
      rw [← Nat.add_assoc] at hu
      rw [Array.getElem?_toList, hu] at e'
      cases e'; exact hv
    · cases e

theorem rdN_sound {K : Ctx} {ρ : Ren} {H : Mem} {w : World} (hr : HR K ρ H w) {b A s o n N : Nat} (hρ : ρ b = some (A, s, N)) {cs : List Value} (h : rdN H b o n = some cs) :
    ∃ C t fz, w.heap[A]? = some (.cells C t fz) ∧ s + o + n ≤ C.size ∧ VRL ρ cs ((C.toList.drop (s + o)).take n) ∧ cs.length = n := by
  unfold rdN at h
  split at h
  · rename_i cs0 t ro hb
    obtain ⟨C, t', fz, hC, _, hcb, hsz, _⟩ := hr.blk b _ A s N hb hρ
    split at h
    · rename_i hn
      cases h
      exact ⟨C, t', fz, hC, by omega, hcb.range o n hn hsz, by simp; omega⟩
    · cases h
  · cases h

theorem loadA_sound {K : Ctx} {ρ : Ren} {H : Mem} {w : World} (hr : HR K ρ H w) {t : TypeId} {n : Option Nat} (hn : nOf K.P t = some n) {va va' : Value} (hv : VR ρ va va')
    {v : Value} (h : loadA H n va = some v) : ∃ v', (Instr.loadAt t va').run K.P w = .ok v' w ∧ VR ρ v v' := by
  unfold loadA at h
  split at h
  · rename_i b o
    cases hv with
    | ptr hρ =>
      rename_i A s N
      cases n with
      | none =>
        obtain ⟨v', hc, hv'⟩ := rd1_sound hr hρ h
        refine ⟨v', ?_, hv'⟩
        simp [Instr.loadAt, Instr.sureAddr, loadVar, run_agg_no hn, hc]
      | some k =>
        simp only [Option.map_eq_some_iff] at h
        obtain ⟨cs, hc, rfl⟩ := h
        obtain ⟨C, t', fz, hC, hsz, hl, _⟩ := rdN_sound hr hρ hc
        refine ⟨_, ?_, .agg hl⟩
        simp [Instr.loadAt, Instr.sureAddr, loadVar, (run_agg_yes (w := w) hn).1, (run_agg_yes (w := w) hn).2, run_loadCells hC (s + o) k (by omega)]
  · cases h

theorem VRL.all_one {ρ : Ren} : ∀ {vs vs' : List Value}, VRL ρ vs vs' → vs.all one = true → vs'.all one = true
  | _, _, .nil, _ => rfl
  | _, _, .cons h t, e => by
    simp only [List.all_cons, Bool.and_eq_true] at *
    exact ⟨h.one e.1, t.all_one e.2⟩

theorem list_set_self {α : Type} : ∀ {l : List α} {i : Nat} {x : α}, l[i]? = some x → l.set i x = l
  | [], i, x, h => by simp at h
  | y :: l, 0, x, h => by simp at h; simp [h]
  | y :: l, i + 1, x, h => by simp at h; simp [list_set_self h]

/-- Cells are written on both sides. -/
theorem wrN_sound {K : Ctx} {ρ : Ren} {H H' : Mem} {w : World} (hr : HR K ρ H w) {b A s o N : Nat} (hρ : ρ b = some (A, s, N)) {vs vs' : List Value} (hv : VRL ρ vs vs') (h : wrN H b o vs = some H') :
    ∃ w', (storeCells ⟨A, s + o, none⟩ vs').run K.P w = .ok () w' ∧ Stp K ρ H w ρ H' w' := by
  unfold wrN at h
  split at h
  · rename_i cs t hb
    split at h
    · rename_i hc
      simp only [Bool.and_eq_true, decide_eq_true_eq] at hc
      obtain ⟨hlen, h1⟩ := hc
      cases h
      obtain ⟨C, t', fz, hC, hN, hcb, hsz, hw⟩ := hr.blk b _ A s N hb hρ
      obtain ⟨hB, hfz⟩ := hw rfl
      have hl := hv.length
      have hrun := run_storeCells (P := K.P) vs' hC (s + o) 0 hfz (by omega) (hv.all_one h1)
      refine ⟨_, hrun, ?_⟩
      by_cases hemp : vs' = []
      · subst hemp
        have : vs = [] := List.eq_nil_of_length_eq_zero (by simpa using hl)
        subst this
        rw [if_pos rfl]
        simp only [wr]
        rw [list_set_self hb]
        exact .refl hr
      · rw [if_neg hemp]
        refine stp_set hr hb rfl hρ hB _ _ ?_
        refine ⟨_, t', fz, setBlk_same _ (lt_of_heap hC), by simpa [wr_length] using hN, ?_, ?_, fun _ => ⟨hB, by simpa [wr_length] using hfz⟩⟩
        · intro i v e
          rw [wr_get vs cs o i hlen] at e
          simp only [← Array.getElem?_toList, Nat.add_zero]
          have hw' := wr_get vs' C.toList (s + o) (s + i) (by simp; omega)
          rw [hw']
          by_cases hi : o ≤ i ∧ i < o + vs.length
          · rw [if_pos hi] at e
            rw [if_pos (by omega), show s + i - (s + o) = i - o from by omega]
            exact hv.get _ v e
          · rw [if_neg hi] at e
            rw [if_neg (by omega)]
            obtain ⟨v', e', hv'⟩ := hcb i v e
            exact ⟨v', by simpa using e', hv'⟩
        · simp [wr_length]; omega
    · cases h
  · cases h

/-- What fillA puts together. -/
theorem fillA_sound {ρ : Ren} {fr : List Value} {a : Act} (hf : FR ρ fr a) {P : Program} {place : Nat → Option (Nat × Nat)} :
    ∀ {ps : List (Nat × Operand)} {qs : List (Nat × Nat × AX)} {z z' cs : List Value}, cParts place ps = some qs → VRL ρ z z' → fillA (ev fr) z qs = some cs →
    ∃ cs', Instr.fill place ⟨z'⟩ (ps.map fun (i, x) => (i, a.eval x)) = some ⟨cs'⟩ ∧ VRL ρ cs cs'
  | [], qs, z, z', cs, hq, hz, h => by
    simp [cParts] at hq; subst hq
    simp [fillA] at h; subst h
    exact ⟨z', by simp [Instr.fill], hz⟩
  | (i, x) :: ps, qs, z, z', cs, hq, hz, h => by
    simp only [cParts, Option.bind_eq_bind, Option.bind_eq_some_iff, Option.some.injEq] at hq
    obtain ⟨⟨off, size⟩, hp, y, hy, r, hr, rfl⟩ := hq
    simp only [fillA] at h
    split at h
    · rename_i vs hvs
      split at h
      · rename_i hc
        have hcells := (cX_sound hf hy).cells hvs
        have hl1 := hcells.length
        have hl2 := hz.length
        obtain ⟨cs', h1, h2⟩ := fillA_sound (P := P) hf hr (VRL.wr off hcells hz) h
        refine ⟨cs', ?_, h2⟩
        simp only [List.map_cons, Instr.fill, hp]
        rw [if_neg (by
          rw [← Array.length_toList, ← hl1]
          have e1 := hc.1
          have e2 := hc.2
          have e3 : (⟨z'⟩ : Array Value).size = z.length := by simp [hl2]
          rw [e3]; simp only [Bool.or_eq_true, ne_eq, decide_eq_true_eq, not_or, Decidable.not_not, Nat.not_lt]
          exact ⟨e1, by omega⟩)]
        have hwr : ∀ (us : List Value) (z : Array Value) (o k : Nat), (us.zipIdx k).foldl (fun (cs : Array Value) (x : Value × Nat) => cs.setIfInBounds (o + x.2) x.1) z = ⟨Am.wr z.toList (o + k) us⟩ := by
          intro us
          induction us with
          | nil => intro z o k; simp [Am.wr]
          | cons u us ih =>
            intro z o k
            simp only [List.zipIdx_cons, List.foldl_cons, Am.wr]
            rw [ih]
            simp [Nat.add_assoc]
        have e := hwr (a.eval x).cells.toList ⟨z'⟩ off 0
        have e2 : ((a.eval x).cells.zipIdx.foldl (fun (cs : Array Value) (x : Value × Nat) => cs.setIfInBounds (off + x.2) x.1) ⟨z'⟩) = ((a.eval x).cells.toList.zipIdx 0).foldl (fun (cs : Array Value) (x : Value × Nat) => cs.setIfInBounds (off + x.2) x.1) ⟨z'⟩ := by
          rw [← Array.foldl_toList]; simp
        rw [Nat.add_zero] at e
        have := e2.trans e
        exact (congrArg (fun q => Instr.fill place q _) this).trans h1
      · cases h
    · cases h

end Go.Proofs.Am

/- Each operation of the small machine does what the model's does: numbers, tests, slices, places. -/
namespace Go.Proofs.Am
open Go Go.RowKit

theorem equal_eq (t : TypeId) (x y : Value) : Op.equal t x y = Op.equalIn (9999 + 1) t x y := rfl

theorem equal_bool {P : Program} {w : World} {t : TypeId} (h : P.underlying t = some .bool) (a b : Bool) : (Op.equal t (.bool a) (.bool b)).run P w = .ok (a == b) w := by
  rw [equal_eq]; generalize 9999 = d
  simp [Op.equalIn, run_und h]

theorem abin_sound {P : Program} {w : World} {op : BinOp} {t : TypeId} {x y : Value} {v : Value} (h : abin op x y = some v) : (binOp op t x y).run P w = .ok v w := by
  unfold abin at h
  split at h
  · rename_i k a k' b
    split at h
    · split at h
      · rename_i hb; cases h
        simp only [binOp, Op.shift]; rw [if_neg (by omega)]; rfl
      · cases h
    · split at h
      · rename_i hb; cases h
        simp only [binOp, Op.shift]; rw [if_neg (by omega)]; rfl
      · cases h
    · rename_i h1 h2
      split at h
      · rename_i hk; subst hk
        cases op <;> simp only [binOp, ne_eq, not_true_eq_false, if_false] at * <;> first
          | (cases h; done)
          | (cases h; simp [Op.intArith, Op.intBits, Op.intCmp]; done)
          | (split at h
             · cases h
             · rename_i hb; cases h; simp [Op.intDiv, hb])
      · cases h
  · rename_i a b
    split at h
    · split at h
      · rename_i hc; cases h
        simp only [binOp, Op.stringOp]
        rw [if_neg]
        · rfl
        · simp only [IntKind.max, IntKind.signed, IntKind.bits]
          simp
          omega
      · cases h
    all_goals (first | (cases h; simp [binOp, Op.stringOp]; done) | cases h)
  · cases h

/-- The operands of a number's or text's operation are themselves on both sides. -/
theorem abin_VR {ρ : Ren} {op : BinOp} {x x' y y' : Value} {v : Value} (hx : VR ρ x x') (hy : VR ρ y y') (h : abin op x y = some v) : x' = x ∧ y' = y ∧ VR ρ v v := by
  unfold abin at h
  split at h
  · cases hx; cases hy
    refine ⟨rfl, rfl, ?_⟩
    split at h
    · split at h <;> cases h; exact .int _ _
    · split at h <;> cases h; exact .int _ _
    · split at h
      · split at h <;> first | (cases h; done) | (cases h; first | exact .int _ _ | exact .bool _) | (split at h <;> first | (cases h; done) | (cases h; exact .int _ _))
      · cases h
  · cases hx; cases hy
    refine ⟨rfl, rfl, ?_⟩
    split at h
    · split at h <;> cases h; exact .string _
    all_goals (first | (cases h; exact .bool _) | cases h)
  · cases h

theorem aun_sound {P : Program} {w : World} {op : UnOp} {x v : Value} (h : aun op x = some v) : (Op.unary op x).run P w = .ok v w := by
  unfold aun at h
  split at h
  · split at h <;> cases h; rfl
  · split at h <;> cases h <;> simp [Op.unary, Op.intArith, Op.intBits]
  · cases h

theorem aun_VR {ρ : Ren} {op : UnOp} {x x' v : Value} (hx : VR ρ x x') (h : aun op x = some v) : x' = x ∧ VR ρ v v := by
  unfold aun at h
  split at h
  · cases hx; refine ⟨rfl, ?_⟩; split at h <;> cases h; exact .bool _
  · cases hx; refine ⟨rfl, ?_⟩; split at h <;> cases h <;> exact .int _ _
  · cases h

theorem isNil_VR {ρ : Ren} {k : NK} {x x' : Value} (hx : VR ρ x x') {b : Bool} (h : isNil k x = some b) : isNil k x' = some b := by
  cases hx <;> cases k <;> simp_all [isNil]

/-- Comparing with nil, in the model. -/
theorem eqNil_run {P : Program} {w : World} {t : TypeId} {d : TypeDesc} (hd : P.underlying t = some d) {k : NK} (hk : nkOf d = some k) {x y : Value} {a b : Bool}
    (hx : isNil k x = some a) (hy : isNil k y = some b) (h : (a || b) = true) : (Op.equal t x y).run P w = .ok (a && b) w := by
  rw [equal_eq]; generalize 9999 = n
  cases d <;> simp only [nkOf, Option.some.injEq, reduceCtorEq] at hk <;> subst hk
  · cases x <;> simp only [isNil, Option.some.injEq, reduceCtorEq] at hx
    cases y <;> simp only [isNil, Option.some.injEq, reduceCtorEq] at hy
    rename_i p q
    cases p <;> cases q <;> simp at hx hy <;> subst hx hy <;> simp at h <;> simp [Op.equalIn, run_und hd]
  · cases x <;> simp only [isNil, Option.some.injEq, reduceCtorEq] at hx
    cases y <;> simp only [isNil, Option.some.injEq, reduceCtorEq] at hy
    rename_i p _ _ q _ _
    cases p <;> cases q <;> simp at hx hy <;> subst hx hy <;> simp at h <;> simp [Op.equalIn, run_und hd]
  · cases x <;> simp only [isNil, Option.some.injEq, reduceCtorEq] at hx
    cases y <;> simp only [isNil, Option.some.injEq, reduceCtorEq] at hy
    rename_i p q
    cases p <;> cases q <;> simp at hx hy <;> subst hx hy <;> simp at h <;> simp [Op.equalIn, run_und hd]
  · cases x <;> simp only [isNil, Option.some.injEq, reduceCtorEq] at hx <;> cases y <;> simp only [isNil, Option.some.injEq, reduceCtorEq] at hy <;> subst hx hy <;> simp at h <;> simp [Op.equalIn, run_und hd]
  · cases x <;> simp only [isNil, Option.some.injEq, reduceCtorEq] at hx <;> cases y <;> simp only [isNil, Option.some.injEq, reduceCtorEq] at hy <;> subst hx hy <;> simp at h <;> simp [Op.equalIn, run_und hd]

end Go.Proofs.Am

/- Each operation of the small machine does what the model's does: structs that are compared, maps. -/
namespace Go.Proofs.Am
open Go Go.RowKit

section
variable {P : Program} {w : World}

theorem pk_spec {t : TypeId} {p : PK} (h : pkOf1 P t = some p) : (isAgg t).run P w = .ok false w ∧
    ((p = .int ∧ ∃ k, P.underlying t = some (.int k)) ∨ (p = .bool ∧ P.underlying t = some .bool) ∨ (p = .str ∧ P.underlying t = some .string)) := by
  unfold pkOf1 at h
  split at h <;> cases h
  · rename_i k e _; exact ⟨by simp [isAgg, run_und e], .inl ⟨rfl, k, e⟩⟩
  · rename_i e _; exact ⟨by simp [isAgg, run_und e], .inr (.inl ⟨rfl, e⟩)⟩
  · rename_i e _; exact ⟨by simp [isAgg, run_und e], .inr (.inr ⟨rfl, e⟩)⟩

theorem eqPrim_run {t : TypeId} {p : PK} (h : pkOf1 P t = some p) (d : Nat) {x y : Value} {b : Bool} (he : eqPrim p x y = some b) : (Op.equalIn (d + 1) t x y).run P w = .ok b w := by
  rcases (pk_spec (w := w) h).2 with ⟨rfl, k, e⟩ | ⟨rfl, e⟩ | ⟨rfl, e⟩
  · cases x <;> simp only [eqPrim, reduceCtorEq] at he
    cases y <;> simp only [reduceCtorEq] at he
    split at he <;> cases he
    rename_i hk; subst hk
    exact run_equalIn_int w d t _ _ _ _ e
  · cases x <;> simp only [eqPrim, reduceCtorEq] at he
    cases y <;> simp only [reduceCtorEq] at he
    cases he
    exact run_equalIn_bool' w d t _ _ e
  · cases x <;> simp only [eqPrim, reduceCtorEq] at he
    cases y <;> simp only [reduceCtorEq] at he
    cases he
    rw [run_equalIn_string w d t _ _ e, beq_toListBytes]

theorem part_run {t : TypeId} {p : PK} (h : pkOf1 P t = some p) {cs : Array Value} {off : Nat} {v : Value} (hv : cs[off]? = some v) : (part t cs off).run P w = .ok v w := by
  simp [part, (pk_spec (w := w) h).1, hv]

theorem eqFields_run (d : Nat) : ∀ {fs : List Field} {off : Nat} {ps : List PK}, flatFields P fs off = some ps → ∀ {xs ys : Array Value} {b : Bool},
    eqCells ps (xs.toList.drop off) (ys.toList.drop off) = some b → (Op.eqFields (d + 1) xs ys fs).run P w = .ok b w
  | [], off, ps, h, xs, ys, b, he => by
    simp only [flatFields, Option.some.injEq] at h; subst h
    simp only [Op.eqFields, Sem.run_pure]
    cases hx : xs.toList.drop off <;> cases hy : ys.toList.drop off <;> simp [hx, hy, eqCells] at he
    subst he; rfl
  | f :: fs, off, ps, h, xs, ys, b, he => by
    simp only [flatFields] at h
    split at h
    · rename_i p qs hp hq
      split at h
      · rename_i hc
        cases h
        obtain ⟨hoff, hname⟩ := hc
        cases hx : xs.toList.drop off with
        | nil => simp [hx, eqCells] at he
        | cons x xs' =>
          cases hy : ys.toList.drop off with
          | nil => simp [hx, hy, eqCells] at he
          | cons y ys' =>
            rw [hx, hy] at he
            simp only [eqCells] at he
            split at he
            · rename_i a c ha hc'
              cases he
              have ex : xs[off]? = some x := by
                have := congrArg (fun l => l[0]?) hx
                simpa using this
              have ey : ys[off]? = some y := by
                have := congrArg (fun l => l[0]?) hy
                simpa using this
              have dx : xs.toList.drop (off + 1) = xs' := by rw [← List.drop_drop, hx]; rfl
              have dy : ys.toList.drop (off + 1) = ys' := by rw [← List.drop_drop, hy]; rfl
              have ih := eqFields_run d hq (xs := xs) (ys := ys) (b := c) (by rw [dx, dy]; exact hc')
              simp only [Op.eqFields, if_pos hname, Sem.run_bind, hoff, part_run hp ex, part_run hp ey, Result.andThen_ok, eqPrim_run hp d ha]
              cases a <;> simp [ih]
            · cases he
      · cases h
    · cases h

theorem eqArr_run (d : Nat) {t : TypeId} {p : PK} (hp : pkOf1 P t = some p) : ∀ (n off : Nat) {xs ys : Array Value} {b : Bool},
    eqCells (List.replicate n p) (xs.toList.drop off) (ys.toList.drop off) = some b →
    (forIn (m := Sem) (List.range' off n) ((none, ()) : Option Bool × Unit) fun i (_ : Option Bool × Unit) => do
      let a ← part t xs (i * 1)
      let c ← part t ys (i * 1)
      let r ← Op.equalIn (d + 1) t a c
      if (!r) = true then pure (ForInStep.done (some false, ())) else pure (ForInStep.yield (none, ()))).run P w = .ok (if b then (none, ()) else (some false, ())) w
  | 0, off, xs, ys, b, he => by
    cases hx : xs.toList.drop off <;> cases hy : ys.toList.drop off <;> simp [hx, hy, eqCells] at he
    subst he; simp
  | n + 1, off, xs, ys, b, he => by
    cases hx : xs.toList.drop off with
    | nil => simp [hx, eqCells, List.replicate_succ] at he
    | cons x xs' =>
      cases hy : ys.toList.drop off with
      | nil => simp [hx, hy, eqCells, List.replicate_succ] at he
      | cons y ys' =>
        rw [hx, hy] at he
        simp only [List.replicate_succ, eqCells] at he
        split at he
        · rename_i a c ha hc'
          cases he
          have ex : xs[off * 1]? = some x := by
            have := congrArg (fun l => l[0]?) hx
            simpa using this
          have ey : ys[off * 1]? = some y := by
            have := congrArg (fun l => l[0]?) hy
            simpa using this
          have dx : xs.toList.drop (off + 1) = xs' := by rw [← List.drop_drop, hx]; rfl
          have dy : ys.toList.drop (off + 1) = ys' := by rw [← List.drop_drop, hy]; rfl
          have ih := eqArr_run d hp n (off + 1) (xs := xs) (ys := ys) (b := c) (by rw [dx, dy]; exact hc')
          simp only [List.range'_succ, List.forIn_cons, Sem.run_bind, part_run hp ex, part_run hp ey, Result.andThen_ok, eqPrim_run hp d ha]
          cases a
          · simp
          · simpa using ih
        · cases he

theorem eqFlat_run {t : TypeId} {ks : List PK} (h : flat P t = some ks) {xs ys : Array Value} {b : Bool} (he : eqCells ks xs.toList ys.toList = some b) :
    (Op.equal t (.agg xs) (.agg ys)).run P w = .ok b w := by
  rw [equal_eq, show (9999 : Nat) = 9998 + 1 from rfl]
  generalize 9998 = d
  unfold flat at h
  split at h
  · rename_i fs hu
    split at h
    · cases h
    · rename_i hs
      have hF : P.fieldsOf t = fs := by simp [Program.fieldsOf, hu]
      rw [run_equalIn_struct w (d + 1) t xs ys (by rw [hF]; exact hu) (by simpa using hs), hF]
      exact eqFields_run d h (by simpa using he)
  · rename_i n e hu
    simp only [Option.map_eq_some_iff] at h
    obtain ⟨p, hp, rfl⟩ := h
    have hsz : szOf P e = some 1 := by
      unfold pkOf1 at hp; split at hp <;> first | assumption | cases hp
    have key := eqArr_run (w := w) d hp n 0 (xs := xs) (ys := ys) (b := b) (by simpa using he)
    rw [Op.equalIn]
    simp only [Sem.run_bind, run_und hu, Result.andThen_ok, run_sz hsz]
    rw [Std.Legacy.Range.forIn_eq_forIn_range']
    simp only [Std.Legacy.Range.size, Nat.sub_zero, Nat.add_sub_cancel, Nat.div_one]
    rw [key]
    cases b <;> simp
  · cases h

end
end Go.Proofs.Am

/- Each operation of the small machine does what the model's does: maps. -/
namespace Go.Proofs.Am
open Go Go.RowKit

/-- What has been found, on both sides. -/
inductive FoundR (ρ : Ren) : Option (Nat × Value) → Option (Nat × Value) → Prop
  | none : FoundR ρ none none
  | some (j : Nat) {v v' : Value} (h : VR ρ v v') : FoundR ρ (some (j, v)) (some (j, v'))

theorem eqPrim_VR {ρ : Ren} {p : PK} {x x' y y' : Value} {b : Bool} (hx : VR ρ x x') (hy : VR ρ y y') (h : eqPrim p x y = some b) : x' = x ∧ y' = y := by
  cases p <;> cases x <;> simp only [eqPrim, reduceCtorEq] at h <;> cases y <;> simp only [reduceCtorEq] at h <;> cases hx <;> cases hy <;> exact ⟨rfl, rfl⟩

theorem eqCells_VR {ρ : Ren} : ∀ {ps : List PK} {xs xs' ys ys' : List Value} {b : Bool}, VRL ρ xs xs' → VRL ρ ys ys' → eqCells ps xs ys = some b → xs' = xs ∧ ys' = ys
  | [], _, _, _, _, _, .nil, .nil, _ => ⟨rfl, rfl⟩
  | [], _, _, _, _, _, .nil, .cons _ _, h => by simp [eqCells] at h
  | [], _, _, _, _, _, .cons _ _, _, h => by simp [eqCells] at h
  | p :: ps, _, _, _, _, _, .nil, _, h => by simp [eqCells] at h
  | p :: ps, _, _, _, _, _, .cons _ _, .nil, h => by simp [eqCells] at h
  | p :: ps, _, _, _, _, _, .cons hx tx, .cons hy ty, h => by
    simp only [eqCells] at h
    split at h
    · rename_i a c ha hc
      obtain ⟨e1, e2⟩ := eqPrim_VR hx hy ha
      obtain ⟨e3, e4⟩ := eqCells_VR tx ty hc
      exact ⟨by rw [e1, e3], by rw [e2, e4]⟩
    · cases h

theorem eqKey_VR {ρ : Ren} {kt : KT} {x x' y y' : Value} {b : Bool} (hx : VR ρ x x') (hy : VR ρ y y') (h : eqKey kt x y = some b) : x' = x ∧ y' = y := by
  unfold eqKey at h
  split at h
  · exact eqPrim_VR hx hy h
  · rename_i ps a c
    cases hx with
    | agg hx => cases hy with
      | agg hy =>
        obtain ⟨e1, e2⟩ := eqCells_VR hx hy h
        exact ⟨by rw [e1], by rw [e2]⟩
  · cases h

section
variable {P : Program} {w : World}

theorem keyOk_spec {t : TypeId} {kt : KT} (h : keyOk P t = some kt) :
    (∃ p, kt = .sc p ∧ ((p = .int ∧ ∃ k, P.underlying t = some (.int k)) ∨ (p = .str ∧ P.underlying t = some .string))) ∨ (∃ ps fs, kt = .st ps ∧ P.underlying t = some (.struct fs) ∧ P.stoodInHeld t = false ∧ flatFields P fs.toList 0 = some ps) := by
  unfold keyOk at h
  split at h
  · rename_i k e; cases h; exact .inl ⟨_, rfl, .inl ⟨rfl, k, e⟩⟩
  · rename_i e; cases h; exact .inl ⟨_, rfl, .inr ⟨rfl, e⟩⟩
  · rename_i fs e
    split at h
    · cases h
    · rename_i hs
      simp only [Option.map_eq_some_iff] at h
      obtain ⟨ps, hp, rfl⟩ := h
      exact .inr ⟨ps, fs, rfl, e, by simpa using hs, hp⟩
  · cases h

theorem eqKey_run {t : TypeId} {kt : KT} (h : keyOk P t = some kt) {x y : Value} {b : Bool} (he : eqKey kt x y = some b) : (Op.equal t x y).run P w = .ok b w := by
  rw [equal_eq]
  rcases keyOk_spec h with ⟨p, rfl, hp⟩ | ⟨ps, fs, rfl, hu, hs, hf⟩
  · generalize 9999 = d
    simp only [eqKey] at he
    rcases hp with ⟨rfl, k, e⟩ | ⟨rfl, e⟩
    · cases x <;> simp only [eqPrim, reduceCtorEq] at he
      cases y <;> simp only [reduceCtorEq] at he
      split at he <;> cases he
      rename_i hk; subst hk
      exact run_equalIn_int w d t _ _ _ _ e
    · cases x <;> simp only [eqPrim, reduceCtorEq] at he
      cases y <;> simp only [reduceCtorEq] at he
      cases he
      rw [run_equalIn_string w d t _ _ e, beq_toListBytes]
  · rw [show (9999 : Nat) = 9998 + 1 from rfl]
    generalize 9998 = d
    have hF : P.fieldsOf t = fs := by simp [Program.fieldsOf, hu]
    unfold eqKey at he
    split at he
    · rename_i h1; cases h1
    · rename_i ps' a c h1
      cases h1
      rw [run_equalIn_struct w (d + 1) t a c (by rw [hF]; exact hu) hs, hF]
      exact eqFields_run d hf (by simpa using he)
    · cases he

theorem checkFields_run (empty : Bool) (d : Nat) : ∀ {fs : List Field} {off : Nat} {ps : List PK}, flatFields P fs off = some ps → ∀ {xs : Array Value} {b : Bool},
    eqCells ps (xs.toList.drop off) (xs.toList.drop off) = some b →
    (forIn (m := Sem) fs PUnit.unit fun (f : Field) (_ : PUnit) => do
      if f.name ≠ "_" then do
        let a ← part f.type xs f.offset
        Instr.checkKey empty (d + 1) f.type a
        pure (ForInStep.yield PUnit.unit)
      else pure (ForInStep.yield PUnit.unit)).run P w = .ok PUnit.unit w
  | [], off, ps, h, xs, b, he => by simp
  | f :: fs, off, ps, h, xs, b, he => by
    simp only [flatFields] at h
    split at h
    · rename_i p qs hp hq
      split at h
      · rename_i hc
        cases h
        obtain ⟨hoff, hname⟩ := hc
        cases hx : xs.toList.drop off with
        | nil => simp [hx, eqCells] at he
        | cons x xs' =>
          rw [hx] at he
          simp only [eqCells] at he
          split at he
          · rename_i a c ha hc'
            have ex : xs[off]? = some x := by
              have := congrArg (fun l => l[0]?) hx
              simpa using this
            have dx : xs.toList.drop (off + 1) = xs' := by rw [← List.drop_drop, hx]; rfl
            have ih := checkFields_run empty d hq (xs := xs) (b := c) (by rw [dx]; exact hc')
            have hck : (Instr.checkKey empty (d + 1) f.type x).run P w = .ok () w := by
              rcases (pk_spec (w := w) hp).2 with ⟨_, k, e⟩ | ⟨_, e⟩ | ⟨_, e⟩ <;> simp [Instr.checkKey, run_und e]
            simp only [List.forIn_cons, if_pos hname, Sem.run_bind, hoff, part_run hp ex, Result.andThen_ok, hck, Sem.run_pure]
            exact ih
          · cases he
      · cases h
    · cases h

theorem checkKey_run {t : TypeId} {kt : KT} (h : keyOk P t = some kt) {x : Value} {b : Bool} (he : eqKey kt x x = some b) (empty : Bool) : (Instr.checkKey empty 10000 t x).run P w = .ok () w := by
  rcases keyOk_spec h with ⟨p, rfl, hp⟩ | ⟨ps, fs, rfl, hu, hs, hf⟩
  · rw [show (10000 : Nat) = 9999 + 1 from rfl]; generalize 9999 = d
    rcases hp with ⟨_, k, e⟩ | ⟨_, e⟩ <;> simp [Instr.checkKey, run_und e]
  · rw [show (10000 : Nat) = 9998 + 1 + 1 from rfl]; generalize 9998 = d
    cases x <;> simp only [eqKey, reduceCtorEq] at he
    rename_i a
    have key := checkFields_run (w := w) empty d hf (xs := a) (b := b) (by simpa using he)
    rw [Instr.checkKey]
    simp only [Sem.run_bind, run_und hu, Result.andThen_ok]
    rw [← Array.forIn_toList, key]; rfl

theorem sameNow_of {p : PK} {d : TypeDesc} (hp : (p = .int ∧ ∃ k, d = .int k) ∨ (p = .str ∧ d = .string)) {x y : Value} {b : Bool} (he : eqPrim p x y = some b) : Instr.sameNow d x y = some b := by
  rcases hp with ⟨rfl, q, rfl⟩ | ⟨rfl, rfl⟩
  · cases x <;> simp only [eqPrim, reduceCtorEq] at he
    cases y <;> simp only [reduceCtorEq] at he
    split at he <;> cases he
    rename_i hk; simp [Instr.sameNow, hk]
  · cases x <;> simp only [eqPrim, reduceCtorEq] at he
    cases y <;> simp only [reduceCtorEq] at he
    cases he; simp [Instr.sameNow]

theorem findNow_run {p : PK} {d : TypeDesc} (hp : (p = .int ∧ ∃ k, d = .int k) ∨ (p = .str ∧ d = .string)) {ρ : Ren} {k k' : Value} (hk : VR ρ k k') :
    ∀ {es es' : List MapEntry} (_ : ER ρ es es') (i : Nat) {r : Option (Nat × Value)}, findA (.sc p) k es i = some r →
    ∃ r', Instr.findNow d k' es' i = some r' ∧ FoundR ρ r r'
  | _, _, .nil, i, r, h => by
    simp only [findA, Option.some.injEq] at h; subst h
    exact ⟨none, by simp [Instr.findNow], .none⟩
  | _, _, .cons hke hv hb t, i, r, h => by
    rename_i e e' es es'
    simp only [findA, eqKey] at h
    split at h
    · rename_i he
      cases h
      obtain ⟨e1, e2⟩ := eqPrim_VR hk hke he
      refine ⟨some (i, e'.val), ?_, .some i hv⟩
      simp only [Instr.findNow, e1, e2, sameNow_of hp he]
    · rename_i he
      obtain ⟨e1, e2⟩ := eqPrim_VR hk hke he
      obtain ⟨r', h1, h2⟩ := findNow_run hp hk t (i + 1) h
      refine ⟨r', ?_, h2⟩
      rw [e1] at h1
      simp only [Instr.findNow, e1, e2, sameNow_of hp he, h1]
    · cases h
  termination_by es => es.length

theorem findAsking_run {t : TypeId} {kt : KT} (hkt : keyOk P t = some kt) {ρ : Ren} {k k' : Value} (hk : VR ρ k k') :
    ∀ {es es' : List MapEntry} (_ : ER ρ es es') (i : Nat) {r : Option (Nat × Value)}, findA kt k es i = some r →
    ∃ r', (Instr.findAsking t k' es' i).run P w = .ok r' w ∧ FoundR ρ r r'
  | _, _, .nil, i, r, h => by
    simp only [findA, Option.some.injEq] at h; subst h
    exact ⟨none, by simp [Instr.findAsking], .none⟩
  | _, _, .cons hke hv hb tl, i, r, h => by
    rename_i e e' es es'
    simp only [findA] at h
    split at h
    · rename_i he
      cases h
      obtain ⟨e1, e2⟩ := eqKey_VR hk hke he
      refine ⟨some (i, e'.val), ?_, .some i hv⟩
      simp only [Instr.findAsking, Sem.run_bind, e1, e2, eqKey_run hkt he, Result.andThen_ok, if_true, Sem.run_pure]
    · rename_i he
      obtain ⟨e1, e2⟩ := eqKey_VR hk hke he
      obtain ⟨r', h1, h2⟩ := findAsking_run hkt hk tl (i + 1) h
      refine ⟨r', ?_, h2⟩
      simp only [Instr.findAsking, Sem.run_bind]
      rw [e1] at h1
      rw [e1, e2, eqKey_run hkt he]
      simpa using h1
    · cases h
  termination_by es => es.length

/-- A key is looked for. -/
theorem findKey_run {t : TypeId} {kt : KT} (hkt : keyOk P t = some kt) {ρ : Ren} {k k' : Value} (hk : VR ρ k k') {es es' : List MapEntry} (he : ER ρ es es') {r : Option (Nat × Value)}
    (h : findA kt k es 0 = some r) : ∃ r', (Instr.findKey t k' es').run P w = .ok r' w ∧ FoundR ρ r r' := by
  rcases keyOk_spec hkt with ⟨p, rfl, hp⟩ | ⟨ps, fs, rfl, hu, hs, hf⟩
  · have hd : ∃ d, P.underlying t = some d ∧ ((p = .int ∧ ∃ k, d = .int k) ∨ (p = .str ∧ d = .string)) := by
      rcases hp with ⟨rfl, k, e⟩ | ⟨rfl, e⟩
      · exact ⟨_, e, .inl ⟨rfl, k, rfl⟩⟩
      · exact ⟨_, e, .inr ⟨rfl, rfl⟩⟩
    obtain ⟨d, hu, hd⟩ := hd
    obtain ⟨r', h1, h2⟩ := findNow_run hd hk he 0 h
    exact ⟨r', by simp [Instr.findKey, run_und hu, h1], h2⟩
  · obtain ⟨r', h1, h2⟩ := findAsking_run (w := w) hkt hk he 0 h
    cases hn : Instr.findNow (.struct fs) k' es' 0 with
    | none => exact ⟨r', by simp only [Instr.findKey, Sem.run_bind, run_und hu, Result.andThen_ok, hn]; exact h1, h2⟩
    | some q =>
      cases he with
      | nil =>
        simp only [Instr.findNow, Option.some.injEq] at hn
        simp only [Instr.findAsking, Sem.run_pure, Result.ok.injEq] at h1
        exact ⟨r', by simp [Instr.findKey, run_und hu, Instr.findNow, h1.1], h2⟩
      | cons _ _ _ _ => simp [Instr.findNow, Instr.sameNow] at hn

theorem sameBits_self {kt : KT} {t : TypeId} (hkt : keyOk P t = some kt) {k k2 : Value} (h : eqKey kt k k2 = some true) : Instr.sameBits 10000 k2 k = true := by
  rw [show (10000 : Nat) = 9999 + 1 from rfl]; generalize 9999 = d
  have prim : ∀ {p : PK} {x y : Value} (n : Nat), eqPrim p x y = some true → Instr.sameBits n y x = true := by
    intro p x y n h
    cases p <;> cases x <;> simp only [eqPrim, reduceCtorEq] at h <;> cases y <;> simp only [reduceCtorEq] at h
    · split at h <;> simp_all [Instr.sameBits]
    · simp_all [Instr.sameBits]
    · simp only [Option.some.injEq] at h
      rw [beq_toListBytes] at h
      simp only [Instr.sameBits]
      rw [beq_toListBytes]
      simp_all
  unfold eqKey at h
  split at h
  · exact prim _ h
  · rename_i ps a c
    have cells : ∀ {ps : List PK} {xs ys : List Value}, eqCells ps xs ys = some true → ys.length = xs.length ∧ ((ys.zip xs).all fun (x, y) => Instr.sameBits d x y) = true := by
      intro ps
      induction ps with
      | nil => intro xs ys h; cases xs <;> cases ys <;> simp_all [eqCells]
      | cons p ps ih =>
        intro xs ys h
        cases xs with
        | nil => simp [eqCells] at h
        | cons x xs => cases ys with
          | nil => simp [eqCells] at h
          | cons y ys =>
            simp only [eqCells] at h
            split at h
            · rename_i b c hb hc
              simp only [Option.some.injEq, Bool.and_eq_true] at h
              obtain ⟨rfl, rfl⟩ := h
              obtain ⟨i1, i2⟩ := ih hc
              exact ⟨by simp [i1], by simp [prim d hb, i2]⟩
            · cases h
    obtain ⟨h1, h2⟩ := cells h
    simp only [Instr.sameBits, Bool.and_eq_true, beq_iff_eq]
    exact ⟨by simpa using h1, h2⟩
  · cases h

theorem findA_spec {kt : KT} {k : Value} : ∀ {es : List MapEntry} {i j : Nat} {v : Value}, findA kt k es i = some (some (j, v)) → ∃ e, i ≤ j ∧ es[j - i]? = some e ∧ eqKey kt k e.key = some true ∧ e.val = v
  | [], i, j, v, h => by simp [findA] at h
  | e :: es, i, j, v, h => by
    simp only [findA] at h
    split at h
    · rename_i he; cases h; exact ⟨e, Nat.le_refl _, by simp, he, rfl⟩
    · obtain ⟨e', h1, h2, h3⟩ := findA_spec h
      refine ⟨e', by omega, ?_, h3⟩
      rw [show j - i = (j - (i + 1)) + 1 from by omega]; simpa using h2
    · cases h
end

end Go.Proofs.Am

/- Each operation of the small machine does what the model's does: slices, append, copy. -/
namespace Go.Proofs.Am
open Go Go.RowKit

theorem bnd_run {P : Program} {w : World} {ρ : Ren} {v v' : Value} {y y' k : Nat} (hv : VR ρ v v') (h : bnd y v = some k) (hy : y ≤ y') (code : BoundsCode) :
    (Instr.sliceBound v' y' code).run P w = .ok k w ∧ k ≤ y := by
  unfold bnd at h
  split at h
  · rename_i q i
    split at h
    · rename_i hc; cases h
      cases hv
      refine ⟨?_, by omega⟩
      simp only [Instr.sliceBound, asIntOf, Sem.run_bind, Sem.run_pure, Result.andThen_ok]
      rw [if_pos (by omega)]; rfl
    · cases h
  · cases h

theorem bndO_le {e : AX → Value} {y d k : Nat} {x : Option AX} (hd : d ≤ y) (h : bndO e y d x = some k) : k ≤ y := by
  cases x with
  | none => simp [bndO] at h; omega
  | some x =>
    simp only [bndO, bnd] at h
    split at h
    · split at h
      · rename_i hc; cases h; omega
      · cases h
    · cases h

section
variable {P : Program} {w : World} {ρ : Ren} {fr : List Value} {a : Act}

theorem cXO_cases {x : Option Operand} {y : Option AX} (h : cXO x = some y) : (x = none ∧ y = none) ∨ ∃ u v, x = some u ∧ y = some v ∧ cX u = some v := by
  cases x with
  | none => simp [cXO] at h; exact .inl ⟨rfl, h.symm⟩
  | some u =>
    simp only [cXO, Option.map_eq_some_iff] at h
    obtain ⟨v, hv, rfl⟩ := h
    exact .inr ⟨u, v, rfl, rfl, hv⟩

/-- The bounds of a slice without a third index. -/
theorem sliceBounds_two (hf : FR ρ fr a) {lo hi : Option Operand} {lo' hi' : Option AX} (hlo : cXO lo = some lo') (hhi : cXO hi = some hi') {isS : Bool} {n cap y h l : Nat}
    (h1 : bndO (ev fr) y n hi' = some h) (h2 : bndO (ev fr) h 0 lo' = some l) (hy : y ≤ cap) :
    (Instr.sliceBounds isS n cap (lo.map a.eval) (hi.map a.eval) none).run P w = .ok (l, h, cap) w := by
  rcases cXO_cases hlo with ⟨rfl, rfl⟩ | ⟨u, u', rfl, rfl, hu⟩ <;> rcases cXO_cases hhi with ⟨rfl, rfl⟩ | ⟨v, v', rfl, rfl, hv⟩
  · simp only [bndO, Option.some.injEq] at h1 h2; subst h1 h2
    simp [Instr.sliceBounds]
  · simp only [bndO, Option.some.injEq] at h1 h2; subst h2
    have r := bnd_run (P := P) (w := w) (y' := cap) (cX_sound hf hv) h1 hy (if isS = true then .sliceAcap else .sliceAlen)
    simp only [Option.map_none, Option.map_some, Instr.sliceBounds, Sem.run_bind, Sem.run_pure, Result.andThen_ok, r.1]
  · simp only [bndO, Option.some.injEq] at h1 h2; subst h1
    have r := bnd_run (P := P) (w := w) (y' := n) (cX_sound hf hu) h2 (Nat.le_refl _) .sliceB
    simp only [Option.map_none, Option.map_some, Instr.sliceBounds, Sem.run_bind, Sem.run_pure, Result.andThen_ok, Option.isSome_none, Bool.false_eq_true, if_false, r.1]
  · simp only [bndO] at h1 h2
    have r1 := bnd_run (P := P) (w := w) (y' := cap) (cX_sound hf hv) h1 hy (if isS = true then .sliceAcap else .sliceAlen)
    have r2 := bnd_run (P := P) (w := w) (y' := h) (cX_sound hf hu) h2 (Nat.le_refl _) .sliceB
    simp only [Option.map_none, Option.map_some, Instr.sliceBounds, Sem.run_bind, Sem.run_pure, Result.andThen_ok, Option.isSome_none, Bool.false_eq_true, if_false, r1.1, r2.1]

/-- With a third index. -/
theorem sliceBounds_three (hf : FR ρ fr a) {lo : Option Operand} {hi mx : Operand} {lo' : Option AX} {hi' mx' : AX} (hlo : cXO lo = some lo') (hhi : cX hi = some hi') (hmx : cX mx = some mx') {n cap y m h l : Nat}
    (h0 : bnd y (ev fr mx') = some m) (h1 : bnd m (ev fr hi') = some h) (h2 : bndO (ev fr) h 0 lo' = some l) (hy : y ≤ cap) :
    (Instr.sliceBounds true n cap (lo.map a.eval) (some (a.eval hi)) (some (a.eval mx))).run P w = .ok (l, h, m) w := by
  have r0 := bnd_run (P := P) (w := w) (y' := cap) (cX_sound hf hmx) h0 hy .slice3Acap
  have r1 := bnd_run (P := P) (w := w) (y' := m) (cX_sound hf hhi) h1 (Nat.le_refl _) .slice3B
  rcases cXO_cases hlo with ⟨rfl, rfl⟩ | ⟨u, u', rfl, rfl, hu⟩
  · simp only [bndO, Option.some.injEq] at h2; subst h2
    simp only [Option.map_none, Instr.sliceBounds, Sem.run_bind, Sem.run_pure, Result.andThen_ok, if_true, r0.1, r1.1]
  · simp only [bndO] at h2
    have r2 := bnd_run (P := P) (w := w) (y' := h) (cX_sound hf hu) h2 (Nat.le_refl _) .slice3C
    simp only [Option.map_some, Instr.sliceBounds, Sem.run_bind, Sem.run_pure, Result.andThen_ok, if_true, Option.isSome_some, r0.1, r1.1, r2.1]

theorem asliced_sound (hf : FR ρ fr a) {t e : TypeId} {size : Nat} (ht : P.underlying t = some (.slice e)) (hs : szOf P e = some size) {ad : Option Addr} {n c : Nat} {x' : Value}
    (hx : VR ρ (.slice ad n c) x') {lo hi mx : Option Operand} {lo' hi' mx' : Option AX} (hlo : cXO lo = some lo') (hhi : cXO hi = some hi') (hmx : cXO mx = some mx') {v : Value}
    (h : asliced size (ev fr) ad n c lo' hi' mx' = some v) : ∃ v', (Instr.sliceAt t x' (lo.map a.eval) (hi.map a.eval) (mx.map a.eval)).run P w = .ok v' w ∧ VR ρ v v' := by
  -- what the model's slice comes to, by its bounds
  have fin : ∀ (ad' : Option Addr) (n' c' : Nat) (l h m : Nat), x' = .slice ad' n' c' → (Instr.sliceBounds true n' c' (lo.map a.eval) (hi.map a.eval) (mx.map a.eval)).run P w = .ok (l, h, m) w →
      (Instr.sliceAt t x' (lo.map a.eval) (hi.map a.eval) (mx.map a.eval)).run P w = .ok (.slice (if m = l then ad' else ad'.map (·.add (l * size))) (h - l) (m - l)) w := by
    intro ad' n' c' l h m e hb
    subst e
    simp only [Instr.sliceAt, Sem.run_bind, run_und ht, Result.andThen_ok, Instr.slice, hb, run_sz hs, Sem.run_pure]
  unfold asliced at h
  split at h
  · -- the capacity is not known
    rename_i hU
    split at h
    · rename_i hck
      rcases cXO_cases hmx with ⟨rfl, rfl⟩ | ⟨z, z', rfl, rfl, hz⟩
      · simp only at h
        split at h
        · rename_i hh h1
          split at h
          · rename_i l h2
            cases h
            have hle := bndO_le (Nat.le_refl _) h1
            have hll := bndO_le (Nat.zero_le _) h2
            cases hx with
            | sliceNil => simp [UC] at hU
            | slice hρ hc hn =>
              refine ⟨_, fin _ _ _ l hh _ rfl (sliceBounds_two hf hlo hhi h1 h2 hn), ?_⟩
              rename_i b o c' A s N
              rcases hc with ⟨_, hlt⟩ | ⟨k, hk, hN⟩
              · omega
              · have hks : k = size := by omega
                subst hks
                by_cases hcl : c' = l
                · subst hcl
                  have : hh = c' := by omega
                  subst this
                  simp only [if_true, Option.map_some, Nat.sub_self]
                  exact .sliceE (.inl hU)
                · rw [if_neg hcl]
                  simp only [Option.map_some, add_at, Nat.add_assoc]
                  refine .slice hρ (.inr ⟨k, hk, ?_⟩) (by omega)
                  have : (c' - l) * k + l * k = c' * k := by rw [← Nat.add_mul]; congr 1; omega
                  omega
            | sliceE hc =>
              refine ⟨_, fin _ _ _ l hh _ rfl (sliceBounds_two hf hlo hhi h1 h2 (Nat.zero_le _)), ?_⟩
              have : hh = 0 := by omega
              subst this
              have : l = 0 := by omega
              subst this
              rename_i ad1 ad2 c2
              by_cases hc2 : c2 = 0
              · subst hc2; simp only [Option.map_some, Nat.sub_self, if_true]; exact .sliceE (.inl hU)
              · rw [if_neg hc2]; simp only [Option.map_some, Nat.sub_self]; exact .sliceE (.inl hU)
          · cases h
        · cases h
      · simp only at h
        rcases cXO_cases hhi with ⟨rfl, rfl⟩ | ⟨y, y', rfl, rfl, hy⟩
        · simp at h
        · split at h
          · rename_i m u h0 hu
            cases hu
            split at h
            · rename_i hh h1
              split at h
              · rename_i l h2
                cases h
                have hm := (bnd_run (P := P) (w := w) (cX_sound hf hz) h0 (Nat.le_refl _) .index).2
                have hle := (bnd_run (P := P) (w := w) (cX_sound hf hy) h1 (Nat.le_refl _) .index).2
                have hll := bndO_le (Nat.zero_le _) h2
                cases hx with
                | sliceNil => simp [UC] at hU
                | slice hρ hc hn =>
                  refine ⟨_, fin _ _ _ l hh m rfl (sliceBounds_three hf hlo hy hz h0 h1 h2 hn), ?_⟩
                  rename_i b o c' A s N
                  have hUC : m < UC := by
                    rcases hc with ⟨_, hlt⟩ | ⟨k, hk, hN⟩
                    · omega
                    · omega
                  by_cases hcl : m = l
                  · subst hcl
                    simp only [if_true, Nat.sub_self]
                    have : hh - m = 0 := by omega
                    rw [this]
                    exact .sliceE (.inr ⟨rfl, rfl⟩)
                  · rw [if_neg hcl, if_neg hcl]
                    simp only [Option.map_some, add_at, Nat.add_assoc]
                    exact .slice hρ (.inl ⟨rfl, by omega⟩) (by omega)
                | sliceE hc =>
                  refine ⟨_, fin _ _ _ l hh m rfl (sliceBounds_three hf hlo hy hz h0 h1 h2 (Nat.zero_le _)), ?_⟩
                  have : m = 0 := by omega
                  subst this
                  have : hh = 0 := by omega
                  subst this
                  have : l = 0 := by omega
                  subst this
                  simp only [if_true, Nat.sub_self]
                  exact .sliceE (.inr ⟨rfl, rfl⟩)
              · cases h
            · cases h
          · cases h
    · cases h
  · rename_i hU
    rcases cXO_cases hmx with ⟨rfl, rfl⟩ | ⟨z, z', rfl, rfl, hz⟩
    · simp only at h
      split at h
      · rename_i hh h1
        split at h
        · rename_i l h2
          cases h
          cases hx with
          | sliceNil =>
            refine ⟨_, fin _ _ _ l hh _ rfl (sliceBounds_two hf hlo hhi h1 h2 (Nat.le_refl _)), ?_⟩
            have hle := bndO_le (Nat.le_refl _) h1
            have : hh = 0 := by omega
            subst this
            have hll := bndO_le (Nat.zero_le _) h2
            have : l = 0 := by omega
            subst this
            simp only [if_true, Nat.sub_self]; exact .sliceNil
          | slice hρ hc hn =>
            rename_i b o c' A s N
            rcases hc with ⟨rfl, hlt⟩ | ⟨k, hk, hN⟩
            · have hle := bndO_le hn h1
              have hll := bndO_le (Nat.zero_le _) h2
              refine ⟨_, fin _ _ _ l hh _ rfl (sliceBounds_two hf hlo hhi h1 h2 (Nat.le_refl _)), ?_⟩
              by_cases hcl : c = l
              · subst hcl
                simp only [if_true, Nat.sub_self]
                exact .slice hρ (.inl ⟨rfl, by simp [UC]⟩) (by omega)
              · rw [if_neg hcl, if_neg hcl]
                simp only [Option.map_some, add_at, Nat.add_assoc]
                exact .slice hρ (.inl ⟨rfl, by omega⟩) (by omega)
            · omega
          | sliceE hc =>
            rename_i ad1 ad2 c2
            have hc0 : c = 0 ∧ c2 = 0 := by omega
            obtain ⟨rfl, rfl⟩ := hc0
            have hle := bndO_le (Nat.le_refl _) h1
            have : hh = 0 := by omega
            subst this
            have hll := bndO_le (Nat.zero_le _) h2
            have : l = 0 := by omega
            subst this
            refine ⟨_, fin _ _ _ 0 0 _ rfl (sliceBounds_two hf hlo hhi h1 h2 (Nat.le_refl _)), ?_⟩
            simp only [if_true, Nat.sub_self]; exact .sliceE (.inr ⟨rfl, rfl⟩)
        · cases h
      · cases h
    · simp only at h
      rcases cXO_cases hhi with ⟨rfl, rfl⟩ | ⟨y, y', rfl, rfl, hy⟩
      · simp at h
      · split at h
        · rename_i m u h0 hu
          cases hu
          split at h
          · rename_i hh h1
            split at h
            · rename_i l h2
              cases h
              have hm := (bnd_run (P := P) (w := w) (cX_sound hf hz) h0 (Nat.le_refl _) .index).2
              have hle := (bnd_run (P := P) (w := w) (cX_sound hf hy) h1 (Nat.le_refl _) .index).2
              have hll := bndO_le (Nat.zero_le _) h2
              cases hx with
              | sliceNil =>
                refine ⟨_, fin _ _ _ l hh m rfl (sliceBounds_three hf hlo hy hz h0 h1 h2 (Nat.le_refl _)), ?_⟩
                have : m = 0 := by omega
                subst this
                have : hh = 0 := by omega
                subst this
                have : l = 0 := by omega
                subst this
                simp only [if_true, Nat.sub_self]; exact .sliceNil
              | slice hρ hc hn =>
                rename_i b o c' A s N
                rcases hc with ⟨rfl, hlt⟩ | ⟨k, hk, hN⟩
                · refine ⟨_, fin _ _ _ l hh m rfl (sliceBounds_three hf hlo hy hz h0 h1 h2 (Nat.le_refl _)), ?_⟩
                  by_cases hcl : m = l
                  · subst hcl
                    simp only [if_true, Nat.sub_self]
                    exact .slice hρ (.inl ⟨rfl, by simp [UC]⟩) (by omega)
                  · rw [if_neg hcl, if_neg hcl]
                    simp only [Option.map_some, add_at, Nat.add_assoc]
                    exact .slice hρ (.inl ⟨rfl, by omega⟩) (by omega)
                · omega
              | sliceE hc =>
                rename_i ad1 ad2 c2
                have hc0 : c = 0 ∧ c2 = 0 := by omega
                obtain ⟨rfl, rfl⟩ := hc0
                refine ⟨_, fin _ _ _ l hh m rfl (sliceBounds_three hf hlo hy hz h0 h1 h2 (Nat.le_refl _)), ?_⟩
                have : m = 0 := by omega
                subst this
                have : hh = 0 := by omega
                subst this
                have : l = 0 := by omega
                subst this
                simp only [if_true, Nat.sub_self]; exact .sliceE (.inr ⟨rfl, rfl⟩)
            · cases h
          · cases h
        · cases h

end
end Go.Proofs.Am

/- Each operation of the small machine does what the model's does: append. -/
namespace Go.Proofs.Am
open Go Go.RowKit

/-- A block goes, what it had goes on in a new one, in the same block of the model's. -/
theorem stp_adopt {K : Ctx} {ρ : Ren} {H : Mem} {w : World} (h : HR K ρ H w) {b A s N : Nat} {blk0 : Blk} (h0 : H[b]? = some blk0) (hw0 : blk0.isW = true) (hρ : ρ b = some (A, s, N)) (hA : K.B ≤ A)
    (hfree : ρ H.length = none) (x : Blk) (o : Obj) (s' : Nat) (hbr : BR K (ρ.upd H.length (A, s', N)) x A s' N (setBlk w A o)) :
    Stp K ρ H w (ρ.upd H.length (A, s', N)) (H.set b .gone ++ [x]) (setBlk w A o) where
  ext b' hb := Ren.upd_ne ρ _ (by simp at hb; omega)
  hr := by
    have hsub := Ren.sub_upd (A, s', N) hfree
    have hlen : (H.set b Blk.gone).length = H.length := by simp
    refine ⟨fun b' blk A' s1 N1 e r => ?_, fun b1 b2 A1 s1 s2 hne r1 r2 hw => ?_, fun b' A' s1 r => ?_, below_set h.below hA o, by rw [setBlk_size]; exact h.base⟩
    · rcases get_append e with ⟨hb, e'⟩ | ⟨hb, rfl⟩
      · rw [hlen] at hb
        rw [Ren.upd_ne ρ _ (by omega)] at r
        rcases get_set e' with ⟨rfl, rfl, _⟩ | ⟨hne, e''⟩
        · trivial
        · by_cases hA' : A' = A
          · subst hA'
            have hg := h.inj b b' A' _ _ (Ne.symm hne) hρ r ⟨blk0, h0, hw0⟩
            rw [hg] at e''; cases e''; trivial
          · exact ((h.blk b' blk A' s1 N1 e'' r).world (setBlk_ne o hA')).mono hsub
      · rw [hlen] at hb
        subst hb
        rw [Ren.upd_same] at r; cases r; exact hbr
    · -- two blocks at one place
      have old : ∀ x1 y1, x1 ≠ H.length → (ρ.upd H.length (A, s', N)) x1 = some (A1, y1) → ρ x1 = some (A1, y1) := by
        intro x1 y1 hx e; rw [Ren.upd_ne ρ _ hx] at e; exact e
      have goneOf : ∀ x1 y1, x1 ≠ b → ρ x1 = some (A, y1) → (H.set b Blk.gone ++ [x])[x1]? = some .gone := by
        intro x1 y1 hx e
        have hg := h.inj b x1 A _ _ (Ne.symm hx) hρ e ⟨blk0, h0, hw0⟩
        have hlt := (List.getElem?_eq_some_iff.1 hg).1
        rw [List.getElem?_append_left (by rw [hlen]; exact hlt), List.getElem?_set_ne (Ne.symm hx)]; exact hg
      have goneb : (H.set b Blk.gone ++ [x])[b]? = some .gone := by
        have hlt := (List.getElem?_eq_some_iff.1 h0).1
        rw [List.getElem?_append_left (by rw [hlen]; exact hlt), List.getElem?_set_self hlt]
      by_cases hb1 : b1 = H.length
      · subst hb1
        rw [Ren.upd_same] at r1; cases r1
        have r2' := old b2 s2 (Ne.symm hne) r2
        by_cases hb2 : b2 = b
        · subst hb2; exact goneb
        · exact goneOf b2 s2 hb2 r2'
      · have r1' := old b1 s1 hb1 r1
        rcases wrt_append hw with hw' | ⟨e, _⟩
        · have hb1b : b1 ≠ b := by
            intro e; subst e
            obtain ⟨blk, e1, e2⟩ := hw'
            rw [List.getElem?_set_self (List.getElem?_eq_some_iff.1 h0).1] at e1
            cases e1; simp [Blk.isW] at e2
          have hwH : wrt H b1 := by
            obtain ⟨blk, e1, e2⟩ := hw'
            rw [List.getElem?_set_ne (Ne.symm hb1b)] at e1
            exact ⟨blk, e1, e2⟩
          by_cases hb2 : b2 = H.length
          · subst hb2
            rw [Ren.upd_same] at r2; cases r2
            have hg := h.inj b b1 A _ _ (Ne.symm hb1b) hρ r1' ⟨blk0, h0, hw0⟩
            obtain ⟨blk, e1, e2⟩ := hwH
            rw [hg] at e1; cases e1; simp [Blk.isW] at e2
          · have r2' := old b2 s2 hb2 r2
            have hg := h.inj b1 b2 A1 _ _ hne r1' r2' hwH
            have hlt := (List.getElem?_eq_some_iff.1 hg).1
            rw [List.getElem?_append_left (by rw [hlen]; exact hlt), List.getElem?_set]
            split
            · rename_i hbb; simp [← hbb] at *; omega
            · exact hg
        · rw [hlen] at e; exact absurd e hb1
    · rw [setBlk_size]
      by_cases hb : b' = H.length
      · subst hb; rw [Ren.upd_same] at r; cases r; exact h.lt b _ _ hρ
      · rw [Ren.upd_ne ρ _ hb] at r; exact h.lt b' _ _ r
  fr A' _ hn := setBlk_ne o (fun e => by subst e; exact hn b _ hρ ⟨blk0, h0, hw0⟩)
  afr b' hb e := by
    rw [List.getElem?_append_left (by simpa using hb), List.getElem?_set_ne]
    intro hbb; subst hbb; rw [hρ] at e; cases e
  wr b' hb hw := by
    rcases wrt_append hw with hw' | ⟨e, _⟩
    · exact wrt_set h0 hw0 hw'
    · simp at e; omega
  len := by simp
  wlen := by simp
  img b' A' s1 r hw := by
    by_cases hb : b' = H.length
    · subst hb; rw [Ren.upd_same] at r; cases r; exact .inr ⟨b, _, hρ, blk0, h0, hw0⟩
    · rw [Ren.upd_ne ρ _ hb] at r
      rcases wrt_append hw with hw' | ⟨e, _⟩
      · exact .inr ⟨b', s1, r, wrt_set h0 hw0 hw'⟩
      · simp at e; omega
  new b' A' s1 r := by
    by_cases hb : b' = H.length
    · subst hb; rw [Ren.upd_same] at r; cases r; exact .inr (.inr ⟨b, _, by have := (List.getElem?_eq_some_iff.1 h0).1; simp; omega, hρ⟩)
    · rw [Ren.upd_ne ρ _ hb] at r; exact .inl r

/-- A block goes. -/
theorem stp_kill {K : Ctx} {ρ : Ren} {H : Mem} {w : World} (h : HR K ρ H w) (b : Nat) (hb : ρ b ≠ none) : Stp K ρ H w ρ (H.set b .gone) w where
  ext _ _ := rfl
  hr := by
    have wk : ∀ b', wrt (H.set b .gone) b' → wrt H b' := by
      rintro b' ⟨blk, e, hw⟩
      rcases get_set e with ⟨rfl, rfl, _⟩ | ⟨_, e'⟩
      · simp [Blk.isW] at hw
      · exact ⟨blk, e', hw⟩
    refine ⟨fun b' blk A' s' N' e r => ?_, fun b1 b2 A1 s1 s2 hne r1 r2 hw => ?_, h.lt, h.below, h.base⟩
    · rcases get_set e with ⟨rfl, rfl, _⟩ | ⟨hne, e'⟩
      · trivial
      · exact h.blk b' blk A' s' N' e' r
    · have hg := h.inj b1 b2 A1 s1 s2 hne r1 r2 (wk _ hw)
      rw [List.getElem?_set]
      split
      · split
        · rfl
        · rename_i hbb hlt; subst hbb; exact absurd (List.getElem?_eq_some_iff.1 hg).1 hlt
      · exact hg
  fr _ _ _ := rfl
  afr b' _ e := by
    rw [List.getElem?_set_ne]
    intro hbb; subst hbb; exact hb e
  wr b' _ hw := by
    obtain ⟨blk, e, hw⟩ := hw
    rcases get_set e with ⟨rfl, rfl, _⟩ | ⟨_, e'⟩
    · simp [Blk.isW] at hw
    · exact ⟨blk, e', hw⟩
  len := by simp
  wlen := Nat.le_refl _
  img b' A s r hw := by
    obtain ⟨blk, e, hw⟩ := hw
    rcases get_set e with ⟨rfl, rfl, _⟩ | ⟨_, e'⟩
    · simp [Blk.isW] at hw
    · exact .inr ⟨b', s, r, blk, e', hw⟩
  new b' A s r := .inl r

theorem lenOfA_run {P : Program} {w : World} {ρ : Ren} {x x' : Value} (hx : VR ρ x x') {m : Nat} (h : lenOfA x = some m) : (Builtin.lenOf x').run P w = .ok m w := by
  cases hx <;> simp only [lenOfA, Option.some.injEq, reduceCtorEq] at h <;> subst h <;> rfl

theorem sliceCells_run {K : Ctx} {ρ : Ren} {H : Mem} {w : World} (hr : HR K ρ H w) {x x' : Value} (hx : VR ρ x x') {m size : Nat} {cs : List Value}
    (h : sliceCells H m size x = some cs) : ∃ cs', (∀ q, (Builtin.firstCells size m x').run K.P { w with drawn := q } = .ok ⟨cs'⟩ { w with drawn := q }) ∧ VRL ρ cs cs' ∧ cs.length = m * size := by
  unfold sliceCells at h
  split at h
  · rename_i b o n c
    split at h
    · rename_i hk
      cases h
      subst hk
      refine ⟨[], fun q => ?_, .nil, by simp⟩
      cases hx <;> simp [Builtin.firstCells, loadCells, loadCellsFrom]
    · rename_i hk
      split at h
      · rename_i hn
        cases hx with
        | slice hρ hc hn =>
          obtain ⟨C, t, fz, hC, hsz, hl', hlen⟩ := rdN_sound hr hρ h
          exact ⟨_, fun q => by simp only [Builtin.firstCells]; exact run_loadCells (w := { w with drawn := q }) hC _ _ (by omega), hl', hlen⟩
        | sliceE hc => omega
      · cases h
  · rename_i n c
    split at h
    · rename_i hk; cases h
      cases hx
      subst hk
      exact ⟨[], fun q => by simp [Builtin.firstCells], .nil, by simp⟩
    · cases h
  · rename_i s
    split at h
    · rename_i hk
      obtain ⟨rfl, rfl⟩ := hk
      cases h
      cases hx
      refine ⟨s.data.toList.map fun b => .int .u8 b.toNat, fun q => ?_, VRL.refl_of _ (fun x hx => ?_), by simp⟩
      · simp only [Builtin.firstCells, Sem.run_pure]
        congr 1
        have : s.extract 0 s.size = s := by
          apply ByteArray.ext
          rw [ByteArray.data_extract]
          exact Array.extract_size
        rw [this]
        apply Array.ext'
        simp
      · simp only [List.mem_map] at hx
        obtain ⟨b, _, rfl⟩ := hx
        exact .int _ _
    · cases h
  · cases h

/-- The new row that an append makes. -/
theorem append_grow {K : Ctx} {ρ : Ren} {H : Mem} {w : World} (hr : HR K ρ H w) (hfree : ρ H.length = none) {t : TypeId} {size need newCap : Nat} {cs cs' rest : List Value} (hv : VRL ρ cs cs') (hl : cs.length = need * size)
    (hrest : rest.length = (newCap - need) * size) (hcap : need ≤ newCap) (n : Nat) :
    ∃ ρ', Stp K ρ H w ρ' (H ++ [.cells cs t false]) (pushObj { w with drawn := n } (.cells ⟨cs' ++ rest⟩ t)) ∧ VR ρ' (.slice (some ⟨H.length, 0, none⟩) need (UC + size)) (.slice (some ⟨w.heap.size, 0, none⟩) need newCap) := by
  have h1 := stp_drawn hr n
  have hsub := Ren.sub_upd (w.heap.size, 0, (cs' ++ rest).length) hfree
  have h2 := stp_new (w := { w with drawn := n }) h1.hr hfree (.cells cs t false) (.cells ⟨cs' ++ rest⟩ t) (cs' ++ rest).length
    ⟨_, t, (0, 0), pushObj_new _ _, by simp, fun i v e => by
      obtain ⟨v', e', r⟩ := hv.get i v e
      refine ⟨v', ?_, r.mono hsub⟩
      rw [Nat.zero_add, ← Array.getElem?_toList]
      show (cs' ++ rest)[i]? = some v'
      rw [List.getElem?_append_left ((List.getElem?_eq_some_iff.1 e').1)]; exact e', by have := hv.length; simp; omega, fun _ => ⟨hr.base, .inl (Nat.le_refl _)⟩⟩
  refine ⟨_, h1.trans h2, ?_⟩
  have e := VR.slice (ρ := ρ.upd H.length (w.heap.size, 0, (cs' ++ rest).length)) (b := H.length) (o := 0) (n := need) (c := UC + size) (c' := newCap) (Ren.upd_same ρ _ _) (.inr ⟨size, rfl, by
    have := hv.length
    simp only [List.length_append, ← this, hl, hrest, Nat.zero_add, ← Nat.add_mul]
    rw [show need + (newCap - need) = newCap from by omega]; exact Nat.le_refl _⟩) hcap
  exact e

theorem zeroCells_length (z : Array Value) (n : Nat) : (Builtin.zeroCells z n).toList.length = n * z.size := by
  simp [Builtin.zeroCells]

theorem VR.slice_inv {ρ : Ren} {a : Option Addr} {n c : Nat} {x' : Value} (h : VR ρ (.slice a n c) x') : ∃ a' c', x' = .slice a' n c' ∧ n ≤ c' ∧ ((c = c' ∧ c < UC) ∨ UC ≤ c) := by
  cases h with
  | sliceNil => exact ⟨_, _, rfl, Nat.le_refl _, .inl ⟨rfl, by decide⟩⟩
  | slice hρ hc hn =>
    rcases hc with ⟨h1, h2⟩ | ⟨k, hk, _⟩
    · exact ⟨_, _, rfl, hn, .inl ⟨h1, h2⟩⟩
    · exact ⟨_, _, rfl, hn, .inr (by omega)⟩
  | sliceE hc =>
    rcases hc with h | ⟨h1, h2⟩
    · exact ⟨_, _, rfl, Nat.zero_le _, .inr h⟩
    · exact ⟨_, _, rfl, Nat.zero_le _, .inl ⟨by omega, by rw [h1]; decide⟩⟩

theorem append_sound {K : Ctx} {ρ : Ren} {H H' : Mem} {w : World} (hr : HR K ρ H w) (hfree0 : H.length < H'.length → ρ H.length = none) {t u e ty : TypeId} {i : TypeInfo} {z : List Value} (ht : K.P.underlying t = some (.slice e))
    (hu : (∃ e', K.P.underlying u = some (.slice e')) ∨ K.P.underlying u = some .string) (hi : K.P.info? e = some i) (hz : zOf K.P e = some z) (hsz : 0 < i.size) (hby : 0 < i.bytes) {s s' x x' v : Value} (hs : VR ρ s s') (hx : VR ρ x x')
    (h : appendA e i.size i.bytes s x H = some (v, H')) :
    ∃ v' w' ρ', (Builtin.append_ #[t, u] ty #[s', x']).run K.P w = .ok v' w' ∧ Stp K ρ H w ρ' H' w' ∧ VR ρ' v v' := by
  obtain ⟨i', zv, hi', hzv, hzc, _, hzl⟩ := zOf_spec hz
  rw [hi] at hi'; cases hi'
  unfold appendA at h
  split at h
  · rename_i a n c m hm
    have hlen := lenOfA_run (P := K.P) (w := w) hx hm
    obtain ⟨a', c', rfl, hncap, hcc⟩ := hs.slice_inv
    split at h
    · cases h
    · rename_i new hnew
      obtain ⟨new', hrun, hnv, hnl⟩ := sliceCells_run hr hx hnew
      have hrun0 : (Builtin.firstCells i.size m x').run K.P w = .ok ⟨new'⟩ w := hrun w.drawn
      -- what the model's append comes to, with room and without
      have room : n + m ≤ c' → (Builtin.append_ #[t, u] ty #[.slice a' n c', x']).run K.P w =
          ((match a' with | some a => storeCells (a.add (n * i.size)) new' | none => pure ()).run K.P w).andThen fun _ w' => .ok (.slice a' (n + m) c') w' := by
        intro hroom
        rcases hu with ⟨e', hd⟩ | hd
        all_goals
          simp only [Builtin.append_, List.getElem?_toArray, List.getElem?_cons_zero, List.getElem?_cons_succ, Sem.run_bind, run_und ht, run_und hd, Result.andThen_ok, Sem.run_pure]
          rw [run_sz (n := i.size) (by simp [szOf, hi])]
          simp only [Result.andThen_ok, Bool.false_eq_true, if_false, hlen, if_pos hroom, Bool.not_false, if_true, hrun0]
          cases a' <;> simp [hlen, hroom, hrun0]
      have grow : ∀ (old' : List Value), ¬ n + m ≤ c' → (n + m) * i.bytes ≤ 140737488355328 → (Builtin.firstCells i.size n (.slice a' n c')).run K.P { w with drawn := w.drawn + 1 } = .ok ⟨old'⟩ { w with drawn := w.drawn + 1 } →
          ∃ newCap, n + m ≤ newCap ∧ (Builtin.append_ #[t, u] ty #[.slice a' n c', x']).run K.P w =
            .ok (.slice (some ⟨w.heap.size, 0, none⟩) (n + m) newCap) (pushObj { w with drawn := w.drawn + 1 } (.cells ⟨old' ++ new' ++ (Builtin.zeroCells zv.cells (newCap - (n + m))).toList⟩ e)) := by
        intro old' hroom hb hold
        have hfit : ¬ (2 : Nat) ^ 48 < Builtin.nextslicecap (n + m) c' * i.bytes := by
          have := growslice_fits (need := n + m) (old := c') (bytes := i.bytes) (by omega) hb
          omega
        refine ⟨(Question.appendCap (n + m) c' e).cut (w.tape w.drawn (.appendCap (n + m) c' e)), by simp only [Question.cut]; omega, ?_⟩
        have hby0 : ¬ i.bytes = 0 := by omega
        have hcat : ∀ Z : Array Value, ((⟨old'⟩ : Array Value) ++ ⟨new'⟩ ++ Z) = ⟨old' ++ new' ++ Z.toList⟩ := fun Z => by apply Array.ext'; simp
        have hr2 := hrun (w.drawn + 1)
        rcases hu with ⟨e', hd⟩ | hd
        all_goals
          simp only [Builtin.append_, List.getElem?_toArray, List.getElem?_cons_zero, List.getElem?_cons_succ, Sem.run_bind, run_und ht, run_und hd, Result.andThen_ok, Sem.run_pure]
          rw [run_sz (n := i.size) (by simp [szOf, hi])]
          simp only [Result.andThen_ok, Bool.false_eq_true, if_false, hlen, if_neg hroom, Bool.not_false, if_true, run_ti hi, Sem.run_ite, Sem.run_bind, run_choose, run_askRoom, false_or, hby0, and_false, Sem.run_pure, gt_iff_lt, hfit, Question.forced, hold, hr2, run_zv hi hzv, hroom]
          rw [hcat]
          rfl
      split at h
      · -- nothing is appended
        rename_i hm0
        cases h
        subst hm0
        have : new' = [] := List.eq_nil_of_length_eq_zero (by have := hnv.length; omega)
        subst this
        refine ⟨.slice a' n c', w, ρ, ?_, .refl hr, hs⟩
        rw [room (by omega)]
        cases a' <;> simp [storeCells]
      · rename_i hm0
        split at h
        · rename_i hcond
          obtain ⟨hb, h1⟩ := hcond
          split at h
          · rename_i hU
            split at h
            · cases h
            · rename_i hck
              have hck : c = UC + i.size := by simpa using hck
              split at h
              · rename_i b o
                split at h
                · cases h
                · rename_i hn0
                  split at h
                  · rename_i cs t0 hb0
                    split at h
                    · rename_i hfit
                      cases h
                      have hfree : ρ H.length = none := hfree0 (by simp)
                      cases hs with
                      | sliceE _ => omega
                      | slice hρ hc hn =>
                        rename_i A s N
                        rcases hc with ⟨_, hlt⟩ | ⟨k, hk, hN⟩
                        · omega
                        · have : k = i.size := by omega
                          subst this
                          obtain ⟨C, t', fz, hC, hCN, hcb, hcs, hw⟩ := hr.blk b _ A s N hb0 hρ
                          obtain ⟨hB, hfz⟩ := hw rfl
                          have hold := hcb.range o (n * i.size) hfit hcs
                          by_cases hroom : n + m ≤ c'
                          · -- in place
                            have hmul : (n + m) * i.size ≤ c' * i.size := Nat.mul_le_mul_right _ hroom
                            rw [Nat.add_mul] at hmul
                            have hnl' := hnv.length
                            have hst := run_storeCells (P := K.P) new' hC (s + o + n * i.size) 0 hfz (by omega) (hnv.all_one h1)
                            have hne : new' ≠ [] := by
                              intro e'; subst e'
                              simp only [List.length_nil] at hnl'
                              have : 0 < m * i.size := Nat.mul_pos (by omega) hsz
                              omega
                            rw [if_neg hne] at hst
                            have hsub := Ren.sub_upd (A, s + o, N) hfree
                            refine ⟨_, _, _, by rw [room hroom]; simp only [add_at]; rw [hst]; rfl, stp_adopt hr hb0 rfl hρ hB hfree _ _ (s + o) ?_, ?_⟩
                            · refine ⟨_, t', fz, setBlk_same _ (lt_of_heap hC), by simpa [wr_length] using hCN, ?_, ?_, fun _ => ⟨hB, by simpa [wr_length] using hfz⟩⟩
                              · intro j q e'
                                rw [← Array.getElem?_toList]
                                show ∃ v', (wr C.toList (s + o + n * i.size + 0) new')[s + o + j]? = some v' ∧ _
                                rw [wr_get new' C.toList _ _ (by simp; omega)]
                                have hol : ((cs.drop o).take (n * i.size)).length = n * i.size := by simp; omega
                                by_cases hj : j < n * i.size
                                · rw [List.getElem?_append_left (by omega)] at e'
                                  obtain ⟨v', e2, r⟩ := hold.get j q e'
                                  rw [List.getElem?_take, if_pos hj, List.getElem?_drop] at e2
                                  rw [if_neg (by omega)]
                                  exact ⟨v', e2, r.mono hsub⟩
                                · rw [List.getElem?_append_right (by omega), hol] at e'
                                  obtain ⟨v', e2, r⟩ := hnv.get _ q e'
                                  have hlt := (List.getElem?_eq_some_iff.1 e2).1
                                  rw [if_pos (by omega), show s + o + j - (s + o + n * i.size + 0) = j - n * i.size from by omega]
                                  exact ⟨v', e2, r.mono hsub⟩
                              · simp [wr_length]; omega
                            · have := VR.slice (ρ := ρ.upd H.length (A, s + o, N)) (b := H.length) (o := 0) (n := n + m) (c := UC + i.size) (c' := c') (Ren.upd_same ρ _ _) (.inr ⟨i.size, rfl, by simpa using hN⟩) hroom
                              exact this
                          · -- a new row
                            obtain ⟨newCap, hcap, hgrow⟩ := grow _ hroom hb (by simp only [Builtin.firstCells]; exact run_loadCells (w := { w with drawn := w.drawn + 1 }) hC _ _ (by omega))
                            have hk := stp_kill hr b (by rw [hρ]; simp)
                            have hol : ((cs.drop o).take (n * i.size)).length = n * i.size := by simp; omega
                            obtain ⟨ρ', hst, hv'⟩ := append_grow (t := e) (size := i.size) (need := n + m) (newCap := newCap) (rest := (Builtin.zeroCells zv.cells (newCap - (n + m))).toList) hk.hr (by simpa using hfree) (hold.append hnv)
                              (by rw [List.length_append, hol, hnl, Nat.add_mul]) (by rw [zeroCells_length]; congr 1; rw [← hzl, ← hzc]; simp) hcap (w.drawn + 1)
                            refine ⟨_, _, ρ', hgrow, hk.trans hst, ?_⟩
                            simpa using hv'
                    · cases h
                  · cases h
              · cases h
          · rename_i hU
            have hcc' : c = c' := by omega
            subst hcc'
            split at h
            · rename_i hroom
              split at h
              · rename_i b o
                simp only [Option.map_eq_some_iff, Prod.mk.injEq] at h
                obtain ⟨H1, hwr, rfl, rfl⟩ := h
                cases hs with
                | sliceE _ => omega
                | slice hρ hc hn =>
                  rename_i A s N
                  obtain ⟨w', hrun', hst⟩ := wrN_sound hr hρ hnv hwr
                  refine ⟨_, w', ρ, by rw [room hroom]; simp only [add_at, Nat.add_assoc]; rw [hrun']; rfl, hst, .slice hρ (.inl ⟨rfl, by omega⟩) hroom⟩
              · cases h
            · rename_i hroom
              simp only [Option.map_eq_some_iff, Prod.mk.injEq] at h
              obtain ⟨old, hold, rfl, rfl⟩ := h
              have hfree : ρ H.length = none := hfree0 (by simp)
              obtain ⟨old', hro, hov, hol⟩ := sliceCells_run hr hs hold
              obtain ⟨newCap, hcap, hgrow⟩ := grow old' hroom hb (hro _)
              obtain ⟨ρ', hst, hv'⟩ := append_grow (t := e) (size := i.size) (need := n + m) (newCap := newCap) (rest := (Builtin.zeroCells zv.cells (newCap - (n + m))).toList) hr hfree (hov.append hnv)
                (by rw [List.length_append, hol, hnl, Nat.add_mul]) (by rw [zeroCells_length]; congr 1; rw [← hzl, ← hzc]; simp) hcap (w.drawn + 1)
              exact ⟨_, _, ρ', hgrow, hst, hv'⟩
        · cases h
  · cases h

end Go.Proofs.Am

/- Each operation of the small machine does what the model's does: all of them. -/
namespace Go.Proofs.Am
open Go Go.RowKit

/-- The model's operation comes to a value. -/
def Ran (P : Program) (o : Oper) (a : Act) (w : World) (v' : Value) (w' : World) : Prop :=
  (execOp a.eval o).run P w = .ok (.value v') w' ∨ (execOp a.eval o).run P w = .ok .skip w' ∧ v' = undef

/-- What is to be shown of an operation that comes to a value. -/
def Good (K : Ctx) (ρ : Ren) (H : Mem) (w : World) (o : Oper) (a : Act) (v : Value) (H' : Mem) : Prop :=
  ∃ v' w' ρ', Ran K.P o a w v' w' ∧ Stp K ρ H w ρ' H' w' ∧ VR ρ' v v'

section
variable {K : Ctx} {ρ : Ren} {H H' : Mem} {w : World} {fr : List Value} {a : Act} {o : Oper} {v : Value}

theorem good_same (hr : HR K ρ H w) {v' : Value} (h : Ran K.P o a w v' w) (hv : VR ρ v v') : Good K ρ H w o a v H := ⟨v', w, ρ, h, .refl hr, hv⟩

theorem good_move (hr : HR K ρ H w) (hf : FR ρ fr a) {x : Operand} {y : AX} (hx : cX x = some y) (ho : o.op = .move x ∨ o.op = .assign x) (h : aop (.move y) (ev fr) H = some (.val v, H')) : Good K ρ H w o a v H' := by
  simp only [aop, Option.some.injEq, Prod.mk.injEq, AR.val.injEq] at h
  obtain ⟨rfl, rfl⟩ := h
  refine good_same hr (v' := a.eval x) (.inl ?_) (cX_sound hf hx)
  rcases ho with ho | ho <;> simp [execOp, ho]

theorem good_pick (hr : HR K ρ H w) (hf : FR ρ fr a) {c x y : Operand} {c' x' y' : AX} (hc : cX c = some c') (hx : cX x = some x') (hy : cX y = some y') (ho : o.op = .pick c x y)
    (h : aop (.pick c' x' y') (ev fr) H = some (.val v, H')) : Good K ρ H w o a v H' := by
  simp only [aop] at h
  split at h
  · rename_i t ht
    simp only [Option.some.injEq, Prod.mk.injEq, AR.val.injEq] at h
    obtain ⟨rfl, rfl⟩ := h
    have r := cX_sound hf hc
    rw [ht] at r
    cases hcv : a.eval c <;> rw [hcv] at r <;> cases r
    refine good_same hr (v' := if t = true then a.eval x else a.eval y) (.inl ?_) (by cases t <;> simp [cX_sound hf hx, cX_sound hf hy])
    simp [execOp, ho, hcv, asBool]
  · cases h

theorem good_new (hr : HR K ρ H w) (hfree : ρ H.length = none) {t : TypeId} {z : List Value} (hz : zOf K.P t = some z) (ho : o.op = .alloc t) (h : aop (.new t z) (ev fr) H = some (.val v, H')) : Good K ρ H w o a v H' := by
  simp only [aop, Option.some.injEq, Prod.mk.injEq, AR.val.injEq] at h
  obtain ⟨rfl, rfl⟩ := h
  obtain ⟨i, zv, hi, hzv, rfl, hg, hl⟩ := zOf_spec hz
  refine ⟨.pointer (some ⟨w.heap.size, 0, none⟩), pushObj w (.cells zv.cells t), _, .inl ?_, stp_new hr hfree (.cells zv.cells.toList t false) (.cells zv.cells t) zv.cells.size ?_, ?_⟩
  · simp [execOp, ho, Instr.alloc, run_zv hi hzv, newVar, newRow, pushObj]
  · refine ⟨_, t, (0, 0), pushObj_new _ _, rfl, fun i v e => ?_, by simp, fun _ => ⟨hr.base, .inl (Nat.le_refl _)⟩⟩
    refine ⟨v, by simpa using e, ground_VR (List.all_eq_true.1 hg v (List.mem_of_getElem? e)) _⟩
  · exact VR.ptr (o := 0) (Ren.upd_same ρ _ _)

theorem good_box (hr : HR K ρ H w) (hf : FR ρ fr a) (hfree : ρ H.length = none) {t : TypeId} {x : Operand} {y : AX} (hx : cX x = some y) (ho : o.op = .box t x) (h : aop (.box t y) (ev fr) H = some (.val v, H')) : Good K ρ H w o a v H' := by
  simp only [aop, Option.map_eq_some_iff, Prod.mk.injEq, AR.val.injEq] at h
  obtain ⟨cs, hcs, rfl, rfl⟩ := h
  have hl := (cX_sound hf hx).cells hcs
  refine ⟨.pointer (some ⟨w.heap.size, 0, none⟩), pushObj w (.cells (a.eval x).cells t), _, .inl ?_, stp_new hr hfree (.cells cs t false) (.cells (a.eval x).cells t) (a.eval x).cells.size ?_, ?_⟩
  · simp [execOp, ho, Instr.box, newVar, newRow, pushObj]
  · refine ⟨_, t, (0, 0), pushObj_new _ _, rfl, fun i v e => ?_, by have := hl.length; simp at this; simp [this], fun _ => ⟨hr.base, .inl (Nat.le_refl _)⟩⟩
    obtain ⟨v', e', r⟩ := hl.get i v e
    exact ⟨v', by simpa using e', r.mono (Ren.sub_upd _ hfree)⟩
  · exact VR.ptr (o := 0) (Ren.upd_same ρ _ _)

theorem good_buildStruct (hr : HR K ρ H w) (hf : FR ρ fr a) {t : TypeId} {z : List Value} (hz : zOf K.P t = some z) {fs : Array Field} (ht : K.P.underlying t = some (.struct fs)) {pl : List (Nat × Nat)} (hpl : fieldPlaces K.P fs.toList = some pl)
    {ps : Array (Nat × Operand)} {qs : List (Nat × Nat × AX)} (hq : cParts (fun i => pl[i]?) ps.toList = some qs) (ho : o.op = .build t ps) (h : aop (.build z qs) (ev fr) H = some (.val v, H')) : Good K ρ H w o a v H' := by
  simp only [aop, Option.map_eq_some_iff, Prod.mk.injEq, AR.val.injEq] at h
  obtain ⟨cs, hcs, rfl, rfl⟩ := h
  obtain ⟨i, zv, hi, hzv, rfl, hg, hl⟩ := zOf_spec hz
  obtain ⟨cs', hfill, hv⟩ := fillA_sound hf (P := K.P) hq (ground_VRL hg ρ) hcs
  refine good_same hr (v' := .agg ⟨cs'⟩) (.inl ?_) (.agg hv)
  have hmap : ∀ {fs : List Field} {pl : List (Nat × Nat)}, fieldPlaces K.P fs = some pl → (fs.mapM (m := Sem) fun f => do pure (f.offset, ← sizeOf f.type)).run K.P w = .ok pl w := by
    intro fs
    induction fs with
    | nil => intro pl h; simp [fieldPlaces] at h; subst h; simp
    | cons f fs ih =>
      intro pl h
      simp only [fieldPlaces, Option.bind_eq_bind, Option.bind_eq_some_iff, Option.some.injEq] at h
      obtain ⟨s, hs, r, hr, rfl⟩ := h
      simp only [List.mapM_cons, Sem.run_bind, run_sz hs, Result.andThen_ok, Sem.run_pure, ih hr]
  have hm : (fs.mapM (m := Sem) fun f => do pure (f.offset, ← sizeOf f.type)).run K.P w = .ok pl.toArray w := by
    rw [Array.mapM_eq_mapM_toList]
    simp only [Sem.run_map, hmap hpl, Result.andThen_ok]
  have hps : (Array.map (fun x => (x.1, a.eval x.2)) ps).toList = ps.toList.map fun (i, x) => (i, a.eval x) := by simp
  simp only [execOp, ho, Instr.build, Sem.run_bind, run_zv hi hzv, Result.andThen_ok, run_und ht]
  rw [hm]
  simp only [Result.andThen_ok, hps, List.getElem?_toArray]
  have e : (⟨zv.cells.toList⟩ : Array Value) = zv.cells := rfl
  rw [e] at hfill
  rw [hfill]
  simp

theorem good_buildArray (hr : HR K ρ H w) (hf : FR ρ fr a) {t e : TypeId} {z : List Value} (hz : zOf K.P t = some z) {n s : Nat} (ht : K.P.underlying t = some (.array n e)) (hs : szOf K.P e = some s)
    {ps : Array (Nat × Operand)} {qs : List (Nat × Nat × AX)} (hq : cParts (fun i => some (i * s, s)) ps.toList = some qs) (ho : o.op = .build t ps) (h : aop (.build z qs) (ev fr) H = some (.val v, H')) : Good K ρ H w o a v H' := by
  simp only [aop, Option.map_eq_some_iff, Prod.mk.injEq, AR.val.injEq] at h
  obtain ⟨cs, hcs, rfl, rfl⟩ := h
  obtain ⟨i, zv, hi, hzv, rfl, hg, hl⟩ := zOf_spec hz
  obtain ⟨cs', hfill, hv⟩ := fillA_sound hf (P := K.P) hq (ground_VRL hg ρ) hcs
  refine good_same hr (v' := .agg ⟨cs'⟩) (.inl ?_) (.agg hv)
  have hps : (Array.map (fun x => (x.1, a.eval x.2)) ps).toList = ps.toList.map fun (i, x) => (i, a.eval x) := by simp
  simp only [execOp, ho, Instr.build, Sem.run_bind, run_zv hi hzv, Result.andThen_ok, run_und ht, run_sz hs, hps]
  have e : (⟨zv.cells.toList⟩ : Array Value) = zv.cells := rfl
  rw [e] at hfill
  rw [hfill]
  simp

theorem zero_row (z : Array Value) (n : Nat) : (Array.range (n * z.size)).map (fun i => z[i % z.size]!) = ⟨List.flatten (List.replicate n z.toList)⟩ := by
  apply Array.ext'
  rw [Array.toList_map, Array.toList_range]
  simp only
  induction n with
  | zero => simp
  | succ n ih =>
    rw [List.replicate_succ', List.flatten_append, ← ih, Nat.succ_mul, List.range_add, List.map_append]
    congr 1
    simp only [List.flatten_cons, List.flatten_nil, List.append_nil, List.map_map]
    apply List.ext_getElem
    · simp
    · intro i h1 h2
      simp only [List.length_map, List.length_range] at h1
      simp only [List.getElem_map, List.getElem_range, Function.comp, Array.getElem_toList]
      have e : (n * z.size + i) % z.size = i := by rw [Nat.mul_comm, Nat.mul_add_mod, Nat.mod_eq_of_lt h1]
      rw [e]
      simp [h1]

theorem good_row (hr : HR K ρ H w) (hf : FR ρ fr a) (hfree : ρ H.length = none) {t e : TypeId} {z : List Value} (hz : zOf K.P e = some z) {len s : Nat} (ht : K.P.underlying t = some (.slice e)) (hs : szOf K.P e = some s) (hs0 : 0 < s) (hlen : len * s ≤ 16777216)
    {ps : Array (Nat × Operand)} {qs : List (Nat × Nat × AX)} (hq : cParts (fun i => some (i * s, s)) ps.toList = some qs) (ho : o.op = .buildSlice t len ps)
    (h : aop (.row e len (List.flatten (List.replicate len z)) qs) (ev fr) H = some (.val v, H')) : Good K ρ H w o a v H' := by
  simp only [aop, Option.map_eq_some_iff, Prod.mk.injEq, AR.val.injEq] at h
  obtain ⟨cs, hcs, rfl, rfl⟩ := h
  obtain ⟨i, zv, hi, hzv, rfl, hg, hl⟩ := zOf_spec hz
  have his : i.size = s := by simp [szOf, hi] at hs; exact hs
  have hzs : zv.cells.size = s := by simpa [his] using hl
  have hgz : (List.flatten (List.replicate len zv.cells.toList)).all ground = true := by
    rw [List.all_eq_true] at *
    intro x hx
    simp only [List.mem_flatten, List.mem_replicate] at hx
    obtain ⟨l, ⟨_, rfl⟩, hx⟩ := hx
    exact hg x hx
  obtain ⟨cs', hfill, hv⟩ := fillA_sound hf (P := K.P) hq (ground_VRL hgz ρ) hcs
  have hps : (Array.map (fun x => (x.1, a.eval x.2)) ps).toList = ps.toList.map fun (i, x) => (i, a.eval x) := by simp
  refine ⟨.slice (some ⟨w.heap.size, 0, none⟩) len len, pushObj w (.cells ⟨cs'⟩ e), _, .inl ?_, stp_new hr hfree (.cells cs e false) (.cells ⟨cs'⟩ e) cs'.length ?_, ?_⟩
  · simp only [execOp, ho, Instr.buildSlice, Sem.run_bind, run_und ht, Result.andThen_ok, run_sz hs]
    rw [if_neg (by omega)]
    by_cases h0 : len * s = 0
    · have : len = 0 := by rcases Nat.mul_eq_zero.1 h0 with h | h <;> omega
      subst this
      simp only [List.replicate_zero, List.flatten_nil] at hfill
      simp only [h0, if_true, Sem.run_bind, Sem.run_pure, Result.andThen_ok, hps]
      have e1 : (Array.map (fun x => (#[] : Array Value)[x % (#[] : Array Value).size]!) (Array.range 0)) = ⟨[]⟩ := by simp
      rw [e1, hfill]
      simp [newRow, pushObj]
    · simp only [if_neg h0, Sem.run_bind, Sem.run_pure, Result.andThen_ok, hps, run_zv hi hzv]
      have e1 := zero_row zv.cells len
      rw [hzs] at e1
      rw [hzs, e1, hfill]
      simp [newRow, pushObj]
  · refine ⟨_, e, (0, 0), pushObj_new _ _, by simp, fun i v e => ?_, by have := hv.length; simp [this], fun _ => ⟨hr.base, .inl (Nat.le_refl _)⟩⟩
    obtain ⟨v', e', r⟩ := hv.get i v e
    exact ⟨v', by simpa using e', r.mono (Ren.sub_upd _ hfree)⟩
  · have hle : len ≤ len * s := Nat.le_mul_of_pos_right _ hs0
    exact VR.slice (o := 0) (Ren.upd_same ρ _ _) (.inl ⟨rfl, by simp only [UC]; omega⟩) (Nat.le_refl _)

theorem good_load (hr : HR K ρ H w) (hf : FR ρ fr a) {t : TypeId} {n : Option Nat} (hn : nOf K.P t = some n) {x : Operand} {y : AX} (hx : cX x = some y) (ho : o.op = .load t x) (h : loadA H n (ev fr y) = some v) : Good K ρ H w o a v H := by
  obtain ⟨v', hrun, hv⟩ := loadA_sound hr hn (cX_sound hf hx) h
  exact good_same hr (.inl (by simp [execOp, ho, hrun])) hv

theorem good_store (hr : HR K ρ H w) (hf : FR ρ fr a) {t : TypeId} {n : Nat} (hn : szOf K.P t = some n) {x y : Operand} {x' y' : AX} (hx : cX x = some x') (hy : cX y = some y') (ho : o.op = .store t x y)
    (h : aop (.store n x' y') (ev fr) H = some (.val v, H')) : Good K ρ H w o a v H' := by
  simp only [aop] at h
  split at h
  · rename_i b off vs he hc
    split at h
    · rename_i hl
      simp only [Option.map_eq_some_iff, Prod.mk.injEq, AR.val.injEq] at h
      obtain ⟨H1, hw, rfl, rfl⟩ := h
      have hvs := (cX_sound hf hy).cells hc
      have r := cX_sound hf hx
      rw [he] at r
      cases hcv : a.eval x <;> rw [hcv] at r <;> cases r
      rename_i A s N hρ
      obtain ⟨w', hrun, hst⟩ := wrN_sound hr hρ hvs hw
      refine ⟨undef, w', ρ, .inr ⟨?_, rfl⟩, hst, .tuple .nil⟩
      simp only [execOp, ho, Sem.run_bind, Instr.storeAt, hcv, Instr.sureAddr, Sem.run_pure, Result.andThen_ok, storeVar, run_sz hn]
      rw [if_neg (by have := hvs.length; simp at this; omega)]
      simp only [hrun, Result.andThen_ok, Sem.run_pure]
    · cases h
  · cases h

end
end Go.Proofs.Am

/- Each operation of the small machine does what the model's does: the others. -/
namespace Go.Proofs.Am
open Go Go.RowKit

section
variable {K : Ctx} {ρ : Ren} {H H' : Mem} {w : World} {fr : List Value} {a : Act} {o : Oper} {v : Value}

theorem good_nilCheck (hr : HR K ρ H w) (hf : FR ρ fr a) {x : Operand} {y : AX} (hx : cX x = some y) (ho : o.op = .nilCheck x) (h : aop (.nilCheck y) (ev fr) H = some (.val v, H')) : Good K ρ H w o a v H' := by
  simp only [aop] at h
  have r := cX_sound hf hx
  split at h
  · rename_i ad he
    simp only [Option.some.injEq, Prod.mk.injEq, AR.val.injEq] at h
    obtain ⟨rfl, rfl⟩ := h
    rw [he] at r
    refine good_same hr (v' := a.eval x) (.inl ?_) r
    cases hcv : a.eval x <;> rw [hcv] at r <;> cases r <;> simp [execOp, ho, hcv]
  · rename_i f b c he
    simp only [Option.some.injEq, Prod.mk.injEq, AR.val.injEq] at h
    obtain ⟨rfl, rfl⟩ := h
    rw [he] at r
    refine good_same hr (v' := a.eval x) (.inl ?_) r
    cases hcv : a.eval x <;> rw [hcv] at r <;> cases r <;> simp [execOp, ho, hcv]
  · cases h

theorem guard_iface {P : Program} {op : BinOp} {t : TypeId} {x y : Operand} (h : (isConst x || isConst y) = true) : (eqGuard op t x y .nilIface .nilIface).run P w = .ok () w := by
  cases x <;> cases y <;> first | (simp [isConst] at h; done) | (cases op <;> rfl)

theorem guard_ok {P : Program} {op : BinOp} {t : TypeId} {x y : Operand} {u v : Value} (h1 : ¬ (u = .nilIface ∧ v = .nilIface) ∨ (isConst x || isConst y) = true) (h2 : ∀ c, u ≠ .agg c) : (eqGuard op t x y u v).run P w = .ok () w := by
  by_cases hn : u = .nilIface ∧ v = .nilIface
  · obtain ⟨rfl, rfl⟩ := hn
    exact guard_iface (h1.resolve_left (by simp))
  · cases u <;> first
      | (exact absurd rfl (h2 _))
      | (cases op <;> first | rfl | (cases v <;> first | rfl | (exact absurd ⟨rfl, rfl⟩ hn)))

theorem binOp_eql {t : TypeId} {k : NK} {u v : Value} {p q : Bool} (hu : isNil k u = some p) (hv : isNil k v = some q) :
    (binOp .eql t u v).run K.P w = ((Op.equal t u v).run K.P w).andThen (fun b w' => .ok (.bool b) w') ∧ (binOp .neq t u v).run K.P w = ((Op.equal t u v).run K.P w).andThen (fun b w' => .ok (.bool !b) w') := by
  cases k <;> cases u <;> simp only [isNil, reduceCtorEq] at hu <;> cases v <;> simp only [isNil, reduceCtorEq] at hv <;> constructor <;> simp only [binOp, Sem.run_bind, Sem.run_pure]

theorem good_bin (hr : HR K ρ H w) (hf : FR ρ fr a) {op : BinOp} {t u : TypeId} {x y : Operand} {ao : AOp} (hc : cBin K.P op t x y = some ao) (ho : o.op = .binOp op t x y u) (h : aop ao (ev fr) H = some (.val v, H')) : Good K ρ H w o a v H' := by
  unfold cBin at hc
  split at hc
  · rename_i x' y' d hx hy hd
    have rx := cX_sound hf hx
    have ry := cX_sound hf hy
    have num : aop (.bin op x' y') (ev fr) H = some (.val v, H') → Good K ρ H w o a v H' := by
      intro h
      simp only [aop, Option.map_eq_some_iff, Prod.mk.injEq, AR.val.injEq] at h
      obtain ⟨v', hv, rfl, rfl⟩ := h
      obtain ⟨e1, e2, hvv⟩ := abin_VR rx ry hv
      have hrun := abin_sound (P := K.P) (w := w) (t := t) hv
      have hg : (eqGuard op t x y (ev fr x') (ev fr y')).run K.P w = .ok () w := by
        refine guard_ok (.inl ?_) ?_
        · rintro ⟨e3, e4⟩; rw [e3, e4] at hv; simp [abin] at hv
        · intro c e3; rw [e3] at hv; simp [abin] at hv
      refine good_same hr (.inl ?_) hvv
      simp only [execOp, ho, Sem.run_bind, e1, e2, hg, Result.andThen_ok, hrun, Sem.run_pure]
    have boo : ∀ neg, aop (.eqB neg x' y') (ev fr) H = some (.val v, H') → K.P.underlying t = some .bool → op = (if neg then .neq else .eql) → Good K ρ H w o a v H' := by
      intro neg h hu hop
      simp only [aop] at h
      split at h
      · rename_i p q e1 e2
        simp only [Option.some.injEq, Prod.mk.injEq, AR.val.injEq] at h
        obtain ⟨rfl, rfl⟩ := h
        rw [e1] at rx; rw [e2] at ry
        have f1 : a.eval x = .bool p := by cases hcv : a.eval x <;> rw [hcv] at rx <;> cases rx; rfl
        have f2 : a.eval y = .bool q := by cases hcv : a.eval y <;> rw [hcv] at ry <;> cases ry; rfl
        have hg : (eqGuard op t x y (.bool p) (.bool q)).run K.P w = .ok () w := guard_ok (.inl (by simp)) (by simp)
        refine good_same hr (.inl ?_) (.bool _)
        simp only [execOp, ho, Sem.run_bind, f1, f2, hg, Result.andThen_ok]
        subst hop
        cases neg <;> simp only [Bool.false_eq_true, if_false, if_true, binOp, Sem.run_bind, equal_bool hu, Result.andThen_ok, Sem.run_pure] <;> simp
      · cases h
    have nil : ∀ k neg, aop (.eqNil k neg x' y') (ev fr) H = some (.val v, H') → nkOf d = some k → (isConst x || isConst y) = true → op = (if neg then .neq else .eql) → Good K ρ H w o a v H' := by
      intro k neg h hk hcst hop
      simp only [aop] at h
      split at h
      · rename_i p q e1 e2
        split at h
        · rename_i hpq
          simp only [Option.some.injEq, Prod.mk.injEq, AR.val.injEq] at h
          obtain ⟨rfl, rfl⟩ := h
          have f1 := isNil_VR rx e1
          have f2 := isNil_VR ry e2
          have hg : (eqGuard op t x y (a.eval x) (a.eval y)).run K.P w = .ok () w := guard_ok (.inr hcst) (by intro c e; rw [e] at f1; cases k <;> simp [isNil] at f1)
          have hrun := eqNil_run (P := K.P) (w := w) hd hk f1 f2 hpq
          obtain ⟨b1, b2⟩ := binOp_eql (K := K) (w := w) (t := t) f1 f2
          refine good_same hr (.inl ?_) (.bool _)
          simp only [execOp, ho, Sem.run_bind, hg, Result.andThen_ok]
          subst hop
          cases neg <;> simp only [Bool.false_eq_true, if_false, if_true, b1, b2, hrun, Result.andThen_ok, Sem.run_pure] <;> simp
        · cases h
      · cases h
    have flt : ∀ ks neg, aop (.eqFlat ks neg x' y') (ev fr) H = some (.val v, H') → flat K.P t = some ks → K.P.eqGuardType K.P.depth t = false → op = (if neg then .neq else .eql) → Good K ρ H w o a v H' := by
      intro ks neg h hfl hgt hop
      simp only [aop] at h
      split at h
      · rename_i p q e1 e2
        simp only [Option.map_eq_some_iff, Prod.mk.injEq, AR.val.injEq] at h
        obtain ⟨b, hb, rfl, rfl⟩ := h
        rw [e1] at rx; rw [e2] at ry
        cases hcv1 : a.eval x <;> rw [hcv1] at rx <;> cases rx
        cases hcv2 : a.eval y <;> rw [hcv2] at ry <;> cases ry
        rename_i xs xs' hx1 ys ys' hy1
        obtain ⟨rfl, rfl⟩ := eqCells_VR hx1 hy1 hb
        have hrun := eqFlat_run (P := K.P) (w := w) hfl (xs := ⟨xs'⟩) (ys := ⟨ys'⟩) hb
        refine good_same hr (.inl ?_) (.bool _)
        simp only [execOp, ho, Sem.run_bind, hcv1, hcv2, run_eqGuard_agg w op t x y _ _ hgt, Result.andThen_ok]
        subst hop
        cases neg <;> simp only [Bool.false_eq_true, if_false, if_true, binOp, Sem.run_bind, hrun, Result.andThen_ok, Sem.run_pure] <;> simp
      · cases h
    split at hc
    · cases hc; exact num h
    · cases hc; exact num h
    · split at hc
      · cases hc; exact boo false h hd rfl
      · cases hc; exact boo true h hd rfl
      · cases hc
    · split at hc
      · rename_i ks hk
        split at hc
        · cases hc
        · rename_i hgt
          split at hc
          · cases hc; exact flt ks false h hk (by simpa using hgt) rfl
          · cases hc; exact flt ks true h hk (by simpa using hgt) rfl
          · cases hc
      · cases hc
    · split at hc
      · rename_i ks hk
        split at hc
        · cases hc
        · rename_i hgt
          split at hc
          · cases hc; exact flt ks false h hk (by simpa using hgt) rfl
          · cases hc; exact flt ks true h hk (by simpa using hgt) rfl
          · cases hc
      · cases hc
    · split at hc
      · rename_i k hk
        split at hc
        · rename_i hcst
          split at hc
          · cases hc; exact nil k false h hk hcst rfl
          · cases hc; exact nil k true h hk hcst rfl
          · cases hc
        · cases hc
      · cases hc
  · cases hc

theorem good_un (hr : HR K ρ H w) (hf : FR ρ fr a) {op : UnOp} {t : TypeId} {x : Operand} {y : AX} (hx : cX x = some y) (ho : o.op = .unOp op t x) (h : aop (.un op y) (ev fr) H = some (.val v, H')) : Good K ρ H w o a v H' := by
  simp only [aop, Option.map_eq_some_iff, Prod.mk.injEq, AR.val.injEq] at h
  obtain ⟨v', hv, rfl, rfl⟩ := h
  obtain ⟨e1, hvv⟩ := aun_VR (cX_sound hf hx) hv
  refine good_same hr (.inl ?_) hvv
  simp only [execOp, ho, Sem.run_bind, e1, aun_sound hv, Result.andThen_ok, Sem.run_pure]

end
end Go.Proofs.Am

/- Each operation of the small machine does what the model's does: the others. -/
namespace Go.Proofs.Am
open Go Go.RowKit

section
variable {K : Ctx} {ρ : Ren} {H H' : Mem} {w : World} {fr : List Value} {a : Act} {o : Oper} {v : Value}

/-- A value that holds no address is itself. -/
theorem int_eq {k : IntKind} {n : Int} {x' : Value} (h : VR ρ (.int k n) x') : x' = .int k n := by cases h; rfl
theorem string_eq {s : ByteArray} {x' : Value} (h : VR ρ (.string s) x') : x' = .string s := by cases h; rfl
theorem bool_eq {b : Bool} {x' : Value} (h : VR ρ (.bool b) x') : x' = .bool b := by cases h; rfl
theorem agg_inv {cs : Array Value} {x' : Value} (h : VR ρ (.agg cs) x') : ∃ cs' : Array Value, x' = .agg cs' ∧ VRL ρ cs.toList cs'.toList := by cases h with | agg h => exact ⟨_, rfl, h⟩
theorem ptr_inv {ad : Addr} {x' : Value} (h : VR ρ (.pointer (some ad)) x') : ∃ b o A s N, ad = ⟨b, o, none⟩ ∧ x' = .pointer (some ⟨A, s + o, none⟩) ∧ ρ b = some (A, s, N) := by
  cases h with | ptr h => exact ⟨_, _, _, _, _, rfl, rfl, h⟩

theorem good_conv (hr : HR K ρ H w) (hf : FR ρ fr a) {src dst : TypeId} {k0 k : IntKind} (hs : K.P.underlying src = some (.int k0)) (hd : K.P.underlying dst = some (.int k)) {x : Operand} {y : AX} (hx : cX x = some y)
    (ho : o.op = .convert src dst x) (h : aop (.conv k y) (ev fr) H = some (.val v, H')) : Good K ρ H w o a v H' := by
  simp only [aop] at h
  split at h
  · rename_i k1 n he
    simp only [Option.some.injEq, Prod.mk.injEq, AR.val.injEq] at h
    obtain ⟨rfl, rfl⟩ := h
    have r := cX_sound hf hx
    rw [he] at r
    refine good_same hr (.inl ?_) (.int _ _)
    simp [execOp, ho, convert, run_und hs, run_und hd, int_eq r, Conv.intToInt]
  · cases h

theorem good_convId (hr : HR K ρ H w) (hf : FR ρ fr a) {src dst : TypeId} (hs : K.P.underlying src = some .string) (hd : K.P.underlying dst = some .string) {x : Operand} {y : AX} (hx : cX x = some y)
    (ho : o.op = .convert src dst x) (h : aop (.convId y) (ev fr) H = some (.val v, H')) : Good K ρ H w o a v H' := by
  simp only [aop] at h
  split at h
  · rename_i s he
    simp only [Option.some.injEq, Prod.mk.injEq, AR.val.injEq] at h
    obtain ⟨rfl, rfl⟩ := h
    have r := cX_sound hf hx
    rw [he] at r
    refine good_same hr (.inl ?_) (.string _)
    simp [execOp, ho, convert, run_und hs, run_und hd, string_eq r]
  · cases h

theorem good_bytesOf (hr : HR K ρ H w) (hf : FR ρ fr a) (hfree : ρ H.length = none) {src dst e : TypeId} (hs : K.P.underlying src = some .string) (hd : K.P.underlying dst = some (.slice e)) (he : K.P.underlying e = some (.int .u8)) {x : Operand} {y : AX} (hx : cX x = some y)
    (ho : o.op = .convert src dst x) (h : aop (.bytesOf e y) (ev fr) H = some (.val v, H')) : Good K ρ H w o a v H' := by
  simp only [aop] at h
  split at h
  · rename_i s hes
    split at h
    · rename_i hsz
      simp only [Option.some.injEq, Prod.mk.injEq, AR.val.injEq] at h
      obtain ⟨rfl, rfl⟩ := h
      have r := cX_sound hf hx
      rw [hes] at r
      have h1 := stp_drawn hr (w.drawn + 1)
      generalize hcap : (Question.appendCap s.size 0 e).cut (w.tape w.drawn (.appendCap s.size 0 e)) = cap
      have hge : s.size ≤ cap := by rw [← hcap]; simp only [Question.cut]; omega
      have hz : ∀ C : Array Value, (pushObj { w with drawn := w.drawn + 1 } (.cells C e)).freeze { block := w.heap.size, off := C.size } 1 = pushObj { w with drawn := w.drawn + 1 } (.cells C e (C.size, C.size + 1)) := by
        intro C
        have e1 : ((pushObj { w with drawn := w.drawn + 1 } (.cells C e)).freeze { block := w.heap.size, off := C.size } 1).heap = (pushObj { w with drawn := w.drawn + 1 } (.cells C e (C.size, C.size + 1))).heap := by
          apply Array.ext_getElem?
          intro i
          simp only [World.freeze, pushObj]
          simp only [Nat.one_ne_zero, if_false, Array.getElem?_modify, Array.getElem?_push]
          by_cases hi : i = w.heap.size
          · subst hi; simp
          · rw [if_neg (Ne.symm hi), if_neg hi, if_neg hi]
        have e2 : (pushObj { w with drawn := w.drawn + 1 } (.cells C e)).freeze { block := w.heap.size, off := C.size } 1 = { w with drawn := w.drawn + 1, heap := ((pushObj { w with drawn := w.drawn + 1 } (.cells C e)).freeze { block := w.heap.size, off := C.size } 1).heap } := rfl
        rw [e2, e1]; rfl
      refine ⟨.slice (some ⟨w.heap.size, 0, none⟩) s.size cap, pushObj { w with drawn := w.drawn + 1 } (.cells ((s.data.map fun (b : UInt8) => Value.int .u8 b.toNat) ++ Array.replicate (cap - s.size) (Value.int .u8 0)) e (cap, cap + 1)), _, .inl ?_,
        h1.trans (stp_new (w := { w with drawn := w.drawn + 1 }) h1.hr hfree (.cells (s.data.toList.map fun b => .int .u8 b.toNat) e false) _ cap ⟨_, e, _, pushObj_new _ _, ?_, ?_, ?_, fun _ => ⟨hr.base, .inr ?_⟩⟩), ?_⟩
      · have hsize : ((s.data.map fun (b : UInt8) => Value.int .u8 b.toNat) ++ Array.replicate (cap - s.size) (Value.int .u8 0)).size = cap := by
          simp only [Array.size_append, Array.size_map, Array.size_replicate]; show s.size + (cap - s.size) = cap; omega
        simp only [execOp, ho, Sem.run_bind, convert, run_und hs, run_und hd, Result.andThen_ok, string_eq r, run_und he, Conv.stringToBytes, run_choose, Question.forced, Bool.false_eq_true, if_false, hcap, newRow, run_newObj, Sem.run_pure, markStringish, run_shape]
        have hsh : (pushObj { w with drawn := w.drawn + 1 } (.cells ((s.data.map fun (b : UInt8) => Value.int .u8 b.toNat) ++ Array.replicate (cap - s.size) (Value.int .u8 0)) e)).shape? w.heap.size = some (e, cap) := by
          have := pushObj_new { w with drawn := w.drawn + 1 } (.cells ((s.data.map fun (b : UInt8) => Value.int .u8 b.toNat) ++ Array.replicate (cap - s.size) (Value.int .u8 0)) e)
          simp only [World.shape?]
          rw [show ({ w with drawn := w.drawn + 1 } : World).heap.size = w.heap.size from rfl] at this
          rw [this]
          simp only [hsize]
        have hpush : ∀ (o : Obj), ({ heap := w.heap.push o, tape := w.tape, drawn := w.drawn + 1, os := w.os, output := w.output } : World) = pushObj { w with drawn := w.drawn + 1 } o := fun _ => rfl
        rw [hpush, hsh]
        simp only [run_freeze, Result.andThen_ok, Sem.run_pure]
        have := hz ((s.data.map fun (b : UInt8) => Value.int .u8 b.toNat) ++ Array.replicate (cap - s.size) (Value.int .u8 0))
        rw [hsize] at this
        rw [this]
      · simp only [Array.size_append, Array.size_map, Array.size_replicate]; show s.size + (cap - s.size) = cap; omega
      · intro i q e'
        refine ⟨q, ?_, ?_⟩
        · rw [Nat.zero_add, ← Array.getElem?_toList, Array.toList_append, List.getElem?_append_left]
          · simpa using e'
          · simpa using (List.getElem?_eq_some_iff.1 e').1
        · rw [List.getElem?_map, Option.map_eq_some_iff] at e'
          obtain ⟨b, _, rfl⟩ := e'
          exact .int _ _
      · simp only [Array.size_append, Array.size_map, Array.size_replicate, List.length_map, Array.length_toList]; omega
      · simp only [Array.size_append, Array.size_map, Array.size_replicate]; show s.size + (cap - s.size) ≤ cap; omega
      · exact VR.slice (o := 0) (Ren.upd_same ρ _ _) (.inr ⟨1, rfl, by omega⟩) hge
    · cases h
  · cases h

end
end Go.Proofs.Am

/- Each operation of the small machine does what the model's does: texts of bytes, places, parts. -/
namespace Go.Proofs.Am
open Go Go.RowKit

section
variable {K : Ctx} {ρ : Ren} {H H' : Mem} {w : World} {fr : List Value} {a : Act} {o : Oper} {v : Value}

theorem slice_addr {ad : Addr} {n c : Nat} {x' : Value} (h : VR ρ (.slice (some ad) n c) x') (hn : 0 < n) : ∃ b o A s N c', ad = ⟨b, o, none⟩ ∧ x' = .slice (some ⟨A, s + o, none⟩) n c' ∧ ρ b = some (A, s, N) := by
  cases h with
  | slice hρ _ _ => exact ⟨_, _, _, _, _, _, rfl, rfl, hρ⟩
  | sliceE _ => omega

theorem u8_of {q : Value} (h : (match q with | .int .u8 _ => true | _ => false) = true) : ∃ m, q = .int .u8 m := by
  split at h
  · exact ⟨_, rfl⟩
  · cases h

theorem good_strOf (hr : HR K ρ H w) (hf : FR ρ fr a) {src dst e : TypeId} (hs : K.P.underlying src = some (.slice e)) (hd : K.P.underlying dst = some .string) (he : K.P.underlying e = some (.int .u8)) {x : Operand} {y : AX} (hx : cX x = some y)
    (ho : o.op = .convert src dst x) (h : aop (.strOf y) (ev fr) H = some (.val v, H')) : Good K ρ H w o a v H' := by
  simp only [aop] at h
  split at h
  · rename_i ad n c hes
    split at h
    · rename_i cs hcs
      split at h
      · rename_i hall
        simp only [Option.some.injEq, Prod.mk.injEq, AR.val.injEq] at h
        obtain ⟨rfl, rfl⟩ := h
        have r := cX_sound hf hx
        rw [hes] at r
        have fin : ∀ s : ByteArray, (convert src dst (a.eval x)).run K.P w = .ok (.string s) w → s = ⟨⟨cs.map fun | .int _ n => UInt8.ofNat n.toNat | _ => 0⟩⟩ → Good K ρ H w o a (.string ⟨⟨cs.map fun | .int _ n => UInt8.ofNat n.toNat | _ => 0⟩⟩) H := by
          intro s h1 h2
          subst h2
          exact good_same hr (.inl (by simp [execOp, ho, h1])) (.string _)
        unfold sliceCells at hcs
        split at hcs
        · rename_i b off n1 c1 hsl
          cases hsl
          split at hcs
          · rename_i hn0
            cases hcs
            subst hn0
            refine fin .empty ?_ rfl
            cases hev : a.eval x <;> rw [hev] at r <;> cases r
            · simp [convert, run_und hs, run_und hd, run_und he, Conv.bytesToString, loadCells, loadCellsFrom]
            · simp [convert, run_und hs, run_und hd, run_und he, Conv.bytesToString, loadCells, loadCellsFrom]
          · split at hcs
            · rename_i hn0 _
              obtain ⟨b2, o2, A, s, N, c', e1, hev, hρ⟩ := slice_addr r (by omega)
              cases e1
              rw [Nat.mul_one] at hcs
              obtain ⟨C, t, fz, hC, hsz, hl, hlen⟩ := rdN_sound hr hρ hcs
              have hrun := run_convert_bytes_arg (P := K.P) w src e hs he A (s + off) n c' (cs.map fun | .int _ n => n | _ => 0) (by simp [hlen]) (fun i hi => by
                have hi' : i < cs.length := by omega
                have hget : cs[i]? = some cs[i] := List.getElem?_eq_getElem hi'
                obtain ⟨v', e', hv'⟩ := hl.get i _ hget
                rw [List.getElem?_take, if_pos hi, List.getElem?_drop] at e'
                rw [cell_at hC, ← Array.getElem?_toList, e']
                obtain ⟨m, hm⟩ := u8_of (List.all_eq_true.1 hall cs[i] (List.getElem_mem hi'))
                rw [List.getD_eq_getElem?_getD, List.getElem?_map, hget]
                rw [hm] at hv' ⊢
                rw [int_eq hv']; rfl) dst hd
              refine fin _ (by rw [hev]; exact hrun) ?_
              simp only [strOfNums]
              congr 2
              rw [List.map_map]
              apply List.map_congr_left
              intro q hq
              obtain ⟨m, hm⟩ := u8_of (List.all_eq_true.1 hall q hq)
              rw [hm]; rfl
            · cases hcs
        · rename_i n1 c1 hsl
          cases hsl
          split at hcs
          · cases hcs
            refine fin .empty ?_ rfl
            cases hev : a.eval x <;> rw [hev] at r <;> cases r
            exact run_convert_bytes_nil w src e hs he 0 0 dst hd
          · cases hcs
        · rename_i hsl; cases hsl
        · cases hcs
      · cases h
    · cases h
  · cases h

theorem good_slice (hr : HR K ρ H w) (hf : FR ρ fr a) {t e : TypeId} {size : Nat} (ht : K.P.underlying t = some (.slice e)) (hs : szOf K.P e = some size) {x : Operand} {y : AX} (hx : cX x = some y) {lo hi mx : Option Operand} {lo' hi' mx' : Option AX}
    (hlo : cXO lo = some lo') (hhi : cXO hi = some hi') (hmx : cXO mx = some mx') (ho : o.op = .slice t x lo hi mx) (h : aop (.slice size y lo' hi' mx') (ev fr) H = some (.val v, H')) : Good K ρ H w o a v H' := by
  simp only [aop] at h
  split at h
  · rename_i ad n c he
    simp only [Option.map_eq_some_iff, Prod.mk.injEq, AR.val.injEq] at h
    obtain ⟨v', hv, rfl, rfl⟩ := h
    have r := cX_sound hf hx
    rw [he] at r
    obtain ⟨v2, hrun, hvv⟩ := asliced_sound (P := K.P) (w := w) hf ht hs r hlo hhi hmx hv
    exact good_same hr (.inl (by simp only [execOp, ho, Sem.run_bind, hrun, Result.andThen_ok, Sem.run_pure])) hvv
  · cases h

theorem good_sliceStr (hr : HR K ρ H w) (hf : FR ρ fr a) {t : TypeId} (ht : K.P.underlying t = some .string) {x : Operand} {y : AX} (hx : cX x = some y) {lo hi : Option Operand} {lo' hi' : Option AX}
    (hlo : cXO lo = some lo') (hhi : cXO hi = some hi') (ho : o.op = .slice t x lo hi none) (h : aop (.sliceStr y lo' hi') (ev fr) H = some (.val v, H')) : Good K ρ H w o a v H' := by
  simp only [aop] at h
  split at h
  · rename_i s he
    split at h
    · rename_i hh h1
      split at h
      · rename_i l h2
        simp only [Option.some.injEq, Prod.mk.injEq, AR.val.injEq] at h
        obtain ⟨rfl, rfl⟩ := h
        have r := cX_sound hf hx
        rw [he] at r
        have hb := sliceBounds_two (P := K.P) (w := w) (isS := false) hf hlo hhi h1 h2 (Nat.le_refl _)
        refine good_same hr (.inl ?_) (.string _)
        simp only [execOp, ho, Sem.run_bind, Instr.sliceAt, run_und ht, Result.andThen_ok, string_eq r, Instr.slice, Option.map_none, Option.isSome_none, Bool.false_eq_true, if_false, hb, Sem.run_pure]
      · cases h
    · cases h
  · cases h

theorem good_sliceArr (hr : HR K ρ H w) (hf : FR ρ fr a) {t e : TypeId} {n size : Nat} (ht : K.P.underlying t = some (.array n e)) (hs : szOf K.P e = some size) {x : Operand} {y : AX} (hx : cX x = some y) {lo hi : Option Operand} {lo' hi' : Option AX}
    (hlo : cXO lo = some lo') (hhi : cXO hi = some hi') (ho : o.op = .slice t x lo hi none) (h : aop (.sliceArr n size y lo' hi') (ev fr) H = some (.val v, H')) : Good K ρ H w o a v H' := by
  simp only [aop] at h
  split at h
  · rename_i ad he
    split at h
    · cases h
    · rename_i hUC
      split at h
      · rename_i hh h1
        split at h
        · rename_i l h2
          simp only [Option.some.injEq, Prod.mk.injEq, AR.val.injEq] at h
          obtain ⟨rfl, rfl⟩ := h
          have r := cX_sound hf hx
          rw [he] at r
          obtain ⟨b, off, A, s, N, rfl, e2, hρ⟩ := ptr_inv r
          have hb := sliceBounds_two (P := K.P) (w := w) (isS := false) hf hlo hhi h1 h2 (Nat.le_refl _)
          have hle := bndO_le (Nat.le_refl _) h1
          have hll := bndO_le (Nat.zero_le _) h2
          refine good_same hr (v' := .slice (some (if n = l then ⟨A, s + off, none⟩ else (⟨A, s + off, none⟩ : Addr).add (l * size))) (hh - l) (n - l)) (.inl ?_) ?_
          · simp only [execOp, ho, Sem.run_bind, Instr.sliceAt, run_und ht, Result.andThen_ok, e2, Instr.sureAddr, Option.map_none, hb, Sem.run_pure, run_sz hs]
          · by_cases hnl : n = l
            · rw [if_pos hnl, if_pos hnl]; exact .slice hρ (.inl ⟨rfl, by omega⟩) (by omega)
            · rw [if_neg hnl, if_neg hnl, add_at, add_at, Nat.add_assoc]; exact .slice hρ (.inl ⟨rfl, by omega⟩) (by omega)
        · cases h
      · cases h
  · cases h

theorem good_fieldAddr (hr : HR K ρ H w) (hf : FR ρ fr a) {t : TypeId} {fs : Array Field} (ht : K.P.underlying t = some (.struct fs)) {k : Nat} {fd : Field} (hk : fs.toList[k]? = some fd) {s : Nat} (hs : szOf K.P fd.type = some s) (hs0 : s ≠ 0) {x : Operand} {y : AX} (hx : cX x = some y)
    (ho : o.op = .fieldAddr t x k) (h : aop (.fieldAddr fd.offset y) (ev fr) H = some (.val v, H')) : Good K ρ H w o a v H' := by
  simp only [aop] at h
  split at h
  · rename_i ad he
    simp only [Option.some.injEq, Prod.mk.injEq, AR.val.injEq] at h
    obtain ⟨rfl, rfl⟩ := h
    have r := cX_sound hf hx
    rw [he] at r
    obtain ⟨b, off, A, s1, N, rfl, e2, hρ⟩ := ptr_inv r
    have hk' : fs[k]? = some fd := by simpa using hk
    refine good_same hr (v' := .pointer (some ((⟨A, s1 + off, none⟩ : Addr).add fd.offset))) (.inl ?_) ?_
    · simp only [execOp, ho, Sem.run_bind, Instr.fieldAt, run_und ht, Result.andThen_ok, hk', e2, Instr.sureAddr, Sem.run_pure, fieldPlace, run_sz hs, if_neg hs0]
    · rw [add_at, add_at, Nat.add_assoc]; exact .ptr hρ
  · cases h

theorem partA_sound {t : TypeId} {n : Option Nat} (hn : nOf K.P t = some n) {cs cs' : Array Value} (hv : VRL ρ cs.toList cs'.toList) {off : Nat} (h : partA n cs.toList off = some v) : ∃ v', (part t cs' off).run K.P w = .ok v' w ∧ VR ρ v v' := by
  unfold partA at h
  split at h
  · obtain ⟨v', e, r⟩ := hv.get _ _ h
    refine ⟨v', ?_, r⟩
    have e' : cs'[off]? = some v' := by simpa using e
    simp [part, run_agg_no hn, e']
  · rename_i k
    split at h
    · cases h
      refine ⟨_, ?_, .agg ((hv.drop off).take k)⟩
      simp only [part, Sem.run_bind, (run_agg_yes (w := w) hn).1, (run_agg_yes (w := w) hn).2, Result.andThen_ok, if_true, Sem.run_pure]
      congr 2
      apply Array.ext'
      simp [List.extract_eq_take_drop]
    · cases h

theorem good_field (hr : HR K ρ H w) (hf : FR ρ fr a) {t : TypeId} {fs : Array Field} (ht : K.P.underlying t = some (.struct fs)) {k : Nat} {fd : Field} (hk : fs.toList[k]? = some fd) {n : Option Nat} (hn : nOf K.P fd.type = some n) {x : Operand} {y : AX} (hx : cX x = some y)
    (ho : o.op = .field t x k) (h : aop (.field fd.offset n y) (ev fr) H = some (.val v, H')) : Good K ρ H w o a v H' := by
  simp only [aop] at h
  split at h
  · rename_i cs he
    simp only [Option.map_eq_some_iff, Prod.mk.injEq, AR.val.injEq] at h
    obtain ⟨v1, hv, rfl, rfl⟩ := h
    have r := cX_sound hf hx
    rw [he] at r
    obtain ⟨cs', e2, hl⟩ := agg_inv r
    obtain ⟨v', hrun, hvv⟩ := partA_sound (w := w) hn hl hv
    have hk' : fs[k]? = some fd := by simpa using hk
    refine good_same hr (.inl ?_) hvv
    simp only [execOp, ho, Sem.run_bind, Instr.field, run_und ht, Result.andThen_ok, hk', e2, asAgg, Sem.run_pure, hrun]
  · cases h

theorem good_indexAddr (hr : HR K ρ H w) (hf : FR ρ fr a) {t e : TypeId} {size : Nat} (ht : K.P.underlying t = some (.slice e)) (hs : szOf K.P e = some size) {x i : Operand} {y j : AX} (hx : cX x = some y) (hi : cX i = some j)
    (ho : o.op = .indexAddr t x i) (h : aop (.indexAddr size y j) (ev fr) H = some (.val v, H')) : Good K ρ H w o a v H' := by
  simp only [aop] at h
  split at h
  · rename_i ad n c k q he hj
    split at h
    · rename_i hc
      simp only [Option.some.injEq, Prod.mk.injEq, AR.val.injEq] at h
      obtain ⟨rfl, rfl⟩ := h
      have r := cX_sound hf hx
      have ri := cX_sound hf hi
      rw [he] at r
      rw [hj] at ri
      obtain ⟨b, off, A, s, N, c', rfl, e2, hρ⟩ := slice_addr r (by omega)
      refine good_same hr (v' := .pointer (some ((⟨A, s + off, none⟩ : Addr).add (q.toNat * size)))) (.inl ?_) (by rw [add_at, add_at, Nat.add_assoc]; exact .ptr hρ)
      simp only [execOp, ho, Sem.run_bind, Instr.indexAt, int_eq ri, asIntOf, Sem.run_pure, Result.andThen_ok, run_und ht, e2]
      rw [if_pos hc]
      simp only [Sem.run_bind, run_sz hs, Result.andThen_ok, Sem.run_pure]
    · cases h
  · cases h

theorem good_indexArr (hr : HR K ρ H w) (hf : FR ρ fr a) {t e : TypeId} {len size : Nat} (ht : K.P.underlying t = some (.array len e)) (hs : szOf K.P e = some size) {x i : Operand} {y j : AX} (hx : cX x = some y) (hi : cX i = some j)
    (ho : o.op = .indexAddr t x i) (h : aop (.indexArr len size y j) (ev fr) H = some (.val v, H')) : Good K ρ H w o a v H' := by
  simp only [aop] at h
  split at h
  · rename_i ad k q he hj
    split at h
    · rename_i hc
      simp only [Option.some.injEq, Prod.mk.injEq, AR.val.injEq] at h
      obtain ⟨rfl, rfl⟩ := h
      have r := cX_sound hf hx
      have ri := cX_sound hf hi
      rw [he] at r
      rw [hj] at ri
      obtain ⟨b, off, A, s, N, rfl, e2, hρ⟩ := ptr_inv r
      refine good_same hr (v' := .pointer (some ((⟨A, s + off, none⟩ : Addr).add (q.toNat * size)))) (.inl ?_) (by rw [add_at, add_at, Nat.add_assoc]; exact .ptr hρ)
      simp only [execOp, ho, Sem.run_bind, Instr.indexAt, int_eq ri, asIntOf, Sem.run_pure, Result.andThen_ok, run_und ht, e2, Instr.sureAddr]
      rw [if_pos hc]
      simp only [Sem.run_bind, run_sz hs, Result.andThen_ok, Sem.run_pure]
    · cases h
  · cases h

theorem good_indexVal (hr : HR K ρ H w) (hf : FR ρ fr a) {t e : TypeId} {len size : Nat} {n : Option Nat} (ht : K.P.underlying t = some (.array len e)) (hs : szOf K.P e = some size) (hn : nOf K.P e = some n) {x i : Operand} {y j : AX} (hx : cX x = some y) (hi : cX i = some j)
    (ho : o.op = .index t x i) (h : aop (.indexVal len size n y j) (ev fr) H = some (.val v, H')) : Good K ρ H w o a v H' := by
  simp only [aop] at h
  split at h
  · rename_i cs k q he hj
    split at h
    · rename_i hc
      simp only [Option.map_eq_some_iff, Prod.mk.injEq, AR.val.injEq] at h
      obtain ⟨v1, hv, rfl, rfl⟩ := h
      have r := cX_sound hf hx
      have ri := cX_sound hf hi
      rw [he] at r
      rw [hj] at ri
      obtain ⟨cs', e2, hl⟩ := agg_inv r
      obtain ⟨v', hrun, hvv⟩ := partA_sound (w := w) hn hl hv
      refine good_same hr (.inl ?_) hvv
      simp only [execOp, ho, Sem.run_bind, Instr.index, int_eq ri, asIntOf, Sem.run_pure, Result.andThen_ok, run_und ht, e2]
      rw [if_pos hc]
      simp only [Sem.run_bind, run_sz hs, Result.andThen_ok, hrun, Sem.run_pure]
    · cases h
  · cases h

theorem good_indexStr (hr : HR K ρ H w) (hf : FR ρ fr a) {t : TypeId} (ht : K.P.underlying t = some .string) {x i : Operand} {y j : AX} (hx : cX x = some y) (hi : cX i = some j)
    (ho : o.op = .index t x i) (h : aop (.indexStr y j) (ev fr) H = some (.val v, H')) : Good K ρ H w o a v H' := by
  simp only [aop] at h
  split at h
  · rename_i s k q he hj
    split at h
    · rename_i hc
      simp only [Option.map_eq_some_iff, Prod.mk.injEq, AR.val.injEq] at h
      obtain ⟨v1, ⟨b, hb, rfl⟩, rfl, rfl⟩ := h
      have r := cX_sound hf hx
      have ri := cX_sound hf hi
      rw [he] at r
      rw [hj] at ri
      refine good_same hr (.inl ?_) (.int _ _)
      have hb' : s[q.toNat]? = some b := by
        have hlt : q.toNat < s.data.size := by
          have := (List.getElem?_eq_some_iff.1 hb).1; simpa using this
        have hlt' : q.toNat < s.size := hlt
        rw [getElem?_pos s q.toNat hlt']
        have : s.data.toList[q.toNat]? = some s.data[q.toNat] := by simp [hlt]
        rw [this] at hb
        exact hb
      simp only [execOp, ho, Sem.run_bind, Instr.index, int_eq ri, asIntOf, Sem.run_pure, Result.andThen_ok, run_und ht, string_eq r, if_pos hc, hb']
    · cases h
  · cases h

theorem good_extract (hr : HR K ρ H w) (hf : FR ρ fr a) {x : Operand} {y : AX} {i : Nat} (hx : cX x = some y) (ho : o.op = .extract x i) (h : aop (.extract y i) (ev fr) H = some (.val v, H')) : Good K ρ H w o a v H' := by
  simp only [aop] at h
  split at h
  · rename_i vs he
    simp only [Option.map_eq_some_iff, Prod.mk.injEq, AR.val.injEq] at h
    obtain ⟨v1, hv, rfl, rfl⟩ := h
    have r := cX_sound hf hx
    rw [he] at r
    cases hev : a.eval x <;> rw [hev] at r <;> cases r <;> first
      | (simp at hv; done)
      | (rename_i xs xs' hl
         obtain ⟨v', e, hvv⟩ := hl.get _ _ hv
         refine good_same hr (.inl ?_) hvv
         simp [execOp, ho, Instr.extract, hev, e])
  · cases h

theorem good_func (hr : HR K ρ H w) (hf : FR ρ fr a) {f : FuncId} {first cap : Array Operand} {first' cap' : List AX} (hfirst : cXs first.toList = some first') (hc : cXs cap.toList = some cap') (ho : o.op = .makeFunc (.func f) first cap)
    (h : aop (.func f first' cap') (ev fr) H = some (.val v, H')) : Good K ρ H w o a v H' := by
  simp only [aop, Option.some.injEq, Prod.mk.injEq, AR.val.injEq] at h
  obtain ⟨rfl, rfl⟩ := h
  refine good_same hr (v' := .func (.func f) (first.map a.eval) (cap.map a.eval)) (.inl ?_) ?_
  · simp [execOp, ho, Instr.makeFunc]
  · have e : ∀ c : Array Operand, c.map a.eval = ⟨c.toList.map a.eval⟩ := fun c => by apply Array.ext'; simp
    rw [e, e]
    exact .func f (cXs_sound hf hfirst) (cXs_sound hf hc)

end
end Go.Proofs.Am

/- Each operation of the small machine does what the model's does: rows, maps, calls. -/
namespace Go.Proofs.Am
open Go Go.RowKit

section
variable {K : Ctx} {ρ : Ren} {H H' : Mem} {w : World} {fr : List Value} {a : Act} {o : Oper} {v : Value}

theorem good_makeSlice (hr : HR K ρ H w) (hf : FR ρ fr a) (hfree : ρ H.length = none) {t e : TypeId} {i : TypeInfo} {z : List Value} (ht : K.P.underlying t = some (.slice e)) (hi : K.P.info? e = some i) (hz : zOf K.P e = some z) (hs0 : 0 < i.size) (hb0 : 0 < i.bytes)
    {l c : Operand} {l' c' : AX} (hl : cX l = some l') (hc : cX c = some c') (ho : o.op = .makeSlice t l c) (h : aop (.makeSlice e i.bytes z l' c') (ev fr) H = some (.val v, H')) : Good K ρ H w o a v H' := by
  simp only [aop] at h
  split at h
  · rename_i k n k2 m hel hec
    split at h
    · rename_i hcond
      obtain ⟨h0, hlc, hby, hcb⟩ := hcond
      simp only [Option.some.injEq, Prod.mk.injEq, AR.val.injEq] at h
      obtain ⟨rfl, rfl⟩ := h
      have rl := cX_sound hf hl
      have rc := cX_sound hf hc
      rw [hel] at rl
      rw [hec] at rc
      obtain ⟨i', zv, hi', hzv, rfl, hg, hzl⟩ := zOf_spec hz
      rw [hi] at hi'; cases hi'
      obtain ⟨ln, rfl⟩ := Int.eq_ofNat_of_zero_le h0
      obtain ⟨cn, rfl⟩ := Int.eq_ofNat_of_zero_le (show 0 ≤ m by omega)
      have hw : ∀ q : Nat, (q : Int) ≤ 140737488355328 → IntKind.i64.wrap (q : Int) = q := by
        intro q hq
        simp only [IntKind.wrap, IntKind.bits, IntKind.signed, IntKind.max]
        simp
        omega
      have hzs : zv.cells.size = i.size := by simpa using hzl
      refine ⟨.slice (some ⟨w.heap.size, 0, none⟩) ln cn, pushObj w (.cells ⟨List.flatten (List.replicate cn zv.cells.toList)⟩ e), _, .inl ?_,
        stp_new hr hfree (.cells (List.flatten (List.replicate cn zv.cells.toList)) e false) (.cells ⟨List.flatten (List.replicate cn zv.cells.toList)⟩ e) (List.flatten (List.replicate cn zv.cells.toList)).length ?_, ?_⟩
      · have hne : ¬ (cn = 0 ∧ False) := by simp
        simp only [execOp, ho, Sem.run_bind, Instr.makeSlice, run_und ht, Result.andThen_ok, int_eq rl, int_eq rc, asInt, asIntOf, Sem.run_pure, run_ti hi, hw ln (by omega), hw cn hcb]
        have hT : ∀ q : Nat, (i.bytes : Int) * q ≤ 140737488355328 → (decide ((q : Int) < 0) || decide ((i.bytes : Int) * q > 2 ^ 48)) = false := by
          intro q hq
          simp only [Bool.or_eq_false_iff, decide_eq_false_iff_not]
          omega
        rw [if_neg (by
          rw [hT cn hby]
          simp only [Bool.false_or, Bool.or_eq_true, decide_eq_true_eq]
          omega)]
        simp only [Sem.run_pure, Result.andThen_ok, run_askRoom, Int.toNat_natCast, Sem.run_bind]
        have hsz : (sizeOf e).run K.P w = .ok i.size w := run_sz (by simp [szOf, hi])
        simp only [hsz, Result.andThen_ok]
        have hrow := zero_row zv.cells cn
        rw [hzs] at hrow
        by_cases hn0 : cn * i.size = 0
        · have hcn : cn = 0 := by rcases Nat.mul_eq_zero.1 hn0 with h | h <;> omega
          subst hcn
          have e1 : (Array.map (fun x => (#[] : Array Value)[x % (#[] : Array Value).size]!) (Array.range 0)) = ⟨[]⟩ := by apply Array.ext'; simp
          simp only [hn0, if_true, Sem.run_bind, Sem.run_pure, Result.andThen_ok]
          rw [e1]
          simp [newRow, pushObj]
        · simp only [if_neg hn0, Sem.run_bind, run_zv hi hzv, Result.andThen_ok, Sem.run_pure]
          rw [hzs, hrow]
          simp [newRow, pushObj]
      · refine ⟨_, e, (0, 0), pushObj_new _ _, by simp, fun j q e' => ⟨q, by simpa using e', ?_⟩, by simp, fun _ => ⟨hr.base, .inl (Nat.le_refl _)⟩⟩
        refine ground_VR ?_ _
        have hm := List.mem_of_getElem? e'
        simp only [List.mem_flatten, List.mem_replicate] at hm
        obtain ⟨l, ⟨_, rfl⟩, hq⟩ := hm
        exact List.all_eq_true.1 hg q hq
      · simp only [Int.toNat_natCast]
        exact VR.slice (o := 0) (Ren.upd_same ρ _ _) (.inl ⟨rfl, by simp only [UC]; omega⟩) (by omega)
    · cases h
  · cases h

theorem good_makeMap (hr : HR K ρ H w) (hfree : ρ H.length = none) {t : TypeId} (ho : o.op = .makeMap t none) (h : aop .makeMap (ev fr) H = some (.val v, H')) : Good K ρ H w o a v H' := by
  simp only [aop, Option.some.injEq, Prod.mk.injEq, AR.val.injEq] at h
  obtain ⟨rfl, rfl⟩ := h
  refine ⟨.map (some w.heap.size), pushObj w (.map #[] 0), _, .inl ?_, stp_new hr hfree (.map [] 0) (.map #[] 0) 0 ⟨rfl, rfl, hr.base, #[], pushObj_new _ _, .nil⟩, .map (Ren.upd_same ρ _ _)⟩
  simp [execOp, ho, Instr.makeMap, pushObj]

theorem map_block (hr : HR K ρ H w) {r A s N : Nat} {es : List MapEntry} {clock : Nat} (hb : H[r]? = some (.map es clock)) (hρ : ρ r = some (A, s, N)) : s = 0 ∧ N = 0 ∧ K.B ≤ A ∧ ∃ es', w.heap[A]? = some (.map es' clock) ∧ ER ρ es es'.toList :=
  hr.blk r _ A s N hb hρ

theorem good_lookup (hr : HR K ρ H w) (hf : FR ρ fr a) {t key e : TypeId} {i : TypeInfo} {z : Value} {kt : KT} {ok : Bool} (ht : K.P.underlying t = some (.map key e)) (hi : K.P.info? e = some i) (hz : i.zero = some z) (hg : groundV z = true) (hk : keyOk K.P key = some kt)
    {m k : Operand} {m' k' : AX} (hm : cX m = some m') (hkx : cX k = some k') (ho : o.op = .lookup t m k ok) (h : aop (.lookup kt ok z m' k') (ev fr) H = some (.val v, H')) : Good K ρ H w o a v H' := by
  simp only [aop] at h
  have rm := cX_sound hf hm
  have rk := cX_sound hf hkx
  split at h
  · cases h
  · rename_i b hkk
    have done : ∀ (u u' : Value) (f : Bool), VR ρ u u' → (Instr.lookup t (a.eval m) (a.eval k) ok).run K.P w = .ok (if ok = true then .tuple #[u', .bool f] else u') w →
        some ((AR.val (if ok = true then .tuple #[u, .bool f] else u)), H) = some (AR.val v, H') → Good K ρ H w o a v H' := by
      intro u u' f hu hrun h
      simp only [Option.some.injEq, Prod.mk.injEq, AR.val.injEq] at h
      obtain ⟨rfl, rfl⟩ := h
      refine good_same hr (v' := if ok = true then .tuple #[u', .bool f] else u') (.inl (by simp only [execOp, ho, Sem.run_bind, hrun, Result.andThen_ok, Sem.run_pure])) ?_
      cases ok
      · exact hu
      · exact .tuple (.cons hu (.cons (.bool f) .nil))
    have hck := fun em => checkKey_run (P := K.P) (w := w) hk hkk em
    have hkeq : a.eval k = ev fr k' := (eqKey_VR rk rk hkk).1
    split at h
    · rename_i he
      rw [he] at rm
      have f1 : a.eval m = .map none := by cases hcv : a.eval m <;> rw [hcv] at rm <;> cases rm; rfl
      refine done z z false (groundV_VR hg ρ) ?_ h
      have hfk : (Instr.findKey key (a.eval k) []).run K.P w = .ok none w := by
        obtain ⟨r', h1, h2⟩ := findKey_run (P := K.P) (w := w) hk rk (ER.nil) (r := none) (by simp [findA])
        cases h2; exact h1
      simp only [Instr.lookup, Sem.run_bind, run_und ht, Result.andThen_ok, f1, Sem.run_pure, hkeq, hck]
      rw [hkeq] at hfk
      simp only [hfk, Result.andThen_ok, Sem.run_bind, run_zv hi hz, Sem.run_pure]
    · rename_i r he
      rw [he] at rm
      cases hcv : a.eval m <;> rw [hcv] at rm <;> cases rm
      rename_i A hρ
      split at h
      · rename_i es clock hb
        obtain ⟨_, _, _, es', hA, her⟩ := map_block hr hb hρ
        have hobj : (getObj A).run K.P w = .ok (.map es' clock) w := by simp [getObj, Sem.run, hA]
        split at h
        · rename_i j u hfa
          obtain ⟨r', h1, h2⟩ := findKey_run (P := K.P) (w := w) hk rk her hfa
          cases h2 with
          | some j hu =>
            rename_i u'
            refine done u u' true hu ?_ h
            rw [hkeq] at h1
            simp only [Instr.lookup, Sem.run_bind, run_und ht, Result.andThen_ok, hcv, hobj, Sem.run_pure, hkeq, hck, h1]
        · rename_i hfa
          obtain ⟨r', h1, h2⟩ := findKey_run (P := K.P) (w := w) hk rk her hfa
          cases h2
          refine done z z false (groundV_VR hg ρ) ?_ h
          rw [hkeq] at h1
          simp only [Instr.lookup, Sem.run_bind, run_und ht, Result.andThen_ok, hcv, hobj, Sem.run_pure, hkeq, hck, h1, run_zv hi hz]
        · cases h
      · cases h
    · cases h

theorem good_update (hr : HR K ρ H w) (hf : FR ρ fr a) {t key e : TypeId} {kt : KT} (ht : K.P.underlying t = some (.map key e)) (hk : keyOk K.P key = some kt)
    {m k x : Operand} {m' k' x' : AX} (hm : cX m = some m') (hkx : cX k = some k') (hx : cX x = some x') (ho : o.op = .mapUpdate t m k x ∨ o.op = .insert t m k x) (h : aop (.update kt m' k' x') (ev fr) H = some (.val v, H')) : Good K ρ H w o a v H' := by
  simp only [aop] at h
  have rm := cX_sound hf hm
  have rk := cX_sound hf hkx
  have rx := cX_sound hf hx
  split at h
  · cases h
  · rename_i b hkk
    have hck := fun em => checkKey_run (P := K.P) (w := w) hk hkk em
    have hkeq : a.eval k = ev fr k' := (eqKey_VR rk rk hkk).1
    have rk' : VR ρ (ev fr k') (ev fr k') := by have := rk; rwa [hkeq] at this
    split at h
    · rename_i r he
      rw [he] at rm
      cases hcv : a.eval m <;> rw [hcv] at rm <;> cases rm
      rename_i A hρ
      split at h
      · rename_i es clock hb
        obtain ⟨hs0, hN0, hB, es', hA, her⟩ := map_block hr hb hρ
        have hobj : (getObj A).run K.P w = .ok (.map es' clock) w := by simp [getObj, Sem.run, hA]
        have hset : ∀ es2 c2, (setObj A (.map es2 c2)).run K.P w = .ok () (setBlk w A (.map es2 c2)) := by
          intro es2 c2; simp [setObj, Sem.run, hA, setBlk]
        have fin : ∀ (es2 : List MapEntry) (es2' : Array MapEntry) (c2 : Nat), ER ρ es2 es2'.toList → (Instr.mapUpdate t (a.eval m) (a.eval k) (a.eval x)).run K.P w = .ok () (setBlk w A (.map es2' c2)) →
            some (AR.val undef, H.set r (.map es2 c2)) = some (AR.val v, H') → Good K ρ H w o a v H' := by
          intro es2 es2' c2 he2 hrun h
          simp only [Option.some.injEq, Prod.mk.injEq, AR.val.injEq] at h
          obtain ⟨rfl, rfl⟩ := h
          refine ⟨undef, _, ρ, .inr ⟨?_, rfl⟩, stp_set hr hb rfl hρ hB _ (.map es2' c2) ⟨rfl, rfl, hB, es2', setBlk_same _ (lt_of_heap hA), he2⟩, .tuple .nil⟩
          rcases ho with ho | ho <;> simp only [execOp, ho, Sem.run_bind, hrun, Result.andThen_ok, Sem.run_pure]
        split at h
        · rename_i j u hfa
          obtain ⟨r', h1, h2⟩ := findKey_run (P := K.P) (w := w) hk rk her hfa
          cases h2 with
          | some j hu =>
            rename_i u'
            obtain ⟨e0, _, hget, hkey, _⟩ := findA_spec hfa
            rw [Nat.sub_zero] at hget
            obtain ⟨e0', hget', hke, _, _⟩ := her.get j e0 hget
            have hke' : e0'.key = e0.key := (eqKey_VR rk hke hkey).2
            refine fin _ (es'.modify j fun y => { y with key := ev fr k', val := a.eval x }) clock ?_ ?_ h
            · rw [Array.toList_modify]
              exact ER.modify (f := fun y => { y with key := ev fr k', val := ev fr x' }) (g := fun y => { y with key := ev fr k', val := a.eval x }) (fun y y' _ _ h3 => ⟨rk', rx, h3⟩) her j
            · rw [hkeq] at h1
              have hgetA : es'[j]? = some e0' := by simpa using hget'
              simp only [Instr.mapUpdate, Sem.run_bind, run_und ht, Result.andThen_ok, hcv, hobj, hkeq, hck, h1]
              rw [hgetA]
              simp only [Option.map_some, Option.getD_some, hke', Instr.keyThatStays, sameBits_self hk hkey, if_true, Sem.run_pure, Result.andThen_ok, hset]
        · rename_i hfa
          obtain ⟨r', h1, h2⟩ := findKey_run (P := K.P) (w := w) hk rk her hfa
          cases h2
          refine fin _ (es'.push { key := ev fr k', val := a.eval x, born := clock }) (clock + 1) ?_ ?_ h
          · rw [Array.toList_push]
            exact her.append (.cons rk' rx rfl .nil)
          · rw [hkeq] at h1
            simp only [Instr.mapUpdate, Sem.run_bind, run_und ht, Result.andThen_ok, hcv, hobj, hkeq, hck, h1, hset]
        · cases h
      · cases h
    · cases h

theorem good_iface (hr : HR K ρ H w) (hf : FR ρ fr a) {t : TypeId} {d : TypeDesc} (ht : K.P.underlying t = some d) (hd : ∀ m, d ≠ .interface m) {x : Operand} {y : AX} (hx : cX x = some y) (ho : o.op = .makeInterface t x) (h : aop (.iface t y) (ev fr) H = some (.val v, H')) :
    Good K ρ H w o a v H' := by
  simp only [aop, Option.some.injEq, Prod.mk.injEq, AR.val.injEq] at h
  obtain ⟨rfl, rfl⟩ := h
  refine good_same hr (.inl ?_) (.iface t (cX_sound hf hx))
  simp only [execOp, ho, Sem.run_bind, Instr.makeInterface, run_und ht, Result.andThen_ok]
  cases d <;> first | rfl | exact absurd rfl (hd _)

end
end Go.Proofs.Am

/- Each operation of the small machine does what the model's does: builtins and calls; all in one. -/
namespace Go.Proofs.Am
open Go Go.RowKit

section
variable {K : Ctx} {ρ : Ren} {H H' : Mem} {w : World} {fr : List Value} {a : Act} {o : Oper} {v : Value}

theorem args_of {c : Call} {l : List Operand} (h : c.args.toList = l) : c.args.map a.eval = ⟨l.map a.eval⟩ := by
  apply Array.ext'; simp [h]
theorem types_of {c : Call} {l : List TypeId} (h : c.argTypes.toList = l) : c.argTypes = ⟨l⟩ := by
  cases hc : c.argTypes; simp [hc] at h; simp [h]

/-- A call of a builtin. -/
theorem run_builtin {c : Call} {b : Builtin} {args : List Operand} {types : List TypeId} (ho : o.op = .call c) (hb : c.callee = .builtin b) (ha : c.args.toList = args) (ht : c.argTypes.toList = types) :
    ∃ cs, execOp a.eval o = builtin b ⟨types⟩ o.type cs ⟨args.map a.eval⟩ := by
  refine ⟨c.args.map fun | .const _ => true | _ => false, ?_⟩
  simp only [execOp, ho, resolve, hb, args_of ha, types_of ht]
  rfl

theorem good_lenS (hr : HR K ρ H w) (hf : FR ρ fr a) {c : Call} {t e : TypeId} {x : Operand} {y : AX} (ht : K.P.underlying t = some (.slice e)) (hx : cX x = some y) (ho : o.op = .call c) (hb : c.callee = .builtin .len) (ha : c.args.toList = [x]) (hty : c.argTypes.toList = [t])
    (h : aop (.lenS y) (ev fr) H = some (.val v, H')) : Good K ρ H w o a v H' := by
  simp only [aop] at h
  split at h
  · rename_i ad n cc he
    simp only [Option.some.injEq, Prod.mk.injEq, AR.val.injEq] at h
    obtain ⟨rfl, rfl⟩ := h
    have r := cX_sound hf hx
    rw [he] at r
    obtain ⟨a', c', e2, _, _⟩ := r.slice_inv
    obtain ⟨cs, hrun⟩ := run_builtin (a := a) ho hb ha hty
    refine good_same hr (.inl ?_) (.int _ _)
    rw [hrun]
    simp [builtin, Builtin.len_, run_und ht, e2, goInt]
  · cases h

theorem good_lenStr (hr : HR K ρ H w) (hf : FR ρ fr a) {c : Call} {t : TypeId} {x : Operand} {y : AX} (ht : K.P.underlying t = some .string) (hx : cX x = some y) (ho : o.op = .call c) (hb : c.callee = .builtin .len) (ha : c.args.toList = [x]) (hty : c.argTypes.toList = [t])
    (h : aop (.lenStr y) (ev fr) H = some (.val v, H')) : Good K ρ H w o a v H' := by
  simp only [aop] at h
  split at h
  · rename_i s he
    simp only [Option.some.injEq, Prod.mk.injEq, AR.val.injEq] at h
    obtain ⟨rfl, rfl⟩ := h
    have r := cX_sound hf hx
    rw [he] at r
    obtain ⟨cs, hrun⟩ := run_builtin (a := a) ho hb ha hty
    refine good_same hr (.inl ?_) (.int _ _)
    rw [hrun]
    simp [builtin, Builtin.len_, run_und ht, string_eq r, goInt]
  · cases h

theorem good_lenMap (hr : HR K ρ H w) (hf : FR ρ fr a) {c : Call} {t k e : TypeId} {x : Operand} {y : AX} (ht : K.P.underlying t = some (.map k e)) (hx : cX x = some y) (ho : o.op = .call c) (hb : c.callee = .builtin .len) (ha : c.args.toList = [x]) (hty : c.argTypes.toList = [t])
    (h : aop (.lenMap y) (ev fr) H = some (.val v, H')) : Good K ρ H w o a v H' := by
  simp only [aop] at h
  have r := cX_sound hf hx
  obtain ⟨cs, hrun⟩ := run_builtin (a := a) ho hb ha hty
  split at h
  · rename_i he
    simp only [Option.some.injEq, Prod.mk.injEq, AR.val.injEq] at h
    obtain ⟨rfl, rfl⟩ := h
    rw [he] at r
    have f1 : a.eval x = .map none := by cases hcv : a.eval x <;> rw [hcv] at r <;> cases r; rfl
    refine good_same hr (.inl ?_) (.int _ _)
    rw [hrun]
    simp [builtin, Builtin.len_, run_und ht, f1, goInt]
  · rename_i q he
    rw [he] at r
    cases hcv : a.eval x <;> rw [hcv] at r <;> cases r
    rename_i A hρ
    split at h
    · rename_i es clock hbk
      simp only [Option.some.injEq, Prod.mk.injEq, AR.val.injEq] at h
      obtain ⟨rfl, rfl⟩ := h
      obtain ⟨_, _, _, es', hA, her⟩ := map_block hr hbk hρ
      have hl := her.length
      have hobj : (getObj A).run K.P w = .ok (.map es' clock) w := by simp [getObj, Sem.run, hA]
      refine good_same hr (.inl ?_) (.int _ _)
      rw [hrun]
      simp [builtin, Builtin.len_, run_und ht, hcv, goInt, hobj, hl]
    · cases h
  · cases h

theorem good_append (hr : HR K ρ H w) (hf : FR ρ fr a) (hfree : H.length < H'.length → ρ H.length = none) {c : Call} {t u e : TypeId} {i : TypeInfo} {z : List Value} {s x : Operand} {s' x' : AX} (ht : K.P.underlying t = some (.slice e))
    (hu : (∃ e', K.P.underlying u = some (.slice e')) ∨ K.P.underlying u = some .string) (hi : K.P.info? e = some i) (hz : zOf K.P e = some z) (hs0 : 0 < i.size) (hb0 : 0 < i.bytes)
    (hs : cX s = some s') (hx : cX x = some x') (ho : o.op = .call c) (hb : c.callee = .builtin .append) (ha : c.args.toList = [s, x]) (hty : c.argTypes.toList = [t, u])
    (h : aop (.append e i.size i.bytes s' x') (ev fr) H = some (.val v, H')) : Good K ρ H w o a v H' := by
  simp only [aop, Option.map_eq_some_iff, Prod.mk.injEq, AR.val.injEq] at h
  obtain ⟨⟨v1, H1⟩, hv, rfl, rfl⟩ := h
  obtain ⟨cs, hrun⟩ := run_builtin (a := a) ho hb ha hty
  obtain ⟨v', w', ρ', h1, h2, h3⟩ := append_sound (ty := o.type) hr hfree ht hu hi hz hs0 hb0 (cX_sound hf hs) (cX_sound hf hx) hv
  refine ⟨v', w', ρ', .inl ?_, h2, h3⟩
  rw [hrun]
  simp only [builtin, Sem.run_bind, List.map_cons, List.map_nil]
  rw [h1]; rfl

theorem good_copy (hr : HR K ρ H w) (hf : FR ρ fr a) {c : Call} {t u e : TypeId} {size : Nat} {d x : Operand} {d' x' : AX} (ht : K.P.underlying t = some (.slice e)) (hsz : szOf K.P e = some size)
    (hd : cX d = some d') (hx : cX x = some x') (ho : o.op = .call c) (hb : c.callee = .builtin .copy) (ha : c.args.toList = [d, x]) (hty : c.argTypes.toList = [t, u])
    (h : aop (.copy size d' x') (ev fr) H = some (.val v, H')) : Good K ρ H w o a v H' := by
  simp only [aop] at h
  have rd := cX_sound hf hd
  have rx := cX_sound hf hx
  obtain ⟨cs, hrun⟩ := run_builtin (a := a) ho hb ha hty
  split at h
  · rename_i ad n c1 ax m c2 hed hex
    rw [hed] at rd
    rw [hex] at rx
    obtain ⟨ad', c1', e1, _, _⟩ := rd.slice_inv
    obtain ⟨ax', c2', e2, _, _⟩ := rx.slice_inv
    split at h
    · rename_i cells hcells
      obtain ⟨cells', hfc, hv, hl⟩ := sliceCells_run hr rx hcells
      have hfc' : (Builtin.firstCells size (Nat.min m n) (.slice ax' m c2')).run K.P w = .ok ⟨cells'⟩ w := by rw [← e2]; exact hfc w.drawn
      have hbase : (Builtin.copy_ #[t, u] o.type #[a.eval d, a.eval x]).run K.P w = ((match ad' with | some b => storeCells b cells' | none => pure ()).run K.P w).andThen fun _ w' => .ok (.int .i64 (Nat.min m n : Nat)) w' := by
        simp only [Builtin.copy_, List.getElem?_toArray, List.getElem?_cons_zero, List.getElem?_cons_succ, Sem.run_bind, run_und ht, Result.andThen_ok, Sem.run_pure, e1, e2, Builtin.lenOf, run_sz hsz, hfc']
        cases ad' <;> simp [goInt]
      split at h
      · rename_i hk0
        simp only [Option.some.injEq, Prod.mk.injEq, AR.val.injEq] at h
        obtain ⟨rfl, rfl⟩ := h
        have hc0 : cells' = [] := List.eq_nil_of_length_eq_zero (by have := hv.length; rw [hk0, Nat.zero_mul] at hl; omega)
        subst hc0
        refine good_same hr (.inl ?_) (.int _ _)
        rw [hrun]
        simp only [builtin, Sem.run_bind, List.map_cons, List.map_nil]
        rw [hbase, hk0]
        cases ad' <;> simp [storeCells]
      · rename_i hk0
        split at h
        · rename_i b off
          simp only [Option.map_eq_some_iff, Prod.mk.injEq, AR.val.injEq] at h
          obtain ⟨H1, hw, rfl, rfl⟩ := h
          obtain ⟨b2, o2, A, s, N, c', e3, e4, hρ⟩ := slice_addr rd (by
            have : Nat.min m n ≤ n := Nat.min_le_right m n
            omega)
          cases e3
          rw [e1] at e4
          simp only [Value.slice.injEq] at e4
          obtain ⟨rfl, _, rfl⟩ := e4
          obtain ⟨w', hst, hstp⟩ := wrN_sound hr hρ hv hw
          refine ⟨_, w', ρ, .inl ?_, hstp, .int _ _⟩
          rw [hrun]
          simp only [builtin, Sem.run_bind, List.map_cons, List.map_nil]
          rw [hbase]
          simp only [hst, Result.andThen_ok, Sem.run_pure]
        · cases h
    · cases h
  · cases h

theorem good_clear (hr : HR K ρ H w) (hf : FR ρ fr a) {c : Call} {t e : TypeId} {z : List Value} {x : Operand} {x' : AX} (ht : K.P.underlying t = some (.slice e)) (hz : zOf K.P e = some z)
    (hx : cX x = some x') (ho : o.op = .call c) (hb : c.callee = .builtin .clear) (ha : c.args.toList = [x]) (hty : c.argTypes.toList = [t])
    (h : aop (.clear z x') (ev fr) H = some (.val v, H')) : Good K ρ H w o a v H' := by
  simp only [aop] at h
  have rx := cX_sound hf hx
  obtain ⟨cs, hrun⟩ := run_builtin (a := a) ho hb ha hty
  obtain ⟨i, zv, hi, hzv, rfl, hg, hzl⟩ := zOf_spec hz
  split at h
  · rename_i ad n c1 hex
    rw [hex] at rx
    obtain ⟨ad', c1', e1, _, _⟩ := rx.slice_inv
    split at h
    · rename_i hn0
      simp only [Option.some.injEq, Prod.mk.injEq, AR.val.injEq] at h
      obtain ⟨rfl, rfl⟩ := h
      subst hn0
      refine ⟨.tuple #[], w, ρ, .inl ?_, .refl hr, .tuple .nil⟩
      rw [hrun]
      simp only [builtin, Sem.run_bind, List.map_cons, List.map_nil, Builtin.clear_, List.getElem?_toArray, List.getElem?_cons_zero, run_und ht, Result.andThen_ok, e1]
      cases ad' <;> simp
    · rename_i hn0
      split at h
      · rename_i b off
        simp only [Option.map_eq_some_iff, Prod.mk.injEq, AR.val.injEq] at h
        obtain ⟨H1, hw, rfl, rfl⟩ := h
        obtain ⟨b2, o2, A, s, N, c', e3, e4, hρ⟩ := slice_addr rx (by omega)
        cases e3
        have hgz : (List.flatten (List.replicate n zv.cells.toList)).all ground = true := by
          rw [List.all_eq_true] at *
          intro y hy
          simp only [List.mem_flatten, List.mem_replicate] at hy
          obtain ⟨l, ⟨_, rfl⟩, hy⟩ := hy
          exact hg y hy
        obtain ⟨w', hst, hstp⟩ := wrN_sound hr hρ (ground_VRL hgz ρ) hw
        refine ⟨.tuple #[], w', ρ, .inl ?_, hstp, .tuple .nil⟩
        rw [hrun]
        simp only [builtin, Sem.run_bind, List.map_cons, List.map_nil, Builtin.clear_, List.getElem?_toArray, List.getElem?_cons_zero, run_und ht, Result.andThen_ok, e4]
        have hzc : (Builtin.zeroCells zv.cells n).toList = List.flatten (List.replicate n zv.cells.toList) := by
          have := zero_row zv.cells n
          simp only [Builtin.zeroCells]; rw [this]
        cases n with
        | zero => omega
        | succ n => simp only [Sem.run_bind, run_zv hi hzv, Result.andThen_ok, hzc, hst, Sem.run_pure]
      · cases h
  · cases h

theorem good_min2 (hr : HR K ρ H w) (hf : FR ρ fr a) {c : Call} {x y : Operand} {x' y' : AX} (hx : cX x = some x') (hy : cX y = some y') (ho : o.op = .call c) (hb : c.callee = .builtin .min) (ha : c.args.toList = [x, y])
    (h : aop (.min2 x' y') (ev fr) H = some (.val v, H')) : Good K ρ H w o a v H' := by
  simp only [aop] at h
  split at h
  · rename_i k p k2 q e1 e2
    simp only [Option.some.injEq, Prod.mk.injEq, AR.val.injEq] at h
    obtain ⟨rfl, rfl⟩ := h
    have rx := cX_sound hf hx
    have ry := cX_sound hf hy
    rw [e1] at rx; rw [e2] at ry
    obtain ⟨cs, hrun⟩ := run_builtin (a := a) ho hb ha rfl
    refine good_same hr (.inl ?_) (.int _ _)
    rw [hrun]
    simp [builtin, Builtin.min_, Builtin.min2, int_eq rx, int_eq ry]
  · cases h

theorem good_max2 (hr : HR K ρ H w) (hf : FR ρ fr a) {c : Call} {x y : Operand} {x' y' : AX} (hx : cX x = some x') (hy : cX y = some y') (ho : o.op = .call c) (hb : c.callee = .builtin .max) (ha : c.args.toList = [x, y])
    (h : aop (.max2 x' y') (ev fr) H = some (.val v, H')) : Good K ρ H w o a v H' := by
  simp only [aop] at h
  split at h
  · rename_i k p k2 q e1 e2
    simp only [Option.some.injEq, Prod.mk.injEq, AR.val.injEq] at h
    obtain ⟨rfl, rfl⟩ := h
    have rx := cX_sound hf hx
    have ry := cX_sound hf hy
    rw [e1] at rx; rw [e2] at ry
    obtain ⟨cs, hrun⟩ := run_builtin (a := a) ho hb ha rfl
    refine good_same hr (.inl ?_) (.int _ _)
    rw [hrun]
    simp [builtin, Builtin.max_, Builtin.max2, int_eq rx, int_eq ry]
  · cases h

end
end Go.Proofs.Am

/- Each operation of the small machine does what the model's does: all in one. -/
namespace Go.Proofs.Am
open Go Go.RowKit

section
variable {K : Ctx} {ρ : Ren} {H H' : Mem} {w : World} {fr : List Value} {a : Act} {o : Oper} {v : Value}

theorem none_of {n m : Nat} (h : Free ρ n m) (hlt : n < m) : ρ n = none := h n (Nat.le_refl _) hlt

theorem call_val {c : Call} {ao : AOp} (hr : HR K ρ H w) (hf : FR ρ fr a) (hfree : Free ρ H.length H'.length) (hc : cCall K.P c = some ao) (ho : o.op = .call c) (h : aop ao (ev fr) H = some (.val v, H')) : Good K ρ H w o a v H' := by
  unfold cCall at hc
  split at hc
  · -- a function's value
    simp only [Option.bind_eq_bind, Option.bind_eq_some_iff, Option.some.injEq] at hc
    obtain ⟨f', _, as, _, rfl⟩ := hc
    simp only [aop] at h
    split at h <;> simp at h
  · cases hc
  · rename_i b hb
    split at hc
    · rename_i x t ha hty
      simp only [Option.bind_eq_bind, Option.bind_eq_some_iff] at hc
      obtain ⟨d, hd, hc⟩ := hc
      split at hc
      · simp only [Option.bind_eq_some_iff, Option.some.injEq] at hc
        obtain ⟨y, hy, rfl⟩ := hc
        exact good_lenS hr hf hd hy ho hb ha hty h
      · simp only [Option.bind_eq_some_iff, Option.some.injEq] at hc
        obtain ⟨y, hy, rfl⟩ := hc
        exact good_lenStr hr hf hd hy ho hb ha hty h
      · simp only [Option.bind_eq_some_iff, Option.some.injEq] at hc
        obtain ⟨y, hy, rfl⟩ := hc
        exact good_lenMap hr hf hd hy ho hb ha hty h
      · cases hc
    · rename_i s x t u ha hty
      simp only [Option.bind_eq_bind, Option.bind_eq_some_iff] at hc
      obtain ⟨d, hd, d2, hd2, hc⟩ := hc
      split at hc
      · simp only [Option.bind_eq_some_iff] at hc
        obtain ⟨i, hi, z, hz, hc⟩ := hc
        split at hc
        · rename_i hp
          simp only [Option.bind_eq_some_iff, Option.some.injEq] at hc
          obtain ⟨s', hs', x', hx', rfl⟩ := hc
          exact good_append hr hf (none_of hfree) hd (.inl ⟨_, hd2⟩) hi hz hp.1 hp.2 hs' hx' ho hb ha hty h
        · cases hc
      · simp only [Option.bind_eq_some_iff] at hc
        obtain ⟨i, hi, z, hz, hc⟩ := hc
        split at hc
        · rename_i hp
          simp only [Option.bind_eq_some_iff, Option.some.injEq] at hc
          obtain ⟨s', hs', x', hx', rfl⟩ := hc
          exact good_append hr hf (none_of hfree) hd (.inr hd2) hi hz hp.1 hp.2 hs' hx' ho hb ha hty h
        · cases hc
      · cases hc
    · rename_i d s t u ha hty
      simp only [Option.bind_eq_bind, Option.bind_eq_some_iff] at hc
      obtain ⟨dd, hd, hc⟩ := hc
      split at hc
      · simp only [Option.bind_eq_some_iff, Option.some.injEq] at hc
        obtain ⟨sz, hsz, d', hd', s', hs', rfl⟩ := hc
        exact good_copy hr hf hd hsz hd' hs' ho hb ha hty h
      · cases hc
    · rename_i x t ha hty
      simp only [Option.bind_eq_bind, Option.bind_eq_some_iff] at hc
      obtain ⟨d, hd, hc⟩ := hc
      split at hc
      · simp only [Option.bind_eq_some_iff, Option.some.injEq] at hc
        obtain ⟨z, hz, x', hx', rfl⟩ := hc
        exact good_clear hr hf hd hz hx' ho hb ha hty h
      · cases hc
    · rename_i x y ha
      simp only [Option.bind_eq_bind, Option.bind_eq_some_iff, Option.some.injEq] at hc
      obtain ⟨x', hx', y', hy', rfl⟩ := hc
      exact good_min2 hr hf hx' hy' ho hb ha h
    · rename_i x y ha
      simp only [Option.bind_eq_bind, Option.bind_eq_some_iff, Option.some.injEq] at hc
      obtain ⟨x', hx', y', hy', rfl⟩ := hc
      exact good_max2 hr hf hx' hy' ho hb ha h
    · simp only [Option.bind_eq_bind, Option.bind_eq_some_iff, Option.some.injEq] at hc
      obtain ⟨x', hx', rfl⟩ := hc
      simp only [aop] at h
      split at h <;> simp at h
    · cases hc

/-- An operation that comes to a value. -/
theorem op_val {ao : AOp} (hr : HR K ρ H w) (hf : FR ρ fr a) (hfree : Free ρ H.length H'.length) (hc : cOp K.P o.op = some ao) (h : aop ao (ev fr) H = some (.val v, H')) : Good K ρ H w o a v H' := by
  cases ho : o.op <;> rw [ho] at hc <;> simp only [cOp, Option.bind_eq_bind, reduceCtorEq] at hc
  case move x =>
    simp only [Option.bind_eq_some_iff, Option.some.injEq] at hc
    obtain ⟨y, hy, rfl⟩ := hc
    exact good_move hr hf hy (.inl ho) h
  case assign x =>
    simp only [Option.bind_eq_some_iff, Option.some.injEq] at hc
    obtain ⟨y, hy, rfl⟩ := hc
    exact good_move hr hf hy (.inr ho) h
  case pick c x y =>
    simp only [Option.bind_eq_some_iff, Option.some.injEq] at hc
    obtain ⟨c', hc', x', hx', y', hy', rfl⟩ := hc
    exact good_pick hr hf hc' hx' hy' ho h
  case alloc t =>
    simp only [Option.bind_eq_some_iff, Option.some.injEq] at hc
    obtain ⟨z, hz, rfl⟩ := hc
    exact good_new hr (none_of hfree (by simp only [aop, Option.some.injEq, Prod.mk.injEq] at h; rw [← h.2]; simp)) hz ho h
  case box t x =>
    simp only [Option.bind_eq_some_iff, Option.some.injEq] at hc
    obtain ⟨y, hy, rfl⟩ := hc
    exact good_box hr hf (none_of hfree (by simp only [aop, Option.map_eq_some_iff, Prod.mk.injEq] at h; obtain ⟨_, _, _, h2⟩ := h; rw [← h2]; simp)) hy ho h
  case build t ps =>
    simp only [Option.bind_eq_some_iff] at hc
    obtain ⟨z, hz, d, hd, hc⟩ := hc
    split at hc
    · simp only [Option.bind_eq_some_iff, Option.some.injEq] at hc
      obtain ⟨pl, hpl, qs, hq, rfl⟩ := hc
      exact good_buildStruct hr hf hz hd hpl hq ho h
    · simp only [Option.bind_eq_some_iff, Option.some.injEq] at hc
      obtain ⟨s, hs, qs, hq, rfl⟩ := hc
      exact good_buildArray hr hf hz hd hs hq ho h
    · cases hc
  case buildSlice t len ps =>
    simp only [Option.bind_eq_some_iff] at hc
    obtain ⟨d, hd, hc⟩ := hc
    split at hc
    · simp only [Option.bind_eq_some_iff] at hc
      obtain ⟨s, hs, z, hz, hc⟩ := hc
      split at hc
      · rename_i hp
        simp only [Option.bind_eq_some_iff, Option.some.injEq] at hc
        obtain ⟨qs, hq, rfl⟩ := hc
        exact good_row hr hf (none_of hfree (by simp only [aop, Option.map_eq_some_iff, Prod.mk.injEq] at h; obtain ⟨_, _, _, h2⟩ := h; rw [← h2]; simp)) hz hd hs hp.1 hp.2 hq ho h
      · cases hc
    · cases hc
  case load t x =>
    simp only [Option.bind_eq_some_iff] at hc
    obtain ⟨n, hn, hc⟩ := hc
    cases n with
    | none =>
      simp only [Option.bind_eq_some_iff, Option.some.injEq] at hc
      obtain ⟨y, hy, rfl⟩ := hc
      simp only [aop, Option.map_eq_some_iff, Prod.mk.injEq, AR.val.injEq] at h
      obtain ⟨v1, hv, rfl, rfl⟩ := h
      exact good_load hr hf hn hy ho hv
    | some k =>
      simp only [Option.bind_eq_some_iff, Option.some.injEq] at hc
      obtain ⟨y, hy, rfl⟩ := hc
      simp only [aop, Option.map_eq_some_iff, Prod.mk.injEq, AR.val.injEq] at h
      obtain ⟨v1, hv, rfl, rfl⟩ := h
      exact good_load hr hf hn hy ho hv
  case store t x y =>
    simp only [Option.bind_eq_some_iff, Option.some.injEq] at hc
    obtain ⟨n, hn, x', hx', y', hy', rfl⟩ := hc
    exact good_store hr hf hn hx' hy' ho h
  case nilCheck x =>
    simp only [Option.bind_eq_some_iff, Option.some.injEq] at hc
    obtain ⟨y, hy, rfl⟩ := hc
    exact good_nilCheck hr hf hy ho h
  case binOp op t x y u => exact good_bin hr hf hc ho h
  case unOp op t x =>
    simp only [Option.bind_eq_some_iff, Option.some.injEq] at hc
    obtain ⟨y, hy, rfl⟩ := hc
    exact good_un hr hf hy ho h
  case convert src dst x =>
    simp only [Option.bind_eq_some_iff] at hc
    obtain ⟨d1, hd1, d2, hd2, hc⟩ := hc
    split at hc
    · simp only [Option.bind_eq_some_iff, Option.some.injEq] at hc
      obtain ⟨y, hy, rfl⟩ := hc
      exact good_conv hr hf hd1 hd2 hy ho h
    · simp only [Option.bind_eq_some_iff, Option.some.injEq] at hc
      obtain ⟨y, hy, rfl⟩ := hc
      exact good_convId hr hf hd1 hd2 hy ho h
    · simp only [Option.bind_eq_some_iff] at hc
      obtain ⟨d3, hd3, hc⟩ := hc
      split at hc
      · simp only [Option.bind_eq_some_iff, Option.some.injEq] at hc
        obtain ⟨y, hy, rfl⟩ := hc
        exact good_bytesOf hr hf (none_of hfree (by
          simp only [aop] at h
          split at h
          · split at h
            · simp only [Option.some.injEq, Prod.mk.injEq] at h; rw [← h.2]; simp
            · cases h
          · cases h)) hd1 hd2 hd3 hy ho h
      · cases hc
    · simp only [Option.bind_eq_some_iff] at hc
      obtain ⟨d3, hd3, hc⟩ := hc
      split at hc
      · simp only [Option.bind_eq_some_iff, Option.some.injEq] at hc
        obtain ⟨y, hy, rfl⟩ := hc
        exact good_strOf hr hf hd1 hd2 hd3 hy ho h
      · cases hc
    · cases hc
  case slice t x lo hi mx =>
    simp only [Option.bind_eq_some_iff] at hc
    obtain ⟨d, hd, hc⟩ := hc
    split at hc
    · simp only [Option.bind_eq_some_iff, Option.some.injEq] at hc
      obtain ⟨s, hs, y, hy, lo', hlo, hi', hhi, mx', hmx, rfl⟩ := hc
      exact good_slice hr hf hd hs hy hlo hhi hmx ho h
    · split at hc
      · rename_i hm
        simp only [Option.bind_eq_some_iff, Option.some.injEq] at hc
        obtain ⟨y, hy, lo', hlo, hi', hhi, rfl⟩ := hc
        simp only [Option.isNone_iff_eq_none] at hm
        subst hm
        exact good_sliceStr hr hf hd hy hlo hhi ho h
      · cases hc
    · split at hc
      · rename_i hm
        simp only [Option.bind_eq_some_iff, Option.some.injEq] at hc
        obtain ⟨s, hs, y, hy, lo', hlo, hi', hhi, rfl⟩ := hc
        simp only [Option.isNone_iff_eq_none] at hm
        subst hm
        exact good_sliceArr hr hf hd hs hy hlo hhi ho h
      · cases hc
    · cases hc
  case fieldAddr t x k =>
    simp only [Option.bind_eq_some_iff] at hc
    obtain ⟨d, hd, hc⟩ := hc
    split at hc
    · simp only [Option.bind_eq_some_iff] at hc
      obtain ⟨fd, hfd, s, hs, hc⟩ := hc
      split at hc
      · cases hc
      · rename_i hs0
        simp only [Option.bind_eq_some_iff, Option.some.injEq] at hc
        obtain ⟨y, hy, rfl⟩ := hc
        exact good_fieldAddr hr hf hd hfd hs hs0 hy ho h
    · cases hc
  case field t x k =>
    simp only [Option.bind_eq_some_iff] at hc
    obtain ⟨d, hd, hc⟩ := hc
    split at hc
    · simp only [Option.bind_eq_some_iff, Option.some.injEq] at hc
      obtain ⟨fd, hfd, n, hn, y, hy, rfl⟩ := hc
      exact good_field hr hf hd hfd hn hy ho h
    · cases hc
  case indexAddr t x i =>
    simp only [Option.bind_eq_some_iff] at hc
    obtain ⟨d, hd, hc⟩ := hc
    split at hc
    · simp only [Option.bind_eq_some_iff, Option.some.injEq] at hc
      obtain ⟨s, hs, y, hy, j, hj, rfl⟩ := hc
      exact good_indexAddr hr hf hd hs hy hj ho h
    · simp only [Option.bind_eq_some_iff, Option.some.injEq] at hc
      obtain ⟨s, hs, y, hy, j, hj, rfl⟩ := hc
      exact good_indexArr hr hf hd hs hy hj ho h
    · cases hc
  case index t x i =>
    simp only [Option.bind_eq_some_iff] at hc
    obtain ⟨d, hd, hc⟩ := hc
    split at hc
    · simp only [Option.bind_eq_some_iff, Option.some.injEq] at hc
      obtain ⟨s, hs, n, hn, y, hy, j, hj, rfl⟩ := hc
      exact good_indexVal hr hf hd hs hn hy hj ho h
    · simp only [Option.bind_eq_some_iff, Option.some.injEq] at hc
      obtain ⟨y, hy, j, hj, rfl⟩ := hc
      exact good_indexStr hr hf hd hy hj ho h
    · cases hc
  case extract x i =>
    simp only [Option.bind_eq_some_iff, Option.some.injEq] at hc
    obtain ⟨y, hy, rfl⟩ := hc
    exact good_extract hr hf hy ho h
  case makeFunc fn first cap =>
    split at hc
    · simp only [Option.bind_eq_some_iff, Option.some.injEq] at hc
      obtain ⟨first', hfirst, cap', hcap, rfl⟩ := hc
      exact good_func hr hf hfirst hcap ho h
    · cases hc
  case makeSlice t l c =>
    simp only [Option.bind_eq_some_iff] at hc
    obtain ⟨d, hd, hc⟩ := hc
    split at hc
    · simp only [Option.bind_eq_some_iff] at hc
      obtain ⟨i, hi, z, hz, hc⟩ := hc
      split at hc
      · rename_i hp
        simp only [Option.bind_eq_some_iff, Option.some.injEq] at hc
        obtain ⟨l', hl', c', hc', rfl⟩ := hc
        exact good_makeSlice hr hf (none_of hfree (by
          simp only [aop] at h
          split at h
          · split at h
            · simp only [Option.some.injEq, Prod.mk.injEq] at h; rw [← h.2]; simp
            · cases h
          · cases h)) hd hi hz hp.1 hp.2 hl' hc' ho h
      · cases hc
    · cases hc
  case makeMap t r =>
    split at hc
    · rename_i hm
      simp only [Option.isNone_iff_eq_none] at hm
      subst hm
      cases hc
      exact good_makeMap hr (none_of hfree (by simp only [aop, Option.some.injEq, Prod.mk.injEq] at h; rw [← h.2]; simp)) ho h
    · cases hc
  case lookup t m k ok =>
    simp only [Option.bind_eq_some_iff] at hc
    obtain ⟨d, hd, hc⟩ := hc
    split at hc
    · simp only [Option.bind_eq_some_iff] at hc
      obtain ⟨i, hi, z, hz, kt, hk, hc⟩ := hc
      split at hc
      · rename_i hg
        simp only [Option.bind_eq_some_iff, Option.some.injEq] at hc
        obtain ⟨m', hm', k', hk', rfl⟩ := hc
        exact good_lookup hr hf hd hi hz hg hk hm' hk' ho h
      · cases hc
    · cases hc
  case mapUpdate t m k x =>
    simp only [Option.bind_eq_some_iff] at hc
    obtain ⟨d, hd, hc⟩ := hc
    split at hc
    · simp only [Option.bind_eq_some_iff, Option.some.injEq] at hc
      obtain ⟨kt, hk, m', hm', k', hk', x', hx', rfl⟩ := hc
      exact good_update hr hf hd hk hm' hk' hx' (.inl ho) h
    · cases hc
  case insert t m k x =>
    simp only [Option.bind_eq_some_iff] at hc
    obtain ⟨d, hd, hc⟩ := hc
    split at hc
    · simp only [Option.bind_eq_some_iff, Option.some.injEq] at hc
      obtain ⟨kt, hk, m', hm', k', hk', x', hx', rfl⟩ := hc
      exact good_update hr hf hd hk hm' hk' hx' (.inr ho) h
    · cases hc
  case makeInterface t x =>
    simp only [Option.bind_eq_some_iff] at hc
    obtain ⟨d, hd, hc⟩ := hc
    split at hc
    · cases hc
    · rename_i hne
      simp only [Option.bind_eq_some_iff, Option.some.injEq] at hc
      obtain ⟨y, hy, rfl⟩ := hc
      exact good_iface hr hf hd (fun m e => hne m e) hy ho h
  case call c => exact call_val hr hf hfree hc ho h
  case panic x =>
    simp only [Option.bind_eq_some_iff, Option.some.injEq] at hc
    obtain ⟨y, hy, rfl⟩ := hc
    simp only [aop] at h
    split at h <;> simp at h

theorem aop_call {ao : AOp} {e : AX → Value} {g : Tgt} {args : List Value} (h : aop ao e H = some (.enter g args, H')) : ∃ f as, ao = .call f as := by
  cases ao <;> simp only [aop] at h <;> first
    | exact ⟨_, _, rfl⟩
    | (exfalso; revert h; (repeat' split) <;> simp_all; done)
    | (exfalso; simp at h; done)

theorem aop_panic {ao : AOp} {e : AX → Value} {v : Value} (h : aop ao e H = some (.panic v, H')) : ∃ x, ao = .panic x := by
  cases ao <;> simp only [aop] at h <;> first
    | exact ⟨_, rfl⟩
    | (exfalso; revert h; (repeat' split) <;> simp_all; done)
    | (exfalso; simp at h; done)

theorem cBin_not {P : Program} {op : BinOp} {t : TypeId} {x y : Operand} {ao : AOp} (h : cBin P op t x y = some ao) : (∀ f as, ao ≠ .call f as) ∧ ∀ z, ao ≠ .panic z := by
  unfold cBin at h
  constructor <;> intros <;> rintro rfl <;> revert h <;> (repeat' split) <;> simp

theorem cOp_call {P : Program} {op : Op} {f : AX} {as : List AX} (h : cOp P op = some (.call f as)) : ∃ c x, op = .call c ∧ c.callee = .value x ∧ cX x = some f ∧ cXs c.args.toList = some as := by
  cases op <;> simp only [cOp, Option.bind_eq_bind, reduceCtorEq] at h
  case call c =>
    refine ⟨c, ?_⟩
    unfold cCall at h
    split at h
    · rename_i x hx
      simp only [Option.bind_eq_bind, Option.bind_eq_some_iff, Option.some.injEq, AOp.call.injEq] at h
      obtain ⟨y, hy, ys, hys, rfl, rfl⟩ := h
      exact ⟨x, rfl, hx, hy, hys⟩
    · cases h
    · exfalso
      revert h
      (repeat' split) <;> simp [Option.bind_eq_some_iff] <;> (intros; (repeat' split) <;> simp [Option.bind_eq_some_iff])
  case binOp op t x y u => exact absurd rfl ((cBin_not h).1 _ _)
  all_goals
    exfalso
    revert h
    simp [Option.bind_eq_some_iff]
    try (intros; (repeat' split) <;> (try simp [Option.bind_eq_some_iff]) <;> (try (intros; (repeat' split) <;> simp [Option.bind_eq_some_iff])))

theorem cOp_panic {P : Program} {op : Op} {z : AX} (h : cOp P op = some (.panic z)) : ∃ x, cX x = some z ∧ (op = .panic x ∨ ∃ c, op = .call c ∧ c.callee = .builtin .panic ∧ c.args.toList = [x]) := by
  cases op <;> simp only [cOp, Option.bind_eq_bind, reduceCtorEq] at h
  case call c =>
    unfold cCall at h
    split at h
    · simp [Option.bind_eq_some_iff] at h
    · cases h
    · rename_i b hb
      split at h
      case h_7 =>
        rename_i x ha
        simp only [Option.bind_eq_bind, Option.bind_eq_some_iff, Option.some.injEq, AOp.panic.injEq] at h
        obtain ⟨y, hy, rfl⟩ := h
        exact ⟨x, hy, .inr ⟨c, rfl, hb, ha⟩⟩
      all_goals
        exfalso
        revert h
        simp [Option.bind_eq_some_iff]
        try (intros; (repeat' split) <;> (try simp [Option.bind_eq_some_iff]) <;> (try (intros; (repeat' split) <;> simp [Option.bind_eq_some_iff])))
  case binOp op t x y u => exact absurd rfl ((cBin_not h).2 _)
  case panic x =>
    simp only [Option.bind_eq_some_iff, Option.some.injEq, AOp.panic.injEq] at h
    obtain ⟨y, hy, rfl⟩ := h
    exact ⟨x, hy, .inl rfl⟩
  all_goals
    exfalso
    revert h
    simp [Option.bind_eq_some_iff]
    try (intros; (repeat' split) <;> (try simp [Option.bind_eq_some_iff]) <;> (try (intros; (repeat' split) <;> simp [Option.bind_eq_some_iff])))

theorem func_inv {g : FuncId} {first cap : Array Value} {x' : Value} (h : VR ρ (.func (.func g) first cap) x') : ∃ first' cap' : List Value, x' = .func (.func g) ⟨first'⟩ ⟨cap'⟩ ∧ VRL ρ first.toList first' ∧ VRL ρ cap.toList cap' := by
  cases h with | func _ h1 h2 => exact ⟨_, _, rfl, h1, h2⟩

theorem yield_inv {l : Nat} {first cap : Array Value} {x' : Value} (h : VR ρ (.func (.yield l) first cap) x') : ∃ A, x' = .func (.yield A) #[] #[] ∧ ρ l = some (A, 0, 0) := by
  cases h with | yield h => exact ⟨_, rfl, h⟩

/-- An operation that leads into a function. -/
theorem op_enter {ao : AOp} (hf : FR ρ fr a) (hc : cOp K.P o.op = some ao) {g : Tgt} {args : List Value} (h : aop ao (ev fr) H = some (.enter g args, H')) :
    H' = H ∧ ∃ args', VRL ρ args args' ∧ (match g with
      | .fn f => execOp a.eval o = callFunc f ⟨args'⟩
      | .yield l => ∃ A, ρ l = some (A, 0, 0) ∧ execOp a.eval o = Instr.yield A ⟨args'⟩) := by
  obtain ⟨f, as, rfl⟩ := aop_call h
  obtain ⟨c, x, ho, hcal, hx, has⟩ := cOp_call hc
  have rx := cX_sound hf hx
  have ras := cXs_sound hf has
  have hargs : c.args.map a.eval = ⟨c.args.toList.map a.eval⟩ := by apply Array.ext'; simp
  simp only [aop] at h
  split at h
  · rename_i g' first cap he
    simp only [Option.some.injEq, Prod.mk.injEq, AR.enter.injEq] at h
    obtain ⟨⟨rfl, rfl⟩, rfl⟩ := h
    rw [he] at rx
    obtain ⟨xs', ys', hcv, h1, h2⟩ := func_inv rx
    refine ⟨rfl, xs' ++ c.args.toList.map a.eval ++ ys', (h1.append ras).append h2, ?_⟩
    simp only [execOp, ho, resolve, hcal, hcv, Deferred.ofValue, hargs]
    show invoke (.fn (.func g') ⟨ys'⟩) (⟨xs'⟩ ++ ⟨c.args.toList.map a.eval⟩) = _
    simp only [invoke]
    congr 1
    apply Array.ext'; simp
  · rename_i l q r he
    simp only [Option.some.injEq, Prod.mk.injEq, AR.enter.injEq] at h
    obtain ⟨⟨rfl, rfl⟩, rfl⟩ := h
    rw [he] at rx
    obtain ⟨A, hcv, hρ⟩ := yield_inv rx
    refine ⟨rfl, c.args.toList.map a.eval, ras, A, hρ, ?_⟩
    simp only [execOp, ho, resolve, hcal, hcv, Deferred.ofValue, hargs]
    show invoke (.fn (.yield A) #[]) (#[] ++ ⟨c.args.toList.map a.eval⟩) = _
    simp only [invoke]
    congr 1
    apply Array.ext'; simp
  · cases h

/-- An operation that panics. -/
theorem op_panic {ao : AOp} (hf : FR ρ fr a) (hc : cOp K.P o.op = some ao) (h : aop ao (ev fr) H = some (.panic v, H')) :
    H' = H ∧ ∃ v', VR ρ v v' ∧ (execOp a.eval o).run K.P w = .halt (.panic v') w := by
  obtain ⟨z, rfl⟩ := aop_panic h
  obtain ⟨x, hx, ho⟩ := cOp_panic hc
  have rx := cX_sound hf hx
  simp only [aop] at h
  split at h
  · rename_i t u he
    simp only [Option.some.injEq, Prod.mk.injEq, AR.panic.injEq] at h
    obtain ⟨rfl, rfl⟩ := h
    refine ⟨rfl, a.eval x, by rw [he] at rx; exact rx, ?_⟩
    rw [he] at rx
    cases hcv : a.eval x <;> rw [hcv] at rx <;> cases rx
    rcases ho with ho | ⟨c, ho, hb, ha⟩
    · simp [execOp, ho, hcv, Instr.panic]
    · obtain ⟨cs, hrun⟩ := run_builtin (a := a) ho hb ha rfl
      rw [hrun]
      simp [builtin, Instr.panic, hcv]
  · cases h

end
end Go.Proofs.Am

/- Code of the small machine does what the model's does: one operation with its call; a region in the text's order. -/
namespace Go.Proofs.Am
open Go Go.RowKit

/-- Every function may be called; ro: the round that is walked. -/
def wd (ro : Option Nat) : Fence := { Fence.wide with round := ro }

/-- What a call comes to. -/
def RetR (K : Ctx) (ρ : Ren) (H : Mem) (w : World) (r : Except Value Value) (H' : Mem) : Ending → World → Prop := fun e w' =>
  ∃ ρ', Stp K ρ H w ρ' H' w' ∧ (match r with
    | .ok v => ∃ v', e = .returned v' ∧ VR ρ' v v'
    | .error v => ∃ v', e = .panicked [{ v := v', recovered := false }] ∧ VR ρ' v v')

/-- What is known of the calls that are made. -/
def InvOK (K : Ctx) (i : Inv) : Prop := ∀ tgt args H r H', i tgt args H = some (r, H') → H.length ≤ H'.length ∧ ∀ ρ w args', HR K ρ H w → VRL ρ args args' → Free ρ H.length H'.length →
  match tgt with
  | .fn f => (∃ fn, K.P.funcs[f]? = some fn ∧ (fn.name == "runtime.NumGoroutine") = false ∧ fn.body.isNone = false) ∧ CallsIn (wd none) 0 K.P f ⟨args'⟩ w (RetR K ρ H w r H')
  | .yield l => ∀ A, ρ l = some (A, 0, 0) → ∃ f tmps assign body, (Instr.yield A ⟨args'⟩).run K.P w = .ok (.round A f tmps assign body) w ∧ RoundIn (wd none) 0 K.P A f tmps assign body w (RetR K ρ H w r H')

theorem callFunc_run {P : Program} {f : FuncId} {fn : Func} (h : P.funcs[f]? = some fn) (hn : (fn.name == "runtime.NumGoroutine") = false) (hb : fn.body.isNone = false) (args : Array Value) (w : World) : (callFunc f args).run P w = .ok (.enter f args) w := by
  simp only [callFunc, Sem.run_bind, run_program, Result.andThen_ok, h, hn, hb, Bool.false_eq_true, if_false, Sem.run_pure]

theorem ok_len {ao : AOp} {e : AX → Value} {H H' : Mem} {v : Value} (h : aop ao e H = some (.val v, H')) : H.length ≤ H'.length := by
  have key : ∀ (b o : Nat) (vs : List Value) (H1 : Mem), wrN H b o vs = some H1 → H.length ≤ H1.length := by
    intro b o vs H1 h
    unfold wrN at h
    split at h
    · split at h
      · cases h; simp
      · cases h
    · cases h
  have app : ∀ (t : TypeId) (size bytes : Nat) (s x v : Value), appendA t size bytes s x H = some (v, H') → H.length ≤ H'.length := by
    intro t size bytes s x v h
    unfold appendA at h
    revert h
    (repeat' split) <;> intro h <;> first
      | (cases h; done)
      | (cases h; simp; done)
      | (simp only [Option.map_eq_some_iff, Prod.mk.injEq] at h; obtain ⟨H1, h1, _, rfl⟩ := h; first | exact key _ _ _ _ h1 | simp)
  cases ao <;> simp only [aop] at h
  case append t size bytes s x =>
    simp only [Option.map_eq_some_iff, Prod.mk.injEq] at h
    obtain ⟨⟨v1, H1⟩, h1, _, rfl⟩ := h
    exact app _ _ _ _ _ _ h1
  all_goals
    revert h
    (repeat' split) <;> intro h <;> first
      | (cases h; done)
      | (cases h; exact Nat.le_refl _)
      | (cases h; simp; done)
      | (simp only [Option.map_eq_some_iff, Prod.mk.injEq] at h; obtain ⟨x1, h1, _, rfl⟩ := h; first | exact Nat.le_refl _ | exact key _ _ _ _ h1 | simp)

section
variable {K : Ctx} {ρ : Ren} {H H' : Mem} {w : World} {fr : List Value} {a : Act} {o : Oper} {v : Value} {i : Inv}

theorem step1_len' (hi : InvOK K i) {ao : AOp} {r : Except Value Value} {e : AX → Value} (h : step1 i ao e H = some (r, H')) : H.length ≤ H'.length := by
  unfold step1 at h
  split at h
  · rename_i v1 H1 he; cases h; exact ok_len he
  · rename_i v1 H1 he; cases h
    obtain ⟨z, rfl⟩ := aop_panic he
    simp only [aop] at he
    split at he <;> cases he; exact Nat.le_refl _
  · rename_i g args H1 he
    obtain ⟨f, as, rfl⟩ := aop_call he
    have : H1 = H := by
      simp only [aop] at he
      split at he <;> simp at he <;> exact he.2.symm
    subst this
    exact (hi _ _ _ _ _ h).1
  · cases h

theorem step1_len (hi : InvOK K i) {ao : AOp} (_ : cOp K.P o.op = some ao) {r : Except Value Value} {e : AX → Value} (h : step1 i ao e H = some (r, H')) : H.length ≤ H'.length := step1_len' hi h

theorem not_defer {P : Program} {op : Op} {ao : AOp} (hc : cOp P op = some ao) : ∀ c, op ≠ .defer c := by
  rintro c rfl; simp [cOp] at hc

/-- One operation, its call made. -/
theorem step1_sound (hi : InvOK K i) (hr : HR K ρ H w) (hf : FR ρ fr a) {ao : AOp} (hc : cOp K.P o.op = some ao) {r : Except Value Value} (h : step1 i ao (ev fr) H = some (r, H')) (hfree : Free ρ H.length H'.length) {ro : Option Nat}
    {next : Act → World → Prop} {Q : Exit → Act → World → Prop}
    (hok : ∀ v, r = .ok v → ∀ v' w' ρ', Stp K ρ H w ρ' H' w' → VR ρ' v v' → next (a.put o.dst v') w')
    (herr : ∀ v, r = .error v → ∀ v' w' ρ', Stp K ρ H w ρ' H' w' → VR ρ' v v' → Q (.panic [{ v := v', recovered := false }]) a w') :
    o.wpIn (wd ro) 0 K.P a w next Q := by
  refine ⟨fun _ _ => trivial, ?_⟩
  rw [Oper.semAt_eq _ _ _ (not_defer hc)]
  unfold step1 at h
  split at h
  · rename_i v1 H1 he
    cases h
    obtain ⟨v', w', ρ', hran, hst, hv⟩ := op_val hr hf hfree hc he
    rcases hran with hran | ⟨hran, rfl⟩
    · rw [hran]; exact hok _ rfl _ _ _ hst hv
    · rw [hran]; exact hok _ rfl _ _ _ hst hv
  · rename_i v1 H1 he
    cases h
    obtain ⟨rfl, v', hv, hrun⟩ := op_panic (w := w) hf hc he
    rw [hrun]
    exact herr _ rfl _ _ _ (.refl hr) hv
  · rename_i g args H1 he
    obtain ⟨rfl, args', hargs, hexec⟩ := op_enter hf hc he
    have hcall := (hi _ _ _ _ _ h).2 ρ w args' hr hargs hfree
    cases g with
    | fn f =>
      obtain ⟨⟨fn, h1, h2, h3⟩, hcall⟩ := hcall
      simp only at hexec
      rw [hexec, callFunc_run h1 h2 h3]
      refine ⟨fun h => by simp [wd, Fence.wide] at h, ?_⟩
      refine CallsIn.mono (show CallsIn (wd ro) _ K.P f ⟨args'⟩ w _ from hcall) ?_
      rintro e w' ⟨ρ', hst, hres⟩
      cases r with
      | ok v =>
        obtain ⟨v', rfl, hv⟩ := hres
        exact hok _ rfl _ _ _ hst hv
      | error v =>
        obtain ⟨v', rfl, hv⟩ := hres
        exact herr _ rfl _ _ _ hst hv
    | yield l =>
      obtain ⟨A, hρ, hexec⟩ := hexec
      obtain ⟨f, tmps, assign, body, hy, hround⟩ := hcall A hρ
      rw [hexec, hy]
      refine ⟨fun h => by simp [wd, Fence.wide] at h, ?_⟩
      refine RoundIn.mono (show RoundIn (wd ro) _ K.P A f tmps assign body w _ from hround) ?_
      rintro e w' ⟨ρ', hst, hres⟩
      cases r with
      | ok v =>
        obtain ⟨v', rfl, hv⟩ := hres
        exact hok _ rfl _ _ _ hst hv
      | error v =>
        obtain ⟨v', rfl, hv⟩ := hres
        exact herr _ rfl _ _ _ hst hv
  · cases h

/-- Marks that a range over a function leaves among an activation's deferred calls. -/
def MK (bd : Nat) (ρ : Ren) (w : World) (ds : List Deferred) : Prop :=
  ∃ rs : List Nat, ds = rs.map (fun r => { target := .collected r, args := #[] }) ∧ rs.Nodup ∧ ∀ r ∈ rs, w.heap[r]? = some (.deferred (some [])) ∧ bd ≤ r ∧ ∀ b s, ρ b ≠ some (r, s)

theorem MK.step {K : Ctx} {bd : Nat} {ρ ρ' : Ren} {H H' : Mem} {w w' : World} {ds : List Deferred} (h : MK bd ρ w ds) (hs : Stp K ρ H w ρ' H' w') : MK bd ρ' w' ds := by
  obtain ⟨rs, rfl, hnd, hall⟩ := h
  refine ⟨rs, rfl, hnd, fun r hr => ?_⟩
  obtain ⟨h1, h2, h3⟩ := hall r hr
  have hlt := lt_of_heap h1
  refine ⟨(hs.fr r hlt (fun b s e => absurd e (h3 b s))).trans h1, h2, fun b s e => ?_⟩
  rcases hs.new b r s e with h4 | h4 | ⟨b0, s0, _, e0⟩
  · exact h3 b s h4
  · omega
  · exact h3 b0 s0 e0

/-- The way in which code is left, on both sides. -/
inductive OutR (ρ : Ren) : AOut → Exit → Prop
  | normal : OutR ρ .normal .normal
  | exit (id : Nat) : OutR ρ (.exit id) (.exit id)
  | ret : OutR ρ .ret .ret
  | panic {v v' : Value} (h : VR ρ v v') : OutR ρ (.panic v) (.panic [{ v := v', recovered := false }])

/-- What is asked of whoever takes up what code comes to. -/
def Takes (K : Ctx) (bd : Nat) (ρ : Ren) (H : Mem) (w : World) (ds : List Deferred) (out : AOut) (fr' : List Value) (H' : Mem) (Q : Exit → Act → World → Prop) : Prop :=
  ∀ a' w' ρ' e, Stp K ρ H w ρ' H' w' → ((∀ v, out ≠ .panic v) → FR ρ' fr' a') → OutR ρ' out e → (∃ ms, a'.defers = ms ++ ds ∧ MK bd ρ' w' a'.defers) → Q e a' w'

theorem wanted_eq {all : List Oper} {aall : List AOper} (hall : ∀ j : Nat, ((all[j]?).bind (·.dst)) = ((aall[j]?).bind (·.dst))) {o : Oper} {ao : AOper} (hg : o.guard = ao.guard) (hf : FR ρ fr a) {b : Bool} (h : wantedA aall fr ao = some b) :
    Region.wanted o (yielded all.toArray a.tmps) = b := by
  unfold wantedA at h
  unfold Region.wanted
  rw [hg]
  split at h
  · rename_i e; rw [e]; cases h; rfl
  · rename_i j c e
    rw [e]
    show (yielded all.toArray a.tmps j == some c) = b
    have hj : ((all.toArray[j]?).bind (·.dst)) = (aall[j]?).bind (·.dst) := by rw [← hall j]; simp
    split at h
    · rename_i d hd
      rw [hd] at hj
      simp only [yielded, hj, Option.bind_some]
      cases hfr : fr[d]? with
      | none =>
        rw [hfr] at h
        cases h
        have : a.tmps[d]? = none := by
          rw [Array.getElem?_eq_none_iff]
          rw [List.getElem?_eq_none_iff] at hfr
          have := VRL.length hf
          simp at this; omega
        rw [this]; rfl
      | some x =>
        rw [hfr] at h
        obtain ⟨x', hx', hv⟩ := VRL.get hf d x hfr
        have : a.tmps[d]? = some x' := by simpa using hx'
        rw [this]
        cases hv <;> simp only [reduceCtorEq, Option.some.injEq] at h <;> subst h <;> rfl
    · rename_i hd
      rw [hd] at hj
      cases h
      simp only [yielded, hj]; rfl

end
end Go.Proofs.Am

/- Code of the small machine does what the model's does: a region in the text's order. -/
namespace Go.Proofs.Am
open Go Go.RowKit

theorem Free.step {K : Ctx} {ρ ρ1 : Ren} {H H1 : Mem} {w w1 : World} {m : Nat} (hf : Free ρ H.length m) (hs : Stp K ρ H w ρ1 H1 w1) : Free ρ1 H1.length m := by
  intro b hb hm
  rw [hs.ext b (.inr hb)]
  exact hf b (Nat.le_trans hs.len hb) hm

theorem Free.le {ρ : Ren} {n m m' : Nat} (hf : Free ρ n m) (h : m' ≤ m) : Free ρ n m' := fun b hb hm => hf b hb (Nat.lt_of_lt_of_le hm h)

theorem Takes.step {K : Ctx} {bd : Nat} {ρ ρ1 : Ren} {H H1 H' : Mem} {w w1 : World} {ds : List Deferred} {out : AOut} {fr' : List Value} {Q : Exit → Act → World → Prop} (h : Takes K bd ρ H w ds out fr' H' Q) (hs : Stp K ρ H w ρ1 H1 w1) :
    Takes K bd ρ1 H1 w1 ds out fr' H' Q := fun a' w' ρ' e st => h a' w' ρ' e (hs.trans st)

/-- The marks of an activation. -/
def Marked (bd : Nat) (ρ : Ren) (w : World) (ds : List Deferred) (a : Act) : Prop := ∃ ms, a.defers = ms ++ ds ∧ MK bd ρ w a.defers

theorem Marked.step {K : Ctx} {bd : Nat} {ρ ρ1 : Ren} {H H1 : Mem} {w w1 : World} {ds : List Deferred} {a : Act} (h : Marked bd ρ w ds a) (hs : Stp K ρ H w ρ1 H1 w1) : Marked bd ρ1 w1 ds a :=
  let ⟨ms, e, m⟩ := h; ⟨ms, e, m.step hs⟩

theorem put_defers (a : Act) (d : Option Tmp) (v : Value) : (a.put d v).defers = a.defers := by cases d <;> rfl

theorem Marked.put {bd : Nat} {ρ : Ren} {w : World} {ds : List Deferred} {a : Act} (h : Marked bd ρ w ds a) (d : Option Tmp) (v : Value) : Marked bd ρ w ds (a.put d v) := by
  unfold Marked; rw [put_defers]; exact h

theorem cOpers_get {P : Program} : ∀ {os : List Oper} {as : List AOper}, cOpers P os = some as → ∀ {j : Nat} {o : Oper}, os[j]? = some o → ∃ ao, as[j]? = some ao ∧ cOper P o = some ao
  | [], as, h, j, o, e => by simp at e
  | o :: os, as, h, j, o', e => by
    simp only [cOpers, Option.bind_eq_bind, Option.bind_eq_some_iff, Option.some.injEq] at h
    obtain ⟨ao, ha, r, hr, rfl⟩ := h
    cases j with
    | zero => simp at e; subst e; exact ⟨ao, rfl, ha⟩
    | succ j => simpa using cOpers_get hr (by simpa using e)

theorem cOpers_length {P : Program} : ∀ {os : List Oper} {as : List AOper}, cOpers P os = some as → as.length = os.length
  | [], as, h => by simp [cOpers] at h; subst h; rfl
  | o :: os, as, h => by
    simp only [cOpers, Option.bind_eq_bind, Option.bind_eq_some_iff, Option.some.injEq] at h
    obtain ⟨ao, ha, r, hr, rfl⟩ := h
    simp [cOpers_length hr]

theorem cOper_spec {P : Program} {o : Oper} {ao : AOper} (h : cOper P o = some ao) : ao.dst = o.dst ∧ ao.guard = o.guard ∧ cOp P o.op = some ao.op := by
  simp only [cOper, Option.bind_eq_bind, Option.bind_eq_some_iff, Option.some.injEq] at h
  obtain ⟨op, hop, rfl⟩ := h
  exact ⟨rfl, rfl, hop⟩

theorem cOpers_dst {P : Program} {os : List Oper} {as : List AOper} (h : cOpers P os = some as) (j : Nat) : ((os[j]?).bind (·.dst)) = ((as[j]?).bind (·.dst)) := by
  cases e : os[j]? with
  | none =>
    have : as[j]? = none := by rw [List.getElem?_eq_none_iff] at e ⊢; have := cOpers_length h; omega
    rw [this]; rfl
  | some o =>
    obtain ⟨ao, ha, hc⟩ := cOpers_get h e
    rw [ha]; simp [(cOper_spec hc).1]

section
variable {K : Ctx} {bd : Nat} {i : Inv}

theorem exOps_len (hi : InvOK K i) {all : List AOper} : ∀ {suf : List Oper} {asuf : List AOper}, cOpers K.P suf = some asuf → ∀ {fr : List Value} {H : Mem} {tr : List (List Value × Mem)} {out fr' H' tr'},
    exOps i all asuf fr H tr = some (out, fr', H', tr') → H.length ≤ H'.length
  | [], asuf, hc, fr, H, tr, out, fr', H', tr', h => by
    simp [cOpers] at hc; subst hc
    simp only [exOps, Option.some.injEq, Prod.mk.injEq] at h
    obtain ⟨_, _, rfl, _⟩ := h; exact Nat.le_refl _
  | o :: suf, asuf, hc, fr, H, tr, out, fr', H', tr', h => by
    simp only [cOpers, Option.bind_eq_bind, Option.bind_eq_some_iff, Option.some.injEq] at hc
    obtain ⟨ao, ha, as, has, rfl⟩ := hc
    have hop := (cOper_spec ha).2.2
    simp only [exOps] at h
    split at h
    · split at h
      · rename_i v H1 hs
        exact Nat.le_trans (step1_len (o := o) hi hop hs) (exOps_len hi has h)
      · rename_i v H1 hs
        simp only [Option.some.injEq, Prod.mk.injEq] at h
        obtain ⟨_, _, rfl, _⟩ := h
        exact step1_len (o := o) hi hop hs
      · cases h
    · exact exOps_len hi has h
    · cases h

theorem exOps_sound (hi : InvOK K i) {all : List Oper} {aall : List AOper} (hall : cOpers K.P all = some aall) {ro : Option Nat} {Q : Exit → Act → World → Prop} {ds : List Deferred} :
    ∀ (suf pre : List Oper) {asuf : List AOper}, all = pre ++ suf → cOpers K.P suf = some asuf → ∀ {fr : List Value} {H : Mem} {tr : List (List Value × Mem)} {out fr' H' tr'} {a : Act} {w : World} {ρ : Ren},
      exOps i aall asuf fr H tr = some (out, fr', H', tr') → HR K ρ H w → FR ρ fr a → Free ρ H.length H'.length → Marked bd ρ w ds a → Takes K bd ρ H w ds out fr' H' Q →
      wpOpsIn (wd ro) 0 K.P all.toArray Q (List.range' pre.length suf.length) a w
  | [], pre, asuf, he, hc, fr, H, tr, out, fr', H', tr', a, w, ρ, h, hr, hf, hfree, hm, ht => by
    simp [cOpers] at hc; subst hc
    simp only [exOps, Option.some.injEq, Prod.mk.injEq] at h
    obtain ⟨rfl, rfl, rfl, rfl⟩ := h
    exact ht a w ρ .normal (.refl hr) (fun _ => hf) .normal hm
  | o :: suf, pre, asuf, he, hc, fr, H, tr, out, fr', H', tr', a, w, ρ, h, hr, hf, hfree, hm, ht => by
    simp only [cOpers, Option.bind_eq_bind, Option.bind_eq_some_iff, Option.some.injEq] at hc
    obtain ⟨ao, ha, as, has, rfl⟩ := hc
    obtain ⟨hdst, hgd, hop⟩ := cOper_spec ha
    have hget : all.toArray[pre.length]? = some o := by subst he; simp
    have hrec : all = (pre ++ [o]) ++ suf := by subst he; simp
    simp only [List.length_cons, List.range'_succ, wpOpsIn, hget]
    have hlen1 : pre.length + 1 = (pre ++ [o]).length := by simp
    simp only [exOps] at h
    split at h
    · rename_i hw
      have hw' := wanted_eq (fun j => cOpers_dst hall j) hgd.symm hf hw
      rw [if_pos hw']
      split at h
      · rename_i v H1 hs
        have hl1 := step1_len (o := o) hi hop hs
        have hl2 := exOps_len hi has h
        refine step1_sound hi hr hf hop hs (hfree.le hl2) (fun v1 e v' w' ρ' hst hv => ?_) (fun v1 e => by cases e)
        cases e
        rw [hlen1]
        exact exOps_sound hi hall suf (pre ++ [o]) hrec has h hst.hr (by rw [hdst]; exact FR.put (VRL.mono (hst.sub (hfree.le hl2)) hf) _ hv) (hfree.step hst) ((hm.step hst).put _ _) (ht.step hst)
      · rename_i v H1 hs
        simp only [Option.some.injEq, Prod.mk.injEq] at h
        obtain ⟨rfl, rfl, rfl, rfl⟩ := h
        refine step1_sound hi hr hf hop hs hfree (fun v1 e => by cases e) (fun v1 e v' w' ρ' hst hv => ?_)
        cases e
        exact ht a w' ρ' _ hst (fun h => absurd rfl (h v)) (.panic hv) (hm.step hst)
      · cases h
    · rename_i hw
      have hw' := wanted_eq (fun j => cOpers_dst hall j) hgd.symm hf hw
      rw [if_neg (by rw [hw']; simp)]
      refine ⟨fun _ _ => trivial, ?_⟩
      rw [hlen1]
      exact exOps_sound hi hall suf (pre ++ [o]) hrec has h hr (by rw [hdst]; exact hf.put _ (.tuple .nil)) hfree (hm.put _ _) ht
    · cases h

/-- A region in the text's order. -/
theorem region_plain (hi : InvOK K i) {id : Nat} {ops : Array Oper} {as : List AOper} (hc : cOpers K.P ops.toList = some as) {ro : Option Nat} {Q : Exit → Act → World → Prop} {ds : List Deferred} {fr : List Value} {H : Mem} {out fr' H'} {a : Act} {w : World} {ρ : Ren}
    {chk : List (Nat × Nat)} {pk : List Nat} (h : exRegion i false as chk pk fr H = some (out, fr', H')) (hr : HR K ρ H w) (hf : FR ρ fr a) (hfree : Free ρ H.length H'.length) (hm : Marked bd ρ w ds a) (ht : Takes K bd ρ H w ds out fr' H' Q) :
    (Code.region id ops false).wpIn (wd ro) 0 K.P Q a w := by
  refine wpIn_region ?_
  have key : ∃ tr, exOps i as as fr H [] = some (out, fr', H', tr) := by
    unfold exRegion at h
    split at h
    · rename_i f1 H1 tr e
      simp only [Bool.not_false, Bool.true_or, if_true, Option.some.injEq, Prod.mk.injEq] at h
      obtain ⟨rfl, rfl, rfl⟩ := h; exact ⟨tr, e⟩
    · rename_i o1 f1 H1 tr _ e
      simp only [Bool.not_false, Bool.true_or, if_true, Option.some.injEq, Prod.mk.injEq] at h
      obtain ⟨rfl, rfl, rfl⟩ := h; exact ⟨tr, e⟩
    · cases h
  obtain ⟨tr, key⟩ := key
  have := exOps_sound (ro := ro) (Q := Q) (ds := ds) hi hc ops.toList [] rfl hc key hr hf hfree hm ht
  simpa [List.range_eq_range'] using this

end
end Go.Proofs.Am
