/- Runs by pure values: slices that turn no more are lists. No conditions. -/
import Derived.Test.YtcpadbcapeiicaaGreatMachineB
set_option linter.unusedVariables false
set_option linter.unusedSimpArgs false
/- Pure values over the small machine's memory: what is never written again stands as a list. Definitions alone. -/
namespace Go.Proofs.Pm
open Go Go.Proofs.Am

/-- What is known of a capacity: just so many; grown (elements of so many cells); full, or grown and not empty. -/
inductive Cap where
  | k (c : Nat)
  | x (sz : Nat)
  | u (sz : Nat)
  deriving Inhabited

inductive PV where
  /-- Nothing is known. -/
  | un
  | int (k : IntKind) (n : Int)
  | bool (b : Bool)
  | str (s : List UInt8)
  | nilF | nilI | nilP | nilM
  /-- A place of a block that may turn: the slot, its generation, the place. -/
  | ptr (i g o : Nat)
  /-- A place of what turns no more: the cells from there on. -/
  | cptr (cs : List PV)
  | sl (i g o n : Nat) (c : Cap)
  /-- A slice of what turns no more: the cells of an element, whether there is no room behind it, its elements. -/
  | lst (sz : Nat) (clip : Bool) (xs : List PV)
  | map (i : Nat)
  | fn (f : FuncId) (first cap : List PV)
  | yield (i : Nat)
  | iface (t : TypeId) (v : PV)
  | agg (cs : List PV)
  | tup (vs : List PV)
  deriving Inhabited

inductive PBlk where
  | cells (g : Nat) (cs : List PV)
  | map (es : List (PV × PV))
  | loop (st : LoopState) (pend : Option ACode) (fr : List PV) (params : List Nat) (assign body : ACode)
  /-- Nothing stands there yet. -/
  | nil (g : Nat)
  | gone

abbrev PH := List PBlk

inductive PTgt where
  | fn (f : FuncId)
  | yield (i : Nat)

inductive PR where
  | val (v : PV)
  | enter (g : PTgt) (args : List PV)
  | panic (v : PV)

inductive POut where
  | normal
  | exit (id : Nat)
  | ret
  | panic (v : PV)

/-- A number, a bool, a text, what is nil: as a pure value. -/
def cval1 : Value → PV
  | .int k n => .int k n
  | .bool b => .bool b
  | .string s => .str s.data.toList
  | .nilFunc => .nilF
  | .nilIface => .nilI
  | .pointer none => .nilP
  | .map none => .nilM
  | .slice none 0 0 => .lst 0 true []
  | _ => .un

def cval : Value → PV
  | .agg cs => .agg (cs.toList.map cval1)
  | v => cval1 v

def pev (fr : List PV) : AX → PV
  | .t n => fr.getD n .un
  | .c v => cval v
  | .f id => .fn id [] []

/-- The cells of an element. -/
def ecs : PV → List PV
  | .agg cs => cs
  | v => [v]

/-- The cells of a value that can be stored. -/
def pcells : PV → Option (List PV)
  | .agg cs => some cs
  | .tup _ | .un => none
  | v => some [v]

def pone : PV → Bool
  | .agg _ | .tup _ | .un => false
  | _ => true

def pwr : List PV → Nat → List PV → List PV
  | cs, _, [] => cs
  | cs, o, v :: vs => pwr (cs.set o v) (o + 1) vs

def pfill (e : AX → PV) : List PV → List (Nat × Nat × AX) → Option (List PV)
  | cs, [] => some cs
  | cs, (off, size, x) :: ps =>
    match pcells (e x) with
    | some vs => if vs.length = size ∧ off + size ≤ cs.length then pfill e (pwr cs off vs) ps else none
    | none => none

def pbin (op : BinOp) : PV → PV → Option PV
  | .int k a, .int k' b => (abin op (.int k a) (.int k' b)).map cval1
  | .str a, .str b =>
    match op with
    | .add => if a.length + b.length ≤ 140737488355328 then some (.str (a ++ b)) else none
    | .eql => some (.bool (a == b))
    | .neq => some (.bool !(a == b))
    | .lss => some (.bool (Op.bytesLess a b))
    | _ => none
  | _, _ => none

def pnil : NK → PV → Option Bool
  | .ptr, .nilP => some true
  | .ptr, .ptr _ _ _ => some false
  | .ptr, .cptr _ => some false
  | .slice, .sl _ _ _ (_ + 1) _ => some false
  | .slice, .lst _ _ (_ :: _) => some false
  | .map, .nilM => some true
  | .map, .map _ => some false
  | .func, .nilF => some true
  | .func, .fn _ _ _ => some false
  | .iface, .nilI => some true
  | .iface, .iface _ _ => some false
  | _, _ => none

def peqPrim : PK → PV → PV → Option Bool
  | .int, .int k a, .int k' b => if k = k' then some (a == b) else none
  | .bool, .bool a, .bool b => some (a == b)
  | .str, .str a, .str b => some (a == b)
  | _, _, _ => none

def peqCells : List PK → List PV → List PV → Option Bool
  | [], [], [] => some true
  | p :: ps, x :: xs, y :: ys =>
    match peqPrim p x y, peqCells ps xs ys with
    | some a, some b => some (a && b)
    | _, _ => none
  | _, _, _ => none

def peqKey : KT → PV → PV → Option Bool
  | .sc p, x, y => peqPrim p x y
  | .st ps, .agg a, .agg b => peqCells ps a b
  | _, _, _ => none

def pun (op : UnOp) : PV → Option PV
  | .bool b => (aun op (.bool b)).map cval1
  | .int k n => (aun op (.int k n)).map cval1
  | _ => none

def pbnd (y : Nat) : PV → Option Nat
  | .int _ i => if 0 ≤ i ∧ i ≤ y then some i.toNat else none
  | _ => none

def pbndO (e : AX → PV) (y d : Nat) : Option AX → Option Nat
  | none => some d
  | some x => pbnd y (e x)

/-- A slice of a slice. -/
def psl (size : Nat) (e : AX → PV) (x : PV) (lo hi mx : Option AX) : Option PV :=
  match x with
  | .lst sz clip xs =>
    if sz = size ∨ clip = true ∧ xs.length = 0 then
      match mx with
      | none =>
        match pbndO e xs.length xs.length hi with
        | some h => match pbndO e h 0 lo with
          | some l => some (.lst size (clip && decide (h = xs.length)) ((xs.take h).drop l))
          | none => none
        | none => none
      | some z =>
        match pbnd xs.length (e z), hi with
        | some m, some y => match pbnd m (e y) with
          | some h => match pbndO e h 0 lo with
            | some l => some (.lst size (decide (h = m)) ((xs.take h).drop l))
            | none => none
          | none => none
        | _, _ => none
    else none
  | .sl i g o n (.k c) =>
    match mx with
    | none =>
      match pbndO e c n hi with
      | some h => match pbndO e h 0 lo with
        | some l => some (.sl i g (if c = l then o else o + l * size) (h - l) (.k (c - l)))
        | none => none
      | none => none
    | some x =>
      match pbnd c (e x), hi with
      | some m, some y => match pbnd m (e y) with
        | some h => match pbndO e h 0 lo with
          | some l => some (.sl i g (if m = l then o else o + l * size) (h - l) (.k (m - l)))
          | none => none
        | none => none
      | _, _ => none
  | .sl i g o n (.x sz) =>
    if sz = size then
      match mx with
      | none =>
        match pbndO e n n hi with
        | some h => match pbndO e h 0 lo with
          | some l => some (.sl i g (o + l * size) (h - l) (.x size))
          | none => none
        | none => none
      | some x =>
        match pbnd n (e x), hi with
        | some m, some y => match pbnd m (e y) with
          | some h => match pbndO e h 0 lo with
            | some l => some (.sl i g (if m = l then o else o + l * size) (h - l) (.k (m - l)))
            | none => none
          | none => none
        | _, _ => none
    else none
  | _ => none

def pfind (kt : KT) (k : PV) : List (PV × PV) → Nat → Option (Option (Nat × PV))
  | [], _ => some none
  | e :: es, i =>
    match peqKey kt k e.1 with
    | some true => some (some (i, e.2))
    | some false => pfind kt k es (i + 1)
    | none => none

def ppart (n : Option Nat) (cs : List PV) (off : Nat) : Option PV :=
  match n with
  | none => cs[off]?
  | some k => if off + k ≤ cs.length then some (.agg ((cs.drop off).take k)) else none

/-- The cells of a slot, at a generation. -/
def slot (H : PH) (i g : Nat) : Option (List PV) :=
  match H[i]? with
  | some (.cells g' cs) => if g' = g then some cs else none
  | _ => none

/-- The cells of a slot of a slice that may be nil. -/
def slotN (H : PH) (i g n : Nat) : Option (List PV) :=
  match H[i]? with
  | some (.cells g' cs) => if g' = g then some cs else none
  | some (.nil g') => if g' = g ∧ n = 0 then some [] else none
  | _ => none

def pload (H : PH) (n : Option Nat) : PV → Option PV
  | .ptr i g o => match slot H i g with
    | some cs => ppart n cs o
    | none => none
  | .cptr cs => ppart n cs 0
  | _ => none

def pstore (H : PH) (a : PV) (vs : List PV) : Option PH :=
  match a with
  | .ptr i g o => match slot H i g with
    | some cs => if o + vs.length ≤ cs.length ∧ vs.all pone = true then some (H.set i (.cells g (pwr cs o vs))) else none
    | none => none
  | _ => none

def psc (H : PH) (m size : Nat) : PV → Option (List PV)
  | .sl i g o n _ => if m = 0 then some [] else if m ≤ n then
      match slot H i g with
      | some cs => if o + m * size ≤ cs.length then some ((cs.drop o).take (m * size)) else none
      | none => none
    else none
  | .lst sz _ xs => if m = 0 then some [] else if m ≤ xs.length ∧ sz = size then some ((xs.take m).flatMap ecs) else none
  | .str s => if size = 1 ∧ m = s.length then some (s.map fun b => .int .u8 b.toNat) else none
  | _ => none

def plen : PV → Option Nat
  | .sl _ _ _ n _ => some n
  | .lst _ _ xs => some xs.length
  | .str s => some s.length
  | _ => none

def pappend (size bytes : Nat) (s x : PV) (H : PH) : Option (PV × PH) :=
  match plen x with
  | none => none
  | some m =>
    match psc H m size x with
    | none => none
    | some new =>
      match s with
      | .sl i g o n c =>
        if m = 0 then some (s, H)
        else if (n + m) * bytes ≤ 140737488355328 ∧ new.all pone = true ∧ 0 < bytes then
          match c with
          | .k c =>
            match slot H i g with
            | none => none
            | some cs =>
              if n + m ≤ c then (if o + n * size + new.length ≤ cs.length then some (.sl i g o (n + m) (.k c), H.set i (.cells g (pwr cs (o + n * size) new))) else none)
              else if o + n * size ≤ cs.length then some (.sl i (g + 1) 0 (n + m) (.x size), H.set i (.cells (g + 1) ((cs.drop o).take (n * size) ++ new))) else none
          | .x sz =>
            match slot H i g with
            | none => none
            | some cs => if sz = size ∧ n ≠ 0 ∧ o + n * size ≤ cs.length then some (.sl i (g + 1) 0 (n + m) (.x size), H.set i (.cells (g + 1) ((cs.drop o).take (n * size) ++ new))) else none
          | .u sz =>
            match slotN H i g n with
            | none => none
            | some cs => if sz = size ∧ o + n * size ≤ cs.length then some (.sl i (g + 1) 0 (n + m) (.u size), H.set i (.cells (g + 1) ((cs.drop o).take (n * size) ++ new))) else none
        else none
      | .lst sz clip xs =>
        if m = 0 then some (s, H)
        else if (xs.length + m) * bytes ≤ 140737488355328 ∧ new.all pone = true ∧ 0 < bytes ∧ (sz = size ∨ xs.length = 0) ∧ clip = true then
          some (.sl H.length 0 0 (xs.length + m) (.x size), H ++ [.cells 0 (xs.flatMap ecs ++ new)])
        else none
      | _ => none

def byteOf : PV → Option UInt8
  | .int .u8 n => some (UInt8.ofNat n.toNat)
  | _ => none

def pop (o : AOp) (e : AX → PV) (H : PH) : Option (PR × PH) :=
  match o with
  | .move x => some (.val (e x), H)
  | .pick c a b => match e c with
    | .bool t => some (.val (if t then e a else e b), H)
    | _ => none
  | .box _ x => match pcells (e x) with
    | some cs => some (.val (.ptr H.length 0 0), H ++ [.cells 0 cs])
    | none => none
  | .new _ z => some (.val (.ptr H.length 0 0), H ++ [.cells 0 (z.map cval1)])
  | .build z ps => match pfill e (z.map cval1) ps with
    | some cs => some (.val (.agg cs), H)
    | none => none
  | .row _ len z ps => match pfill e (z.map cval1) ps with
    | some cs => if len < UC then some (.val (.sl H.length 0 0 len (.k len)), H ++ [.cells 0 cs]) else none
    | none => none
  | .load a => match pload H none (e a) with
    | some v => some (.val v, H)
    | none => none
  | .loadN n a => match pload H (some n) (e a) with
    | some v => some (.val v, H)
    | none => none
  | .store n a v => match pcells (e v) with
    | some vs => if vs.length = n then (match pstore H (e a) vs with
      | some H' => some (.val .un, H')
      | none => none) else none
    | none => none
  | .nilCheck x => match e x with
    | .ptr i g o => some (.val (.ptr i g o), H)
    | .cptr cs => some (.val (.cptr cs), H)
    | .fn f a b => some (.val (.fn f a b), H)
    | _ => none
  | .bin op x y => match pbin op (e x) (e y) with
    | some v => some (.val v, H)
    | none => none
  | .eqB neg x y => match e x, e y with
    | .bool a, .bool b => some (.val (.bool ((a == b) != neg)), H)
    | _, _ => none
  | .eqNil k neg x y => match pnil k (e x), pnil k (e y) with
    | some a, some b => if a || b then some (.val (.bool ((a && b) != neg)), H) else none
    | _, _ => none
  | .eqFlat ks neg x y => match e x, e y with
    | .agg a, .agg b => match peqCells ks a b with
      | some r => some (.val (.bool (r != neg)), H)
      | none => none
    | _, _ => none
  | .un op x => match pun op (e x) with
    | some v => some (.val v, H)
    | none => none
  | .conv k x => match e x with
    | .int _ n => some (.val (.int k (k.wrap n)), H)
    | _ => none
  | .convId x => match e x with
    | .str s => some (.val (.str s), H)
    | _ => none
  | .bytesOf _ x => match e x with
    | .str s => if s.length ≤ 140737488355328 then some (.val (.sl H.length 0 0 s.length (.x 1)), H ++ [.cells 0 (s.map fun b => .int .u8 b.toNat)]) else none
    | _ => none
  | .strOf x => match e x with
    | .sl i g o n c => match psc H n 1 (.sl i g o n c) with
      | some cs => (cs.mapM byteOf).map fun l => (.val (.str l), H)
      | none => none
    | .lst sz c xs => match psc H xs.length 1 (.lst sz c xs) with
      | some cs => (cs.mapM byteOf).map fun l => (.val (.str l), H)
      | none => none
    | _ => none
  | .slice size x lo hi mx => match psl size e (e x) lo hi mx with
    | some v => some (.val v, H)
    | none => none
  | .sliceStr x lo hi => match e x with
    | .str s => match pbndO e s.length s.length hi with
      | some h => match pbndO e h 0 lo with
        | some l => some (.val (.str ((s.take h).drop l)), H)
        | none => none
      | none => none
    | _ => none
  | .sliceArr n size x lo hi => match e x with
    | .ptr i g o => if UC ≤ n then none else match pbndO e n n hi with
      | some h => match pbndO e h 0 lo with
        | some l => some (.val (.sl i g (if n = l then o else o + l * size) (h - l) (.k (n - l))), H)
        | none => none
      | none => none
    | _ => none
  | .fieldAddr off x => match e x with
    | .ptr i g o => some (.val (.ptr i g (o + off)), H)
    | .cptr cs => if off ≤ cs.length then some (.val (.cptr (cs.drop off)), H) else none
    | _ => none
  | .field off n x => match e x with
    | .agg cs => match ppart n cs off with
      | some v => some (.val v, H)
      | none => none
    | _ => none
  | .indexAddr size x i => match e x, e i with
    | .sl i g o n _, .int _ k => if 0 ≤ k ∧ k < n then some (.val (.ptr i g (o + k.toNat * size)), H) else none
    | .lst sz _ xs, .int _ k => if 0 ≤ k ∧ sz = size then (match xs[k.toNat]? with
      | some v => some (.val (.cptr (ecs v)), H)
      | none => none) else none
    | _, _ => none
  | .indexArr len size x i => match e x, e i with
    | .ptr i g o, .int _ k => if 0 ≤ k ∧ k < len then some (.val (.ptr i g (o + k.toNat * size)), H) else none
    | .cptr cs, .int _ k => if 0 ≤ k ∧ k < len ∧ k.toNat * size ≤ cs.length then some (.val (.cptr (cs.drop (k.toNat * size))), H) else none
    | _, _ => none
  | .indexVal len size n x i => match e x, e i with
    | .agg cs, .int _ i => if 0 ≤ i ∧ i < len then (match ppart n cs (i.toNat * size) with
      | some v => some (.val v, H)
      | none => none) else none
    | _, _ => none
  | .indexStr x i => match e x, e i with
    | .str s, .int _ i => if 0 ≤ i then (match s[i.toNat]? with
      | some b => some (.val (.int .u8 b.toNat), H)
      | none => none) else none
    | _, _ => none
  | .extract x i => match e x with
    | .tup vs => match vs[i]? with
      | some v => some (.val v, H)
      | none => none
    | _ => none
  | .func fn first cap => some (.val (.fn fn (first.map e) (cap.map e)), H)
  | .makeSlice _ bytes z len cap => match e len, e cap with
    | .int _ l, .int _ c => if 0 ≤ l ∧ l ≤ c ∧ bytes * c ≤ 140737488355328 ∧ c ≤ 140737488355328 then
        some (.val (.sl H.length 0 0 l.toNat (.k c.toNat)), H ++ [.cells 0 (List.flatten (List.replicate c.toNat (z.map cval1)))]) else none
    | _, _ => none
  | .makeMap => some (.val (.map H.length), H ++ [.map []])
  | .lookup kt ok z m k =>
    match peqKey kt (e k) (e k) with
    | none => none
    | some _ =>
      match e m with
      | .nilM => some (.val (if ok then .tup [cval z, .bool false] else cval z), H)
      | .map r => match H[r]? with
        | some (.map es) => match pfind kt (e k) es 0 with
          | some (some (_, v)) => some (.val (if ok then .tup [v, .bool true] else v), H)
          | some none => some (.val (if ok then .tup [cval z, .bool false] else cval z), H)
          | none => none
        | _ => none
      | _ => none
  | .update kt m k v =>
    match peqKey kt (e k) (e k) with
    | none => none
    | some _ =>
      match e m with
      | .map r => match H[r]? with
        | some (.map es) => match pfind kt (e k) es 0 with
          | some (some (i, _)) => some (.val .un, H.set r (.map (es.set i (e k, e v))))
          | some none => some (.val .un, H.set r (.map (es ++ [(e k, e v)])))
          | none => none
        | _ => none
      | _ => none
  | .iface t x => some (.val (.iface t (e x)), H)
  | .call f args => match e f with
    | .fn g first cap => some (.enter (.fn g) (first ++ args.map e ++ cap), H)
    | .yield l => some (.enter (.yield l) (args.map e), H)
    | _ => none
  | .lenS x => match e x with
    | .sl _ _ _ n _ => some (.val (.int .i64 n), H)
    | .lst _ _ xs => some (.val (.int .i64 xs.length), H)
    | _ => none
  | .lenStr x => match e x with
    | .str s => some (.val (.int .i64 s.length), H)
    | _ => none
  | .lenMap x => match e x with
    | .nilM => some (.val (.int .i64 0), H)
    | .map r => match H[r]? with
      | some (.map es) => some (.val (.int .i64 es.length), H)
      | _ => none
    | _ => none
  | .append _ size bytes s x => match pappend size bytes (e s) (e x) H with
    | some (v, H') => some (.val v, H')
    | none => none
  | .copy size d s => match e d, plen (e s) with
    | .sl i g o n _, some m =>
      let k := Nat.min m n
      match e s with
      | .str _ => none
      | x => match psc H k size x with
        | some cs => if k = 0 then some (.val (.int .i64 0), H) else
          match pstore H (.ptr i g o) cs with
          | some H' => some (.val (.int .i64 k), H')
          | none => none
        | none => none
    | _, _ => none
  | .clear z x => match e x with
    | .sl i g o n _ => if n = 0 then some (.val .un, H) else
      match pstore H (.ptr i g o) (List.flatten (List.replicate n (z.map cval1))) with
      | some H' => some (.val .un, H')
      | none => none
    | .lst _ _ [] => some (.val .un, H)
    | _ => none
  | .min2 x y => match e x, e y with
    | .int k a, .int _ b => some (.val (.int k (if b < a then b else a)), H)
    | _, _ => none
  | .max2 x y => match e x, e y with
    | .int k a, .int _ b => some (.val (.int k (if b > a then b else a)), H)
    | _, _ => none
  | .panic x => match e x with
    | .iface t v => some (.panic (.iface t v), H)
    | _ => none

def pput (fr : List PV) (d : Option Nat) (v : PV) : List PV :=
  match d with
  | some d => fr.set d v
  | none => fr

/-- Is an operation carried out, by its guard? -/
def wantedP (ops : List AOper) (fr : List PV) (o : AOper) : Option Bool :=
  match o.guard with
  | none => some true
  | some (j, b) =>
    match (ops[j]?).bind (·.dst) with
    | some d => match fr[d]? with
      | some (.bool c) => some (c == b)
      | some (.tup []) => some false
      | _ => none
    | none => some false

end Go.Proofs.Pm

/- What a pure value says of a value of the small machine; worlds, and how they go on. -/
namespace Go.Proofs.Pm
open Go Go.Proofs.Am

/-- Of each slot its generation, and its block. -/
abbrev Rho := List (Nat × Nat)

/-- A slot at a generation stands for a block (or that generation is gone). -/
def RefR (ρ : Rho) (i g b : Nat) : Prop := ∃ g0 b0, ρ[i]? = some (g0, b0) ∧ g ≤ g0 ∧ (g = g0 → b = b0)

def Rle (ρ ρ' : Rho) : Prop := ∀ (i g b : Nat), ρ[i]? = some (g, b) → ∃ g' b', ρ'[i]? = some (g', b') ∧ g ≤ g' ∧ (g = g' → b = b')

theorem Rle.refl (ρ : Rho) : Rle ρ ρ := fun _ g b h => ⟨g, b, h, Nat.le_refl _, fun _ => rfl⟩
theorem Rle.trans {a b c : Rho} (h : Rle a b) (k : Rle b c) : Rle a c := by
  intro i g x e
  obtain ⟨g1, x1, e1, l1, q1⟩ := h i g x e
  obtain ⟨g2, x2, e2, l2, q2⟩ := k i g1 x1 e1
  refine ⟨g2, x2, e2, by omega, fun e => ?_⟩
  have : g = g1 := by omega
  rw [q1 this]; exact q2 (by omega)

theorem RefR.mono {ρ ρ' : Rho} (h : Rle ρ ρ') {i g b : Nat} (r : RefR ρ i g b) : RefR ρ' i g b := by
  obtain ⟨g0, b0, e, l, q⟩ := r
  obtain ⟨g1, b1, e1, l1, q1⟩ := h i g0 b0 e
  refine ⟨g1, b1, e1, by omega, fun e => ?_⟩
  have : g = g0 := by omega
  rw [q this]; exact q1 (by omega)

/-- A slice's capacity, by what is known of it: n elements, a capacity of c. -/
def CapR : Cap → Nat → Nat → Prop
  | .k c', n, c => c = c' ∧ n ≤ c ∧ c < UC
  | .x sz, n, c => c = UC + sz ∧ n < UC
  | .u sz, n, c => n < UC ∧ (c = n ∨ (c = UC + sz ∧ n ≠ 0))

def LCapR (sz : Nat) (clip : Bool) (n c : Nat) : Prop := n < UC ∧ ((n ≤ c ∧ c < UC) ∨ c = UC + sz) ∧ (clip = true → c = n)

/-- An address with no spot, or none. -/
def adr (a : Option (Nat × Nat)) : Option Addr := a.map fun p => ⟨p.1, p.2, none⟩

mutual
inductive VR (ρ : Rho) (S : Nat → Prop) (A : Mem) : PV → Value → Prop
  | un (v : Value) : VR ρ S A .un v
  | bool (b : Bool) : VR ρ S A (.bool b) (.bool b)
  | int (k : IntKind) (n : Int) : VR ρ S A (.int k n) (.int k n)
  | str {l : List UInt8} (s : ByteArray) (h : s.data.toList = l) : VR ρ S A (.str l) (.string s)
  | nilF : VR ρ S A .nilF .nilFunc
  | nilI : VR ρ S A .nilI .nilIface
  | nilP : VR ρ S A .nilP (.pointer none)
  | nilM : VR ρ S A .nilM (.map none)
  | ptr {i g b : Nat} (o : Nat) (h : RefR ρ i g b) : VR ρ S A (.ptr i g o) (.pointer (some ⟨b, o, none⟩))
  | cptr {cs : List PV} {b o : Nat} {all : List Value} {t : TypeId} {ro : Bool} (hs : S b) (hb : A[b]? = some (.cells all t ro)) (ho : o ≤ all.length) (h : VRL ρ S A cs ((all.drop o).take cs.length)) : VR ρ S A (.cptr cs) (.pointer (some ⟨b, o, none⟩))
  | sl {i g b : Nat} {c : Cap} {n c' : Nat} (o : Nat) (h : RefR ρ i g b) (hc : CapR c n c') : VR ρ S A (.sl i g o n c) (.slice (some ⟨b, o, none⟩) n c')
  | slE {c : Cap} (i g o : Nat) (a : Option (Nat × Nat)) (hc : c = .k 0 ∨ ∃ sz, c = .u sz) : VR ρ S A (.sl i g o 0 c) (.slice (adr a) 0 0)
  | lstE {sz : Nat} {clip : Bool} {c : Nat} (a : Option (Nat × Nat)) (hc : LCapR sz clip 0 c) : VR ρ S A (.lst sz clip []) (.slice (adr a) 0 c)
  | lst {sz : Nat} {clip : Bool} {xs : List PV} {c b o : Nat} {all : List Value} {t : TypeId} {ro : Bool} (hc : LCapR sz clip xs.length c) (hs : S b) (hb : A[b]? = some (.cells all t ro)) (ho : o ≤ all.length) (hz : ∀ x, x ∈ xs → (ecs x).length = sz)
      (h : VRL ρ S A (xs.flatMap ecs) ((all.drop o).take (xs.length * sz))) : VR ρ S A (.lst sz clip xs) (.slice (some ⟨b, o, none⟩) xs.length c)
  | map {i b : Nat} (h : RefR ρ i 0 b) : VR ρ S A (.map i) (.map (some b))
  | fn (f : FuncId) {xs ys : List PV} {xs' ys' : List Value} (h : VRL ρ S A xs xs') (h' : VRL ρ S A ys ys') : VR ρ S A (.fn f xs ys) (.func (.func f) ⟨xs'⟩ ⟨ys'⟩)
  | yield {i b : Nat} (h : RefR ρ i 0 b) : VR ρ S A (.yield i) (.func (.yield b) #[] #[])
  | iface (t : TypeId) {v : PV} {v' : Value} (h : VR ρ S A v v') : VR ρ S A (.iface t v) (.iface t v')
  | agg {xs : List PV} {xs' : List Value} (h : VRL ρ S A xs xs') : VR ρ S A (.agg xs) (.agg ⟨xs'⟩)
  | tup {xs : List PV} {xs' : List Value} (h : VRL ρ S A xs xs') : VR ρ S A (.tup xs) (.tuple ⟨xs'⟩)
inductive VRL (ρ : Rho) (S : Nat → Prop) (A : Mem) : List PV → List Value → Prop
  | nil : VRL ρ S A [] []
  | cons {x : PV} {x' : Value} {xs : List PV} {xs' : List Value} (h : VR ρ S A x x') (t : VRL ρ S A xs xs') : VRL ρ S A (x :: xs) (x' :: xs')
end

/-- What stands in a world stands in another. -/
structure Ext (ρ : Rho) (S : Nat → Prop) (A : Mem) (ρ' : Rho) (S' : Nat → Prop) (A' : Mem) : Prop where
  le : Rle ρ ρ'
  sub : ∀ b, S b → S' b
  keep : ∀ b, S b → A'[b]? = A[b]?

mutual
theorem VR.mono {ρ ρ' : Rho} {S S' : Nat → Prop} {A A' : Mem} (e : Ext ρ S A ρ' S' A') : ∀ {v : PV} {v' : Value}, VR ρ S A v v' → VR ρ' S' A' v v'
  | _, _, .un v => .un v
  | _, _, .bool b => .bool b
  | _, _, .int k n => .int k n
  | _, _, .str s h => .str s h
  | _, _, .nilF => .nilF
  | _, _, .nilI => .nilI
  | _, _, .nilP => .nilP
  | _, _, .nilM => .nilM
  | _, _, .ptr o h => .ptr o (h.mono e.le)
  | _, _, .cptr hs hb ho h => .cptr (e.sub _ hs) ((e.keep _ hs).trans hb) ho (VRL.mono e h)
  | _, _, .sl o h hc => .sl o (h.mono e.le) hc
  | _, _, .slE i g o a hc => .slE i g o a hc
  | _, _, .lstE a hc => .lstE a hc
  | _, _, .lst hc hs hb ho hz h => .lst hc (e.sub _ hs) ((e.keep _ hs).trans hb) ho hz (VRL.mono e h)
  | _, _, .map h => .map (h.mono e.le)
  | _, _, .fn f h h' => .fn f (VRL.mono e h) (VRL.mono e h')
  | _, _, .yield h => .yield (h.mono e.le)
  | _, _, .iface t h => .iface t (VR.mono e h)
  | _, _, .agg h => .agg (VRL.mono e h)
  | _, _, .tup h => .tup (VRL.mono e h)
theorem VRL.mono {ρ ρ' : Rho} {S S' : Nat → Prop} {A A' : Mem} (e : Ext ρ S A ρ' S' A') : ∀ {v : List PV} {v' : List Value}, VRL ρ S A v v' → VRL ρ' S' A' v v'
  | _, _, .nil => .nil
  | _, _, .cons h t => .cons (VR.mono e h) (VRL.mono e t)
end

section
variable {ρ : Rho} {S : Nat → Prop} {A : Mem}

theorem VRL.length : ∀ {xs : List PV} {xs' : List Value}, VRL ρ S A xs xs' → xs.length = xs'.length
  | _, _, .nil => rfl
  | _, _, .cons _ t => by simp [t.length]

theorem VRL.append : ∀ {xs ys : List PV} {xs' ys' : List Value}, VRL ρ S A xs xs' → VRL ρ S A ys ys' → VRL ρ S A (xs ++ ys) (xs' ++ ys')
  | _, _, _, _, .nil, k => k
  | _, _, _, _, .cons h t, k => .cons h (t.append k)

theorem VRL.get : ∀ {xs : List PV} {xs' : List Value}, VRL ρ S A xs xs' → ∀ {i : Nat} {v : PV}, xs[i]? = some v → ∃ v', xs'[i]? = some v' ∧ VR ρ S A v v'
  | _, _, .nil, i, v, h => by simp at h
  | _, _, .cons h t, 0, v, e => by simp at e; subst e; exact ⟨_, rfl, h⟩
  | _, _, .cons h t, i + 1, v, e => by simpa using t.get (i := i) (v := v) (by simpa using e)

theorem VRL.getD {xs : List PV} {xs' : List Value} (h : VRL ρ S A xs xs') (i : Nat) : VR ρ S A (xs.getD i .un) (xs'.getD i undef) := by
  rw [List.getD_eq_getElem?_getD, List.getD_eq_getElem?_getD]
  cases e : xs[i]? with
  | none => exact .un _
  | some v => obtain ⟨v', e', hv⟩ := h.get e; rw [e']; exact hv

theorem VRL.of_get : ∀ {xs : List PV} {xs' : List Value}, xs.length = xs'.length → (∀ (i : Nat) (v : PV) (v' : Value), xs[i]? = some v → xs'[i]? = some v' → VR ρ S A v v') → VRL ρ S A xs xs'
  | [], [], _, _ => .nil
  | [], _ :: _, h, _ => by simp at h
  | _ :: _, [], h, _ => by simp at h
  | x :: xs, x' :: xs', h, k => .cons (k 0 x x' rfl rfl) (VRL.of_get (by simpa using h) fun i v v' e e' => k (i + 1) v v' (by simpa using e) (by simpa using e'))

theorem VRL.set : ∀ {xs : List PV} {xs' : List Value}, VRL ρ S A xs xs' → ∀ {v : PV} {v' : Value}, VR ρ S A v v' → ∀ i, VRL ρ S A (xs.set i v) (xs'.set i v')
  | _, _, .nil, _, _, _, _ => .nil
  | _, _, .cons _ t, _, _, k, 0 => .cons k t
  | _, _, .cons h t, _, _, k, i + 1 => .cons h (t.set k i)

theorem VRL.drop : ∀ {xs : List PV} {xs' : List Value}, VRL ρ S A xs xs' → ∀ n, VRL ρ S A (xs.drop n) (xs'.drop n)
  | _, _, h, 0 => h
  | _, _, .nil, _ + 1 => .nil
  | _, _, .cons _ t, n + 1 => t.drop n

theorem VRL.take : ∀ {xs : List PV} {xs' : List Value}, VRL ρ S A xs xs' → ∀ n, VRL ρ S A (xs.take n) (xs'.take n)
  | _, _, _, 0 => by simp only [List.take_zero]; exact .nil
  | _, _, .nil, _ + 1 => .nil
  | _, _, .cons h t, n + 1 => .cons h (t.take n)

theorem VRL.replicate {xs : List PV} {xs' : List Value} (h : VRL ρ S A xs xs') : ∀ n, VRL ρ S A (List.replicate n xs).flatten (List.replicate n xs').flatten
  | 0 => .nil
  | n + 1 => by simp only [List.replicate_succ, List.flatten_cons]; exact h.append (h.replicate n)

theorem VRL.map {α : Type} {f : α → PV} {g : α → Value} (l : List α) (h : ∀ x ∈ l, VR ρ S A (f x) (g x)) : VRL ρ S A (l.map f) (l.map g) := by
  induction l with
  | nil => exact .nil
  | cons x l ih => exact .cons (h x (by simp)) (ih fun y hy => h y (by simp [hy]))

theorem VRL.wr : ∀ {vs cs : List PV} {vs' cs' : List Value} (o : Nat), VRL ρ S A vs vs' → VRL ρ S A cs cs' → VRL ρ S A (pwr cs o vs) (Am.wr cs' o vs')
  | _, _, _, _, _, .nil, k => k
  | _, _, _, _, o, .cons h t, k => t.wr (o + 1) (k.set h o)

theorem VR.one {v : PV} {v' : Value} (h : VR ρ S A v v') (hp : pone v = true) : one v' = true := by
  cases h <;> first | rfl | (cases hp)

theorem VRL.one : ∀ {vs : List PV} {vs' : List Value}, VRL ρ S A vs vs' → vs.all pone = true → vs'.all one = true
  | _, _, .nil, _ => rfl
  | _, _, .cons h t, hp => by
    simp only [List.all_cons, Bool.and_eq_true] at hp ⊢
    exact ⟨h.one hp.1, t.one hp.2⟩

theorem VR.cells {v : PV} {v' : Value} {cs : List PV} (h : VR ρ S A v v') (hc : pcells v = some cs) : ∃ cs', cellsOf v' = some cs' ∧ VRL ρ S A cs cs' := by
  cases h <;> simp only [pcells, Option.some.injEq, reduceCtorEq] at hc <;> subst hc
  case agg h => exact ⟨_, rfl, h⟩
  case bool b => exact ⟨_, rfl, .cons (.bool b) .nil⟩
  case int k n => exact ⟨_, rfl, .cons (.int k n) .nil⟩
  case str s h => exact ⟨_, rfl, .cons (.str s h) .nil⟩
  case nilF => exact ⟨_, rfl, .cons .nilF .nil⟩
  case nilI => exact ⟨_, rfl, .cons .nilI .nil⟩
  case nilP => exact ⟨_, rfl, .cons .nilP .nil⟩
  case nilM => exact ⟨_, rfl, .cons .nilM .nil⟩
  case ptr o h => exact ⟨_, rfl, .cons (.ptr o h) .nil⟩
  case cptr hs hb ho h => exact ⟨_, rfl, .cons (.cptr hs hb ho h) .nil⟩
  case sl o h hc => exact ⟨_, rfl, .cons (.sl o h hc) .nil⟩
  case slE i g o a hc => exact ⟨_, rfl, .cons (.slE i g o a hc) .nil⟩
  case lstE a hc => exact ⟨_, rfl, .cons (.lstE a hc) .nil⟩
  case lst hc hs hb ho hz h => exact ⟨_, rfl, .cons (.lst hc hs hb ho hz h) .nil⟩
  case map h => exact ⟨_, rfl, .cons (.map h) .nil⟩
  case fn h h' => exact ⟨_, rfl, .cons (.fn _ h h') .nil⟩
  case yield h => exact ⟨_, rfl, .cons (.yield h) .nil⟩
  case iface h => exact ⟨_, rfl, .cons (.iface _ h) .nil⟩

theorem VR.cval1 (v : Value) : VR ρ S A (Pm.cval1 v) v := by
  unfold Pm.cval1
  split
  case h_8 => exact .lstE none ⟨by decide, .inl ⟨Nat.le_refl _, by decide⟩, fun _ => rfl⟩
  all_goals first | exact .un _ | constructor
  rfl

theorem VRL.cval1 (l : List Value) : VRL ρ S A (l.map Pm.cval1) l := by
  induction l with
  | nil => exact .nil
  | cons v l ih => exact .cons (.cval1 v) ih

theorem VR.cval (v : Value) : VR ρ S A (Pm.cval v) v := by
  unfold Pm.cval
  split
  · exact .agg (VRL.cval1 _)
  · exact .cval1 _

theorem VR.ev {fr : List PV} {fr' : List Value} (h : VRL ρ S A fr fr') (x : AX) : VR ρ S A (pev fr x) (Am.ev fr' x) := by
  cases x with
  | t n => exact h.getD n
  | c v => exact .cval v
  | f id => exact .fn id .nil .nil

end

def PBlk.on : PBlk → Bool
  | .gone | .nil _ => false
  | _ => true

def live (H : PH) (i : Nat) : Prop := ∃ blk, H[i]? = some blk ∧ blk.on = true

/-- A block that a slot stands for. -/
def Lv (ρ : Rho) (H : PH) (b : Nat) : Prop := ∃ i g, ρ[i]? = some (g, b) ∧ live H i

inductive EnR (ρ : Rho) (S : Nat → Prop) (A : Mem) : List (PV × PV) → List MapEntry → Prop
  | nil : EnR ρ S A [] []
  | cons {k v : PV} {e : MapEntry} {es : List (PV × PV)} {es' : List MapEntry} (hk : VR ρ S A k e.key) (hv : VR ρ S A v e.val) (t : EnR ρ S A es es') : EnR ρ S A ((k, v) :: es) (e :: es')

def BlkR (ρ : Rho) (S : Nat → Prop) (A : Mem) (gb : Nat × Nat) : PBlk → Prop
  | .cells g cs => gb.1 = g ∧ ∃ all t, A[gb.2]? = some (.cells all t false) ∧ VRL ρ S A cs all
  | .map es => gb.1 = 0 ∧ ∃ es' clock, A[gb.2]? = some (.map es' clock) ∧ EnR ρ S A es es'
  | .loop st pend fr ps a b => gb.1 = 0 ∧ ∃ fr', A[gb.2]? = some (.loop st pend fr' ps a b) ∧ VRL ρ S A fr fr'
  | .nil g => gb.1 = g
  | .gone => True

structure HR (ρ : Rho) (S : Nat → Prop) (H : PH) (A : Mem) : Prop where
  len : ρ.length = H.length
  inj : ∀ (i j g g' b : Nat), ρ[i]? = some (g, b) → ρ[j]? = some (g', b) → live H i → live H j → i = j
  lt : ∀ (i g b : Nat), ρ[i]? = some (g, b) → live H i → b < A.length
  slt : ∀ b, S b → b < A.length
  dis : ∀ b, S b → ¬ Lv ρ H b
  blk : ∀ (i : Nat) (blk : PBlk) (gb : Nat × Nat), H[i]? = some blk → ρ[i]? = some gb → BlkR ρ S A gb blk

/-- How a world goes on. -/
structure Step (ρ : Rho) (S : Nat → Prop) (H : PH) (A : Mem) (ρ' : Rho) (S' : Nat → Prop) (H' : PH) (A' : Mem) : Prop where
  le : Rle ρ ρ'
  sub : ∀ b, S b → S' b
  keep : ∀ b, b < A.length → ¬ Lv ρ H b → A'[b]? = A[b]?
  len : A.length ≤ A'.length
  news : ∀ b, S' b → S b ∨ A.length ≤ b ∨ Lv ρ H b
  lv : ∀ b, b < A.length → Lv ρ' H' b → Lv ρ H b

theorem Step.refl (ρ : Rho) (S : Nat → Prop) (H : PH) (A : Mem) : Step ρ S H A ρ S H A :=
  ⟨Rle.refl _, fun _ h => h, fun _ _ _ => rfl, Nat.le_refl _, fun _ h => .inl h, fun _ _ h => h⟩

theorem Step.trans {ρ S H A ρ1 S1 H1 A1 ρ2 S2 H2 A2} (h : Step ρ S H A ρ1 S1 H1 A1) (k : Step ρ1 S1 H1 A1 ρ2 S2 H2 A2) : Step ρ S H A ρ2 S2 H2 A2 where
  le := h.le.trans k.le
  sub b e := k.sub b (h.sub b e)
  keep b hb hl := by
    rw [k.keep b (by have := h.len; omega) (fun l => hl (h.lv b hb l)), h.keep b hb hl]
  len := Nat.le_trans h.len k.len
  news b e := by
    rcases k.news b e with h1 | h1 | h1
    · exact h.news b h1
    · exact .inr (.inl (Nat.le_trans h.len h1))
    · by_cases hb : b < A.length
      · exact .inr (.inr (h.lv b hb h1))
      · exact .inr (.inl (by omega))
  lv b hb l := h.lv b hb (k.lv b (by have := h.len; omega) l)

theorem Step.ext {ρ S H A ρ1 S1 H1 A1} (h : Step ρ S H A ρ1 S1 H1 A1) (hr : HR ρ S H A) : Ext ρ S A ρ1 S1 A1 :=
  ⟨h.le, h.sub, fun b e => h.keep b (hr.slt b e) (hr.dis b e)⟩

theorem EnR.mono {ρ ρ' : Rho} {S S' : Nat → Prop} {A A' : Mem} (e : Ext ρ S A ρ' S' A') {es es'} (h : EnR ρ S A es es') : EnR ρ' S' A' es es' := by
  induction h with
  | nil => exact .nil
  | cons hk hv _ ih => exact .cons (hk.mono e) (hv.mono e) ih

theorem BlkR.mono {ρ ρ' : Rho} {S S' : Nat → Prop} {A A' : Mem} (e : Ext ρ S A ρ' S' A') {gb : Nat × Nat} {blk : PBlk} (hk : blk.on = true → A'[gb.2]? = A[gb.2]?) (h : BlkR ρ S A gb blk) : BlkR ρ' S' A' gb blk := by
  cases blk with
  | cells g cs => obtain ⟨h1, all, t, h2, h3⟩ := h; exact ⟨h1, all, t, (hk rfl).trans h2, h3.mono e⟩
  | map es => obtain ⟨h1, all, t, h2, h3⟩ := h; exact ⟨h1, all, t, (hk rfl).trans h2, h3.mono e⟩
  | loop st pend fr ps a b => obtain ⟨h1, all, h2, h3⟩ := h; exact ⟨h1, all, (hk rfl).trans h2, h3.mono e⟩
  | nil g => exact h
  | gone => trivial

end Go.Proofs.Pm

/- How memory turns: a block more, a block that turns, a slot that gets another block, a block that turns no more. -/
namespace Go.Proofs.Pm
open Go Go.Proofs.Am

section
variable {ρ : Rho} {S : Nat → Prop} {H : PH} {A : Mem}

theorem getApp {α : Type} {l : List α} {x y : α} {i : Nat} (h : (l ++ [x])[i]? = some y) : (i < l.length ∧ l[i]? = some y) ∨ (i = l.length ∧ y = x) := by
  rcases Nat.lt_trichotomy i l.length with h1 | h1 | h1
  · rw [List.getElem?_append_left h1] at h; exact .inl ⟨h1, h⟩
  · subst h1; simp at h; exact .inr ⟨rfl, h.symm⟩
  · rw [List.getElem?_eq_none (by simp; omega)] at h; cases h

theorem live_lt {i : Nat} (h : live H i) : i < H.length := by
  obtain ⟨b, e, _⟩ := h; exact (List.getElem?_eq_some_iff.1 e).1

theorem HR.rho (h : HR ρ S H A) {i : Nat} {blk : PBlk} (e : H[i]? = some blk) : ∃ g b, ρ[i]? = some (g, b) := by
  have hi := (List.getElem?_eq_some_iff.1 e).1
  rw [← h.len] at hi
  exact ⟨ρ[i].1, ρ[i].2, List.getElem?_eq_getElem hi⟩

theorem HR.ref (h : HR ρ S H A) {i g b : Nat} {cs : List PV} (e : slot H i g = some cs) (r : RefR ρ i g b) : H[i]? = some (.cells g cs) ∧ ρ[i]? = some (g, b) ∧ ∃ all t, A[b]? = some (.cells all t false) ∧ VRL ρ S A cs all := by
  unfold slot at e
  split at e
  · rename_i g' cs' he
    split at e
    · rename_i hg; subst hg; cases e
      obtain ⟨g1, b1, hr⟩ := h.rho he
      obtain ⟨rfl, all, t, ha, hv⟩ := h.blk i _ _ he hr
      obtain ⟨g0, b0, e0, l0, q0⟩ := r
      rw [hr] at e0; cases e0
      obtain rfl := q0 rfl
      exact ⟨he, hr, all, t, ha, hv⟩
    · cases e
  · cases e

theorem HR.refMap (h : HR ρ S H A) {i b : Nat} {es} (e : H[i]? = some (.map es)) (r : RefR ρ i 0 b) : ρ[i]? = some (0, b) ∧ ∃ es' clock, A[b]? = some (.map es' clock) ∧ EnR ρ S A es es' := by
  obtain ⟨g1, b1, hr⟩ := h.rho e
  obtain ⟨h1, all, t, ha, hv⟩ := h.blk i _ _ e hr
  simp only at h1 ha; subst h1
  obtain ⟨g0, b0, e0, l0, q0⟩ := r
  rw [hr] at e0; cases e0
  obtain rfl := q0 rfl
  exact ⟨hr, all, t, ha, hv⟩

theorem ext_app (h : HR ρ S H A) (p : Nat × Nat) (ab : Blk) : Ext ρ S A (ρ ++ [p]) S (A ++ [ab]) :=
  ⟨fun i g b e => ⟨g, b, by rw [List.getElem?_append_left (List.getElem?_eq_some_iff.1 e).1]; exact e, Nat.le_refl _, fun _ => rfl⟩, fun _ h => h,
    fun b e => List.getElem?_append_left (h.slt b e)⟩

theorem live_app {i : Nat} {blk : PBlk} (hi : i < H.length) (h : live (H ++ [blk]) i) : live H i := by
  obtain ⟨k, ek, hk⟩ := h
  exact ⟨k, by rw [List.getElem?_append_left hi] at ek; exact ek, hk⟩

theorem Lv_app (hl : ρ.length = H.length) {p : Nat × Nat} {blk : PBlk} {b : Nat} (h : Lv (ρ ++ [p]) (H ++ [blk]) b) : Lv ρ H b ∨ b = p.2 ∧ blk.on = true := by
  obtain ⟨i, g, e, l⟩ := h
  rcases getApp e with ⟨h1, h2⟩ | ⟨h1, h2⟩
  · exact .inl ⟨i, g, h2, live_app (by omega) l⟩
  · refine .inr ⟨by rw [← h2], ?_⟩
    obtain ⟨k, ek, hk⟩ := l
    rcases getApp ek with ⟨h3, _⟩ | ⟨_, h4⟩
    · omega
    · rw [← h4]; exact hk

theorem HR.alloc (h : HR ρ S H A) {blk : PBlk} {ab : Blk} (hb : BlkR (ρ ++ [(0, A.length)]) S (A ++ [ab]) (0, A.length) blk) :
    HR (ρ ++ [(0, A.length)]) S (H ++ [blk]) (A ++ [ab]) ∧ Step ρ S H A (ρ ++ [(0, A.length)]) S (H ++ [blk]) (A ++ [ab]) := by
  have hx := ext_app h (0, A.length) ab
  refine ⟨⟨by simp [h.len], ?_, ?_, fun b e => by have := h.slt b e; simp; omega, ?_, ?_⟩, hx.le, hx.sub, fun b hb _ => List.getElem?_append_left hb, by simp, fun b e => .inl e, ?_⟩
  · intro i j g g' b e e' l l'
    rcases getApp e with ⟨h1, h2⟩ | ⟨h1, h2⟩ <;> rcases getApp e' with ⟨h3, h4⟩ | ⟨h3, h4⟩
    · exact h.inj i j g g' b h2 h4 (live_app (by rw [← h.len]; exact h1) l) (live_app (by rw [← h.len]; exact h3) l')
    · cases h4; have := h.lt i g _ h2 (live_app (by rw [← h.len]; exact h1) l); omega
    · cases h2; have := h.lt j g' _ h4 (live_app (by rw [← h.len]; exact h3) l'); omega
    · omega
  · intro i g b e l
    rcases getApp e with ⟨h1, h2⟩ | ⟨h1, h2⟩
    · have := h.lt i g b h2 (live_app (by rw [← h.len]; exact h1) l); simp; omega
    · cases h2; simp
  · intro b e l
    rcases Lv_app h.len l with l | l
    · exact h.dis b e l
    · have := h.slt b e; have := l.1; simp only at this; omega
  · intro i blk' gb e e'
    rcases getApp e with ⟨h1, h2⟩ | ⟨h1, h2⟩ <;> rcases getApp e' with ⟨h3, h4⟩ | ⟨h3, h4⟩
    · exact (h.blk i blk' gb h2 h4).mono hx fun hon => List.getElem?_append_left (h.lt i gb.1 gb.2 h4 ⟨blk', h2, hon⟩)
    · rw [h.len] at h3; omega
    · rw [h.len] at h3; omega
    · subst h2; subst h4; exact hb
  · intro b hb l
    rcases Lv_app h.len l with l | l
    · exact l
    · have := l.1; simp only at this; omega

/-- A slot for what is not there yet. -/
theorem HR.allocNil (h : HR ρ S H A) : HR (ρ ++ [(0, 0)]) S (H ++ [.nil 0]) A ∧ Step ρ S H A (ρ ++ [(0, 0)]) S (H ++ [.nil 0]) A := by
  have hx : Ext ρ S A (ρ ++ [(0, 0)]) S A := ⟨fun i g b e => ⟨g, b, by rw [List.getElem?_append_left (List.getElem?_eq_some_iff.1 e).1]; exact e, Nat.le_refl _, fun _ => rfl⟩, fun _ h => h, fun _ _ => rfl⟩
  have old : ∀ i g b, (ρ ++ [(0, 0)])[i]? = some (g, b) → live (H ++ [.nil 0]) i → ρ[i]? = some (g, b) ∧ live H i := by
    intro i g b e l
    rcases getApp e with ⟨h1, h2⟩ | ⟨h1, h2⟩
    · exact ⟨h2, live_app (by rw [← h.len]; exact h1) l⟩
    · obtain ⟨k, ek, hk⟩ := l
      rcases getApp ek with ⟨h3, _⟩ | ⟨_, h4⟩
      · rw [h.len] at h1; omega
      · subst h4; cases hk
  have lv : ∀ b, Lv (ρ ++ [(0, 0)]) (H ++ [.nil 0]) b → Lv ρ H b := by
    rintro b ⟨i, g, e, l⟩
    obtain ⟨e', l'⟩ := old i g b e l
    exact ⟨i, g, e', l'⟩
  refine ⟨⟨by simp [h.len], ?_, ?_, h.slt, fun b e l => h.dis b e (lv b l), ?_⟩, hx.le, hx.sub, fun _ _ _ => rfl, Nat.le_refl _, fun b e => .inl e, fun b _ l => lv b l⟩
  · intro i j g g' b e e' l l'
    obtain ⟨e1, l1⟩ := old i g b e l
    obtain ⟨e2, l2⟩ := old j g' b e' l'
    exact h.inj i j g g' b e1 e2 l1 l2
  · intro i g b e l
    obtain ⟨e1, l1⟩ := old i g b e l
    exact h.lt i g b e1 l1
  · intro i blk' gb e e'
    rcases getApp e with ⟨h1, h2⟩ | ⟨h1, h2⟩ <;> rcases getApp e' with ⟨h3, h4⟩ | ⟨h3, h4⟩
    · exact (h.blk i blk' gb h2 h4).mono hx fun _ => rfl
    · rw [h.len] at h3; omega
    · rw [h.len] at h3; omega
    · subst h2; subst h4; rfl

theorem live_ne {i j : Nat} {blk : PBlk} (hj : i ≠ j) (h : live (H.set i blk) j) : live H j := by
  obtain ⟨k, e, hk⟩ := h
  rw [List.getElem?_set_ne hj] at e; exact ⟨k, e, hk⟩

theorem live_set {i j : Nat} {blk : PBlk} (hi : live H i) (h : live (H.set i blk) j) : live H j := by
  by_cases hj : i = j
  · subst hj; exact hi
  · exact live_ne hj h

theorem ext_set (h : HR ρ S H A) {i g b : Nat} (hi : ρ[i]? = some (g, b)) (hl : live H i) (ab : Blk) : Ext ρ S A ρ S (A.set b ab) :=
  ⟨Rle.refl _, fun _ h => h, fun b' e => by
    rw [List.getElem?_set_ne]
    rintro rfl
    exact h.dis b e ⟨i, g, hi, hl⟩⟩

theorem HR.upd (h : HR ρ S H A) {i g b : Nat} (hi : ρ[i]? = some (g, b)) (hl : live H i) {blk : PBlk} {ab : Blk} (hb : BlkR ρ S (A.set b ab) (g, b) blk) :
    HR ρ S (H.set i blk) (A.set b ab) ∧ Step ρ S H A ρ S (H.set i blk) (A.set b ab) := by
  have hx := ext_set h hi hl ab
  refine ⟨⟨by simp [h.len], ?_, fun i g b e l => by simpa using h.lt i g b e (live_set hl l), fun b e => by simpa using h.slt b e, ?_, ?_⟩, hx.le, hx.sub, ?_, by simp, fun b e => .inl e, ?_⟩
  · intro i' j g1 g2 b' e e' l l'
    exact h.inj i' j g1 g2 b' e e' (live_set hl l) (live_set hl l')
  · rintro b' e ⟨j, g', e', l⟩
    exact h.dis b' e ⟨j, g', e', live_set hl l⟩
  · intro j blk' gb e e'
    by_cases hj : i = j
    · subst hj
      rw [List.getElem?_set_self (live_lt hl)] at e; cases e
      rw [hi] at e'; cases e'; exact hb
    · rw [List.getElem?_set_ne hj] at e
      refine (h.blk j blk' gb e e').mono hx fun hon => ?_
      rw [List.getElem?_set_ne]
      intro hbb
      exact hj (h.inj i j g gb.1 b hi (by rw [hbb]; exact e') hl ⟨blk', e, hon⟩)
  · intro b' _ hn
    rw [List.getElem?_set_ne]
    rintro rfl
    exact hn ⟨i, g, hi, hl⟩
  · rintro b' _ ⟨j, g', e', l⟩
    exact ⟨j, g', e', live_set hl l⟩

theorem HR.rebind (h : HR ρ S H A) {i g b : Nat} (hi : ρ[i]? = some (g, b)) {A1 : Mem} (h1 : A1.length = A.length) (h2 : ∀ b', b' ≠ b ∨ ¬ live H i → A1[b']? = A[b']?) {new : List PV} {new' : List Value} {t : TypeId} (hv : VRL ρ S A new new') :
    HR (ρ.set i (g + 1, A.length)) S (H.set i (.cells (g + 1) new)) (A1 ++ [.cells new' t false]) ∧ Step ρ S H A (ρ.set i (g + 1, A.length)) S (H.set i (.cells (g + 1) new)) (A1 ++ [.cells new' t false]) := by
  have hil := (List.getElem?_eq_some_iff.1 hi).1
  have nb : ∀ b', b' < A.length → ¬ Lv ρ H b' → (A1 ++ [Blk.cells new' t false])[b']? = A[b']? := by
    intro b' hb hn
    rw [List.getElem?_append_left (by omega)]
    refine h2 b' ?_
    by_cases e : b' = b
    · exact .inr fun hl => hn ⟨i, g, by rw [e]; exact hi, hl⟩
    · exact .inl e
  have hx : Ext ρ S A (ρ.set i (g + 1, A.length)) S (A1 ++ [.cells new' t false]) := by
    refine ⟨fun j g' b' e => ?_, fun _ h => h, fun b' e => nb b' (h.slt b' e) (h.dis b' e)⟩
    by_cases hj : i = j
    · subst hj
      rw [hi] at e; cases e
      exact ⟨g + 1, A.length, List.getElem?_set_self hil, by omega, by omega⟩
    · exact ⟨g', b', by rw [List.getElem?_set_ne hj]; exact e, Nat.le_refl _, fun _ => rfl⟩
  have old : ∀ j g' b', (ρ.set i (g + 1, A.length))[j]? = some (g', b') → (j = i ∧ g' = g + 1 ∧ b' = A.length) ∨ (i ≠ j ∧ ρ[j]? = some (g', b')) := by
    intro j g' b' e
    by_cases hj : i = j
    · subst hj; rw [List.getElem?_set_self hil] at e; cases e; exact .inl ⟨rfl, rfl, rfl⟩
    · rw [List.getElem?_set_ne hj] at e; exact .inr ⟨hj, e⟩
  have lv' : ∀ b', b' < A.length → Lv (ρ.set i (g + 1, A.length)) (H.set i (.cells (g + 1) new)) b' → Lv ρ H b' := by
    rintro b' hb ⟨j, g', e, l⟩
    rcases old j g' b' e with ⟨_, _, h3⟩ | ⟨hj, h3⟩
    · omega
    · exact ⟨j, g', h3, live_ne hj l⟩
  refine ⟨⟨by simp [h.len], ?_, ?_, fun b e => by have := h.slt b e; simp [h1]; omega, ?_, ?_⟩, hx.le, hx.sub, nb, by simp [h1], fun b e => .inl e, lv'⟩
  · intro j k g1 g2 b' e e' l l'
    rcases old j g1 b' e with ⟨h3, _, h4⟩ | ⟨h3, h4⟩ <;> rcases old k g2 b' e' with ⟨h5, _, h6⟩ | ⟨h5, h6⟩
    · rw [h3, h5]
    · have := h.lt k g2 b' h6 (live_ne h5 l'); omega
    · have := h.lt j g1 b' h4 (live_ne h3 l); omega
    · exact h.inj j k g1 g2 b' h4 h6 (live_ne h3 l) (live_ne h5 l')
  · intro j g' b' e l
    rcases old j g' b' e with ⟨_, _, h4⟩ | ⟨h3, h4⟩
    · simp [h1, h4]
    · have := h.lt j g' b' h4 (live_ne h3 l); simp [h1]; omega
  · intro b' e l
    exact h.dis b' e (lv' b' (h.slt b' e) l)
  · intro j blk' gb e e'
    obtain ⟨g', b'⟩ := gb
    rcases old j g' b' e' with ⟨rfl, rfl, rfl⟩ | ⟨hj, h4⟩
    · rw [List.getElem?_set_self (by rw [← h.len]; exact hil)] at e; cases e
      exact ⟨rfl, new', t, by rw [← h1]; simp, hv.mono hx⟩
    · rw [List.getElem?_set_ne hj] at e
      refine (h.blk j blk' _ e h4).mono hx fun hon => ?_
      have hlj : live H j := ⟨blk', e, hon⟩
      rw [List.getElem?_append_left (by rw [h1]; exact h.lt j g' b' h4 hlj)]
      refine h2 b' ?_
      by_cases hbb : b' = b
      · exact .inr fun hl => hj (h.inj i j g g' b hi (by rw [← hbb]; exact h4) hl hlj)
      · exact .inl hbb

/-- A block turns no more. -/
theorem HR.freeze (h : HR ρ S H A) {i g b : Nat} (hi : ρ[i]? = some (g, b)) (hl : live H i) :
    HR ρ (fun b' => S b' ∨ b' = b) (H.set i .gone) A ∧ Step ρ S H A ρ (fun b' => S b' ∨ b' = b) (H.set i .gone) A := by
  have hx : Ext ρ S A ρ (fun b' => S b' ∨ b' = b) A := ⟨Rle.refl _, fun _ h => .inl h, fun _ _ => rfl⟩
  have ne : ∀ j, live (H.set i .gone) j → i ≠ j := by
    rintro j ⟨k, e, hk⟩ rfl
    rw [List.getElem?_set_self (live_lt hl)] at e; cases e; cases hk
  refine ⟨⟨by simp [h.len], ?_, fun i g b e l => h.lt i g b e (live_set hl l), ?_, ?_, ?_⟩, hx.le, hx.sub, fun _ _ _ => rfl, Nat.le_refl _, ?_, ?_⟩
  · intro i' j g1 g2 b' e e' l l'
    exact h.inj i' j g1 g2 b' e e' (live_set hl l) (live_set hl l')
  · rintro b' (e | rfl)
    · exact h.slt b' e
    · exact h.lt i g b' hi hl
  · rintro b' (e | rfl) ⟨j, g', e', l⟩
    · exact h.dis b' e ⟨j, g', e', live_set hl l⟩
    · exact ne j l (h.inj i j g g' b' hi e' hl (live_set hl l))
  · intro j blk' gb e e'
    by_cases hj : i = j
    · subst hj
      rw [List.getElem?_set_self (live_lt hl)] at e; cases e; trivial
    · rw [List.getElem?_set_ne hj] at e
      exact (h.blk j blk' gb e e').mono hx fun _ => rfl
  · rintro b' (e | rfl)
    · exact .inl e
    · exact .inr (.inr ⟨i, g, hi, hl⟩)
  · rintro b' _ ⟨j, g', e', l⟩
    exact ⟨j, g', e', live_set hl l⟩

end
end Go.Proofs.Pm

/- Texts as lists of bytes; what a value is, by its pure value. -/
namespace Go.Proofs.Pm
open Go Go.Proofs.Am

theorem ba_inj {a b : ByteArray} (h : a.data.toList = b.data.toList) : a = b := by
  obtain ⟨⟨a⟩⟩ := a; obtain ⟨⟨b⟩⟩ := b
  simp only at h; rw [h]

theorem ba_size (a : ByteArray) : a.size = a.data.toList.length := rfl

theorem ba_loop (a : ByteArray) : ∀ (n i : Nat) (r : List UInt8), a.size - i = n → ByteArray.toList.loop a i r = r.reverse ++ a.data.toList.drop i := by
  intro n
  induction n with
  | zero =>
    intro i r h
    rw [ByteArray.toList.loop, if_neg (by omega), List.drop_eq_nil_of_le (by rw [← ba_size]; omega)]; simp
  | succ n ih =>
    intro i r h
    rw [ByteArray.toList.loop, if_pos (by omega), ih (i + 1) _ (by omega)]
    have hi : i < a.data.toList.length := by rw [← ba_size]; omega
    rw [List.drop_eq_getElem_cons hi]
    have : a.get! i = a.data.toList[i] := by
      simp only [ByteArray.get!, Array.length_toList] at hi ⊢
      simp [getElem!_pos a.data i (by simpa using hi)]
    simp [this]

theorem ba_toList (a : ByteArray) : a.toList = a.data.toList := by
  unfold ByteArray.toList; rw [ba_loop a _ 0 [] rfl]; simp

theorem ba_append (a b : ByteArray) : (a ++ b).data.toList = a.data.toList ++ b.data.toList := by
  simp [ByteArray.data_append]

theorem ba_extract (a : ByteArray) (l h : Nat) : (a.extract l h).data.toList = (a.data.toList.take h).drop l := by
  rw [ByteArray.data_extract]
  simp [List.drop_take]

theorem ba_beq (a b : ByteArray) : (a == b) = (a.data.toList == b.data.toList) := by
  show (a.data == b.data) = _
  simp

section
variable {ρ : Rho} {S : Nat → Prop} {H : PH} {A : Mem} {y : Value}

theorem VR.int_inv {k n} (h : VR ρ S A (.int k n) y) : y = .int k n := by cases h; rfl
theorem VR.bool_inv {b} (h : VR ρ S A (.bool b) y) : y = .bool b := by cases h; rfl
theorem VR.str_inv {l} (h : VR ρ S A (.str l) y) : ∃ s, y = .string s ∧ s.data.toList = l := by cases h with | str s h => exact ⟨s, rfl, h⟩
theorem VR.nilF_inv (h : VR ρ S A .nilF y) : y = .nilFunc := by cases h; rfl
theorem VR.nilI_inv (h : VR ρ S A .nilI y) : y = .nilIface := by cases h; rfl
theorem VR.nilP_inv (h : VR ρ S A .nilP y) : y = .pointer none := by cases h; rfl
theorem VR.nilM_inv (h : VR ρ S A .nilM y) : y = .map none := by cases h; rfl
theorem VR.ptr_inv {i g o} (h : VR ρ S A (.ptr i g o) y) : ∃ b, y = .pointer (some ⟨b, o, none⟩) ∧ RefR ρ i g b := by cases h with | ptr o h => exact ⟨_, rfl, h⟩
theorem VR.cptr_inv {cs} (h : VR ρ S A (.cptr cs) y) : ∃ b o all t ro, y = .pointer (some ⟨b, o, none⟩) ∧ S b ∧ A[b]? = some (.cells all t ro) ∧ o ≤ all.length ∧ VRL ρ S A cs ((all.drop o).take cs.length) := by
  cases h with | cptr hs hb ho h => exact ⟨_, _, _, _, _, rfl, hs, hb, ho, h⟩
theorem VR.sl_inv {i g o n c} (h : VR ρ S A (.sl i g o n c) y) : (∃ b c', y = .slice (some ⟨b, o, none⟩) n c' ∧ RefR ρ i g b ∧ CapR c n c') ∨ (n = 0 ∧ ∃ a, y = .slice (adr a) 0 0 ∧ (c = .k 0 ∨ ∃ sz, c = .u sz)) := by
  cases h with
  | sl o h hc => exact .inl ⟨_, _, rfl, h, hc⟩
  | slE i g o a hc => exact .inr ⟨rfl, a, rfl, hc⟩
theorem VR.lst_inv {sz clip xs} (h : VR ρ S A (.lst sz clip xs) y) : ∃ a c, y = .slice (adr a) xs.length c ∧ LCapR sz clip xs.length c ∧ (xs = [] ∨ ∃ b o all t ro, a = some (b, o) ∧ S b ∧ A[b]? = some (.cells all t ro) ∧ o ≤ all.length ∧ (∀ x, x ∈ xs → (ecs x).length = sz) ∧ VRL ρ S A (xs.flatMap ecs) ((all.drop o).take (xs.length * sz))) := by
  cases h with
  | lstE a hc => exact ⟨a, _, rfl, hc, .inl rfl⟩
  | lst hc hs hb ho hz h => exact ⟨some (_, _), _, rfl, hc, .inr ⟨_, _, _, _, _, rfl, hs, hb, ho, hz, h⟩⟩
theorem VR.map_inv {i} (h : VR ρ S A (.map i) y) : ∃ b, y = .map (some b) ∧ RefR ρ i 0 b := by cases h with | map h => exact ⟨_, rfl, h⟩
theorem VR.fn_inv {f xs ys} (h : VR ρ S A (.fn f xs ys) y) : ∃ xs' ys', y = .func (.func f) ⟨xs'⟩ ⟨ys'⟩ ∧ VRL ρ S A xs xs' ∧ VRL ρ S A ys ys' := by cases h with | fn f h h' => exact ⟨_, _, rfl, h, h'⟩
theorem VR.yield_inv {i} (h : VR ρ S A (.yield i) y) : ∃ b, y = .func (.yield b) #[] #[] ∧ RefR ρ i 0 b := by cases h with | yield h => exact ⟨_, rfl, h⟩
theorem VR.iface_inv {t v} (h : VR ρ S A (.iface t v) y) : ∃ v', y = .iface t v' ∧ VR ρ S A v v' := by cases h with | iface t h => exact ⟨_, rfl, h⟩
theorem VR.agg_inv {xs} (h : VR ρ S A (.agg xs) y) : ∃ xs', y = .agg ⟨xs'⟩ ∧ VRL ρ S A xs xs' := by cases h with | agg h => exact ⟨_, rfl, h⟩
theorem VR.tup_inv {xs} (h : VR ρ S A (.tup xs) y) : ∃ xs', y = .tuple ⟨xs'⟩ ∧ VRL ρ S A xs xs' := by cases h with | tup h => exact ⟨_, rfl, h⟩

/-- A frozen element's cells lie where they should. -/
theorem flat_get : ∀ {xs : List PV} {sz : Nat}, (∀ x, x ∈ xs → (ecs x).length = sz) → ∀ {i : Nat} {v : PV}, xs[i]? = some v → ((xs.flatMap ecs).drop (i * sz)).take sz = ecs v ∧ (i + 1) * sz ≤ xs.length * sz
  | [], _, _, i, v, e => by simp at e
  | x :: xs, sz, hz, 0, v, e => by
    simp at e; subst e
    have := hz x (by simp)
    refine ⟨?_, by simp [Nat.add_mul]⟩
    simp only [List.flatMap_cons, Nat.zero_mul, List.drop_zero]
    rw [List.take_append_of_le_length (by omega), List.take_of_length_le (by omega)]
  | x :: xs, sz, hz, i + 1, v, e => by
    have h1 := hz x (by simp)
    obtain ⟨h2, h3⟩ := flat_get (xs := xs) (sz := sz) (fun y hy => hz y (by simp [hy])) (i := i) (v := v) (by simpa using e)
    refine ⟨?_, by simp only [List.length_cons, Nat.add_mul] at h3 ⊢; omega⟩
    simp only [List.flatMap_cons]
    rw [List.drop_append, List.drop_eq_nil_of_le (by rw [h1, Nat.add_mul]; omega), List.nil_append, h1, show (i + 1) * sz - sz = i * sz from by rw [Nat.add_mul]; omega]
    exact h2

theorem flat_len {xs : List PV} {sz : Nat} (hz : ∀ x, x ∈ xs → (ecs x).length = sz) : (xs.flatMap ecs).length = xs.length * sz := by
  induction xs with
  | nil => simp
  | cons x xs ih =>
    simp only [List.flatMap_cons, List.length_append, List.length_cons, hz x (by simp), ih fun y hy => hz y (by simp [hy]), Nat.add_mul]; omega

theorem flat_take {sz : Nat} : ∀ {xs : List PV} (n : Nat), (∀ x, x ∈ xs → (ecs x).length = sz) → ((xs.take n).flatMap ecs) = (xs.flatMap ecs).take (n * sz)
  | [], n, _ => by simp
  | x :: xs, 0, _ => by simp
  | x :: xs, n + 1, hz => by
    have h1 := hz x (by simp)
    simp only [List.take_succ_cons, List.flatMap_cons]
    rw [flat_take n fun y hy => hz y (by simp [hy]), List.take_append, List.take_of_length_le (l := ecs x) (by rw [h1, Nat.add_mul]; omega), h1, show (n + 1) * sz - sz = n * sz from by rw [Nat.add_mul]; omega]

theorem flat_drop {sz : Nat} : ∀ {xs : List PV} (n : Nat), (∀ x, x ∈ xs → (ecs x).length = sz) → ((xs.drop n).flatMap ecs) = (xs.flatMap ecs).drop (n * sz)
  | [], n, _ => by simp
  | x :: xs, 0, _ => by simp
  | x :: xs, n + 1, hz => by
    have h1 := hz x (by simp)
    simp only [List.drop_succ_cons, List.flatMap_cons]
    rw [flat_drop n fun y hy => hz y (by simp [hy]), List.drop_append, List.drop_eq_nil_of_le (as := ecs x) (by rw [h1, Nat.add_mul]; omega), h1, show (n + 1) * sz - sz = n * sz from by rw [Nat.add_mul]; omega, List.nil_append]

theorem VRL.part {cs : List PV} {cs' : List Value} (h : VRL ρ S A cs cs') {n : Option Nat} {off : Nat} {v : PV} (e : ppart n cs off = some v) : ∃ v', partA n cs' off = some v' ∧ VR ρ S A v v' := by
  unfold ppart at e
  unfold partA
  split at e
  · obtain ⟨v', e', hv⟩ := h.get e; exact ⟨v', e', hv⟩
  · rename_i k
    split at e
    · rename_i hk; cases e
      simp only
      rw [if_pos (by rw [← h.length]; exact hk)]
      exact ⟨_, rfl, .agg ((h.drop off).take k)⟩
    · cases e

/-- Loads. -/
theorem load_ok (hR : HR ρ S H A) {a : PV} {aA : Value} (ha : VR ρ S A a aA) {n : Option Nat} {v : PV} (e : pload H n a = some v) : ∃ v', loadA A n aA = some v' ∧ VR ρ S A v v' := by
  unfold pload at e
  split at e
  · rename_i i g o
    split at e
    · rename_i cs hs
      obtain ⟨b, rfl, hr⟩ := ha.ptr_inv
      obtain ⟨_, _, all, t, hA, hv⟩ := hR.ref hs hr
      obtain ⟨v', e', hv'⟩ := hv.part e
      refine ⟨v', ?_, hv'⟩
      unfold loadA partA at *
      cases n with
      | none => simp only [rd1, hA]; exact e'
      | some k =>
        simp only [rdN, hA] at e' ⊢
        split at e'
        · rename_i hk; rw [if_pos hk]; cases e'; rfl
        · cases e'
    · cases e
  · rename_i cs
    obtain ⟨b, o, all, t, ro, rfl, _, hA, ho, hv⟩ := ha.cptr_inv
    obtain ⟨v', e', hv'⟩ := hv.part e
    refine ⟨v', ?_, hv'⟩
    have hl := hv.length
    rw [List.length_take, List.length_drop] at hl
    unfold loadA partA at *
    cases n with
    | none =>
      simp only [rd1, hA]
      simp only [List.getElem?_take, List.getElem?_drop] at e'
      split at e'
      · simpa using e'
      · cases e'
    | some k =>
      simp only [rdN, hA, Nat.zero_add, List.drop_zero] at e' ⊢
      split at e'
      · rename_i hk
        rw [List.length_take, List.length_drop] at hk
        rw [if_pos (by omega)]
        cases e'
        rw [List.take_take, Nat.min_eq_left (by omega)]
        rfl
      · cases e'
  · cases e

end
end Go.Proofs.Pm

/- Stores, cells of a slice, slices of slices. -/
namespace Go.Proofs.Pm
open Go Go.Proofs.Am

section
variable {ρ : Rho} {S : Nat → Prop} {H : PH} {A : Mem}

theorem slot_get {i g : Nat} {cs : List PV} (e : slot H i g = some cs) : H[i]? = some (.cells g cs) := by
  unfold slot at e
  split at e
  · split at e
    · rename_i hg; subst hg; cases e; assumption
    · cases e
  · cases e

theorem store_ok (hR : HR ρ S H A) {a : PV} {aA : Value} (ha : VR ρ S A a aA) {vs : List PV} {vsA : List Value} (hv : VRL ρ S A vs vsA) {H' : PH} (e : pstore H a vs = some H') :
    ∃ b o A', aA = .pointer (some ⟨b, o, none⟩) ∧ wrN A b o vsA = some A' ∧ HR ρ S H' A' ∧ Step ρ S H A ρ S H' A' := by
  unfold pstore at e
  split at e
  · rename_i i g o
    split at e
    · rename_i cs hs
      split at e
      · rename_i hc; cases e
        obtain ⟨b, rfl, hr⟩ := ha.ptr_inv
        obtain ⟨h1, h2, all, t, hA, hall⟩ := hR.ref hs hr
        have hl : live H i := ⟨_, h1, rfl⟩
        refine ⟨b, o, A.set b (.cells (Am.wr all o vsA) t false), rfl, ?_, ?_⟩
        · simp only [wrN, hA]
          rw [if_pos]
          simp only [Bool.and_eq_true, decide_eq_true_eq]
          exact ⟨by rw [← hv.length, ← hall.length]; exact hc.1, hv.one hc.2⟩
        · exact hR.upd h2 hl ⟨rfl, _, t, List.getElem?_set_self (hR.lt i g b h2 hl), (VRL.wr o hv hall).mono (ext_set hR h2 hl _)⟩
      · cases e
    · cases e
  · cases e

theorem sc_ok (hR : HR ρ S H A) {x : PV} {xA : Value} (hx : VR ρ S A x xA) {m size : Nat} {cs : List PV} (e : psc H m size x = some cs) : ∃ cs', sliceCells A m size xA = some cs' ∧ VRL ρ S A cs cs' := by
  unfold psc at e
  split at e
  · rename_i i g o n c
    split at e
    · rename_i hm; cases e; subst hm
      rcases hx.sl_inv with ⟨b, c', rfl, _, _⟩ | ⟨_, a, rfl, _⟩
      · exact ⟨[], by simp [sliceCells], .nil⟩
      · cases a <;> exact ⟨[], by simp [sliceCells, adr], .nil⟩
    · rename_i hm
      split at e
      · rename_i hmn
        split at e
        · rename_i cs0 hs
          split at e
          · rename_i hl; cases e
            rcases hx.sl_inv with ⟨b, c', rfl, hr, _⟩ | ⟨rfl, _⟩
            · obtain ⟨_, _, all, t, hA, hall⟩ := hR.ref hs hr
              refine ⟨(all.drop o).take (m * size), ?_, (hall.drop o).take _⟩
              simp only [sliceCells, hm, if_false, hmn, if_true, rdN, hA]
              rw [if_pos (by rw [← hall.length]; exact hl)]
            · omega
          · cases e
        · cases e
      · cases e
  · rename_i sz cl xs
    obtain ⟨a, c, rfl, _, h⟩ := hx.lst_inv
    split at e
    · rename_i hm; cases e; subst hm
      cases a <;> exact ⟨[], by simp [sliceCells, adr], .nil⟩
    · rename_i hm
      split at e
      · rename_i hmn; cases e
        obtain ⟨hmn, rfl⟩ := hmn
        rcases h with rfl | ⟨b, o, all, t, ro, rfl, _, hA, ho, hz, hv⟩
        · simp at hmn; omega
        · have hlen := hv.length
          rw [flat_len hz, List.length_take, List.length_drop] at hlen
          have hms : m * sz ≤ xs.length * sz := Nat.mul_le_mul_right _ hmn
          refine ⟨(all.drop o).take (m * sz), ?_, ?_⟩
          · simp only [sliceCells, adr, Option.map_some, hm, if_false, hmn, if_true, rdN, hA]
            rw [if_pos (by omega)]
          · rw [flat_take m hz]
            have := hv.take (m * sz)
            rwa [List.take_take, Nat.min_eq_left hms] at this
      · cases e
  · rename_i s
    obtain ⟨s', rfl, hs⟩ := hx.str_inv
    split at e
    · rename_i hm; cases e
      obtain ⟨rfl, rfl⟩ := hm
      refine ⟨s'.data.toList.map fun b => .int .u8 b.toNat, ?_, ?_⟩
      · simp only [sliceCells]
        rw [if_pos ⟨trivial, by rw [ba_size, hs]⟩]
      · rw [hs]; exact VRL.map s fun b _ => .int _ _
    · cases e
  · cases e

theorem bnd_ok {y m : Nat} {v : PV} {vA : Value} (hv : VR ρ S A v vA) (e : pbnd y v = some m) : bnd y vA = some m ∧ m ≤ y := by
  unfold pbnd at e
  split at e
  · rename_i k i
    rw [hv.int_inv]
    split at e
    · rename_i h; cases e
      exact ⟨by simp only [bnd]; rw [if_pos h], by omega⟩
    · cases e
  · cases e

theorem bnd_up {y z m : Nat} {vA : Value} (e : bnd y vA = some m) (h : y ≤ z) : bnd z vA = some m := by
  unfold bnd at *
  split at e
  · split at e
    · rename_i h1; cases e; rw [if_pos (by omega)]
    · cases e
  · cases e

variable {e : AX → PV} {eA : AX → Value}

theorem bndO_ok (he : ∀ x, VR ρ S A (e x) (eA x)) {y d m : Nat} {x : Option AX} (h : pbndO e y d x = some m) (hd : d ≤ y) : bndO eA y d x = some m ∧ m ≤ y := by
  cases x with
  | none => simp only [pbndO, Option.some.injEq] at h; subst h; exact ⟨rfl, hd⟩
  | some x => exact bnd_ok (he x) h

theorem bndO_up {y z d m : Nat} {x : Option AX} (h : bndO eA y d x = some m) (hz : y ≤ z) : bndO eA z d x = some m := by
  cases x with
  | none => exact h
  | some x => exact bnd_up h hz

theorem addr_add (b o k : Nat) : Addr.add ⟨b, o, none⟩ k = ⟨b, o + k, none⟩ := by
  unfold Addr.add
  split
  · rename_i h; subst h; rfl
  · rfl

theorem adr_add (a : Option (Nat × Nat)) (k : Nat) : (adr a).map (·.add k) = adr (a.map fun p => (p.1, p.2 + k)) := by
  cases a
  · rfl
  · simp only [adr, Option.map_some, addr_add]

theorem lst_part {sz : Nat} {clip' : Bool} {xs : List PV} {a : Option (Nat × Nat)} {c' l h : Nat} (hl : l ≤ h) (hh : h ≤ xs.length) (hc' : LCapR sz clip' (h - l) c')
    (hx : xs = [] ∨ ∃ b o all t ro, a = some (b, o) ∧ S b ∧ A[b]? = some (.cells all t ro) ∧ o ≤ all.length ∧ (∀ x, x ∈ xs → (ecs x).length = sz) ∧ VRL ρ S A (xs.flatMap ecs) ((all.drop o).take (xs.length * sz))) (b' : Bool) (hb' : b' = true → h = l) :
    VR ρ S A (.lst sz clip' ((xs.take h).drop l)) (.slice (if b' = true then adr a else (adr a).map (·.add (l * sz))) (h - l) c') := by
  have hlen : ((xs.take h).drop l).length = h - l := by simp; omega
  by_cases hz : h = l
  · have e : (xs.take h).drop l = [] := List.eq_nil_of_length_eq_zero (by omega)
    rw [e, show h - l = 0 from by omega] at *
    rw [adr_add]
    split
    · exact .lstE a hc'
    · exact .lstE _ hc'
  · rcases hx with rfl | ⟨b, o, all, t, ro, rfl, hS, hA, ho, hz', hv⟩
    · simp at hh; omega
    · rw [if_neg (fun e => hz (hb' e)), adr_add]
      have hlen2 := hv.length
      rw [flat_len hz', List.length_take, List.length_drop] at hlen2
      have h1 : h * sz ≤ xs.length * sz := Nat.mul_le_mul_right _ hh
      have h2 : l * sz ≤ h * sz := Nat.mul_le_mul_right _ hl
      rw [← hlen] at hc' ⊢
      refine .lst (o := o + l * sz) hc' hS hA (by omega) (fun x hx => hz' x (List.mem_of_mem_take (List.mem_of_mem_drop hx))) ?_
      rw [flat_drop l (fun x hx => hz' x (List.mem_of_mem_take hx)), flat_take h hz', hlen]
      have := (hv.take (h * sz)).drop (l * sz)
      rw [List.take_take, Nat.min_eq_left h1, List.drop_take (l := all.drop o), List.drop_drop] at this
      rw [Nat.sub_mul]; exact this

theorem sl_ok (he : ∀ x, VR ρ S A (e x) (eA x)) {x : PV} {xA : Value} (hx : VR ρ S A x xA) {size : Nat} {lo hi mx : Option AX} {v : PV} (h : psl size e x lo hi mx = some v) :
    ∃ a n c v', xA = .slice a n c ∧ asliced size eA a n c lo hi mx = some v' ∧ VR ρ S A v v' := by
  unfold psl at h
  split at h
  · rename_i sz clip xs
    obtain ⟨a, c, rfl, ⟨hn, hc, hcl⟩, hcells⟩ := hx.lst_inv
    split at h
    · rename_i hsz
      have hcells' : xs = [] ∨ ∃ b o all t ro, a = some (b, o) ∧ S b ∧ A[b]? = some (.cells all t ro) ∧ o ≤ all.length ∧ (∀ x, x ∈ xs → (ecs x).length = size) ∧ VRL ρ S A (xs.flatMap ecs) ((all.drop o).take (xs.length * size)) := by
        rcases hsz with rfl | ⟨_, h0⟩
        · exact hcells
        · exact .inl (List.eq_nil_of_length_eq_zero h0)
      have hc2 : (xs.length ≤ c ∧ c < UC) ∨ c = UC + size := by
        rcases hc with hk | hk
        · exact .inl hk
        · rcases hsz with rfl | ⟨h1, h0⟩
          · exact .inr hk
          · have := hcl h1; omega
      clear hcells hc hsz
      split at h
      · split at h
        · rename_i hh e1
          split at h
          · rename_i l e2
            cases h
            obtain ⟨f1, g1⟩ := bndO_ok he e1 (Nat.le_refl _)
            obtain ⟨f2, g2⟩ := bndO_ok he e2 (Nat.zero_le _)
            rcases hc2 with ⟨h1, h2⟩ | rfl
            · refine ⟨_, _, _, .slice (if decide (c = l) = true then adr a else (adr a).map (·.add (l * size))) (hh - l) (c - l), rfl, ?_, ?_⟩
              · unfold asliced
                rw [if_neg (by omega)]
                simp only [bndO_up f1 h1, f2]
                simp
              · refine lst_part g2 g1 ⟨by omega, .inl ⟨by omega, by omega⟩, ?_⟩ hcells' _ ?_
                · intro hb
                  simp only [Bool.and_eq_true, decide_eq_true_eq] at hb
                  have := hcl hb.1; omega
                · intro hb; simp only [decide_eq_true_eq] at hb; omega
            · refine ⟨_, _, _, .slice (if (false : Bool) = true then adr a else (adr a).map (·.add (l * size))) (hh - l) (UC + size), rfl, ?_, ?_⟩
              · unfold asliced
                rw [if_pos (by omega), if_pos ⟨rfl, hn⟩]
                simp only [f1, f2]
                simp
              · refine lst_part g2 g1 ⟨by omega, .inr rfl, ?_⟩ hcells' _ (by simp)
                intro hb
                simp only [Bool.and_eq_true, decide_eq_true_eq] at hb
                have := hcl hb.1; omega
          · cases h
        · cases h
      · rename_i z
        split at h
        · rename_i m y e0
          split at h
          · rename_i hh e1
            split at h
            · rename_i l e2
              cases h
              obtain ⟨f0, g0⟩ := bnd_ok (he z) e0
              obtain ⟨f1, g1⟩ := bnd_ok (he y) e1
              obtain ⟨f2, g2⟩ := bndO_ok he e2 (Nat.zero_le _)
              refine ⟨_, _, _, .slice (if decide (m = l) = true then adr a else (adr a).map (·.add (l * size))) (hh - l) (m - l), rfl, ?_, ?_⟩
              · unfold asliced
                rcases hc2 with ⟨h1, h2⟩ | rfl
                · rw [if_neg (by omega)]
                  simp only [bnd_up f0 h1, f1, f2]
                  simp
                · rw [if_pos (by omega), if_pos ⟨rfl, hn⟩]
                  simp only [f0, f1, f2]
                  simp
              · refine lst_part g2 (by omega) ⟨by omega, .inl ⟨by omega, by omega⟩, ?_⟩ hcells' _ ?_
                · intro hb; simp only [decide_eq_true_eq] at hb; omega
                · intro hb; simp only [decide_eq_true_eq] at hb; omega
            · cases h
          · cases h
        · cases h
    · cases h
  · rename_i i g o n c
    have key : ∀ (l hh m : Nat) (q : Bool), l ≤ hh → hh ≤ m → m ≤ c → (q = true ↔ m = l) → ∀ a' c', xA = .slice a' n c' →
        VR ρ S A (.sl i g (if m = l then o else o + l * size) (hh - l) (.k (m - l))) (.slice (if m = l then a' else a'.map (·.add (l * size))) (hh - l) (m - l)) := by
      intro l hh m q h1 h2 h3 _ a' c' e
      rcases hx.sl_inv with ⟨b, c1, rfl, hr, hc⟩ | ⟨rfl, a, rfl, hc⟩
      · cases e
        obtain ⟨rfl, hc1, hc2⟩ : CapR (.k c) n _ := hc
        have hcr : CapR (.k (m - l)) (hh - l) (m - l) := ⟨rfl, by omega, by omega⟩
        split
        · exact .sl o hr hcr
        · rw [Option.map_some, addr_add]; exact .sl _ hr hcr
      · cases e
        rcases hc with hc | ⟨sz, hc⟩
        · cases hc
          obtain rfl : m = 0 := by omega
          obtain rfl : l = 0 := by omega
          obtain rfl : hh = 0 := by omega
          simp only [if_true]
          exact .slE i g o a (.inl rfl)
        · cases hc
    obtain ⟨a', hxA, hnc, hcU⟩ : ∃ a', xA = .slice a' n c ∧ n ≤ c ∧ c < UC := by
      rcases hx.sl_inv with ⟨b, c1, rfl, hr, hcc⟩ | ⟨rfl, a, rfl, hc⟩
      · obtain ⟨rfl, hc1, hc2⟩ : CapR (.k c) n c1 := hcc
        exact ⟨_, rfl, hc1, hc2⟩
      · rcases hc with hc | ⟨sz, hc⟩
        · cases hc; exact ⟨_, rfl, Nat.le_refl _, by decide⟩
        · cases hc
    split at h
    · split at h
      · rename_i hh e1
        split at h
        · rename_i l e2
          cases h
          obtain ⟨f1, g1⟩ := bndO_ok he e1 hnc
          obtain ⟨f2, g2⟩ := bndO_ok he e2 (Nat.zero_le _)
          refine ⟨_, _, _, _, hxA, ?_, key l hh c (decide (c = l)) g2 g1 (Nat.le_refl _) (by simp) _ _ hxA⟩
          unfold asliced
          rw [if_neg (by omega)]
          simp only [f1, f2]
        · cases h
      · cases h
    · rename_i x
      split at h
      · rename_i m y e0
        split at h
        · rename_i hh e1
          split at h
          · rename_i l e2
            cases h
            obtain ⟨f0, g0⟩ := bnd_ok (he x) e0
            obtain ⟨f1, g1⟩ := bnd_ok (he y) e1
            obtain ⟨f2, g2⟩ := bndO_ok he e2 (Nat.zero_le _)
            refine ⟨_, _, _, _, hxA, ?_, key l hh m (decide (m = l)) g2 g1 g0 (by simp) _ _ hxA⟩
            unfold asliced
            rw [if_neg (by omega)]
            simp only [f0, f1, f2]
          · cases h
        · cases h
      · cases h
  · rename_i i g o n sz
    split at h
    · rename_i hsz; subst hsz
      rcases hx.sl_inv with ⟨b, c1, rfl, hr, hcc⟩ | ⟨_, a, _, hc⟩
      · obtain ⟨rfl, hn⟩ : CapR (.x sz) n c1 := hcc
        split at h
        · split at h
          · rename_i hh e1
            split at h
            · rename_i l e2
              cases h
              obtain ⟨f1, g1⟩ := bndO_ok he e1 (Nat.le_refl _)
              obtain ⟨f2, g2⟩ := bndO_ok he e2 (Nat.zero_le _)
              refine ⟨_, _, _, .slice (some ⟨b, o + l * sz, none⟩) (hh - l) (UC + sz), rfl, ?_, .sl _ hr ⟨rfl, by omega⟩⟩
              unfold asliced
              rw [if_pos (by omega), if_pos ⟨rfl, hn⟩]
              simp only [f1, f2, Option.map_some, addr_add]
            · cases h
          · cases h
        · rename_i x
          split at h
          · rename_i m y e0
            split at h
            · rename_i hh e1
              split at h
              · rename_i l e2
                cases h
                obtain ⟨f0, g0⟩ := bnd_ok (he x) e0
                obtain ⟨f1, g1⟩ := bnd_ok (he y) e1
                obtain ⟨f2, g2⟩ := bndO_ok he e2 (Nat.zero_le _)
                refine ⟨_, _, _, .slice (some ⟨b, if m = l then o else o + l * sz, none⟩) (hh - l) (m - l), rfl, ?_, .sl _ hr ⟨rfl, by omega, by omega⟩⟩
                unfold asliced
                rw [if_pos (by omega), if_pos ⟨rfl, hn⟩]
                simp only [f0, f1, f2, Option.map_some, addr_add]
                split <;> rfl
              · cases h
            · cases h
          · cases h
      · rcases hc with hc | ⟨_, hc⟩ <;> cases hc
    · cases h
  · cases h

end
end Go.Proofs.Pm

/- Appends, maps, equalities, parts. -/
namespace Go.Proofs.Pm
open Go Go.Proofs.Am

section
variable {ρ : Rho} {S : Nat → Prop} {H : PH} {A : Mem}

theorem len_ok {x : PV} {xA : Value} (hx : VR ρ S A x xA) {m : Nat} (e : plen x = some m) : lenOfA xA = some m := by
  unfold plen at e
  split at e
  · cases e
    rcases hx.sl_inv with ⟨b, c', rfl, _, _⟩ | ⟨rfl, a, rfl, _⟩ <;> rfl
  · cases e
    obtain ⟨a, c, rfl, _⟩ := hx.lst_inv; rfl
  · cases e
    obtain ⟨s, rfl, h⟩ := hx.str_inv
    simp only [lenOfA, ba_size, h]
  · cases e

theorem append_ok (hR : HR ρ S H A) {s x : PV} {sA xA : Value} (hs : VR ρ S A s sA) (hx : VR ρ S A x xA) {t : TypeId} {size bytes : Nat} {v : PV} {H' : PH} (e : pappend size bytes s x H = some (v, H')) :
    ∃ v' A' ρ' S', appendA t size bytes sA xA A = some (v', A') ∧ Step ρ S H A ρ' S' H' A' ∧ HR ρ' S' H' A' ∧ VR ρ' S' A' v v' := by
  unfold pappend at e
  split at e
  · cases e
  rename_i m hm
  have hmA := len_ok hx hm
  split at e
  · cases e
  rename_i new hnew
  obtain ⟨newA, hnA, hnv⟩ := sc_ok hR hx hnew
  split at e
  · rename_i i g o n c
    obtain ⟨a, c', rfl⟩ : ∃ a c', sA = .slice a n c' := by
      rcases hs.sl_inv with ⟨b, c', rfl, _⟩ | ⟨rfl, a, rfl, _⟩ <;> exact ⟨_, _, rfl⟩
    split at e
    · rename_i h0; cases e
      exact ⟨_, A, ρ, S, by simp only [appendA, hmA, hnA]; rw [if_pos h0], .refl .., hR, hs⟩
    · rename_i h0
      split at e
      · rename_i hb
        obtain ⟨hb1, hb2, hb3⟩ := hb
        have hUn : n + m < UC := by
          have : n + m ≤ (n + m) * bytes := Nat.le_mul_of_pos_right _ hb3
          have : UC = 18446744073709551616 := rfl
          omega
        have hg : (n + m) * bytes ≤ 140737488355328 ∧ newA.all one = true := ⟨hb1, hnv.one hb2⟩
        -- the slot gets another block
        have again : ∀ (g1 b1 : Nat) (cs : List PV), ρ[i]? = some (g1, b1) → ∀ (A1 : Mem), A1.length = A.length → (∀ b', b' ≠ b1 ∨ ¬ live H i → A1[b']? = A[b']?) → ∀ (oldA : List Value) (cp : Cap), VRL ρ S A ((cs.drop o).take (n * size)) oldA → CapR cp (n + m) (UC + size) →
            ∃ v' A' ρ' S', some (Value.slice (some ⟨A1.length, 0, none⟩) (n + m) (UC + size), A1 ++ [Blk.cells (oldA ++ newA) t false]) = some (v', A') ∧ Step ρ S H A ρ' S' (H.set i (.cells (g1 + 1) ((cs.drop o).take (n * size) ++ new))) A' ∧
              HR ρ' S' (H.set i (.cells (g1 + 1) ((cs.drop o).take (n * size) ++ new))) A' ∧ VR ρ' S' A' (.sl i (g1 + 1) 0 (n + m) cp) v' := by
          intro g1 b1 cs hr1 A1 l1 l2 oldA cp ho hc
          obtain ⟨k1, k2⟩ := hR.rebind hr1 l1 l2 (new := (cs.drop o).take (n * size) ++ new) (new' := oldA ++ newA) (t := t) (ho.append hnv)
          refine ⟨_, _, _, _, rfl, k2, k1, ?_⟩
          refine .sl 0 ⟨g1 + 1, A1.length, ?_, Nat.le_refl _, fun _ => rfl⟩ hc
          rw [l1]; exact List.getElem?_set_self (List.getElem?_eq_some_iff.1 hr1).1
        -- what stood there
        have oldOf : ∀ cs, slot H i g = some cs → ∀ b, a = some ⟨b, o, none⟩ → RefR ρ i g b → o + n * size ≤ cs.length → ρ[i]? = some (g, b) ∧ live H i ∧ ∃ all0 t0, A[b]? = some (.cells all0 t0 false) ∧ o + n * size ≤ all0.length ∧ VRL ρ S A ((cs.drop o).take (n * size)) ((all0.drop o).take (n * size)) := by
          intro cs hcs b _ hr hle
          obtain ⟨q1, q2, all0, t0, q3, q4⟩ := hR.ref hcs hr
          exact ⟨q2, ⟨_, q1, rfl⟩, all0, t0, q3, by rw [← q4.length]; exact hle, (q4.drop o).take _⟩
        have oldSc : ∀ cs, slot H i g = some cs → o + n * size ≤ cs.length → ∃ oldA, sliceCells A n size (.slice a n c') = some oldA ∧ VRL ρ S A ((cs.drop o).take (n * size)) oldA := by
          intro cs hcs hle
          by_cases hn : n = 0
          · subst hn
            refine ⟨[], ?_, by simp; exact .nil⟩
            rcases hs.sl_inv with ⟨b, c2, e2, _⟩ | ⟨_, a2, e2, _⟩
            · cases e2; simp [sliceCells]
            · cases e2; cases a2 <;> simp [sliceCells, adr]
          · rcases hs.sl_inv with ⟨b, c2, e2, hr, _⟩ | ⟨hz, _⟩
            · cases e2
              obtain ⟨_, _, all0, t0, q1, q3, q4⟩ := oldOf cs hcs b rfl hr hle
              refine ⟨_, ?_, q4⟩
              simp only [sliceCells, hn, if_false, Nat.le_refl, if_true, rdN, q1]
              rw [if_pos q3]
            · exact (hn hz).elim
        split at e
        · rename_i c0
          split at e
          · cases e
          rename_i cs hcs
          have hsl := slot_get hcs
          obtain ⟨g1, b1, hr1⟩ := hR.rho hsl
          obtain ⟨h1, _⟩ := hR.blk i _ _ hsl hr1
          simp only at h1; subst h1
          obtain ⟨hc0, hncU⟩ : c' = c0 ∧ c' < UC := by
            rcases hs.sl_inv with ⟨b, c2, e2, _, hcc⟩ | ⟨rfl, a2, e2, hcc⟩
            · cases e2
              obtain ⟨q1, q2, q3⟩ : CapR (.k c0) n c' := hcc
              exact ⟨q1, q3⟩
            · cases e2
              rcases hcc with hcc | ⟨_, hcc⟩ <;> cases hcc
              exact ⟨rfl, by decide⟩
          subst hc0
          split at e
          · rename_i hin
            split at e
            · rename_i hroom; cases e
              rcases hs.sl_inv with ⟨b, c2, e2, hr, hcc⟩ | ⟨rfl, a2, e2, hcc⟩
              · cases e2
                have hp : VR ρ S A (.ptr i g1 (o + n * size)) (.pointer (some ⟨b, o + n * size, none⟩)) := .ptr _ hr
                obtain ⟨b', o', A', e3, hw, hr', hst⟩ := store_ok hR hp hnv (H' := H.set i (.cells g1 (pwr cs (o + n * size) new))) (by
                  simp only [pstore, hcs]
                  rw [if_pos ⟨hroom, hb2⟩])
                cases e3
                refine ⟨.slice (some ⟨b, o, none⟩) (n + m) c', A', ρ, S, ?_, hst, hr', .sl o hr ⟨rfl, hin, hncU⟩⟩
                simp only [appendA, hmA, hnA, h0, if_false]
                rw [if_pos hg, if_neg (by omega), if_pos hin]
                simp only [hw, Option.map_some]
              · exfalso
                cases e2
                omega
            · cases e
          · rename_i hout
            split at e
            · rename_i hle; cases e
              obtain ⟨oldA, q1, q2⟩ := oldSc cs hcs hle
              have := again g1 b1 cs hr1 A rfl (fun _ _ => rfl) oldA (.x size) q2 ⟨rfl, hUn⟩
              refine (by
                simp only [appendA, hmA, hnA, h0, if_false]
                rw [if_pos hg, if_neg (by omega), if_neg hout, q1]
                exact this)
            · cases e
        · rename_i sz
          split at e
          · cases e
          rename_i cs hcs
          split at e
          · rename_i hh; cases e
            obtain ⟨rfl, hn0, hle⟩ := hh
            rcases hs.sl_inv with ⟨b, c2, e2, hr, hcc⟩ | ⟨_, a2, _, hcc⟩
            · cases e2
              obtain ⟨rfl, hn1⟩ : CapR (.x sz) n c' := hcc
              obtain ⟨q0, ql, all0, t0, q1, q3, q4⟩ := oldOf cs hcs b rfl hr hle
              have := again g b cs q0 (A.set b .gone) (by simp) (fun b' hb' => by rw [List.getElem?_set_ne (Ne.symm (hb'.resolve_right fun f => f ql))]) _ (.x sz) q4 ⟨rfl, hUn⟩
              refine (by
                simp only [appendA, hmA, hnA, h0, if_false]
                rw [if_pos hg, if_pos (by omega), if_neg (by simp), if_neg hn0]
                simp only [q1]
                rw [if_pos q3]
                simpa using this)
            · rcases hcc with hcc | ⟨_, hcc⟩ <;> cases hcc
          · cases e
        · rename_i sz
          split at e
          · cases e
          rename_i cs hcs
          split at e
          · rename_i hh; cases e
            obtain ⟨rfl, hle⟩ := hh
            obtain ⟨b1, hr1, hkind⟩ : ∃ b1, ρ[i]? = some (g, b1) ∧ (slot H i g = some cs ∨ n = 0 ∧ cs = []) := by
              unfold slotN at hcs
              split at hcs
              · rename_i g' cs' he
                split at hcs
                · rename_i hg; subst hg; cases hcs
                  obtain ⟨g1, b1, hr1⟩ := hR.rho he
                  obtain ⟨h1, _⟩ := hR.blk i _ _ he hr1
                  simp only at h1; subst h1
                  exact ⟨b1, hr1, .inl (by simp [slot, he])⟩
                · cases hcs
              · rename_i g' he
                split at hcs
                · rename_i hg; obtain ⟨rfl, hn⟩ := hg; cases hcs
                  obtain ⟨g1, b1, hr1⟩ := hR.rho he
                  have h1 := hR.blk i _ _ he hr1
                  simp only [BlkR] at h1; subst h1
                  exact ⟨b1, hr1, .inr ⟨hn, rfl⟩⟩
                · cases hcs
              · cases hcs
            have full : c' = n → ∃ v' A' ρ' S', appendA t sz bytes (.slice a n c') xA A = some (v', A') ∧ Step ρ S H A ρ' S' (H.set i (.cells (g + 1) ((cs.drop o).take (n * sz) ++ new))) A' ∧
                HR ρ' S' (H.set i (.cells (g + 1) ((cs.drop o).take (n * sz) ++ new))) A' ∧ VR ρ' S' A' (.sl i (g + 1) 0 (n + m) (.u sz)) v' := by
              rintro rfl
              obtain ⟨oldA, q1, q2⟩ : ∃ oldA, sliceCells A c' sz (.slice a c' c') = some oldA ∧ VRL ρ S A ((cs.drop o).take (c' * sz)) oldA := by
                rcases hkind with hk | ⟨hn, rfl⟩
                · exact oldSc cs hk hle
                · subst hn
                  refine ⟨[], ?_, by simp; exact .nil⟩
                  rcases hs.sl_inv with ⟨b, c2, e2, _⟩ | ⟨_, a2, e2, _⟩
                  · cases e2; simp [sliceCells]
                  · cases e2; cases a2 <;> simp [sliceCells, adr]
              have := again g b1 cs hr1 A rfl (fun _ _ => rfl) oldA (.u sz) q2 ⟨hUn, .inr ⟨rfl, by omega⟩⟩
              refine (by
                simp only [appendA, hmA, hnA, h0, if_false]
                rw [if_pos hg, if_neg (by omega), if_neg (by omega), q1]
                exact this)
            rcases hs.sl_inv with ⟨b, c2, e2, hr, hcc⟩ | ⟨rfl, a2, e2, hcc⟩
            · cases e2
              obtain ⟨hn1, hcc⟩ : CapR (.u sz) n c' := hcc
              rcases hcc with rfl | ⟨rfl, hn0⟩
              · exact full rfl
              · rcases hkind with hk | ⟨hn, _⟩
                · obtain ⟨q0, ql, all0, t0, q1, q3, q4⟩ := oldOf cs hk b rfl hr hle
                  have := again g b cs q0 (A.set b .gone) (by simp) (fun b' hb' => by rw [List.getElem?_set_ne (Ne.symm (hb'.resolve_right fun f => f ql))]) _ (.u sz) q4 ⟨hUn, .inr ⟨rfl, by omega⟩⟩
                  refine (by
                    simp only [appendA, hmA, hnA, h0, if_false]
                    rw [if_pos hg, if_pos (by omega), if_neg (by simp), if_neg hn0]
                    simp only [q1]
                    rw [if_pos q3]
                    simpa using this)
                · exact (hn0 hn).elim
            · cases e2
              exact full rfl
          · cases e
      · cases e
  · rename_i sz clip xs
    obtain ⟨a, c, rfl, ⟨hn, hc, hcl⟩, hcells⟩ := hs.lst_inv
    split at e
    · rename_i h0; cases e
      exact ⟨_, A, ρ, S, by simp only [appendA, hmA, hnA]; rw [if_pos h0], .refl .., hR, hs⟩
    · rename_i h0
      split at e
      · rename_i hb; cases e
        obtain ⟨hb1, hb2, hb3, hb4, hb5⟩ := hb
        obtain rfl := hcl hb5
        obtain ⟨oldA, q1, q2⟩ : ∃ oldA, sliceCells A xs.length size (.slice (adr a) xs.length xs.length) = some oldA ∧ VRL ρ S A (xs.flatMap ecs) oldA := by
          by_cases hz : xs.length = 0
          · have := List.eq_nil_of_length_eq_zero hz; subst this
            cases a <;> exact ⟨[], by simp [sliceCells, adr], .nil⟩
          · have hsz : sz = size := by
              rcases hb4 with h | h
              · exact h
              · exact (hz h).elim
            subst hsz
            obtain ⟨o1, h1, h2⟩ := sc_ok hR hs (m := xs.length) (size := sz) (cs := (xs.take xs.length).flatMap ecs) (by simp [psc, hz])
            exact ⟨o1, h1, by simpa using h2⟩
        have hg : (xs.length + m) * bytes ≤ 140737488355328 ∧ newA.all one = true := ⟨hb1, hnv.one hb2⟩
        have hUn : xs.length + m < UC := by
          have : xs.length + m ≤ (xs.length + m) * bytes := Nat.le_mul_of_pos_right _ hb3
          have : UC = 18446744073709551616 := rfl
          omega
        have hx2 := ext_app hR (0, A.length) (Blk.cells (oldA ++ newA) t false)
        obtain ⟨k1, k2⟩ := hR.alloc (blk := .cells 0 (xs.flatMap ecs ++ new)) (ab := .cells (oldA ++ newA) t false) ⟨rfl, oldA ++ newA, t, by simp, (q2.append hnv).mono hx2⟩
        refine ⟨.slice (some ⟨A.length, 0, none⟩) (xs.length + m) (UC + size), _, _, _, ?_, k2, k1, ?_⟩
        · simp only [appendA, hmA, hnA, h0, if_false]
          rw [if_pos hg, if_neg (by omega), if_neg (by omega), q1]
          rfl
        · refine .sl 0 ⟨0, A.length, ?_, Nat.le_refl _, fun _ => rfl⟩ ⟨rfl, hUn⟩
          rw [← hR.len]; simp
      · cases e
  · cases e

theorem eqPrim_ok {p : PK} {x y : PV} {xA yA : Value} (hx : VR ρ S A x xA) (hy : VR ρ S A y yA) {r : Bool} (e : peqPrim p x y = some r) : eqPrim p xA yA = some r := by
  unfold peqPrim at e
  split at e
  · rw [hx.int_inv, hy.int_inv]; exact e
  · rw [hx.bool_inv, hy.bool_inv]; exact e
  · obtain ⟨s, rfl, h1⟩ := hx.str_inv
    obtain ⟨s', rfl, h2⟩ := hy.str_inv
    cases e
    simp only [eqPrim, ba_beq, h1, h2]
  · cases e

theorem eqCells_ok : ∀ {ks : List PK} {a b : List PV} {aA bA : List Value}, VRL ρ S A a aA → VRL ρ S A b bA → ∀ {r : Bool}, peqCells ks a b = some r → eqCells ks aA bA = some r
  | [], _, _, _, _, .nil, .nil, r, e => e
  | [], _, _, _, _, .cons _ _, .nil, r, e => by cases e
  | [], _, _, _, _, .nil, .cons _ _, r, e => by cases e
  | [], _, _, _, _, .cons _ _, .cons _ _, r, e => by cases e
  | _ :: _, _, _, _, _, .nil, _, r, e => by cases e
  | _ :: _, _, _, _, _, .cons _ _, .nil, r, e => by cases e
  | k :: ks, _, _, _, _, .cons h t, .cons h' t', r, e => by
    simp only [peqCells] at e
    split at e
    · rename_i a b e1 e2
      cases e
      simp only [eqCells, eqPrim_ok h h' e1, eqCells_ok t t' e2]
    · cases e

theorem eqKey_ok {kt : KT} {x y : PV} {xA yA : Value} (hx : VR ρ S A x xA) (hy : VR ρ S A y yA) {r : Bool} (e : peqKey kt x y = some r) : eqKey kt xA yA = some r := by
  unfold peqKey at e
  split at e
  · exact eqPrim_ok hx hy e
  · obtain ⟨_, rfl, h1⟩ := hx.agg_inv
    obtain ⟨_, rfl, h2⟩ := hy.agg_inv
    exact eqCells_ok h1 h2 e
  · cases e

theorem find_ok {kt : KT} {k : PV} {kA : Value} (hk : VR ρ S A k kA) : ∀ {es : List (PV × PV)} {es' : List MapEntry}, EnR ρ S A es es' → ∀ {i : Nat} {r}, pfind kt k es i = some r →
    match r with
    | none => findA kt kA es' i = some none
    | some (j, v) => ∃ v', findA kt kA es' i = some (some (j, v')) ∧ VR ρ S A v v'
  | _, _, .nil, i, r, e => by cases e; rfl
  | _, _, .cons h1 h2 t, i, r, e => by
    simp only [pfind] at e
    split at e
    · rename_i e1; cases e
      simp only [findA, eqKey_ok hk h1 e1]
      exact ⟨_, rfl, h2⟩
    · rename_i e1
      have := find_ok hk t e
      simp only [findA, eqKey_ok hk h1 e1]
      exact this
    · cases e

theorem EnR.length {es : List (PV × PV)} {es' : List MapEntry} (h : EnR ρ S A es es') : es.length = es'.length := by
  induction h with
  | nil => rfl
  | cons _ _ _ ih => simp [ih]

theorem EnR.set {k v : PV} {kA vA : Value} (hk : VR ρ S A k kA) (hv : VR ρ S A v vA) : ∀ {es : List (PV × PV)} {es' : List MapEntry}, EnR ρ S A es es' → ∀ i, EnR ρ S A (es.set i (k, v)) (es'.modify i fun x => { x with key := kA, val := vA })
  | _, _, .nil, i => by simp [List.modify_nil]; exact .nil
  | _, _, .cons h1 h2 t, 0 => by simp; exact .cons hk hv t
  | _, _, .cons h1 h2 t, i + 1 => by simp; exact .cons h1 h2 (t.set hk hv i)

theorem EnR.app {k v : PV} {m : MapEntry} (hk : VR ρ S A k m.key) (hv : VR ρ S A v m.val) : ∀ {es : List (PV × PV)} {es' : List MapEntry}, EnR ρ S A es es' → EnR ρ S A (es ++ [(k, v)]) (es' ++ [m])
  | _, _, .nil => .cons hk hv .nil
  | _, _, .cons h1 h2 t => .cons h1 h2 (t.app hk hv)

theorem fill_ok {e : AX → PV} {eA : AX → Value} (he : ∀ x, VR ρ S A (e x) (eA x)) : ∀ {ps : List (Nat × Nat × AX)} {cs : List PV} {csA : List Value}, VRL ρ S A cs csA → ∀ {r : List PV}, pfill e cs ps = some r → ∃ rA, fillA eA csA ps = some rA ∧ VRL ρ S A r rA
  | [], cs, csA, h, r, hh => by cases hh; exact ⟨_, rfl, h⟩
  | (off, size, x) :: ps, cs, csA, h, r, hh => by
    simp only [pfill] at hh
    split at hh
    · rename_i vs hvs
      obtain ⟨vsA, e1, hv⟩ := (he x).cells hvs
      split at hh
      · rename_i hc
        obtain ⟨rA, e2, hr⟩ := fill_ok he (VRL.wr off hv h) hh
        refine ⟨rA, ?_, hr⟩
        simp only [fillA, e1]
        rw [if_pos (by rw [← hv.length, ← h.length]; exact hc)]
        exact e2
      · cases hh
    · cases hh

theorem nil_ok {k : NK} {x : PV} {xA : Value} (hx : VR ρ S A x xA) {r : Bool} (e : pnil k x = some r) : isNil k xA = some r := by
  unfold pnil at e
  split at e <;> first | (cases e; done) | skip
  · cases e; rw [hx.nilP_inv]; rfl
  · cases e; obtain ⟨b, rfl, _⟩ := hx.ptr_inv; rfl
  · cases e; obtain ⟨b, o, all, t, ro, rfl, _⟩ := hx.cptr_inv; rfl
  · cases e
    rcases hx.sl_inv with ⟨b, c', rfl, _⟩ | ⟨h, _⟩
    · rfl
    · cases h
  · cases e
    obtain ⟨a, c, rfl, _, h | ⟨b, o, all, t, ro, rfl, _⟩⟩ := hx.lst_inv
    · cases h
    · rfl
  · cases e; rw [hx.nilM_inv]; rfl
  · cases e; obtain ⟨b, rfl, _⟩ := hx.map_inv; rfl
  · cases e; rw [hx.nilF_inv]; rfl
  · cases e; obtain ⟨_, _, rfl, _⟩ := hx.fn_inv; rfl
  · cases e; rw [hx.nilI_inv]; rfl
  · cases e; obtain ⟨_, rfl, _⟩ := hx.iface_inv; rfl

theorem bytes_ok : ∀ {cs : List PV} {csA : List Value}, VRL ρ S A cs csA → ∀ {l : List UInt8}, cs.mapM byteOf = some l → csA.all (fun | .int .u8 _ => true | _ => false) = true ∧ csA.map (fun | .int _ n => UInt8.ofNat n.toNat | _ => 0) = l
  | _, _, .nil, l, e => by simp at e; subst e; exact ⟨rfl, rfl⟩
  | _, _, .cons (x := x) h t, l, e => by
    simp only [List.mapM_cons, Option.bind_eq_bind, Option.bind_eq_some_iff, Option.pure_def, Option.some.injEq] at e
    obtain ⟨b, hb, bs, hbs, rfl⟩ := e
    obtain ⟨h1, h2⟩ := bytes_ok t hbs
    unfold byteOf at hb
    split at hb
    · rw [h.int_inv]; cases hb
      exact ⟨by simpa using h1, by simp [h2]⟩
    · cases hb

end
end Go.Proofs.Pm

/- Each operation: what the pure values come to, the small machine comes to. -/
namespace Go.Proofs.Pm
open Go Go.Proofs.Am

inductive PRR (ρ : Rho) (S : Nat → Prop) (A : Mem) : PR → AR → Prop
  | val {v : PV} {v' : Value} (h : VR ρ S A v v') : PRR ρ S A (.val v) (.val v')
  | fn (f : FuncId) {xs : List PV} {xs' : List Value} (h : VRL ρ S A xs xs') : PRR ρ S A (.enter (.fn f) xs) (.enter (.fn f) xs')
  | yield {i b : Nat} (hr : RefR ρ i 0 b) {xs : List PV} {xs' : List Value} (h : VRL ρ S A xs xs') : PRR ρ S A (.enter (.yield i) xs) (.enter (.yield b) xs')
  | panic {v : PV} {v' : Value} (h : VR ρ S A v v') : PRR ρ S A (.panic v) (.panic v')

def Snd (ρ : Rho) (S : Nat → Prop) (H : PH) (A : Mem) (x : Option (AR × Mem)) (r : PR) (H' : PH) : Prop :=
  ∃ rA A' ρ' S', x = some (rA, A') ∧ Step ρ S H A ρ' S' H' A' ∧ HR ρ' S' H' A' ∧ PRR ρ' S' A' r rA

section
variable {ρ : Rho} {S : Nat → Prop} {H : PH} {A : Mem}

theorem Snd.pure (hR : HR ρ S H A) {r : PR} {rA : AR} (h : PRR ρ S A r rA) : Snd ρ S H A (some (rA, A)) r H := ⟨rA, A, ρ, S, rfl, .refl .., hR, h⟩

theorem Snd.val (hR : HR ρ S H A) {v : PV} {vA : Value} (h : VR ρ S A v vA) : Snd ρ S H A (some (.val vA, A)) (.val v) H := .pure hR (.val h)

/-- A block of cells more. -/
theorem Snd.new (hR : HR ρ S H A) {cs : List PV} {csA : List Value} (h : VRL ρ S A cs csA) {t : TypeId} {v : PV} {vA : Value} (hv : ∀ ρ' S' A', RefR ρ' H.length 0 A.length → VR ρ' S' A' v vA) :
    Snd ρ S H A (some (.val vA, A ++ [.cells csA t false])) (.val v) (H ++ [.cells 0 cs]) := by
  have hx := ext_app hR (0, A.length) (Blk.cells csA t false)
  obtain ⟨k1, k2⟩ := hR.alloc (blk := .cells 0 cs) (ab := .cells csA t false) ⟨rfl, csA, t, by simp, h.mono hx⟩
  exact ⟨_, _, _, _, rfl, k2, k1, .val (hv _ _ _ ⟨0, A.length, by rw [← hR.len]; simp, Nat.le_refl _, fun _ => rfl⟩)⟩

theorem pop_sound (hR : HR ρ S H A) {e : AX → PV} {eA : AX → Value} (he : ∀ x, VR ρ S A (e x) (eA x)) (hle : ∀ l : List AX, VRL ρ S A (l.map e) (l.map eA)) {o : AOp} {r : PR} {H' : PH} (h : pop o e H = some (r, H')) : Snd ρ S H A (aop o eA A) r H' := by
  cases o with
  | move x => simp only [pop] at h; cases h; exact .val hR (he x)
  | pick c a b =>
    simp only [pop] at h
    split at h
    · rename_i t ht
      cases h
      have hc := he c; rw [ht] at hc
      simp only [aop, hc.bool_inv]
      cases t
      · exact .val hR (he b)
      · exact .val hR (he a)
    · cases h
  | box t x =>
    simp only [pop] at h
    split at h
    · rename_i cs hcs
      cases h
      obtain ⟨csA, e1, hv⟩ := (he x).cells hcs
      simp only [aop, e1, Option.map_some]
      exact .new hR hv fun _ _ _ hr => .ptr 0 hr
    · cases h
  | new t z =>
    simp only [pop] at h; cases h
    simp only [aop]
    exact .new hR (.cval1 z) fun _ _ _ hr => .ptr 0 hr
  | build z ps =>
    simp only [pop] at h
    split at h
    · rename_i cs hcs; cases h
      obtain ⟨rA, e1, hv⟩ := fill_ok he (.cval1 z) hcs
      simp only [aop, e1, Option.map_some]
      exact .val hR (.agg hv)
    · cases h
  | row t len z ps =>
    simp only [pop] at h
    split at h
    · rename_i cs hcs
      split at h
      · rename_i hlen; cases h
        obtain ⟨rA, e1, hv⟩ := fill_ok he (.cval1 z) hcs
        simp only [aop, e1, Option.map_some]
        exact .new hR hv fun _ _ _ hr => .sl 0 hr ⟨rfl, Nat.le_refl _, hlen⟩
      · cases h
    · cases h
  | load a =>
    simp only [pop] at h
    split at h
    · rename_i v hv; cases h
      obtain ⟨v', e1, h1⟩ := load_ok hR (he a) hv
      simp only [aop, e1, Option.map_some]
      exact .val hR h1
    · cases h
  | loadN n a =>
    simp only [pop] at h
    split at h
    · rename_i v hv; cases h
      obtain ⟨v', e1, h1⟩ := load_ok hR (he a) hv
      simp only [aop, e1, Option.map_some]
      exact .val hR h1
    · cases h
  | store n a v =>
    simp only [pop] at h
    split at h
    · rename_i vs hvs
      split at h
      · rename_i hn
        split at h
        · rename_i H1 hst; cases h
          obtain ⟨vsA, e1, hv⟩ := (he v).cells hvs
          obtain ⟨b, o, A', e2, e3, h1, h2⟩ := store_ok hR (he a) hv hst
          refine ⟨_, A', ρ, S, ?_, h2, h1, .val (.un undef)⟩
          simp only [aop, e1, e2]
          rw [if_pos (by rw [← hv.length]; exact hn), e3]; rfl
        · cases h
      · cases h
    · cases h
  | nilCheck x =>
    simp only [pop] at h
    have hx := he x
    split at h
    · rename_i hex; rw [hex] at hx; cases h
      obtain ⟨b, e1, hr⟩ := hx.ptr_inv
      rw [e1] at hx
      simp only [aop, e1]; exact .val hR hx
    · rename_i hex; rw [hex] at hx; cases h
      obtain ⟨b, o, all, t, ro, e1, _⟩ := hx.cptr_inv
      rw [e1] at hx
      simp only [aop, e1]; exact .val hR hx
    · rename_i hex; rw [hex] at hx; cases h
      obtain ⟨b, o, e1, _⟩ := hx.fn_inv
      rw [e1] at hx
      simp only [aop, e1]; exact .val hR hx
    · cases h
  | bin op x y =>
    simp only [pop] at h
    have hx := he x
    have hy := he y
    split at h
    · rename_i v hv; cases h
      unfold pbin at hv
      split at hv
      · rename_i k a k' b e1 e2
        rw [e1] at hx; rw [e2] at hy
        simp only [Option.map_eq_some_iff] at hv
        obtain ⟨w, hw, rfl⟩ := hv
        simp only [aop, hx.int_inv, hy.int_inv, hw, Option.map_some]
        exact .val hR (.cval1 w)
      · rename_i a b e1 e2
        rw [e1] at hx; rw [e2] at hy
        obtain ⟨s, e3, rfl⟩ := hx.str_inv
        obtain ⟨s', e4, rfl⟩ := hy.str_inv
        simp only [aop, e3, e4, abin, ba_size, ba_toList]
        split at hv
        · split at hv
          · rename_i hl; cases hv
            rw [if_pos hl]
            exact .val hR (.str _ (ba_append s s'))
          · cases hv
        · cases hv; exact .val hR (.bool _)
        · cases hv; exact .val hR (.bool _)
        · cases hv; exact .val hR (.bool _)
        · cases hv
      · cases hv
    · cases h
  | eqB neg x y =>
    simp only [pop] at h
    have hx := he x
    have hy := he y
    split at h
    · rename_i a b e1 e2; cases h
      rw [e1] at hx; rw [e2] at hy
      simp only [aop, hx.bool_inv, hy.bool_inv]
      exact .val hR (.bool _)
    · cases h
  | eqNil k neg x y =>
    simp only [pop] at h
    split at h
    · rename_i a b e1 e2
      split at h
      · rename_i hab; cases h
        simp only [aop, nil_ok (he x) e1, nil_ok (he y) e2]
        rw [if_pos hab]
        exact .val hR (.bool _)
      · cases h
    · cases h
  | eqFlat ks neg x y =>
    simp only [pop] at h
    have hx := he x
    have hy := he y
    split at h
    · rename_i a b e1 e2
      rw [e1] at hx; rw [e2] at hy
      split at h
      · rename_i r hr; cases h
        obtain ⟨xs, e3, h3⟩ := hx.agg_inv
        obtain ⟨ys, e4, h4⟩ := hy.agg_inv
        simp only [aop, e3, e4, eqCells_ok h3 h4 hr, Option.map_some]
        exact .val hR (.bool _)
      · cases h
    · cases h
  | un op x =>
    simp only [pop] at h
    have hx := he x
    split at h
    · rename_i v hv; cases h
      unfold pun at hv
      split at hv
      · rename_i b e1
        rw [e1] at hx
        simp only [Option.map_eq_some_iff] at hv
        obtain ⟨w, hw, rfl⟩ := hv
        simp only [aop, hx.bool_inv, hw, Option.map_some]
        exact .val hR (.cval1 w)
      · rename_i k n e1
        rw [e1] at hx
        simp only [Option.map_eq_some_iff] at hv
        obtain ⟨w, hw, rfl⟩ := hv
        simp only [aop, hx.int_inv, hw, Option.map_some]
        exact .val hR (.cval1 w)
      · cases hv
    · cases h
  | conv k x =>
    simp only [pop] at h
    have hx := he x
    split at h
    · rename_i k' n e1; cases h
      rw [e1] at hx
      simp only [aop, hx.int_inv]
      exact .val hR (.int _ _)
    · cases h
  | convId x =>
    simp only [pop] at h
    have hx := he x
    split at h
    · rename_i s e1; cases h
      rw [e1] at hx
      obtain ⟨s', e2, hs⟩ := hx.str_inv
      simp only [aop, e2]
      exact .val hR (.str _ hs)
    · cases h
  | bytesOf t x =>
    simp only [pop] at h
    have hx := he x
    split at h
    · rename_i s e1
      rw [e1] at hx
      obtain ⟨s', e2, rfl⟩ := hx.str_inv
      split at h
      · rename_i hl; cases h
        simp only [aop, e2]
        rw [if_pos (by rw [ba_size]; exact hl)]
        refine .new hR (VRL.map _ fun b _ => .int _ _) fun _ _ _ hr => ?_
        rw [ba_size]
        refine .sl 0 hr ⟨rfl, ?_⟩
        have : UC = 18446744073709551616 := rfl
        omega
      · cases h
    · cases h
  | strOf x =>
    simp only [pop] at h
    have hx := he x
    have done : ∀ (a : Option Addr) (n c : Nat) (cs : List PV), eA x = .slice a n c → psc H n 1 (e x) = some cs → ∀ l, cs.mapM byteOf = some l → Snd ρ S H A (aop (.strOf x) eA A) (.val (.str l)) H := by
      intro a n c cs e1 e2 l hl
      obtain ⟨csA, e3, hv⟩ := sc_ok hR hx e2
      obtain ⟨h1, h2⟩ := bytes_ok hv hl
      rw [e1] at e3
      simp only [aop, e1, e3]
      split
      · exact .val hR (.str _ h2)
      · rename_i hne; exact absurd h1 hne
    split at h
    · rename_i i g o n c e1
      split at h
      · rename_i cs hcs
        simp only [Option.map_eq_some_iff, Prod.mk.injEq] at h
        obtain ⟨l, hl, rfl, rfl⟩ := h
        rw [← e1] at hcs
        rw [e1] at hx
        rcases hx.sl_inv with ⟨b, c', e3, _⟩ | ⟨rfl, a, e3, _⟩
        · exact done _ _ _ cs e3 hcs l hl
        · exact done _ _ _ cs e3 hcs l hl
      · cases h
    · rename_i sz c xs e1
      split at h
      · rename_i cs hcs
        simp only [Option.map_eq_some_iff, Prod.mk.injEq] at h
        obtain ⟨l, hl, rfl, rfl⟩ := h
        rw [← e1] at hcs
        rw [e1] at hx
        obtain ⟨a, c, e3, _⟩ := hx.lst_inv
        exact done _ _ _ cs e3 hcs l hl
      · cases h
    · cases h
  | slice size x lo hi mx =>
    simp only [pop] at h
    split at h
    · rename_i v hv; cases h
      obtain ⟨a, n, c, v', e1, e2, h1⟩ := sl_ok he (he x) hv
      simp only [aop, e1, e2, Option.map_some]
      exact .val hR h1
    · cases h
  | sliceStr x lo hi =>
    simp only [pop] at h
    have hx := he x
    split at h
    · rename_i s e1
      rw [e1] at hx
      obtain ⟨s', e2, rfl⟩ := hx.str_inv
      split at h
      · rename_i hh e3
        split at h
        · rename_i l e4; cases h
          simp only [aop, e2, ba_size]
          rw [(bndO_ok he e3 (Nat.le_refl _)).1]
          simp only
          rw [(bndO_ok he e4 (Nat.zero_le _)).1]
          exact .val hR (.str _ (ba_extract _ _ _))
        · cases h
      · cases h
    · cases h
  | sliceArr n size x lo hi =>
    simp only [pop] at h
    have hx := he x
    split at h
    · rename_i i g o e1
      rw [e1] at hx
      obtain ⟨b, e2, hr⟩ := hx.ptr_inv
      split at h
      · cases h
      · rename_i hU
        split at h
        · rename_i hh e3
          split at h
          · rename_i l e4; cases h
            obtain ⟨q1, q2⟩ := bndO_ok he e3 (Nat.le_refl _)
            obtain ⟨q3, q4⟩ := bndO_ok he e4 (Nat.zero_le _)
            simp only [aop, e2, if_neg hU, q1, q3]
            refine .val hR ?_
            have hcr : CapR (.k (n - l)) (hh - l) (n - l) := ⟨rfl, by omega, by omega⟩
            split
            · exact .sl o hr hcr
            · rw [addr_add]; exact .sl _ hr hcr
          · cases h
        · cases h
    · cases h
  | fieldAddr off x =>
    simp only [pop] at h
    have hx := he x
    split at h
    · rename_i i g o e1; cases h
      rw [e1] at hx
      obtain ⟨b, e2, hr⟩ := hx.ptr_inv
      simp only [aop, e2, addr_add]
      exact .val hR (.ptr _ hr)
    · rename_i cs e1
      split at h
      · rename_i hoff; cases h
        rw [e1] at hx
        obtain ⟨b, o, all, t, ro, e2, hS, hA, ho, hv⟩ := hx.cptr_inv
        simp only [aop, e2, addr_add]
        have hl := hv.length
        rw [List.length_take, List.length_drop] at hl
        refine .val hR (.cptr hS hA (by omega) ?_)
        have := hv.drop off
        rw [List.drop_take, List.drop_drop] at this
        rw [List.length_drop]; exact this
      · cases h
    · cases h
  | field off n x =>
    simp only [pop] at h
    have hx := he x
    split at h
    · rename_i cs e1
      rw [e1] at hx
      obtain ⟨csA, e2, hv⟩ := hx.agg_inv
      split at h
      · rename_i v e3; cases h
        obtain ⟨v', e4, hv'⟩ := hv.part e3
        simp only [aop, e2, e4, Option.map_some]
        exact .val hR hv'
      · cases h
    · cases h
  | indexAddr size x i =>
    simp only [pop] at h
    have hx := he x
    have hi := he i
    split at h
    · rename_i j g o n c k' k e1 e2
      rw [e1] at hx; rw [e2] at hi
      split at h
      · rename_i hk; cases h
        rcases hx.sl_inv with ⟨b, c', e3, hr, _⟩ | ⟨hn, _⟩
        · simp only [aop, e3, hi.int_inv]
          rw [if_pos hk, addr_add]
          exact .val hR (.ptr _ hr)
        · omega
      · cases h
    · rename_i sz c xs k' k e1 e2
      rw [e1] at hx; rw [e2] at hi
      split at h
      · rename_i hk
        obtain ⟨hk, rfl⟩ := hk
        split at h
        · rename_i v hv; cases h
          obtain ⟨a, c', e3, _, h0 | ⟨b, o, all, t, ro, rfl, hS, hA, ho, hz, hcs⟩⟩ := hx.lst_inv
          · subst h0; simp at hv
          · have hkl := (List.getElem?_eq_some_iff.1 hv).1
            obtain ⟨q1, q2⟩ := flat_get hz hv
            have hl := hcs.length
            rw [flat_len hz, List.length_take, List.length_drop] at hl
            simp only [aop, e3, adr, Option.map_some, hi.int_inv]
            rw [if_pos (by omega), addr_add]
            have hvl := hz v (List.mem_iff_getElem?.2 ⟨_, hv⟩)
            have q3 : k.toNat * sz + sz = (k.toNat + 1) * sz := by rw [Nat.add_mul]; omega
            refine .val hR (.cptr hS hA (by omega) ?_)
            have := (hcs.drop (k.toNat * sz)).take sz
            rw [q1, List.drop_take, List.drop_drop, List.take_take, Nat.min_eq_left (by omega)] at this
            rw [hvl]; exact this
        · cases h
      · cases h
    · cases h
  | indexArr len size x i =>
    simp only [pop] at h
    have hx := he x
    have hi := he i
    split at h
    · rename_i j g o k' k e1 e2
      rw [e1] at hx; rw [e2] at hi
      split at h
      · rename_i hk; cases h
        obtain ⟨b, e3, hr⟩ := hx.ptr_inv
        simp only [aop, e3, hi.int_inv]
        rw [if_pos hk, addr_add]
        exact .val hR (.ptr _ hr)
      · cases h
    · rename_i cs k' k e1 e2
      rw [e1] at hx; rw [e2] at hi
      split at h
      · rename_i hk; cases h
        obtain ⟨b, o, all, t, ro, e3, hS, hA, ho, hv⟩ := hx.cptr_inv
        simp only [aop, e3, hi.int_inv]
        rw [if_pos ⟨hk.1, hk.2.1⟩, addr_add]
        have hl := hv.length
        rw [List.length_take, List.length_drop] at hl
        refine .val hR (.cptr hS hA (by omega) ?_)
        have := hv.drop (k.toNat * size)
        rw [List.drop_take, List.drop_drop] at this
        rw [List.length_drop]; exact this
      · cases h
    · cases h
  | indexVal len size n x i =>
    simp only [pop] at h
    have hx := he x
    have hi := he i
    split at h
    · rename_i cs k' k e1 e2
      rw [e1] at hx; rw [e2] at hi
      split at h
      · rename_i hk
        obtain ⟨csA, e3, hv⟩ := hx.agg_inv
        split at h
        · rename_i v e4; cases h
          obtain ⟨v', e5, hv'⟩ := hv.part e4
          simp only [aop, e3, hi.int_inv]
          rw [if_pos hk, e5]
          exact .val hR hv'
        · cases h
      · cases h
    · cases h
  | indexStr x i =>
    simp only [pop] at h
    have hx := he x
    have hi := he i
    split at h
    · rename_i s k' k e1 e2
      rw [e1] at hx; rw [e2] at hi
      split at h
      · rename_i hk
        split at h
        · rename_i b e3; cases h
          obtain ⟨s', e4, rfl⟩ := hx.str_inv
          simp only [aop, e4, hi.int_inv]
          rw [if_pos hk, e3]
          exact .val hR (.int _ _)
        · cases h
      · cases h
    · cases h
  | extract x i =>
    simp only [pop] at h
    have hx := he x
    split at h
    · rename_i vs e1
      rw [e1] at hx
      split at h
      · rename_i v e2; cases h
        obtain ⟨vsA, e3, hv⟩ := hx.tup_inv
        obtain ⟨v', e4, hv'⟩ := hv.get e2
        simp only [aop, e3, e4, Option.map_some]
        exact .val hR hv'
      · cases h
    · cases h
  | func fn first cap =>
    simp only [pop] at h; cases h
    exact .val hR (.fn fn (hle first) (hle cap))
  | makeSlice t bytes z len cap =>
    simp only [pop] at h
    have hx := he len
    have hy := he cap
    split at h
    · rename_i k l k' c e1 e2
      rw [e1] at hx; rw [e2] at hy
      split at h
      · rename_i hc; cases h
        simp only [aop, hx.int_inv, hy.int_inv]
        rw [if_pos hc]
        refine .new hR ((VRL.cval1 z).replicate _) fun _ _ _ hr => .sl 0 hr ⟨rfl, ?_, ?_⟩
        · omega
        · have : UC = 18446744073709551616 := rfl
          omega
      · cases h
    · cases h
  | makeMap =>
    simp only [pop] at h; cases h
    simp only [aop]
    obtain ⟨k1, k2⟩ := hR.alloc (blk := .map []) (ab := .map [] 0) ⟨rfl, [], 0, by simp, .nil⟩
    exact ⟨_, _, _, _, rfl, k2, k1, .val (.map ⟨0, A.length, by rw [← hR.len]; simp, Nat.le_refl _, fun _ => rfl⟩)⟩
  | lookup kt ok z m k =>
    simp only [pop] at h
    have hm := he m
    split at h
    · cases h
    · rename_i q hq
      have done : ∀ (v : PV) (vA : Value) (b : Bool), VR ρ S A v vA → Snd ρ S H A (some (.val (if ok = true then .tuple #[vA, .bool b] else vA), A)) (.val (if ok = true then .tup [v, .bool b] else v)) H := by
        intro v vA b hv
        cases ok
        · exact .val hR hv
        · exact .val hR (.tup (.cons hv (.cons (.bool b) .nil)))
      split at h
      · rename_i e1; cases h
        rw [e1] at hm
        simp only [aop, eqKey_ok (he k) (he k) hq, hm.nilM_inv]
        exact done _ _ _ (.cval z)
      · rename_i i e1
        rw [e1] at hm
        split at h
        · rename_i es e2
          obtain ⟨b, e3, hr⟩ := hm.map_inv
          obtain ⟨_, es', clock, hA, hes⟩ := hR.refMap e2 hr
          split at h
          · rename_i j v e4; cases h
            obtain ⟨v', e5, hv⟩ := find_ok (he k) hes e4
            simp only [aop, eqKey_ok (he k) (he k) hq, e3, hA, e5]
            exact done _ _ _ hv
          · rename_i e4; cases h
            have e5 : findA kt (eA k) es' 0 = some none := find_ok (he k) hes e4
            simp only [aop, eqKey_ok (he k) (he k) hq, e3, hA, e5]
            exact done _ _ _ (.cval z)
          · cases h
        · cases h
      · cases h
  | update kt m k v =>
    simp only [pop] at h
    have hm := he m
    split at h
    · cases h
    · rename_i q hq
      split at h
      · rename_i i e1
        rw [e1] at hm
        split at h
        · rename_i es e2
          obtain ⟨b, e3, hr⟩ := hm.map_inv
          obtain ⟨hrho, es', clock, hA, hes⟩ := hR.refMap e2 hr
          have hl : live H i := ⟨_, e2, rfl⟩
          have turn : ∀ es2 es2' clock', EnR ρ S A es2 es2' → Snd ρ S H A (some (.val undef, A.set b (.map es2' clock'))) (.val .un) (H.set i (.map es2)) := by
            intro es2 es2' clock' h2
            obtain ⟨k1, k2⟩ := hR.upd hrho hl (blk := .map es2) (ab := .map es2' clock') ⟨rfl, es2', clock', List.getElem?_set_self (hR.lt i 0 b hrho hl), h2.mono (ext_set hR hrho hl _)⟩
            exact ⟨_, _, _, _, rfl, k2, k1, .val (.un _)⟩
          split at h
          · rename_i j v0 e4; cases h
            obtain ⟨v', e5, hv⟩ := find_ok (he k) hes e4
            simp only [aop, eqKey_ok (he k) (he k) hq, e3, hA, e5]
            exact turn _ _ _ (hes.set (he k) (he v) j)
          · rename_i e4; cases h
            have e5 : findA kt (eA k) es' 0 = some none := find_ok (he k) hes e4
            simp only [aop, eqKey_ok (he k) (he k) hq, e3, hA, e5]
            exact turn _ _ _ (hes.app (he k) (he v))
          · cases h
        · cases h
      · cases h
  | iface t x => simp only [pop] at h; cases h; exact .val hR (.iface t (he x))
  | call f args =>
    simp only [pop] at h
    have hf := he f
    split at h
    · rename_i g first cap e1; cases h
      rw [e1] at hf
      obtain ⟨xs, ys, e2, h1, h2⟩ := hf.fn_inv
      simp only [aop, e2]
      exact .pure hR (.fn g ((h1.append (hle args)).append h2))
    · rename_i l e1; cases h
      rw [e1] at hf
      obtain ⟨b, e2, h1⟩ := hf.yield_inv
      simp only [aop, e2]
      exact .pure hR (.yield h1 (hle args))
    · cases h
  | lenS x =>
    simp only [pop] at h
    have hx := he x
    split at h
    · rename_i i g o n c e1; cases h
      rw [e1] at hx
      rcases hx.sl_inv with ⟨b, c', e2, _⟩ | ⟨rfl, a, e2, _⟩ <;> (simp only [aop, e2]; exact .val hR (.int _ _))
    · rename_i sz c xs e1; cases h
      rw [e1] at hx
      obtain ⟨a, c', e2, _⟩ := hx.lst_inv
      simp only [aop, e2]; exact .val hR (.int _ _)
    · cases h
  | lenStr x =>
    simp only [pop] at h
    have hx := he x
    split at h
    · rename_i s e1; cases h
      rw [e1] at hx
      obtain ⟨s', e2, rfl⟩ := hx.str_inv
      simp only [aop, e2, ba_size]; exact .val hR (.int _ _)
    · cases h
  | lenMap x =>
    simp only [pop] at h
    have hx := he x
    split at h
    · rename_i e1; cases h
      rw [e1] at hx
      simp only [aop, hx.nilM_inv]; exact .val hR (.int _ _)
    · rename_i i e1
      rw [e1] at hx
      split at h
      · rename_i es e2; cases h
        obtain ⟨b, e3, hr⟩ := hx.map_inv
        obtain ⟨_, es', clock, hA, hes⟩ := hR.refMap e2 hr
        simp only [aop, e3, hA, ← hes.length]; exact .val hR (.int _ _)
      · cases h
    · cases h
  | append t size bytes s x =>
    simp only [pop] at h
    split at h
    · rename_i v H1 e1; cases h
      obtain ⟨v', A', ρ', S', e2, h1, h2, h3⟩ := append_ok hR (he s) (he x) (t := t) e1
      exact ⟨.val v', A', ρ', S', by simp only [aop, e2, Option.map_some], h1, h2, .val h3⟩
    · cases h
  | copy size d s =>
    simp only [pop] at h
    have hd := he d
    have hs := he s
    split at h
    · rename_i i g o n c m e1 e2
      rw [e1] at hd
      obtain ⟨a', m', c', e5⟩ : ∃ a' m' c', eA s = .slice a' m' c' ∨ ∃ t, e s = .str t := by
        cases e4 : e s <;> rw [e4] at hs e2 <;> simp only [plen, reduceCtorEq] at e2
        · exact ⟨none, 0, 0, .inr ⟨_, rfl⟩⟩
        · rcases hs.sl_inv with ⟨b, c', e3, _⟩ | ⟨_, a, e3, _⟩ <;> exact ⟨_, _, _, .inl e3⟩
        · obtain ⟨a, c', e3, _⟩ := hs.lst_inv; exact ⟨_, _, _, .inl e3⟩
      split at h
      · cases h
      · rename_i y hns
        have e5' : eA s = .slice a' m' c' := by
          rcases e5 with e5 | ⟨t, e5⟩
          · exact e5
          · exact (hns t e5).elim
        have hlen := len_ok hs e2
        rw [e5'] at hlen
        simp only [lenOfA, Option.some.injEq] at hlen
        subst hlen
        split at h
        · rename_i cs e6
          obtain ⟨csA, e7, hv⟩ := sc_ok hR hs e6
          rw [e5'] at e7
          obtain ⟨aD, cD, e8, e9⟩ : ∃ aD cD, eA d = .slice aD n cD ∧ (n = 0 ∨ ∃ b, aD = some ⟨b, o, none⟩ ∧ RefR ρ i g b) := by
            rcases hd.sl_inv with ⟨b, c2, e3, hr, _⟩ | ⟨hn, a, e3, _⟩
            · exact ⟨_, _, e3, .inr ⟨b, rfl, hr⟩⟩
            · exact ⟨_, _, by rw [e3, hn], .inl hn⟩
          split at h
          · rename_i hk; cases h
            simp only [aop, e8, e5', e7]
            rw [if_pos hk]
            exact .val hR (.int _ _)
          · rename_i hk
            split at h
            · rename_i H1 e10; cases h
              rcases e9 with e9 | ⟨b, rfl, hr⟩
              · exact absurd (by rw [e9]; exact Nat.min_zero _) hk
              · obtain ⟨b', o', A', e11, e12, h1, h2⟩ := store_ok hR (.ptr o hr) hv e10
                cases e11
                refine ⟨_, A', ρ, S, ?_, h2, h1, .val (.int _ _)⟩
                simp only [aop, e8, e5', e7]
                rw [if_neg hk, e12]; rfl
            · cases h
        · cases h
    · cases h
  | clear z x =>
    simp only [pop] at h
    have hx := he x
    split at h
    · rename_i i g o n c e1
      rw [e1] at hx
      split at h
      · rename_i hn; cases h
        rcases hx.sl_inv with ⟨b, c2, e3, hr, _⟩ | ⟨hn, a, e3, _⟩
        · simp only [aop, e3]; rw [if_pos hn]; exact .val hR (.un _)
        · simp only [aop, e3]; exact .val hR (.un _)
      · rename_i hn
        split at h
        · rename_i H1 e10; cases h
          rcases hx.sl_inv with ⟨b, c2, e3, hr, _⟩ | ⟨hn', _⟩
          · obtain ⟨b', o', A', e11, e12, h1, h2⟩ := store_ok hR (.ptr o hr) ((VRL.cval1 z).replicate n) e10
            cases e11
            refine ⟨.val undef, A', ρ, S, ?_, h2, h1, .val (.un undef)⟩
            simp only [aop, e3]
            rw [if_neg hn, e12]; rfl
          · exact (hn hn').elim
        · cases h
    · rename_i sz c e1; cases h
      rw [e1] at hx
      obtain ⟨a, c', e2, _⟩ := hx.lst_inv
      simp only [aop, e2]; exact .val hR (.un _)
    · cases h
  | min2 x y =>
    simp only [pop] at h
    have hx := he x
    have hy := he y
    split at h
    · rename_i k a k' b e1 e2; cases h
      rw [e1] at hx; rw [e2] at hy
      simp only [aop, hx.int_inv, hy.int_inv]
      exact .val hR (.int _ _)
    · cases h
  | max2 x y =>
    simp only [pop] at h
    have hx := he x
    have hy := he y
    split at h
    · rename_i k a k' b e1 e2; cases h
      rw [e1] at hx; rw [e2] at hy
      simp only [aop, hx.int_inv, hy.int_inv]
      exact .val hR (.int _ _)
    · cases h
  | panic x =>
    simp only [pop] at h
    have hx := he x
    split at h
    · rename_i t v e1; cases h
      rw [e1] at hx
      obtain ⟨v', e2, hv⟩ := hx.iface_inv
      simp only [aop, e2]
      exact .pure hR (.panic (.iface t hv))
    · cases h

end
end Go.Proofs.Pm

/- Runs by pure values: judgements and rules. -/
namespace Go.Proofs.Pm
open Go Go.Proofs.Am

def TgR (ρ : Rho) : PTgt → Tgt → Prop
  | .fn f, .fn f' => f = f'
  | .yield i, .yield b => RefR ρ i 0 b
  | _, _ => False

inductive RR (ρ : Rho) (S : Nat → Prop) (A : Mem) : Except PV PV → Except Value Value → Prop
  | ok {v : PV} {v' : Value} (h : VR ρ S A v v') : RR ρ S A (.ok v) (.ok v')
  | error {v : PV} {v' : Value} (h : VR ρ S A v v') : RR ρ S A (.error v) (.error v')

inductive OR (ρ : Rho) (S : Nat → Prop) (A : Mem) : POut → AOut → Prop
  | normal : OR ρ S A .normal .normal
  | exit (id : Nat) : OR ρ S A (.exit id) (.exit id)
  | ret : OR ρ S A .ret .ret
  | panic {v : PV} {v' : Value} (h : VR ρ S A v v') : OR ρ S A (.panic v) (.panic v')

def Fin (ρ : Rho) (S : Nat → Prop) (H : PH) (A : Mem) (Q : Except PV PV → PH → Prop) (r : Except Value Value) (A' : Mem) : Prop :=
  ∃ ρ' S' H' rP, Step ρ S H A ρ' S' H' A' ∧ HR ρ' S' H' A' ∧ RR ρ' S' A' rP r ∧ Q rP H'

/-- A call comes to what Q says. -/
structure PEv (T : Tbl) (g : PTgt) (args : List PV) (H : PH) (Q : Except PV PV → PH → Prop) : Prop where
  run : ∀ ρ S A gA argsA, HR ρ S H A → TgR ρ g gA → VRL ρ S A args argsA → Ev T gA argsA A (Fin ρ S H A Q)

theorem Fin.pre {ρ S H A ρ1 S1 H1 A1 Q r A2} (h : Step ρ S H A ρ1 S1 H1 A1) (k : Fin ρ1 S1 H1 A1 Q r A2) : Fin ρ S H A Q r A2 := by
  obtain ⟨ρ', S', H', rP, s, q⟩ := k; exact ⟨ρ', S', H', rP, h.trans s, q⟩

theorem WO.mono {T : Tbl} {all : List AOper} {Q Q' : AOut → List Value → Mem → Prop} (k : ∀ o f h, Q o f h → Q' o f h) : ∀ {ops : List AOper} {fr : List Value} {H : Mem}, WO T all ops fr H Q → WO T all ops fr H Q'
  | [], fr, H, h => k _ _ _ h
  | o :: ops, fr, H, h => by
    simp only [WO] at h ⊢
    split at h
    · split at h
      · exact WO.mono k h
      · exact k _ _ _ h
      · refine h.mono fun r H' hr => ?_
        cases r with
        | ok v => exact WO.mono k hr
        | error v => exact k _ _ _ hr
      · exact h
    · exact WO.mono k h
    · exact h

/-- What is known may be said anew: the values, and memory's blocks, bear it. -/
def Gh (vs : List PV) (H : PH) (K : List PV → PH → Prop) : Prop :=
  ∀ ρ S A vsA, HR ρ S H A → VRL ρ S A vs vsA → ∃ ρ' S' H' vs', Step ρ S H A ρ' S' H' A ∧ HR ρ' S' H' A ∧ VRL ρ' S' A vs' vsA ∧ K vs' H'

section
variable {T : Tbl} {rd : Bool} {H : PH}

theorem PEv.mono {g : PTgt} {args : List PV} {R R' : Except PV PV → PH → Prop} (h : PEv T g args H R) (k : ∀ r H', R r H' → R' r H') : PEv T g args H R' :=
  ⟨fun ρ S A gA argsA hr hg ha => (h.run ρ S A gA argsA hr hg ha).mono fun r A' => by
    rintro ⟨ρ', S', H', rP, s, h', rr, q⟩; exact ⟨ρ', S', H', rP, s, h', rr, k _ _ q⟩⟩

/-! ### What is known, said anew -/

theorem Gh.ret {vs : List PV} {K : List PV → PH → Prop} (h : K vs H) : Gh vs H K := fun ρ S A vsA hr hv => ⟨ρ, S, H, vs, .refl .., hr, hv, h⟩

theorem Gh.bind {vs : List PV} {K K' : List PV → PH → Prop} (h : Gh vs H K) (k : ∀ vs' H', K vs' H' → Gh vs' H' K') : Gh vs H K' := fun ρ S A vsA hr hv => by
  obtain ⟨ρ', S', H', vs', s, h', hv', q⟩ := h ρ S A vsA hr hv
  obtain ⟨ρ2, S2, H2, vs2, s2, h2, hv2, q2⟩ := k _ _ q ρ' S' A vsA h' hv'
  exact ⟨ρ2, S2, H2, vs2, s.trans s2, h2, hv2, q2⟩

theorem PEv.post {g : PTgt} {args : List PV} {R R' : Except PV PV → PH → Prop} (h : PEv T g args H R) (k : ∀ r H', R r H' → match r with
    | .ok v => Gh [v] H' fun vs H'' => ∃ v', vs = [v'] ∧ R' (.ok v') H''
    | .error v => R' (.error v) H') : PEv T g args H R' := ⟨fun ρ S A gA argsA hr hg ha => (h.run ρ S A gA argsA hr hg ha).mono fun r A' => by
  rintro ⟨ρ', S', H', rP, s, h', rr, q⟩
  cases rr with
  | ok hv =>
    obtain ⟨ρ2, S2, H2, vs', s2, h2, hv2, w, rfl, q2⟩ := k _ _ q ρ' S' A' _ h' (.cons hv .nil)
    cases hv2 with
    | cons hw _ => exact ⟨ρ2, S2, H2, .ok w, s.trans s2, h2, .ok hw, q2⟩
  | error hv => exact ⟨ρ', S', H', _, s, h', .error hv, k _ _ q⟩⟩

/-- v says what w says, and maybe more. -/
def Le (v w : PV) : Prop := ∀ ρ S A y, VR ρ S A v y → VR ρ S A w y
def LeL (vs ws : List PV) : Prop := ∀ ρ S A ys, VRL ρ S A vs ys → VRL ρ S A ws ys

theorem Le.refl (v : PV) : Le v v := fun _ _ _ _ h => h
theorem Le.un (v : PV) : Le v .un := fun _ _ _ _ _ => .un _
theorem Le.nil (sz sz' : Nat) (c : Bool) : Le (.lst sz true []) (.lst sz' c []) := fun ρ S A y h => by
  obtain ⟨a, c', rfl, ⟨h1, h2, h3⟩, _⟩ := h.lst_inv
  obtain rfl := h3 rfl
  exact .lstE a ⟨by decide, .inl ⟨Nat.le_refl _, by decide⟩, fun _ => rfl⟩
theorem Le.clip (sz : Nat) (xs : List PV) : Le (.lst sz true xs) (.lst sz false xs) := fun ρ S A y h => by
  cases h with
  | lstE a hc => exact .lstE a ⟨hc.1, hc.2.1, fun e => by cases e⟩
  | lst hc hs hb ho hz h => exact .lst ⟨hc.1, hc.2.1, fun e => by cases e⟩ hs hb ho hz h
theorem LeL.nil : LeL [] [] := fun _ _ _ _ h => h
theorem LeL.cons {v w : PV} {vs ws : List PV} (h : Le v w) (t : LeL vs ws) : LeL (v :: vs) (w :: ws) := fun ρ S A y hy => by
  cases hy with | cons a b => exact .cons (h _ _ _ _ a) (t _ _ _ _ b)
theorem LeL.refl (vs : List PV) : LeL vs vs := fun _ _ _ _ h => h
theorem Le.tup {vs ws : List PV} (h : LeL vs ws) : Le (.tup vs) (.tup ws) := fun ρ S A y hy => by
  obtain ⟨ys, rfl, h2⟩ := hy.tup_inv; exact .tup (h _ _ _ _ h2)
theorem Le.agg {vs ws : List PV} (h : LeL vs ws) : Le (.agg vs) (.agg ws) := fun ρ S A y hy => by
  obtain ⟨ys, rfl, h2⟩ := hy.agg_inv; exact .agg (h _ _ _ _ h2)
/-- Places of a frame that are of no use any more. -/
theorem LeL.set_un (vs : List PV) (i : Nat) : LeL vs (vs.set i .un) := fun ρ S A ys h => by
  have := h.set (v := .un) (v' := ys.getD i undef) (.un _) i
  have e : ys.set i (ys.getD i undef) = ys := by
    apply List.ext_getElem?
    intro j
    by_cases hj : i = j
    · subst hj
      by_cases hi : i < ys.length
      · rw [List.getElem?_set_self hi, List.getD_eq_getElem?_getD, List.getElem?_eq_getElem hi]; rfl
      · rw [List.getElem?_eq_none (by simp; omega), List.getElem?_eq_none (by omega)]
    · rw [List.getElem?_set_ne hj]
  rwa [e] at this
theorem LeL.trans {a b c : List PV} (h : LeL a b) (k : LeL b c) : LeL a c := fun ρ S A y hy => k _ _ _ _ (h _ _ _ _ hy)

theorem Gh.weak {vs ws : List PV} {K : List PV → PH → Prop} (h : LeL vs ws) (k : K ws H) : Gh vs H K := fun ρ S A vsA hr hv => ⟨ρ, S, H, ws, .refl .., hr, h _ _ _ _ hv, k⟩

/-- What is nil stands in a slot of its own. -/
theorem Gh.nilSlot {vs : List PV} {K : List PV → PH → Prop} (t sz sz0 : Nat) (ht : vs[t]? = some (.lst sz0 true [])) (k : K (vs.set t (.sl H.length 0 0 0 (.u sz))) (H ++ [.nil 0])) : Gh vs H K := fun ρ S A vsA hr hv => by
  obtain ⟨k1, k2⟩ := hr.allocNil
  refine ⟨_, _, _, _, k2, k1, ?_, k⟩
  have hv' := hv.mono (k2.ext hr)
  obtain ⟨v', e1, e2⟩ := hv'.get ht
  obtain ⟨a, c, rfl, ⟨_, _, hc⟩, _⟩ := e2.lst_inv
  obtain rfl := hc rfl
  have := hv'.set (v := .sl H.length 0 0 0 (.u sz)) (v' := .slice (adr a) 0 0) (.slE _ _ _ a (.inr ⟨sz, rfl⟩)) t
  rwa [show vsA.set t (.slice (adr a) 0 0) = vsA from ?_] at this
  apply List.ext_getElem?
  intro j
  by_cases hj : t = j
  · subst hj; rw [List.getElem?_set_self (List.getElem?_eq_some_iff.1 e1).1]; exact e1.symm
  · rw [List.getElem?_set_ne hj]

/-- A slot's slices, as lists. -/
inductive Fz (i g : Nat) (cs : List PV) : PV → PV → Prop
  | same (v : PV) : Fz i g cs v v
  | sl {o n sz : Nat} {c : Cap} {xs : List PV} (hn : xs.length = n) (ho : o + n * sz ≤ cs.length) (hz : ∀ x, x ∈ xs → (ecs x).length = sz) (hc : ∀ sz', c = .x sz' ∨ c = .u sz' → sz' = sz) (hx : xs.flatMap ecs = (cs.drop o).take (n * sz)) :
      Fz i g cs (.sl i g o n c) (.lst sz false xs)
  | slk {o n sz : Nat} {xs : List PV} (hn : xs.length = n) (ho : o + n * sz ≤ cs.length) (hz : ∀ x, x ∈ xs → (ecs x).length = sz) (hx : xs.flatMap ecs = (cs.drop o).take (n * sz)) :
      Fz i g cs (.sl i g o n (.k n)) (.lst sz true xs)
  | ptr (o : Nat) (ho : o ≤ cs.length) : Fz i g cs (.ptr i g o) (.cptr (cs.drop o))
  | tup {vs ws : List PV} (h : vs.length = ws.length) (k : ∀ (j : Nat) (v w : PV), vs[j]? = some v → ws[j]? = some w → Fz i g cs v w) : Fz i g cs (.tup vs) (.tup ws)
  | agg {vs ws : List PV} (h : vs.length = ws.length) (k : ∀ (j : Nat) (v w : PV), vs[j]? = some v → ws[j]? = some w → Fz i g cs v w) : Fz i g cs (.agg vs) (.agg ws)

theorem Fz.ok {i g b : Nat} {cs : List PV} {ρ : Rho} {S : Nat → Prop} {A : Mem} {all : List Value} {t : TypeId} {ro : Bool} (hρ : ρ[i]? = some (g, b)) (hS : S b) (hA : A[b]? = some (.cells all t ro)) (hall : VRL ρ S A cs all) {v w : PV} (h : Fz i g cs v w) :
    ∀ {y : Value}, VR ρ S A v y → VR ρ S A w y := by
  have refB : ∀ b', RefR ρ i g b' → b' = b := by
    rintro b' ⟨g0, b0, e, _, q⟩
    rw [hρ] at e; cases e; exact q rfl
  have lst : ∀ {o n sz c' : Nat} {clip : Bool} {xs : List PV}, xs.length = n → o + n * sz ≤ cs.length → (∀ x, x ∈ xs → (ecs x).length = sz) → xs.flatMap ecs = (cs.drop o).take (n * sz) → LCapR sz clip n c' → VR ρ S A (.lst sz clip xs) (.slice (some ⟨b, o, none⟩) n c') := by
    intro o n sz c' clip xs hn ho hz hx hc
    subst hn
    refine .lst hc hS hA (by rw [← hall.length]; omega) hz ?_
    rw [hx]; exact (hall.drop o).take _
  induction h with
  | same v => exact fun h => h
  | @sl o n sz c xs hn ho hz hc hx =>
    intro y hy
    rcases hy.sl_inv with ⟨b', c', rfl, hr, hcap⟩ | ⟨rfl, a, rfl, hcap⟩
    · obtain rfl := refB b' hr
      refine lst hn ho hz hx ?_
      cases c with
      | k c => obtain ⟨q1, q2, q3⟩ : CapR (.k c) n c' := hcap; exact ⟨by omega, .inl ⟨q2, q3⟩, fun e => by cases e⟩
      | x s => obtain ⟨q1, q2⟩ : CapR (.x s) n c' := hcap; obtain rfl := hc s (.inl rfl); exact ⟨q2, .inr q1, fun e => by cases e⟩
      | u s =>
        obtain ⟨q1, q2⟩ : CapR (.u s) n c' := hcap
        obtain rfl := hc s (.inr rfl)
        refine ⟨q1, ?_, fun e => by cases e⟩
        rcases q2 with rfl | ⟨q2, _⟩
        · exact .inl ⟨Nat.le_refl _, q1⟩
        · exact .inr q2
    · have := List.eq_nil_of_length_eq_zero hn; subst this
      exact .lstE a ⟨by decide, .inl ⟨Nat.le_refl _, by decide⟩, fun e => by cases e⟩
  | @slk o n sz xs hn ho hz hx =>
    intro y hy
    rcases hy.sl_inv with ⟨b', c', rfl, hr, hcap⟩ | ⟨rfl, a, rfl, hcap⟩
    · obtain rfl := refB b' hr
      obtain ⟨q1, q2, q3⟩ : CapR (.k n) n c' := hcap
      exact lst hn ho hz hx ⟨by omega, .inl ⟨q2, q3⟩, fun _ => q1⟩
    · have := List.eq_nil_of_length_eq_zero hn; subst this
      exact .lstE a ⟨by decide, .inl ⟨Nat.le_refl _, by decide⟩, fun _ => rfl⟩
  | ptr o ho =>
    intro y hy
    obtain ⟨b', rfl, hr⟩ := hy.ptr_inv
    obtain rfl := refB b' hr
    refine .cptr hS hA (by rw [← hall.length]; exact ho) ?_
    rw [List.take_of_length_le (by rw [List.length_drop, List.length_drop, hall.length]; exact Nat.le_refl _)]
    exact hall.drop o
  | @tup vs ws hl k ih =>
    intro y hy
    obtain ⟨ys, rfl, h2⟩ := hy.tup_inv
    refine .tup (VRL.of_get (by rw [← hl, h2.length]) fun j w y' e1 e2 => ?_)
    have hj := (List.getElem?_eq_some_iff.1 e1).1
    have e3 := List.getElem?_eq_getElem (l := vs) (i := j) (by omega)
    obtain ⟨y2, e4, h4⟩ := h2.get e3
    rw [e2] at e4; cases e4
    exact ih j _ w e3 e1 h4
  | @agg vs ws hl k ih =>
    intro y hy
    obtain ⟨ys, rfl, h2⟩ := hy.agg_inv
    refine .agg (VRL.of_get (by rw [← hl, h2.length]) fun j w y' e1 e2 => ?_)
    have hj := (List.getElem?_eq_some_iff.1 e1).1
    have e3 := List.getElem?_eq_getElem (l := vs) (i := j) (by omega)
    obtain ⟨y2, e4, h4⟩ := h2.get e3
    rw [e2] at e4; cases e4
    exact ih j _ w e3 e1 h4

/-- A slot turns no more: what leads to it is a list from now on. -/
theorem Gh.freeze {vs ws : List PV} {K : List PV → PH → Prop} (i g : Nat) {cs : List PV} (hs : slot H i g = some cs) (hw : Fz i g cs (.tup vs) (.tup ws)) (k : K ws (H.set i .gone)) : Gh vs H K := fun ρ S A vsA hr hv => by
  have hsl := slot_get hs
  obtain ⟨g1, b, hρ⟩ := hr.rho hsl
  obtain ⟨h1, all, t, hA, hall⟩ := hr.blk i _ _ hsl hρ
  simp only at h1 hA; subst h1
  have hl : live H i := ⟨_, hsl, rfl⟩
  obtain ⟨k1, k2⟩ := hr.freeze hρ hl
  have hx := k2.ext hr
  refine ⟨_, _, _, ws, k2, k1, ?_, k⟩
  have := hw.ok hρ (.inr rfl) hA (hall.mono hx) (.tup (hv.mono hx) : VR _ _ _ (.tup vs) (.tuple ⟨vsA⟩))
  obtain ⟨ys, e, h2⟩ := this.tup_inv
  cases e; exact h2

end
end Go.Proofs.Pm

/- Functions of what turns no more: they leave memory alone. Where a law begins. -/
namespace Go.Proofs.Pm
open Go Go.Proofs.Am

mutual
/-- Nothing leads to a slot. -/
def isD : PV → Bool
  | .ptr _ _ _ | .sl _ _ _ _ _ | .map _ | .yield _ => false
  | .cptr cs => isDL cs
  | .lst _ _ xs => isDL xs
  | .fn _ a b => isDL a && isDL b
  | .iface _ v => isD v
  | .agg cs => isDL cs
  | .tup vs => isDL vs
  | _ => true
def isDL : List PV → Bool
  | [] => true
  | x :: xs => isD x && isDL xs
end

theorem isDL_app : ∀ {xs ys : List PV}, isDL (xs ++ ys) = (isDL xs && isDL ys)
  | [], ys => by simp [isDL]
  | x :: xs, ys => by simp [isDL, isDL_app (xs := xs), Bool.and_assoc]

theorem isD_ecs {x : PV} (h : isD x = true) : isDL (ecs x) = true := by
  unfold ecs
  split
  · simpa [isD] using h
  · simp [isDL, h]

theorem isDL_flat : ∀ {xs : List PV}, isDL xs = true → isDL (xs.flatMap ecs) = true
  | [], _ => by simp [isDL]
  | x :: xs, h => by
    simp only [isDL, Bool.and_eq_true] at h
    simp only [List.flatMap_cons, isDL_app, isD_ecs h.1, isDL_flat h.2, Bool.and_self]

theorem isDL_map {α : Type} {f : α → PV} : ∀ {l : List α}, (∀ x, isD (f x) = true) → isDL (l.map f) = true
  | [], _ => by simp [isDL]
  | x :: l, h => by simp only [List.map_cons, isDL, h x, isDL_map h, Bool.and_self]

theorem isDL_all : ∀ {l : List PV}, isDL l = l.all isD
  | [] => by simp [isDL]
  | x :: l => by simp [isDL, isDL_all (l := l)]

section
variable {ρ ρ' : Rho} {S : Nat → Prop} {A : Mem}

mutual
theorem VR.data : ∀ {v : PV} {y : Value}, VR ρ S A v y → isD v = true → VR ρ' S A v y
  | _, _, .un v, _ => .un v
  | _, _, .bool b, _ => .bool b
  | _, _, .int k n, _ => .int k n
  | _, _, .str s h, _ => .str s h
  | _, _, .nilF, _ => .nilF
  | _, _, .nilI, _ => .nilI
  | _, _, .nilP, _ => .nilP
  | _, _, .nilM, _ => .nilM
  | _, _, .ptr o h, d => by simp [isD] at d
  | _, _, .cptr hs hb ho h, d => .cptr hs hb ho (VRL.data h (by simpa [isD] using d))
  | _, _, .sl o h hc, d => by simp [isD] at d
  | _, _, .slE i g o a hc, d => by simp [isD] at d
  | _, _, .lstE a hc, d => .lstE a hc
  | _, _, .lst hc hs hb ho hz h, d => .lst hc hs hb ho hz (VRL.data h (isDL_flat (by simpa [isD] using d)))
  | _, _, .map h, d => by simp [isD] at d
  | _, _, .fn f h h', d => by
    simp only [isD, Bool.and_eq_true] at d
    exact .fn f (VRL.data h d.1) (VRL.data h' d.2)
  | _, _, .yield h, d => by simp [isD] at d
  | _, _, .iface t h, d => .iface t (VR.data h (by simpa [isD] using d))
  | _, _, .agg h, d => .agg (VRL.data h (by simpa [isD] using d))
  | _, _, .tup h, d => .tup (VRL.data h (by simpa [isD] using d))
theorem VRL.data : ∀ {v : List PV} {y : List Value}, VRL ρ S A v y → isDL v = true → VRL ρ' S A v y
  | _, _, .nil, _ => .nil
  | _, _, .cons h t, d => by
    simp only [isDL, Bool.and_eq_true] at d
    exact .cons (VR.data h d.1) (VRL.data t d.2)
end

end

/-- A function of what turns no more, by its run in no memory at all. -/
theorem PEv.pure {T : Tbl} {f : FuncId} {args : List PV} {P : Except PV PV → Prop} (ha : isDL args = true)
    (h : PEv T (.fn f) args [] fun r _ => P r ∧ match r with | .ok v => isD v = true | .error v => isD v = true) (H : PH) : PEv T (.fn f) args H fun r H' => P r ∧ H' = H := ⟨fun ρ S A gA argsA hr hg hv => by
  cases gA with
  | yield l => exact hg.elim
  | fn f' =>
    obtain rfl : f = f' := hg
    have h0 : HR [] S [] A := by
      refine ⟨rfl, ?_, ?_, hr.slt, ?_, ?_⟩
      · intro i j g g' b e; simp at e
      · intro i g b e; simp at e
      · rintro b _ ⟨i, g, e, _⟩; simp at e
      · intro i blk gb e; simp at e
    refine (h.run [] S A (.fn f) argsA h0 rfl (hv.data ha)).mono fun r A' => ?_
    rintro ⟨ρ', S', H', rP, s, h', rr, q, d⟩
    have old : ∀ b, b < A.length → A'[b]? = A[b]? := fun b hb => s.keep b hb (by rintro ⟨i, g, e, _⟩; simp at e)
    have news : ∀ b, S' b → S b ∨ A.length ≤ b := by
      intro b e
      rcases s.news b e with h1 | h1 | ⟨i, g, e', _⟩
      · exact .inl h1
      · exact .inr h1
      · simp at e'
    have hx : Ext ρ S A ρ S' A' := ⟨Rle.refl _, s.sub, fun b e => old b (hr.slt b e)⟩
    refine ⟨ρ, S', H, rP, ⟨Rle.refl _, s.sub, fun b hb _ => old b hb, s.len, ?_, fun b _ l => l⟩, ⟨hr.len, hr.inj, fun i g b e l => Nat.lt_of_lt_of_le (hr.lt i g b e l) s.len, h'.slt, ?_, ?_⟩, ?_, q, rfl⟩
    · intro b e
      rcases news b e with h1 | h1
      · exact .inl h1
      · exact .inr (.inl h1)
    · intro b e l
      rcases news b e with h1 | h1
      · exact hr.dis b h1 l
      · obtain ⟨i, g, e', l'⟩ := l
        have := hr.lt i g b e' l'; omega
    · intro i blk gb e e'
      exact (hr.blk i blk gb e e').mono hx fun hon => old _ (hr.lt i gb.1 gb.2 e' ⟨blk, e, hon⟩)
    · cases rr with
      | ok hvv => exact .ok (hvv.data d)
      | error hvv => exact .error (hvv.data d)⟩

/-- A function's answer to what turns no more; memory is left alone. -/
def Pur (T : Tbl) (f : FuncId) (args : List PV) (res : PV) : Prop := ∀ H, PEv T (.fn f) args H fun r H' => r = .ok res ∧ H' = H

theorem Pur.mk {T : Tbl} {f : FuncId} {args : List PV} {res : PV} (ha : isDL args = true) (hr : isD res = true) (h : PEv T (.fn f) args [] fun r _ => r = .ok res) : Pur T f args res := fun H =>
  PEv.pure (P := fun r => r = .ok res) ha (h.mono fun r H' e => ⟨e, by subst e; exact hr⟩) H

theorem Pur.of {T : Tbl} {f : FuncId} {args : List PV} {res : PV} (ha : isDL args = true) (hr : isD res = true) (h : ∀ R : Except PV PV → PH → Prop, (∀ H, R (.ok res) H) → PEv T (.fn f) args [] R) : Pur T f args res :=
  Pur.mk ha hr (h _ fun H => rfl)

/-- Where a law begins: all that there is turns no more. -/
theorem law_start {T : Tbl} {f : FuncId} {pargs : List PV} {args : List Value} {M : Mem} (ha : VRL [] (fun b => b < M.length) M pargs args)
    (h : PEv T (.fn f) pargs [] fun r _ => r = .ok (.bool true)) : Ev T (.fn f) args M fun r _ => r = .ok (.bool true) := by
  have h0 : HR [] (fun b => b < M.length) [] M := by
    refine ⟨rfl, ?_, ?_, fun b e => e, ?_, ?_⟩
    · intro i j g g' b e; simp at e
    · intro i g b e; simp at e
    · rintro b _ ⟨i, g, e, _⟩; simp at e
    · intro i blk gb e; simp at e
  refine (h.run [] _ M (.fn f) args h0 rfl ha).mono fun r A' => ?_
  rintro ⟨ρ', S', H', rP, s, h', rr, rfl⟩
  cases rr with
  | ok hv => rw [hv.bool_inv]

/-- What a value of an input's type is. -/
inductive Ty : TD → PV → Prop
  | int (k : IntKind) (n : Int) (h : k.min ≤ n ∧ n ≤ k.max) : Ty (.int k) (.int k n)
  | bool (b : Bool) : Ty .bool (.bool b)
  | str (s : List UInt8) (h : s.length ≤ reachBytes) : Ty .str (.str s)
  | nil (e : List TD) : Ty (.slice e) (.lst e.length false [])
  | one {e : TD} {xs : List PV} (hn : xs.length ≤ reachBytes) (h : ∀ x, x ∈ xs → Ty e x) (h1 : ∀ x, x ∈ xs → ecs x = [x]) : Ty (.slice [e]) (.lst 1 false xs)
  | agg {e : List TD} {cs : List (List PV)} (hn : cs.length ≤ reachBytes) (hl : ∀ x, x ∈ cs → x.length = e.length) (h : ∀ x, x ∈ cs → ∀ (j : Nat) (td : TD) (v : PV), e[j]? = some td → x[j]? = some v → Ty td v) (h1 : e.length ≠ 1) : Ty (.slice e) (.lst e.length false (cs.map .agg))

theorem Ty.single {td : TD} {v : PV} (h : Ty td v) : ecs v = [v] := by cases h <;> rfl

theorem list_choose {α : Type} {P : Nat → α → Prop} : ∀ (n : Nat), (∀ i, i < n → ∃ x, P i x) → ∃ l : List α, l.length = n ∧ ∀ (i : Nat) (x : α), l[i]? = some x → P i x
  | 0, _ => ⟨[], rfl, fun i x e => by simp at e⟩
  | n + 1, h => by
    obtain ⟨l, hl, hp⟩ := list_choose n fun i hi => h i (by omega)
    obtain ⟨x, hx⟩ := h n (by omega)
    refine ⟨l ++ [x], by simp [hl], fun i y e => ?_⟩
    rcases getApp e with ⟨_, h2⟩ | ⟨h1, h2⟩
    · exact hp i y h2
    · rw [h1, h2, hl]; exact hx

theorem flat_rows {ρ : Rho} {S : Nat → Prop} {A : Mem} {sz : Nat} {CS : List Value} : ∀ (n : Nat) {rows : List (List PV)}, rows.length = n → n * sz ≤ CS.length → (∀ (i : Nat) (r : List PV), rows[i]? = some r → VRL ρ S A r ((CS.drop (i * sz)).take sz)) → VRL ρ S A rows.flatten (CS.take (n * sz)) := by
  intro n
  induction n with
  | zero => intro rows hl _ _; rw [List.eq_nil_of_length_eq_zero hl, Nat.zero_mul, List.take_zero]; exact .nil
  | succ n ih =>
    intro rows hl hle h
    have hne : rows ≠ [] := by intro e; rw [e] at hl; simp at hl
    have e1 := List.dropLast_concat_getLast hne
    have hl2 : rows.dropLast.length = n := by rw [List.length_dropLast, hl]; rfl
    have q := ih hl2 (by rw [Nat.add_mul] at hle; omega) fun i r e => h i r (by
      rw [← e1, List.getElem?_append_left (List.getElem?_eq_some_iff.1 e).1]; exact e)
    have q2 := h n (rows.getLast hne) (by
      rw [List.getLast_eq_getElem hne, List.getElem?_eq_getElem (by omega)]
      simp [hl])
    rw [← e1, List.flatten_append]
    simp only [List.flatten_cons, List.flatten_nil, List.append_nil]
    have e2 : CS.take ((n + 1) * sz) = CS.take (n * sz) ++ (CS.drop (n * sz)).take sz := by
      rw [Nat.add_mul, Nat.one_mul, List.take_add]
    rw [e2]; exact q.append q2

theorem cell_ty {M : Mem} {td : TD} {v : Value} (h : CellOK M td v) : ∃ p, Ty td p ∧ VR [] (fun b => b < M.length) M p v := by
  induction h with
  | int k n h => exact ⟨_, .int k n h, .int k n⟩
  | bool b => exact ⟨_, .bool b, .bool b⟩
  | str s h => exact ⟨_, .str s.data.toList h, .str s rfl⟩
  | nil e => exact ⟨_, .nil e, .lstE none ⟨by decide, .inl ⟨Nat.le_refl _, by decide⟩, fun e => by cases e⟩⟩
  | @slice e b n c CS hn hc hb hl h ih =>
    obtain ⟨rows, hr1, hr2⟩ : ∃ rows : List (List PV), rows.length = n ∧ ∀ (i : Nat) (r : List PV), rows[i]? = some r → r.length = e.length ∧ (∀ (j : Nat) (td : TD) (v : PV), e[j]? = some td → r[j]? = some v → Ty td v) ∧ VRL [] (fun b => b < M.length) M r ((CS.drop (i * e.length)).take e.length) := by
      refine list_choose n fun i hi => ?_
      have hle : (i + 1) * e.length ≤ c * e.length := Nat.mul_le_mul_right _ (by omega)
      rw [Nat.add_mul, Nat.one_mul, ← hl] at hle
      obtain ⟨r, q1, q2⟩ : ∃ r : List PV, r.length = e.length ∧ ∀ (j : Nat) (p : PV), r[j]? = some p → ∃ td v, e[j]? = some td ∧ CS[i * e.length + j]? = some v ∧ Ty td p ∧ VR [] (fun b => b < M.length) M p v := by
        refine list_choose e.length fun j hj => ?_
        have e1 := List.getElem?_eq_getElem hj
        have e2 := List.getElem?_eq_getElem (l := CS) (i := i * e.length + j) (by omega)
        obtain ⟨p, hp1, hp2⟩ := ih i j _ _ (by omega) e1 e2
        exact ⟨p, _, _, e1, e2, hp1, hp2⟩
      refine ⟨r, q1, fun j td p e1 e2 => ?_, VRL.of_get ?_ fun j p v e1 e2 => ?_⟩
      · obtain ⟨td', v, e3, _, q, _⟩ := q2 j p e2
        rw [e1] at e3; cases e3; exact q
      · rw [q1, List.length_take, List.length_drop]; omega
      · obtain ⟨td', v', e3, e4, _, q⟩ := q2 j p e1
        have hj := (List.getElem?_eq_some_iff.1 e1).1
        rw [List.getElem?_take, if_pos (by omega), List.getElem?_drop, e4] at e2
        cases e2; exact q
    have hU : n < UC := by
      have : UC = 18446744073709551616 := rfl
      have : reachBytes = 140737488351232 := by decide
      omega
    have hcU : c < UC := by
      have : UC = 18446744073709551616 := rfl
      have : reachBytes = 140737488351232 := by decide
      omega
    have hbl := (List.getElem?_eq_some_iff.1 hb).1
    have hflat := flat_rows (ρ := []) (S := fun b => b < M.length) (A := M) (sz := e.length) (CS := CS) n hr1 (by rw [hl]; exact Nat.mul_le_mul_right _ hn) fun i r e1 => (hr2 i r e1).2.2
    by_cases h1 : e.length = 1
    · obtain ⟨td, rfl⟩ : ∃ td, e = [td] := by
        cases e with
        | nil => simp at h1
        | cons a t => cases t with
          | nil => exact ⟨a, rfl⟩
          | cons b t => simp at h1
      have hty : ∀ x, x ∈ rows.flatten → Ty td x := by
        intro x hx
        obtain ⟨r, hr, hxr⟩ := List.mem_flatten.1 hx
        obtain ⟨i, e1⟩ := List.mem_iff_getElem?.1 hr
        obtain ⟨q1, q2, _⟩ := hr2 i r e1
        obtain ⟨j, e2⟩ := List.mem_iff_getElem?.1 hxr
        have hj := (List.getElem?_eq_some_iff.1 e2).1
        rw [q1] at hj
        obtain rfl : j = 0 := by simp at hj; exact hj
        exact q2 0 td x rfl e2
      have hlen : rows.flatten.length = n := by
        have := hflat.length
        rw [List.length_take, hl] at this
        simp only [List.length_cons, List.length_nil, Nat.mul_one, Nat.zero_add] at this
        omega
      refine ⟨.lst 1 false rows.flatten, .one (by omega) hty fun x hx => (hty x hx).single, ?_⟩
      subst hlen
      refine .lst ⟨hU, .inl ⟨hn, hcU⟩, fun e => by cases e⟩ hbl hb (Nat.zero_le _) (fun x hx => by rw [(hty x hx).single]; rfl) ?_
      have e3 : rows.flatten.flatMap ecs = rows.flatten := by
        have : ∀ l : List PV, (∀ x, x ∈ l → ecs x = [x]) → l.flatMap ecs = l := by
          intro l
          induction l with
          | nil => intro _; rfl
          | cons x l ih => intro hh; rw [List.flatMap_cons, hh x (by simp), ih fun y hy => hh y (by simp [hy])]; rfl
        exact this _ fun x hx => (hty x hx).single
      rw [e3]
      simpa using hflat
    · refine ⟨.lst e.length false (rows.map .agg), .agg (by omega) (fun x hx => ?_) (fun x hx => ?_) h1, ?_⟩
      · obtain ⟨i, e1⟩ := List.mem_iff_getElem?.1 hx; exact (hr2 i x e1).1
      · obtain ⟨i, e1⟩ := List.mem_iff_getElem?.1 hx; exact (hr2 i x e1).2.1
      · have hlen : (rows.map PV.agg).length = n := by simp [hr1]
        rw [← hlen] at hU hn ⊢
        refine .lst ⟨hU, .inl ⟨hn, hcU⟩, fun e => by cases e⟩ hbl hb (Nat.zero_le _) (fun x hx => ?_) ?_
        · obtain ⟨r, hr, rfl⟩ := List.mem_map.1 hx
          obtain ⟨i, e1⟩ := List.mem_iff_getElem?.1 hr
          exact (hr2 i r e1).1
        · have e3 : (rows.map PV.agg).flatMap ecs = rows.flatten := by
            rw [List.flatMap_map]
            show rows.flatMap (fun r => r) = _
            exact List.flatMap_id'
          rw [e3, List.drop_zero, hlen]; exact hflat

end Go.Proofs.Pm

/- Frames by the places that matter; code, step by step. -/
namespace Go.Proofs.Pm
open Go Go.Proofs.Am

/-- What is known of a frame. -/
abbrev Fr := List (Nat × PV)

def fget : Fr → Nat → PV
  | [], _ => .un
  | p :: F, t => cond (decide (p.1 = t)) p.2 (fget F t)

def fdel : Fr → Nat → Fr
  | [], _ => []
  | p :: F, t => cond (decide (p.1 = t)) (fdel F t) (p :: fdel F t)

def fput (F : Fr) (d : Option Nat) (v : PV) : Fr :=
  match d with
  | some d => (d, v) :: fdel F d
  | none => F

def fev (F : Fr) : AX → PV
  | .t n => fget F n
  | .c v => cval v
  | .f id => .fn id [] []

def dOk (N : Nat) : Option Nat → Bool
  | some d => decide (d < N)
  | none => true

structure FrR (ρ : Rho) (S : Nat → Prop) (A : Mem) (N : Nat) (F : Fr) (fr : List Value) : Prop where
  len : fr.length = N
  get : ∀ p, p ∈ F → VR ρ S A p.2 (fr.getD p.1 undef)

inductive ORes where
  | done (F : Fr) (H : PH)
  | call (g : PTgt) (args : List PV) (H : PH) (d : Option Nat) (rest : List AOper) (F : Fr)
  | panic (v : PV) (F : Fr) (H : PH)
  | stuck

/-- Which of two. -/
def obr (c : Bool) (x y : ORes) : ORes :=
  match c with
  | true => x
  | false => y

theorem obr_true (x y : ORes) : obr true x y = x := rfl
theorem obr_false (x y : ORes) : obr false x y = y := rfl
theorem obr_congr {c c' : Bool} (x y : ORes) (h : c = c') : obr c x y = obr c' x y := by rw [h]

/-- Operations, up to a call. -/
def orun (N : Nat) (all : List AOper) : List AOper → Fr → PH → ORes
  | [], F, H => .done F H
  | ⟨dst, op, none⟩ :: ops, F, H => match dOk N dst with
    | true => match pop op (fev F) H with
      | some (.val v, H') => orun N all ops (fput F dst v) H'
      | some (.enter g args, H') => .call g args H' dst ops F
      | some (.panic v, H') => .panic v F H'
      | none => .stuck
    | false => .stuck
  | ⟨dst, op, some (j, b)⟩ :: ops, F, H => match dOk N dst with
    | true => match (all[j]?).bind (·.dst) with
      | some d => match fget F d with
        | .bool c => obr (c == b)
            (match pop op (fev F) H with
              | some (.val v, H') => orun N all ops (fput (fput F (some d) (.bool b)) dst v) H'
              | some (.enter g args, H') => .call g args H' dst ops (fput F (some d) (.bool b))
              | some (.panic v, H') => .panic v (fput F (some d) (.bool b)) H'
              | none => .stuck)
            (orun N all ops (fput (fput F (some d) (.bool !b)) dst (.tup [])) H)
        | .tup [] => orun N all ops (fput F dst (.tup [])) H
        | _ => .stuck
      | none => .stuck
    | false => .stuck

section
variable {ρ : Rho} {S : Nat → Prop} {A : Mem} {N : Nat} {F : Fr} {fr : List Value}

theorem fget_mem : ∀ {F : Fr} {t : Nat}, fget F t = .un ∨ (t, fget F t) ∈ F
  | [], t => .inl rfl
  | p :: F, t => by
    simp only [fget]
    cases h : decide (p.1 = t) with
    | true =>
      obtain rfl : p.1 = t := by simpa using h
      exact .inr (by simp)
    | false =>
      rcases fget_mem (F := F) (t := t) with h | h
      · exact .inl h
      · exact .inr (by simp [h])

theorem FrR.fget (h : FrR ρ S A N F fr) (t : Nat) : VR ρ S A (Pm.fget F t) (fr.getD t undef) := by
  rcases fget_mem (F := F) (t := t) with e | e
  · rw [e]; exact .un _
  · exact h.get _ e

theorem FrR.ev (h : FrR ρ S A N F fr) (x : AX) : VR ρ S A (fev F x) (Am.ev fr x) := by
  cases x with
  | t n => exact h.fget n
  | c v => exact .cval v
  | f id => exact .fn id .nil .nil

theorem FrR.mono {ρ' : Rho} {S' : Nat → Prop} {A' : Mem} (e : Ext ρ S A ρ' S' A') (h : FrR ρ S A N F fr) : FrR ρ' S' A' N F fr :=
  ⟨h.len, fun p hp => (h.get p hp).mono e⟩

theorem fdel_mem : ∀ {F : Fr} {t : Nat} {p : Nat × PV}, p ∈ fdel F t → p ∈ F ∧ p.1 ≠ t
  | [], t, p, h => by simp [fdel] at h
  | q :: F, t, p, h => by
    simp only [fdel] at h
    cases hb : decide (q.1 = t) with
    | true =>
      rw [hb] at h
      obtain ⟨h1, h2⟩ := fdel_mem h; exact ⟨by simp [h1], h2⟩
    | false =>
      rw [hb] at h
      rcases List.mem_cons.1 h with rfl | h
      · exact ⟨by simp, by simpa using hb⟩
      · obtain ⟨h1, h2⟩ := fdel_mem h; exact ⟨by simp [h1], h2⟩

theorem FrR.put (h : FrR ρ S A N F fr) {v : PV} {v' : Value} (hv : VR ρ S A v v') {d : Option Nat} (hd : dOk N d = true) : FrR ρ S A N (fput F d v) (put fr d v') := by
  cases d with
  | none => exact h
  | some d =>
    simp only [dOk, decide_eq_true_eq] at hd
    refine ⟨by simp [Am.put, h.len], fun p hp => ?_⟩
    rcases List.mem_cons.1 hp with rfl | hp
    · simp only [Am.put]
      rw [List.getD_eq_getElem?_getD, List.getElem?_set_self (by rw [h.len]; exact hd)]; exact hv
    · obtain ⟨h1, h2⟩ := fdel_mem hp
      simp only [Am.put]
      rw [List.getD_eq_getElem?_getD, List.getElem?_set_ne (Ne.symm h2), ← List.getD_eq_getElem?_getD]
      exact h.get p h1

theorem FrR.same (h : FrR ρ S A N F fr) {d : Nat} {v : PV} (e : Pm.fget F d = v) : FrR ρ S A N (fput F (some d) v) fr := by
  refine ⟨h.len, fun p hp => ?_⟩
  rcases List.mem_cons.1 hp with rfl | hp
  · subst e; exact h.fget d
  · exact h.get p (fdel_mem hp).1

theorem FrR.sub {F' : Fr} (h : FrR ρ S A N F fr) (hs : ∀ p, p ∈ F' → p ∈ F) : FrR ρ S A N F' fr := ⟨h.len, fun p hp => h.get p (hs p hp)⟩

end

/-- What stands behind. -/
inductive K where
  | seq (b : ACode)
  | block (id : Nat)
  /-- Only these places matter from here on. -/
  | keep (L : List Nat)

def fmem : List Nat → Nat → Bool
  | [], _ => false
  | a :: l, x => cond (decide (a = x)) true (fmem l x)

def fkeep (L : List Nat) : Fr → Fr
  | [] => []
  | p :: F => cond (fmem L p.1) (p :: fkeep L F) (fkeep L F)

theorem fkeep_sub {L : List Nat} : ∀ {F : Fr} (p), p ∈ fkeep L F → p ∈ F
  | [], p, h => h
  | q :: F, p, h => by
    simp only [fkeep] at h
    cases hb : fmem L q.1 with
    | true =>
      rw [hb] at h
      rcases List.mem_cons.1 h with rfl | h
      · simp
      · simp [fkeep_sub p h]
    | false => rw [hb] at h; simp [fkeep_sub p h]

def KQ (T : Tbl) (rd : Bool) (Q : AOut → List Value → Mem → Prop) : List K → AOut → List Value → Mem → Prop
  | [], o, fr, A => Q o fr A
  | .seq b :: ks, o, fr, A => match o with
    | .normal => W T rd b fr A fun o fr A => KQ T rd Q ks o fr A
    | o => KQ T rd Q ks o fr A
  | .block id :: ks, o, fr, A => match o with
    | .exit k => if k = id then KQ T rd Q ks .normal fr A else KQ T rd Q ks (.exit k) fr A
    | o => KQ T rd Q ks o fr A
  | .keep _ :: ks, o, fr, A => KQ T rd Q ks o fr A

theorem KQ.mono {T : Tbl} {rd : Bool} {Q Q' : AOut → List Value → Mem → Prop} (k : ∀ o f h, Q o f h → Q' o f h) : ∀ {ks : List K} {o fr A}, KQ T rd Q ks o fr A → KQ T rd Q' ks o fr A
  | [], o, fr, A, h => k _ _ _ h
  | .seq b :: ks, o, fr, A, h => by
    cases o with
    | normal => exact W.mono h fun _ _ _ h => KQ.mono k h
    | exit id => exact KQ.mono (ks := ks) k h
    | ret => exact KQ.mono (ks := ks) k h
    | panic v => exact KQ.mono (ks := ks) k h
  | .block id :: ks, o, fr, A, h => by
    cases o with
    | exit j =>
      simp only [KQ] at h ⊢
      split at h
      · rename_i e; rw [if_pos e]; exact KQ.mono k h
      · rename_i e; rw [if_neg e]; exact KQ.mono k h
    | normal => exact KQ.mono (ks := ks) k h
    | ret => exact KQ.mono (ks := ks) k h
    | panic v => exact KQ.mono (ks := ks) k h
  | .keep _ :: ks, o, fr, A, h => KQ.mono (ks := ks) k h

abbrev PQ := POut → Fr → PH → Prop

def FinF (N : Nat) (ρ : Rho) (S : Nat → Prop) (H : PH) (A : Mem) (Q : PQ) (o : AOut) (fr : List Value) (A' : Mem) : Prop :=
  ∃ ρ' S' H' oP F', Step ρ S H A ρ' S' H' A' ∧ HR ρ' S' H' A' ∧ OR ρ' S' A' oP o ∧ FrR ρ' S' A' N F' fr ∧ Q oP F' H'

theorem FinF.pre {N ρ S H A ρ1 S1 H1 A1 Q o fr A2} (h : Step ρ S H A ρ1 S1 H1 A1) (k : FinF N ρ1 S1 H1 A1 Q o fr A2) : FinF N ρ S H A Q o fr A2 := by
  obtain ⟨ρ', S', H', rP, F', s, q⟩ := k; exact ⟨ρ', S', H', rP, F', h.trans s, q⟩

theorem KQ.pre {T : Tbl} {rd : Bool} {N ρ S H A ρ1 S1 H1 A1 Q} (h : Step ρ S H A ρ1 S1 H1 A1) {ks o fr A2} (k : KQ T rd (FinF N ρ1 S1 H1 A1 Q) ks o fr A2) : KQ T rd (FinF N ρ S H A Q) ks o fr A2 :=
  KQ.mono (fun _ _ _ => FinF.pre h) k

/-- Code, and what stands behind it, comes to what Q says. -/
structure RK (T : Tbl) (rd : Bool) (N : Nat) (Q : PQ) (c : ACode) (ks : List K) (F : Fr) (H : PH) : Prop where
  run : ∀ ρ S A fr, HR ρ S H A → FrR ρ S A N F fr → W T rd c fr A fun o fr' A' => KQ T rd (FinF N ρ S H A Q) ks o fr' A'

/-- What stands behind, at an outcome. -/
def RO (T : Tbl) (rd : Bool) (N : Nat) (Q : PQ) : List K → POut → Fr → PH → Prop
  | [], o, F, H => Q o F H
  | .seq b :: ks, .normal, F, H => RK T rd N Q b ks F H
  | .seq _ :: ks, .exit k, F, H => RO T rd N Q ks (.exit k) F H
  | .seq _ :: ks, .ret, F, H => RO T rd N Q ks .ret F H
  | .seq _ :: ks, .panic v, F, H => RO T rd N Q ks (.panic v) F H
  | .block id :: ks, .exit k, F, H => if k = id then RO T rd N Q ks .normal F H else RO T rd N Q ks (.exit k) F H
  | .block _ :: ks, .normal, F, H => RO T rd N Q ks .normal F H
  | .block _ :: ks, .ret, F, H => RO T rd N Q ks .ret F H
  | .block _ :: ks, .panic v, F, H => RO T rd N Q ks (.panic v) F H
  | .keep L :: ks, .normal, F, H => RO T rd N Q ks .normal (fkeep L F) H
  | .keep _ :: ks, o, F, H => RO T rd N Q ks o F H

/-- Operations, and what stands behind them. -/
structure ROps (T : Tbl) (rd : Bool) (N : Nat) (Q : PQ) (all ops : List AOper) (ks : List K) (F : Fr) (H : PH) : Prop where
  run : ∀ ρ S A fr, HR ρ S H A → FrR ρ S A N F fr → WO T all ops fr A fun o fr' A' => KQ T rd (FinF N ρ S H A Q) ks o fr' A'

/-- A call amid operations, and what stands behind it. -/
structure RCall (T : Tbl) (rd : Bool) (N : Nat) (Q : PQ) (all : List AOper) (ks : List K) (g : PTgt) (args : List PV) (H : PH) (d : Option Nat) (rest : List AOper) (F : Fr) : Prop where
  run : PEv T g args H fun r H' => match r with
    | .ok v => dOk N d = true → ROps T rd N Q all rest ks (fput F d v) H'
    | .error v => RO T rd N Q ks (.panic v) F H'

def RReg (T : Tbl) (rd : Bool) (N : Nat) (Q : PQ) (all : List AOper) (ks : List K) : ORes → Prop
  | .done F H => RO T rd N Q ks .normal F H
  | .call g args H d rest F => RCall T rd N Q all ks g args H d rest F
  | .panic v F H => RO T rd N Q ks (.panic v) F H
  | .stuck => False

section
variable {T : Tbl} {rd : Bool} {N : Nat} {Q : PQ} {ks : List K} {F : Fr} {H : PH}

theorem RO.ok {ρ S A fr} : ∀ {ks : List K} {F : Fr} {o : POut} {oA : AOut}, RO T rd N Q ks o F H → HR ρ S H A → FrR ρ S A N F fr → OR ρ S A o oA → KQ T rd (FinF N ρ S H A Q) ks oA fr A
  | [], F, o, oA, h, hr, hf, ho => ⟨ρ, S, H, o, F, .refl .., hr, ho, hf, h⟩
  | .seq b :: ks, F, o, oA, h, hr, hf, ho => by
    cases ho with
    | normal => exact h.run ρ S A fr hr hf
    | exit id => exact RO.ok (ks := ks) (o := .exit id) h hr hf (.exit id)
    | ret => exact RO.ok (ks := ks) (o := .ret) h hr hf .ret
    | panic hv => exact RO.ok (ks := ks) h hr hf (.panic hv)
  | .block id :: ks, F, o, oA, h, hr, hf, ho => by
    cases ho with
    | exit k =>
      simp only [RO, KQ] at h ⊢
      split at h
      · rename_i e; rw [if_pos e]; exact RO.ok (ks := ks) h hr hf .normal
      · rename_i e; rw [if_neg e]; exact RO.ok (ks := ks) h hr hf (.exit k)
    | normal => exact RO.ok (ks := ks) (o := .normal) h hr hf .normal
    | ret => exact RO.ok (ks := ks) (o := .ret) h hr hf .ret
    | panic hv => exact RO.ok (ks := ks) h hr hf (.panic hv)
  | .keep L :: ks, F, o, oA, h, hr, hf, ho => by
    cases ho with
    | normal => exact RO.ok (ks := ks) (F := fkeep L F) (o := .normal) h hr (hf.sub fkeep_sub) .normal
    | exit id => exact RO.ok (ks := ks) (o := .exit id) h hr hf (.exit id)
    | ret => exact RO.ok (ks := ks) (o := .ret) h hr hf .ret
    | panic hv => exact RO.ok (ks := ks) h hr hf (.panic hv)

theorem RK.skip (h : RO T rd N Q ks .normal F H) : RK T rd N Q .skip ks F H := ⟨fun ρ S A fr hr hf => W.skip (h.ok hr hf .normal)⟩
theorem RK.ret (h : RO T rd N Q ks .ret F H) : RK T rd N Q .ret ks F H := ⟨fun ρ S A fr hr hf => W.ret (h.ok hr hf .ret)⟩
theorem RK.exit {id : Nat} (h : RO T rd N Q ks (.exit id) F H) : RK T rd N Q (.exit id) ks F H := ⟨fun ρ S A fr hr hf => W.exit (h.ok hr hf (.exit id))⟩

theorem RK.seq {a b : ACode} (h : RK T rd N Q a (.seq b :: ks) F H) : RK T rd N Q (.seq a b) ks F H := ⟨fun ρ S A fr hr hf => W.seq ((h.run ρ S A fr hr hf).mono fun o f A' q => by
  cases o <;> exact q)⟩

theorem RK.block {id : Nat} {a : ACode} (h : RK T rd N Q a (.block id :: ks) F H) : RK T rd N Q (.block id a) ks F H := ⟨fun ρ S A fr hr hf => W.block ((h.run ρ S A fr hr hf).mono fun o f A' q => by
  cases o <;> exact q)⟩

theorem RK.cond {c : AX} {a b : ACode} {t : Bool} (hc : fev F c = .bool t) (h1 : t = true → RK T rd N Q a ks F H) (h2 : t = false → RK T rd N Q b ks F H) : RK T rd N Q (.cond c a b) ks F H := ⟨fun ρ S A fr hr hf => by
  have e := hf.ev c
  rw [hc] at e
  refine W.cond e.bool_inv ?_
  cases t with
  | true => exact (h1 rfl).run ρ S A fr hr hf
  | false => exact (h2 rfl).run ρ S A fr hr hf⟩

/-- What is known of a frame, at just these places. -/
def fpick (F : Fr) : List Nat → Fr
  | [] => []
  | t :: L => (t, fget F t) :: fpick F L

def fvals (F : Fr) : List Nat → List PV
  | [] => []
  | t :: L => fget F t :: fvals F L

def fzip : List Nat → List PV → Fr
  | t :: L, v :: vs => (t, v) :: fzip L vs
  | _, _ => []

theorem RK.pick (L : List Nat) {c : ACode} (h : RK T rd N Q c ks (fpick F L) H) : RK T rd N Q c ks F H := ⟨fun ρ S A fr hr hf => h.run ρ S A fr hr ⟨hf.len, by
  have : ∀ L : List Nat, ∀ p, p ∈ fpick F L → VR ρ S A p.2 (fr.getD p.1 undef) := by
    intro L
    induction L with
    | nil => intro p hp; simp [fpick] at hp
    | cons t L ih =>
      intro p hp
      rcases List.mem_cons.1 hp with rfl | hp
      · exact hf.fget t
      · exact ih p hp
  exact this L⟩⟩

theorem fzip_vals (F : Fr) : ∀ L : List Nat, fzip L (fvals F L) = fpick F L
  | [] => rfl
  | t :: L => by simp only [fvals, fzip, fpick, fzip_vals F L]

def RCond (T : Tbl) (rd : Bool) (N : Nat) (Q : PQ) (a b : ACode) (ks : List K) (F : Fr) (H : PH) : PV → Prop
  | .bool t => (t = true → RK T rd N Q a ks F H) ∧ (t = false → RK T rd N Q b ks F H)
  | _ => False

theorem RCond_bool {a b : ACode} {t : Bool} : RCond T rd N Q a b ks F H (.bool t) = ((t = true → RK T rd N Q a ks F H) ∧ (t = false → RK T rd N Q b ks F H)) := rfl
theorem RCond_true {a b : ACode} : RCond T rd N Q a b ks F H (.bool true) = RK T rd N Q a ks F H := by simp [RCond]
theorem RCond_false {a b : ACode} : RCond T rd N Q a b ks F H (.bool false) = RK T rd N Q b ks F H := by simp [RCond]

theorem RCond.mk {a b : ACode} {t : Bool} (h1 : t = true → RK T rd N Q a ks F H) (h2 : t = false → RK T rd N Q b ks F H) : RCond T rd N Q a b ks F H (.bool t) := ⟨h1, h2⟩

theorem RK.cnd {c : AX} {a b : ACode} (h : RCond T rd N Q a b ks F H (fev F c)) : RK T rd N Q (.cond c a b) ks F H := by
  unfold RCond at h
  split at h
  · rename_i t ht; exact RK.cond ht h.1 h.2
  · exact h.elim

/-- A loop, by what stands at its head and a number that falls. -/
theorem RK.loop {a : ACode} (I : Nat → Fr → PH → Prop) (k : Nat) (hI : I k F H) (step : ∀ k F h, I k F h → RK T rd N (fun o F' h' => match o with | .normal => ∃ k', k' < k ∧ I k' F' h' | o => RO T rd N Q ks o F' h') a [] F h) :
    RK T rd N Q (.loop a) ks F H := ⟨fun ρ S A fr hr hf => by
  refine W.loop (fun k f A' => ∃ ρ' S' H' F', Step ρ S H A ρ' S' H' A' ∧ HR ρ' S' H' A' ∧ FrR ρ' S' A' N F' f ∧ I k F' H') (fun k f A' => ?_) k ⟨ρ, S, H, F, .refl .., hr, hf, hI⟩
  rintro ⟨ρ', S', H', F', s, h', hf', hI'⟩
  refine ((step k F' H' hI').run ρ' S' A' f h' hf').mono fun o f2 A2 => ?_
  rintro ⟨ρ2, S2, H2, oP, F2, s2, h2, ho, hf2, q⟩
  cases ho with
  | normal => obtain ⟨k', hk, hI2⟩ := q; exact ⟨k', hk, ρ2, S2, H2, F2, s.trans s2, h2, hf2, hI2⟩
  | exit id => exact KQ.pre (s.trans s2) (RO.ok (o := .exit id) q h2 hf2 (.exit id))
  | ret => exact KQ.pre (s.trans s2) (RO.ok (o := .ret) q h2 hf2 .ret)
  | panic hv => exact KQ.pre (s.trans s2) (RO.ok q h2 hf2 (.panic hv))⟩

/-- A loop, by what stands at its head at some places. -/
theorem RK.lp {a : ACode} (L : List Nat) (I : Nat → List PV → PH → Prop) (k : Nat) (hI : I k (fvals F L) H) (step : ∀ k vs h, I k vs h → RK T rd N (fun o F' h' => match o with | .normal => ∃ k', k' < k ∧ I k' (fvals F' L) h' | o => RO T rd N Q ks o F' h') a [] (fzip L vs) h) :
    RK T rd N Q (.loop a) ks F H :=
  RK.loop (fun k F h => I k (fvals F L) h) k hI fun k F h hI => RK.pick L (by rw [← fzip_vals]; exact step k _ h hI)

theorem RReg.ok {all : List AOper} : ∀ {ops : List AOper} {F : Fr} {H : PH}, RReg T rd N Q all ks (orun N all ops F H) → ROps T rd N Q all ops ks F H
  | [], F, H, h => ⟨fun ρ S A fr hr hf => RO.ok h hr hf .normal⟩
  | o :: ops, F, H, h => ⟨fun ρ S A fr hr hf => by
    have skip : ∀ F', dOk N o.dst = true → wantedA all fr o = some false → FrR ρ S A N F' fr → RReg T rd N Q all ks (orun N all ops (fput F' o.dst (.tup [])) H) → WO T all (o :: ops) fr A fun o fr' A' => KQ T rd (FinF N ρ S H A Q) ks o fr' A' := by
      intro F' hd hwA hf h
      simp only [WO, hwA]
      exact (RReg.ok h).run ρ S A _ hr (hf.put (.tup .nil) hd)
    have step : ∀ F', dOk N o.dst = true → wantedA all fr o = some true → FrR ρ S A N F' fr → RReg T rd N Q all ks (match pop o.op (fev F) H with
        | some (.val v, H') => orun N all ops (fput F' o.dst v) H'
        | some (.enter g args, H') => .call g args H' o.dst ops F'
        | some (.panic v, H') => .panic v F' H'
        | none => .stuck) → WO T all (o :: ops) fr A fun o fr' A' => KQ T rd (FinF N ρ S H A Q) ks o fr' A' := by
      intro F' hd hwA hf' h
      split at h
      · rename_i v H' hp
        obtain ⟨rA, A', ρ', S', e, s, h', hv'⟩ := pop_sound hr (fun x => hf.ev x) (fun l => VRL.map l fun x _ => hf.ev x) hp
        cases hv' with
        | val hv' =>
          simp only [WO, hwA, e]
          exact WO.mono (fun _ _ _ => KQ.pre s) ((RReg.ok h).run ρ' S' A' _ h' ((hf'.mono (s.ext hr)).put hv' hd))
      · rename_i g args H' hp
        obtain ⟨rA, A', ρ', S', e, s, h', hv'⟩ := pop_sound hr (fun x => hf.ev x) (fun l => VRL.map l fun x _ => hf.ev x) hp
        have fin : ∀ gA argsA, TgR ρ' g gA → VRL ρ' S' A' args argsA → Ev T gA argsA A' fun r A2 => match r with
            | .ok v => WO T all ops (put fr o.dst v) A2 fun o fr' A' => KQ T rd (FinF N ρ S H A Q) ks o fr' A'
            | .error v => KQ T rd (FinF N ρ S H A Q) ks (.panic v) fr A2 := by
          intro gA argsA hg ha
          refine (h.run.run ρ' S' A' gA argsA h' hg ha).mono fun r A2 => ?_
          rintro ⟨ρ2, S2, H2, rP, s2, h2, hrr, q⟩
          have hf2 := (hf'.mono (s.ext hr)).mono (s2.ext h')
          cases hrr with
          | ok hvv => exact WO.mono (fun _ _ _ => KQ.pre (s.trans s2)) ((q hd).run ρ2 S2 A2 _ h2 (hf2.put hvv hd))
          | error hvv => exact KQ.pre (s.trans s2) (RO.ok q h2 hf2 (.panic hvv))
        cases hv' with
        | fn f ha =>
          simp only [WO, hwA, e]
          exact fin _ _ rfl ha
        | yield hrf ha =>
          simp only [WO, hwA, e]
          exact fin _ _ hrf ha
      · rename_i v H' hp
        obtain ⟨rA, A', ρ', S', e, s, h', hv'⟩ := pop_sound hr (fun x => hf.ev x) (fun l => VRL.map l fun x _ => hf.ev x) hp
        cases hv' with
        | panic hv' =>
          simp only [WO, hwA, e]
          exact KQ.pre s (RO.ok h h' (hf'.mono (s.ext hr)) (.panic hv'))
      · exact h.elim
    obtain ⟨dst, op, guard⟩ := o
    cases guard with
    | none =>
      simp only [orun] at h
      split at h
      · rename_i hd; exact step F hd rfl hf h
      · exact h.elim
    | some jb =>
      obtain ⟨j, b⟩ := jb
      simp only [orun] at h
      split at h
      · rename_i hd
        split at h
        · rename_i d hdj
          have hx := hf.fget d
          rw [List.getD_eq_getElem?_getD] at hx
          split at h
          · rename_i c hc
            rw [hc] at hx
            have hwc : wantedA all fr ⟨dst, op, some (j, b)⟩ = some (c == b) := by
              simp only [wantedA, hdj]
              cases e : fr[d]? with
              | none => rw [e] at hx; have := hx.bool_inv; simp [undef] at this
              | some v => rw [e] at hx; have := hx.bool_inv; simp at this; subst this; rfl
            cases hcb : (c == b) with
            | true =>
              rw [hcb] at h hwc
              obtain rfl : c = b := by simpa using hcb
              exact step _ hd hwc (hf.same hc) h
            | false =>
              rw [hcb] at h hwc
              obtain rfl : c = !b := by cases c <;> cases b <;> simp_all
              exact skip _ hd hwc (hf.same hc) h
          · rename_i hc
            rw [hc] at hx
            refine skip F hd ?_ hf h
            obtain ⟨l, e3, e4⟩ := hx.tup_inv
            cases e4
            simp only [wantedA, hdj]
            cases e : fr[d]? with
            | none => rfl
            | some v => rw [e] at e3; simp at e3; subst e3; rfl
          · exact h.elim
        · exact h.elim
      · exact h.elim⟩

theorem RReg.br {all : List AOper} {c : Bool} {x y : ORes} (h1 : c = true → RReg T rd N Q all ks x) (h2 : c = false → RReg T rd N Q all ks y) : RReg T rd N Q all ks (obr c x y) := by
  cases c with
  | true => exact h1 rfl
  | false => exact h2 rfl

theorem RReg_done {all : List AOper} : RReg T rd N Q all ks (.done F H) = RO T rd N Q ks .normal F H := rfl
theorem RK.drawnK (L : List Nat) {ops : List AOper} {pk} (h : RReg T rd N (fun o F H => o = .normal ∧ RO T rd N Q ks .normal (fkeep L F) H) ops [] (orun N ops ops F H)) : RK T rd N Q (.region true ops [] pk) ks F H :=
  ⟨fun ρ S A fr hr hf => W.drawn (WO.mono (fun o f A' => by
    rintro ⟨ρ', S', H', oP, F', s, h', ho, hf', rfl, q⟩
    cases ho
    exact ⟨rfl, KQ.pre s (RO.ok q h' (hf'.sub fkeep_sub) .normal)⟩) ((RReg.ok h).run ρ S A fr hr hf))⟩

theorem RReg_call {all : List AOper} {g args d rest} : RReg T rd N Q all ks (.call g args H d rest F) = RCall T rd N Q all ks g args H d rest F := rfl
theorem RReg_panic {all : List AOper} {v} : RReg T rd N Q all ks (.panic v F H) = RO T rd N Q ks (.panic v) F H := rfl
theorem RO_nil {o} : RO T rd N Q [] o F H = Q o F H := rfl
theorem RO_seq {b} : RO T rd N Q (.seq b :: ks) .normal F H = RK T rd N Q b ks F H := rfl
theorem RO_seq_exit {b k} : RO T rd N Q (.seq b :: ks) (.exit k) F H = RO T rd N Q ks (.exit k) F H := rfl
theorem RO_seq_ret {b} : RO T rd N Q (.seq b :: ks) .ret F H = RO T rd N Q ks .ret F H := rfl
theorem RO_seq_panic {b v} : RO T rd N Q (.seq b :: ks) (.panic v) F H = RO T rd N Q ks (.panic v) F H := rfl
theorem RO_block_exit {id k} : RO T rd N Q (.block id :: ks) (.exit k) F H = if k = id then RO T rd N Q ks .normal F H else RO T rd N Q ks (.exit k) F H := rfl
theorem RO_block {id} : RO T rd N Q (.block id :: ks) .normal F H = RO T rd N Q ks .normal F H := rfl
theorem RO_block_ret {id} : RO T rd N Q (.block id :: ks) .ret F H = RO T rd N Q ks .ret F H := rfl
theorem RO_block_panic {id v} : RO T rd N Q (.block id :: ks) (.panic v) F H = RO T rd N Q ks (.panic v) F H := rfl

theorem RK.region {ops : List AOper} {chk pk} (h : RReg T rd N Q ops ks (orun N ops ops F H)) : RK T rd N Q (.region false ops chk pk) ks F H :=
  ⟨fun ρ S A fr hr hf => W.region ((RReg.ok h).run ρ S A fr hr hf)⟩

theorem RO_keep {L} : RO T rd N Q (.keep L :: ks) .normal F H = RO T rd N Q ks .normal (fkeep L F) H := rfl
theorem RO_keep_panic {L v} : RO T rd N Q (.keep L :: ks) (.panic v) F H = RO T rd N Q ks (.panic v) F H := rfl

theorem RK.regionK (L : List Nat) {ops : List AOper} {chk pk} (h : RReg T rd N Q ops (.keep L :: ks) (orun N ops ops F H)) : RK T rd N Q (.region false ops chk pk) ks F H :=
  ⟨fun ρ S A fr hr hf => W.region ((RReg.ok h).run ρ S A fr hr hf)⟩

/-- A region that draws, with nothing to look at twice, and that does not panic. -/
theorem RK.drawn {ops : List AOper} {pk} (h : RReg T rd N (fun o F H => o = .normal ∧ RO T rd N Q ks .normal F H) ops [] (orun N ops ops F H)) : RK T rd N Q (.region true ops [] pk) ks F H :=
  ⟨fun ρ S A fr hr hf => W.drawn (WO.mono (fun o f A' => by
    rintro ⟨ρ', S', H', oP, F', s, h', ho, hf', rfl, q⟩
    cases ho
    exact ⟨rfl, KQ.pre s (RO.ok q h' hf' .normal)⟩) ((RReg.ok h).run ρ S A fr hr hf))⟩

/-- A call of what turns no more. -/
theorem RCall.pure {all : List AOper} {f : FuncId} {args : List PV} {v : PV} {d : Option Nat} {rest : List AOper} (h : Pur T f args v) (k : RReg T rd N Q all ks (orun N all rest (fput F d v) H)) : RCall T rd N Q all ks (.fn f) args H d rest F :=
  ⟨(h H).mono fun r H' => by rintro ⟨rfl, rfl⟩; exact fun _ => RReg.ok k⟩

theorem RCall.of {all : List AOper} {g : PTgt} {args : List PV} {d : Option Nat} {rest : List AOper} {R : Except PV PV → PH → Prop} (h : PEv T g args H R) (k : ∀ r H', R r H' → match r with
    | .ok v => RReg T rd N Q all ks (orun N all rest (fput F d v) H')
    | .error v => RO T rd N Q ks (.panic v) F H') : RCall T rd N Q all ks g args H d rest F :=
  ⟨h.mono fun r H' hr => by
    have := k r H' hr
    cases r with
    | ok v => exact fun _ => RReg.ok this
    | error v => exact this⟩

/-- Less may be known of the frame. -/
theorem RK.sub {c : ACode} (F' : Fr) (hs : ∀ p, p ∈ F' → p ∈ F) (h : RK T rd N Q c ks F' H) : RK T rd N Q c ks F H := ⟨fun ρ S A fr hr hf => h.run ρ S A fr hr (hf.sub hs)⟩

theorem RK.keep (l : List Nat) {c : ACode} (h : RK T rd N Q c ks (fkeep l F) H) : RK T rd N Q c ks F H := RK.sub _ fkeep_sub h

theorem RK.mono {c : ACode} {Q' : PQ} (h : RK T rd N Q c [] F H) (k : ∀ o F H, Q o F H → Q' o F H) : RK T rd N Q' c [] F H := ⟨fun ρ S A fr hr hf => (h.run ρ S A fr hr hf).mono fun o f A' => by
  rintro ⟨ρ', S', H', oP, F', s, h', ho, hf', q⟩; exact ⟨ρ', S', H', oP, F', s, h', ho, hf', k _ _ _ q⟩⟩

theorem RK.gh {c : ACode} (h : Gh (F.map (·.2)) H fun vs H' => RK T rd N Q c ks ((F.map (·.1)).zip vs) H') : RK T rd N Q c ks F H := ⟨fun ρ S A fr hr hf => by
  have hv : VRL ρ S A (F.map (·.2)) (F.map fun p => fr.getD p.1 undef) := VRL.map F fun p hp => hf.get p hp
  obtain ⟨ρ', S', H', vs, s, h', hv', q⟩ := h ρ S A _ hr hv
  refine (q.run ρ' S' A fr h' ⟨hf.len, fun p hp => ?_⟩).mono fun _ _ _ => KQ.pre s
  obtain ⟨i, e⟩ := List.mem_iff_getElem?.1 hp
  rw [List.getElem?_zip_eq_some, List.getElem?_map, Option.map_eq_some_iff] at e
  obtain ⟨⟨p', e1, e2⟩, e3⟩ := e
  obtain ⟨v', e4, e5⟩ := hv'.get e3
  rw [List.getElem?_map, e1] at e4
  simp only [Option.map_some, Option.some.injEq] at e4
  rw [← e2, e4]; exact e5⟩

/-- What a function's frame is at first. -/
def finit : Nat → List PV → Fr
  | _, [] => []
  | i, v :: vs => (i, v) :: finit (i + 1) vs

theorem finit_get {ρ S A} : ∀ {vs : List PV} {ys : List Value}, VRL ρ S A vs ys → ∀ {i : Nat} {pre suf : List Value}, pre.length = i → ∀ p, p ∈ finit i vs → VR ρ S A p.2 ((pre ++ ys ++ suf).getD p.1 undef)
  | _, _, .nil, i, pre, suf, _, p, hp => by simp [finit] at hp
  | _, _, .cons (x := x) (x' := y) (xs' := ys) h t, i, pre, suf, hl, p, hp => by
    rcases List.mem_cons.1 hp with rfl | hp
    · rw [List.getD_eq_getElem?_getD, List.append_assoc, List.getElem?_append_right (by simp [hl])]
      simp [hl]; exact h
    · have := finit_get t (i := i + 1) (pre := pre ++ [y]) (suf := suf) (by simp [hl]) p hp
      simpa using this

def fres (F : Fr) (H : PH) : ARes → Option PV
  | .tmp t => some (fget F t)
  | .cell t n => pload H n (fget F t)

def fmapM (F : Fr) (H : PH) : List ARes → Option (List PV)
  | [] => some []
  | x :: xs => match fres F H x, fmapM F H xs with
    | some y, some ys => some (y :: ys)
    | _, _ => none

def fresults (F : Fr) (H : PH) (rs : List ARes) : Option PV :=
  match rs with
  | [r] => fres F H r
  | rs => match fmapM F H rs with
    | some vs => some (.tup vs)
    | none => none

theorem fresults_ok {ρ S A} {fr : List Value} (hr : HR ρ S H A) (hv : FrR ρ S A N F fr) {rs : List ARes} {v : PV} (e : fresults F H rs = some v) : ∃ v', resultsA fr A rs = some v' ∧ VR ρ S A v v' := by
  have one : ∀ (x : ARes) (v : PV), fres F H x = some v → ∃ v', resA fr A x = some v' ∧ VR ρ S A v v' := by
    intro x v e
    cases x with
    | tmp t => cases e; exact ⟨_, rfl, hv.fget t⟩
    | cell t n => exact load_ok hr (hv.fget t) e
  have many : ∀ (rs : List ARes) (vs : List PV), fmapM F H rs = some vs → ∃ vs', rs.mapM (resA fr A) = some vs' ∧ VRL ρ S A vs vs' := by
    intro rs
    induction rs with
    | nil => intro vs e; cases e; exact ⟨[], rfl, .nil⟩
    | cons r rs ih =>
      intro vs e
      simp only [fmapM] at e
      split at e
      · rename_i y ys e1 e2; cases e
        obtain ⟨y', e3, h3⟩ := one r y e1
        obtain ⟨ys', e4, h4⟩ := ih ys e2
        exact ⟨y' :: ys', by simp [List.mapM_cons, e3, e4], .cons h3 h4⟩
      · cases e
  unfold fresults at e
  unfold resultsA
  split at e
  · exact one _ _ e
  · split at e
    · rename_i vs e1; cases e
      obtain ⟨vs', e2, h2⟩ := many _ _ e1
      refine ⟨.tuple ⟨vs'⟩, ?_, .tup h2⟩
      split
      · rename_i hne; exact (hne _ rfl).elim
      · rw [e2]; rfl
    · cases e

/-- A function's answer. -/
def FnQ (rs : List ARes) (R : Except PV PV → PH → Prop) : PQ := fun o F H => match o with
  | .normal | .ret => ∃ v, fresults F H rs = some v ∧ Gh [v] H fun vs H' => ∃ v', vs = [v'] ∧ R (.ok v') H'
  | .panic v => R (.error v) H
  | .exit _ => False

theorem FnQ.ret {rs : List ARes} {R : Except PV PV → PH → Prop} {v : PV} (h : fresults F H rs = some v) (k : R (.ok v) H) : FnQ rs R .ret F H := ⟨v, h, Gh.ret ⟨v, rfl, k⟩⟩
theorem FnQ.normal {rs : List ARes} {R : Except PV PV → PH → Prop} {v : PV} (h : fresults F H rs = some v) (k : R (.ok v) H) : FnQ rs R .normal F H := ⟨v, h, Gh.ret ⟨v, rfl, k⟩⟩

theorem PEv.fn {f : FuncId} {c : AFunc} (hT : T f = some (.code c)) {args : List PV} {R : Except PV PV → PH → Prop} {rs : List ARes} {body : ACode} (hN : c.results = rs ∧ c.body = body ∧ args.length + (c.ntmps - args.length) = N)
    (h : RK T false N (FnQ rs R) body [] (finit 0 args) H) : PEv T (.fn f) args H R := ⟨fun ρ S A gA argsA hr hg ha => by
  obtain ⟨rfl, rfl, rfl⟩ := hN
  cases gA with
  | yield l => exact hg.elim
  | fn f' =>
    obtain rfl : f = f' := hg
    refine Ev.fn hT ((h.run ρ S A (argsA ++ List.replicate (c.ntmps - argsA.length) undef) hr ⟨by simp [ha.length], fun p hp => ?_⟩).mono fun o f A' => ?_)
    · have := finit_get ha (i := 0) (pre := []) (suf := List.replicate (c.ntmps - argsA.length) undef) rfl p hp
      simpa using this
    · rintro ⟨ρ', S', H', oP, F', s, h', ho, hf, q⟩
      have fin : (∃ v, fresults F' H' c.results = some v ∧ Gh [v] H' fun vs H'' => ∃ v', vs = [v'] ∧ R (.ok v') H'') → ∃ v, resultsA f A' c.results = some v ∧ Fin ρ S H A R (.ok v) A' := by
        rintro ⟨v, e1, q⟩
        obtain ⟨v', e2, hvv⟩ := fresults_ok h' hf e1
        obtain ⟨ρ2, S2, H2, vs', s2, h2, hv2, w, rfl, q2⟩ := q ρ' S' A' [v'] h' (.cons hvv .nil)
        cases hv2 with
        | cons hw _ => exact ⟨v', e2, ρ2, S2, H2, .ok w, s.trans s2, h2, .ok hw, q2⟩
      cases ho with
      | normal => exact fin q
      | ret => exact fin q
      | exit id => exact q.elim
      | panic hvv => exact ⟨ρ', S', H', _, s, h', .error hvv, q⟩⟩

end
end Go.Proofs.Pm

/- What is reckoned by itself. -/
namespace Go.Proofs.Pm
open Go Go.Proofs.Am

theorem wrap64 {n : Int} (h : -9223372036854775808 ≤ n ∧ n < 9223372036854775808) : IntKind.wrap .i64 n = n := by
  simp only [IntKind.wrap, IntKind.bits, IntKind.signed, Bool.true_and]
  split
  · rename_i h1; simp at h1; omega
  · rename_i h1; simp at h1; omega

theorem wrapu64 {n : Int} (h : 0 ≤ n ∧ n < 18446744073709551616) : IntKind.wrap .u64 n = n := by
  simp only [IntKind.wrap, IntKind.bits, IntKind.signed, Bool.false_and]
  simp; omega

theorem wrapu8 {n : Int} (h : 0 ≤ n ∧ n < 256) : IntKind.wrap .u8 n = n := by
  simp only [IntKind.wrap, IntKind.bits, IntKind.signed, Bool.false_and]
  simp; omega

theorem map_some' {α β : Type} (f : α → β) (a : α) : (some a).map f = some (f a) := rfl
theorem bind_some' {α β : Type} (f : α → Option β) (a : α) : (some a).bind f = f a := rfl
theorem beq_bool (b : Bool) : (b == true) = b := by cases b <;> rfl
theorem beq_bool' (b : Bool) : (b == false) = !b := by cases b <;> rfl

theorem bs_list (l : List Nat) : (bs l).data.toList = l.map UInt8.ofNat := rfl
theorem dT {p : Prop} [Decidable p] (h : p) : decide p = true := by simp [h]
theorem dF {p : Prop} [Decidable p] (h : ¬ p) : decide p = false := by simp [h]

attribute [go_sem] fpick.eq_1 fpick.eq_2 fvals.eq_1 fvals.eq_2 orun.eq_1 orun.eq_2 orun.eq_3 pop.eq_1 pop.eq_2 pop.eq_3 pop.eq_4 pop.eq_5 pop.eq_6 pop.eq_7 pop.eq_8 pop.eq_9 pop.eq_10 pop.eq_11 pop.eq_12 pop.eq_13 pop.eq_14 pop.eq_15 pop.eq_16 pop.eq_17 pop.eq_18 pop.eq_19 pop.eq_20 pop.eq_21 pop.eq_22 pop.eq_23 pop.eq_24 pop.eq_25 pop.eq_26 pop.eq_27 pop.eq_28 pop.eq_29 pop.eq_30 pop.eq_31 pop.eq_32 pop.eq_33 pop.eq_34 pop.eq_35 pop.eq_36 pop.eq_37 pop.eq_38 pop.eq_39 pop.eq_40 pop.eq_41 pop.eq_42 pop.eq_43 pop.eq_44 pop.eq_45 fget.eq_1 fget.eq_2 fput.eq_1 fput.eq_2 fdel.eq_1 fdel.eq_2 fmem.eq_1 fmem.eq_2 fkeep.eq_1 fkeep.eq_2 pfind.eq_1 pfind.eq_2 pfill.eq_1 pfill.eq_2 pwr.eq_1 pwr.eq_2 finit.eq_1 finit.eq_2 fmapM.eq_1 fmapM.eq_2
  fzip fev dOk cval cval1 obr_true obr_false RReg_done RReg_call RReg_panic RO_nil RO_seq RO_seq_exit RO_seq_ret RO_seq_panic RO_block_exit RO_block RO_block_ret RO_block_panic RO_keep RO_keep_panic RCond_true RCond_false pbin abin ecs pcells pone pnil peqPrim peqCells peqKey pun aun pbnd pbndO psl ppart slot slotN pload pstore psc plen pappend byteOf fres fresults map_some' bind_some'
  if_pos if_neg wrap64 cond_true cond_false wrapu64 wrapu8
  List.length_cons List.length_nil List.length_map List.getElem?_cons_zero List.getElem?_cons_succ List.drop_zero List.drop_succ_cons List.take_zero List.take_succ_cons List.set_cons_zero List.set_cons_succ List.getElem?_map
  List.map_cons List.map_nil List.append_nil List.nil_append List.cons_append List.all_cons List.all_nil Bool.and_true Bool.true_and Bool.and_false Bool.false_and beq_bool beq_bool' Bool.not_true Bool.not_false
  bs_list Am.UC
  decide_true decide_false eq_self and_true true_and and_self Int.toNat_natCast Int.toNat_zero Int.natCast_nonneg
attribute [go_sem high] if_true if_false
attribute [congr] obr_congr
end Go.Proofs.Pm

/- Memory of which the beginning is known; results that say less; maps of numbers. -/
namespace Go.Proofs.Pm
open Go Go.Proofs.Am

theorem slot_app (h L : PH) (k g : Nat) : slot (h ++ L) (h.length + k) g = slot L k g := by
  unfold slot; rw [List.getElem?_append_right (by omega), Nat.add_sub_cancel_left]
theorem slot_app0 (h L : PH) (g : Nat) : slot (h ++ L) h.length g = slot L 0 g := slot_app h L 0 g
theorem slot_lo (h L : PH) (i g : Nat) (hi : i < h.length) : slot (h ++ L) i g = slot h i g := by
  unfold slot; rw [List.getElem?_append_left hi]
theorem slotN_app (h L : PH) (k g n : Nat) : slotN (h ++ L) (h.length + k) g n = slotN L k g n := by
  unfold slotN; rw [List.getElem?_append_right (by omega), Nat.add_sub_cancel_left]
theorem slotN_app0 (h L : PH) (g n : Nat) : slotN (h ++ L) h.length g n = slotN L 0 g n := slotN_app h L 0 g n
theorem slotN_lo (h L : PH) (i g n : Nat) (hi : i < h.length) : slotN (h ++ L) i g n = slotN h i g n := by
  unfold slotN; rw [List.getElem?_append_left hi]
theorem get_app (h L : PH) (k : Nat) : (h ++ L)[h.length + k]? = L[k]? := by
  rw [List.getElem?_append_right (by omega), Nat.add_sub_cancel_left]
theorem get_app0 (h L : PH) : (h ++ L)[h.length]? = L[0]? := get_app h L 0
theorem get_lo (h L : PH) (i : Nat) (hi : i < h.length) : (h ++ L)[i]? = h[i]? := List.getElem?_append_left hi
theorem set_app (h L : PH) (k : Nat) (b : PBlk) : (h ++ L).set (h.length + k) b = h ++ L.set k b := by
  rw [List.set_append_right _ _ (by omega), Nat.add_sub_cancel_left]
theorem set_app0 (h L : PH) (b : PBlk) : (h ++ L).set h.length b = h ++ L.set 0 b := set_app h L 0 b
theorem set_lo (h L : PH) (i : Nat) (b : PBlk) (hi : i < h.length) : (h ++ L).set i b = h.set i b ++ L := List.set_append_left _ _ hi
section
variable {T : Tbl} {rd : Bool} {N : Nat} {Q : PQ} {ks : List K} {F : Fr} {H : PH}

theorem FnQ.retLe {rs : List ARes} {R : Except PV PV → PH → Prop} {v w : PV} (h : fresults F H rs = some v) (hl : Le v w) (k : R (.ok w) H) : FnQ rs R .ret F H :=
  ⟨v, h, Gh.weak (LeL.cons hl LeL.nil) ⟨w, rfl, k⟩⟩
end

attribute [go_sem] slot_app slot_app0 slot_lo slotN_app slotN_app0 slotN_lo get_app get_app0 get_lo set_app set_app0 set_lo List.length_append List.append_assoc List.length_set

/-- A map of numbers. -/
abbrev MapD := List (Int × Int)
def mpv (m : MapD) : List (PV × PV) := m.map fun p => (.int .i64 p.1, .int .i64 p.2)
def mfind : MapD → Int → Nat → Option (Nat × Int)
  | [], _, _ => none
  | p :: m, k, i => if k = p.1 then some (i, p.2) else mfind m k (i + 1)
def mget (m : MapD) (k : Int) : Int := match mfind m k 0 with
  | some (_, v) => v
  | none => 0

theorem mfind_ok (k : Int) : ∀ (m : MapD) (i : Nat), pfind (.sc .int) (.int .i64 k) (mpv m) i = some ((mfind m k i).map fun p => (p.1, .int .i64 p.2))
  | [], i => rfl
  | p :: m, i => by
    have ih := mfind_ok k m (i + 1)
    simp only [mpv, List.map_cons, pfind, peqKey, peqPrim, if_true, mfind] at ih ⊢
    by_cases h : k = p.1
    · simp [h]
    · have : (k == p.1) = false := by simpa using h
      rw [this, if_neg h]; exact ih

theorem mfind_set (k v k' : Int) : ∀ (m : MapD) (i j : Nat) (w : Int), mfind m k i = some (j, w) → i ≤ j ∧ mfind (m.set (j - i) (k, v)) k' i = if k' = k then some (j, v) else mfind m k' i
  | [], i, j, w, h => by simp [mfind] at h
  | p :: m, i, j, w, h => by
    simp only [mfind] at h
    split at h
    · rename_i e; cases h; subst e
      refine ⟨Nat.le_refl _, ?_⟩
      simp only [Nat.sub_self, List.set_cons_zero, mfind]
      split <;> simp_all
    · rename_i e
      obtain ⟨h1, h2⟩ := mfind_set k v k' m (i + 1) j w h
      refine ⟨by omega, ?_⟩
      rw [show j - i = (j - (i + 1)) + 1 by omega, List.set_cons_succ]
      simp only [mfind, h2]
      by_cases e2 : k' = p.1
      · rw [if_pos e2, if_neg (by rintro rfl; exact e e2), if_pos e2]
      · rw [if_neg e2, if_neg e2]

theorem mfind_app (k v k' : Int) : ∀ (m : MapD) (i : Nat), mfind m k i = none → mfind (m ++ [(k, v)]) k' i = if k' = k then some (i + m.length, v) else mfind m k' i
  | [], i, _ => by simp [mfind]
  | p :: m, i, h => by
    simp only [mfind] at h
    split at h
    · cases h
    · rename_i e
      simp only [List.cons_append, mfind, mfind_app k v k' m (i + 1) h, List.length_cons]
      by_cases e2 : k' = p.1
      · rw [if_pos e2, if_neg (by rintro rfl; exact e e2), if_pos e2]
      · rw [if_neg e2, if_neg e2]; simp [Nat.add_comm, Nat.add_left_comm]

/-- A map's entry, laid anew. -/
def mput (m : MapD) (k v : Int) : MapD := match mfind m k 0 with
  | some (j, _) => m.set j (k, v)
  | none => m ++ [(k, v)]

theorem mget_put (m : MapD) (k v k' : Int) : mget (mput m k v) k' = if k' = k then v else mget m k' := by
  unfold mput
  split
  · rename_i j w h
    have := (mfind_set k v k' m 0 j w h).2
    rw [Nat.sub_zero] at this
    unfold mget; rw [this]
    by_cases e : k' = k
    · rw [if_pos e, if_pos e]
    · rw [if_neg e, if_neg e]
  · rename_i h
    unfold mget; rw [mfind_app k v k' m 0 h]
    by_cases e : k' = k
    · rw [if_pos e, if_pos e]
    · rw [if_neg e, if_neg e]

theorem mput_pv (m : MapD) (k v : Int) : mpv (mput m k v) = match mfind m k 0 with
    | some (j, _) => (mpv m).set j (.int .i64 k, .int .i64 v)
    | none => mpv m ++ [(.int .i64 k, .int .i64 v)] := by
  unfold mput
  split <;> rename_i h <;> simp [mpv, List.map_set]

end Go.Proofs.Pm

/- A function that is run once for all; regions that draw their order, and look at what may have turned. -/
namespace Go.Proofs.Pm
open Go Go.Proofs.Am

theorem closed_pur {T : Tbl} {f : FuncId} {b : Bool} (h : T f = some (.prim (closed (.bool b)))) : Pur T f [] (.bool b) := fun H => ⟨fun ρ S A gA argsA hr hg ha => by
  cases gA with
  | yield l => exact hg.elim
  | fn f' =>
    obtain rfl : f = f' := hg
    cases ha
    exact Ev.prim (v := .bool b) (H' := A) h (by simp [closed]) ⟨ρ, S, H, .ok (.bool b), .refl .., hr, .ok (.bool b), rfl, rfl⟩⟩

theorem PEv.le {T : Tbl} {g : PTgt} {args args' : List PV} {H : PH} {R} (hl : LeL args args') (h : PEv T g args' H R) : PEv T g args H R :=
  ⟨fun ρ S A gA argsA hr hg ha => h.run ρ S A gA argsA hr hg (hl _ _ _ _ ha)⟩

theorem RCall.pureLe {T : Tbl} {rd : Bool} {N : Nat} {Q : PQ} {ks : List K} {F : Fr} {H : PH} {all : List AOper} {f : FuncId} {args args' : List PV} {v : PV} {d : Option Nat} {rest : List AOper} (hl : LeL args args') (h : Pur T f args' v) (k : RReg T rd N Q all ks (orun N all rest (fput F d v) H)) : RCall T rd N Q all ks (.fn f) args H d rest F :=
  ⟨((h H).le hl).mono fun r H' => by rintro ⟨rfl, rfl⟩; exact fun _ => RReg.ok k⟩

theorem PEv.gh {T : Tbl} {g : PTgt} {args : List PV} {H : PH} {R} (h : Gh args H fun args' H' => PEv T g args' H' R) : PEv T g args H R :=
  ⟨fun ρ S A gA argsA hr hg ha => by
    obtain ⟨ρ', S', H', vs', s, h', hv', q⟩ := h ρ S A argsA hr ha
    have hg' : TgR ρ' g gA := by
      cases g with
      | fn f => cases gA <;> exact hg
      | yield i => cases gA with
        | fn f => exact hg
        | yield b => exact RefR.mono s.le hg
    exact (q.run ρ' S' A gA argsA h' hg' hv').mono fun _ _ => Fin.pre s⟩

inductive FzL (i g : Nat) (cs : List PV) : List PV → List PV → Prop
  | nil : FzL i g cs [] []
  | cons {v w : PV} {vs ws : List PV} (h : Fz i g cs v w) (t : FzL i g cs vs ws) : FzL i g cs (v :: vs) (w :: ws)

theorem FzL.tup {i g : Nat} {cs vs ws : List PV} (h : FzL i g cs vs ws) : Fz i g cs (.tup vs) (.tup ws) := by
  have hl : vs.length = ws.length := by induction h <;> simp_all
  refine .tup hl fun j v w e1 e2 => ?_
  clear hl
  induction h generalizing j with
  | nil => simp at e1
  | cons h t ih => cases j with
    | zero => simp at e1 e2; subst e1; subst e2; exact h
    | succ j => exact ih j (by simpa using e1) (by simpa using e2)

theorem FzL.refl {i g : Nat} {cs : List PV} : ∀ vs : List PV, FzL i g cs vs vs
  | [] => .nil
  | v :: vs => .cons (.same v) (FzL.refl vs)

theorem Gh.frz {H : PH} {vs ws : List PV} {K : List PV → PH → Prop} (i g : Nat) {cs : List PV} (hs : slot H i g = some cs) (hw : FzL i g cs vs ws) (k : K ws (H.set i .gone)) : Gh vs H K := Gh.freeze i g hs hw.tup k

/-- What is there is left alone. -/
def Quiet (A A' : Mem) : Prop := A.length ≤ A'.length ∧ ∀ b, b < A.length → A'[b]? = A[b]?

theorem Quiet.refl (A : Mem) : Quiet A A := ⟨Nat.le_refl _, fun _ _ => rfl⟩
theorem Quiet.trans {A B C : Mem} (h : Quiet A B) (k : Quiet B C) : Quiet A C :=
  ⟨Nat.le_trans h.1 k.1, fun b hb => (k.2 b (Nat.lt_of_lt_of_le hb h.1)).trans (h.2 b hb)⟩

/-- Operations that are carried out, one by one, and leave what is there alone. -/
inductive Tr (inv : Inv) (all : List AOper) : List AOper → List Value → Mem → List (List Value × Mem) → List Value → Mem → Prop
  | nil (fr : List Value) (A : Mem) : Tr inv all [] fr A [] fr A
  | val {o : AOper} {ops : List AOper} {fr : List Value} {A : Mem} {v : Value} {A1 : Mem} {st fr' A'} (hw : wantedA all fr o = some true) (hs : step1 inv o.op (ev fr) A = some (.ok v, A1)) (hq : Quiet A A1) (t : Tr inv all ops (put fr o.dst v) A1 st fr' A') : Tr inv all (o :: ops) fr A ((fr, A) :: st) fr' A'
  | skip {o : AOper} {ops : List AOper} {fr : List Value} {A : Mem} {st fr' A'} (hw : wantedA all fr o = some false) (t : Tr inv all ops (put fr o.dst undef) A st fr' A') : Tr inv all (o :: ops) fr A ((fr, A) :: st) fr' A'

section
variable {i i' : Inv} {all : List AOper}

theorem Tr.mono (h : Am.Le i i') {ops fr A st fr' A'} (t : Tr i all ops fr A st fr' A') : Tr i' all ops fr A st fr' A' := by
  induction t with
  | nil fr A => exact .nil fr A
  | val hw hs hq _ ih => exact .val hw (step1_mono h hs) hq ih
  | skip hw _ ih => exact .skip hw ih

theorem Tr.ex {ops fr A st fr' A'} (t : Tr i all ops fr A st fr' A') : ∀ rest tr, exOps i all (ops ++ rest) fr A tr = exOps i all rest fr' A' (st.reverse ++ tr) := by
  induction t with
  | nil fr A => intro rest tr; rfl
  | val hw hs hq _ ih =>
    intro rest tr
    simp only [List.cons_append, exOps, hw, hs]
    rw [ih rest]; simp
  | skip hw _ ih =>
    intro rest tr
    simp only [List.cons_append, exOps, hw]
    rw [ih rest]; simp

theorem Tr.len {ops fr A st fr' A'} (t : Tr i all ops fr A st fr' A') : st.length = ops.length := by
  induction t with
  | nil => rfl
  | val _ _ _ _ ih => simp [ih]
  | skip _ _ ih => simp [ih]

theorem Tr.quiet {ops fr A st fr' A'} (t : Tr i all ops fr A st fr' A') : Quiet A A' := by
  induction t with
  | nil => exact .refl _
  | val _ _ hq _ ih => exact hq.trans ih
  | skip _ _ ih => exact ih

/-- What stood at a place is quiet from the beginning, and up to the end. -/
theorem Tr.at {ops fr A st fr' A'} (t : Tr i all ops fr A st fr' A') : ∀ (k : Nat) (f : List Value) (m : Mem), (st ++ [(fr', A')])[k]? = some (f, m) → Quiet A m ∧ ∀ (j : Nat) (g : List Value) (n : Mem), (st ++ [(fr', A')])[j]? = some (g, n) → k ≤ j → Quiet m n := by
  induction t with
  | nil fr A =>
    intro k f m e
    cases k with
    | zero =>
      simp at e; obtain ⟨rfl, rfl⟩ := e
      refine ⟨.refl _, fun j g n e2 _ => ?_⟩
      cases j with
      | zero => simp at e2; obtain ⟨rfl, rfl⟩ := e2; exact .refl _
      | succ j => simp at e2
    | succ k => simp at e
  | @val o ops fr A v A1 st fr' A' hw hs hq t ih =>
    intro k f m e
    cases k with
    | zero =>
      simp at e; obtain ⟨rfl, rfl⟩ := e
      refine ⟨.refl _, fun j g n e2 _ => ?_⟩
      cases j with
      | zero => simp at e2; obtain ⟨rfl, rfl⟩ := e2; exact .refl _
      | succ j => exact hq.trans (ih j g n (by simpa using e2)).1
    | succ k =>
      obtain ⟨h1, h2⟩ := ih k f m (by simpa using e)
      refine ⟨hq.trans h1, fun j g n e2 hk => ?_⟩
      cases j with
      | zero => omega
      | succ j => exact h2 j g n (by simpa using e2) (by omega)
  | @skip o ops fr A st fr' A' hw t ih =>
    intro k f m e
    cases k with
    | zero =>
      simp at e; obtain ⟨rfl, rfl⟩ := e
      refine ⟨.refl _, fun j g n e2 _ => ?_⟩
      cases j with
      | zero => simp at e2; obtain ⟨rfl, rfl⟩ := e2; exact .refl _
      | succ j => exact (ih j g n (by simpa using e2)).1
    | succ k =>
      obtain ⟨h1, h2⟩ := ih k f m (by simpa using e)
      refine ⟨h1, fun j g n e2 hk => ?_⟩
      cases j with
      | zero => omega
      | succ j => exact h2 j g n (by simpa using e2) (by omega)

/-- What an operation came to, and that its place bears it to the end. -/
theorem Tr.res {ops fr A st fr' A'} (t : Tr i all ops fr A st fr' A') : ∀ (k : Nat) (o : AOper) (f : List Value) (m : Mem), ops[k]? = some o → st[k]? = some (f, m) → wantedA all f o = some true →
    ∃ v m', step1 i o.op (ev f) m = some (.ok v, m') ∧ (∀ d, o.dst = some d → (ops.drop (k + 1)).all (fun o' => decide (o'.dst ≠ some d)) = true → d < f.length → fr'.getD d undef = v ∧ fr'.length = f.length) := by
  have keep : ∀ {ops fr A st fr' A'}, Tr i all ops fr A st fr' A' → ∀ d, ops.all (fun o' => decide (o'.dst ≠ some d)) = true → fr'.getD d undef = fr.getD d undef := by
    intro ops fr A st fr' A' t
    have one : ∀ (fr : List Value) (o : AOper) (v : Value) (d : Nat), o.dst ≠ some d → (put fr o.dst v).getD d undef = fr.getD d undef := by
      intro fr o v d h
      cases e : o.dst with
      | none => rfl
      | some d' =>
        have : d' ≠ d := fun e2 => h (by rw [e, e2])
        simp only [put]
        rw [List.getD_eq_getElem?_getD, List.getElem?_set_ne this, ← List.getD_eq_getElem?_getD]
    induction t with
    | nil => intros; rfl
    | val hw hs hq t ih =>
      intro d h
      simp only [List.all_cons, Bool.and_eq_true, decide_eq_true_eq] at h
      rw [ih d h.2, one _ _ _ d h.1]
    | skip hw t ih =>
      intro d h
      simp only [List.all_cons, Bool.and_eq_true, decide_eq_true_eq] at h
      rw [ih d h.2, one _ _ _ d h.1]
  have plen : ∀ (fr : List Value) (d : Option Nat) (v : Value), (put fr d v).length = fr.length := by
    intro fr d v; cases d <;> simp [put]
  have len : ∀ {ops fr A st fr' A'}, Tr i all ops fr A st fr' A' → fr'.length = fr.length := by
    intro ops fr A st fr' A' t
    induction t with
    | nil => rfl
    | val hw hs hq t ih => rw [ih, plen]
    | skip hw t ih => rw [ih, plen]
  induction t with
  | nil => intro k o f m e; simp at e
  | @val o ops fr A v A1 st fr' A' hw hs hq t ih =>
    intro k o2 f m e e2 hw2
    cases k with
    | zero =>
      simp at e e2; subst e; obtain ⟨rfl, rfl⟩ := e2
      refine ⟨v, A1, hs, fun d hd ha hl => ⟨?_, by rw [len t, plen]⟩⟩
      rw [keep t d (by simpa using ha), hd]
      simp only [put]
      rw [List.getD_eq_getElem?_getD, List.getElem?_set_self hl]; rfl
    | succ k => exact ih k o2 f m (by simpa using e) (by simpa using e2) hw2
  | @skip o ops fr A st fr' A' hw t ih =>
    intro k o2 f m e e2 hw2
    cases k with
    | zero =>
      simp at e e2; subst e; obtain ⟨rfl, rfl⟩ := e2
      rw [hw] at hw2; cases hw2
    | succ k => exact ih k o2 f m (by simpa using e) (by simpa using e2) hw2

end

/-- The block that a value leads to. -/
def blkOf : Value → Option Nat
  | .pointer (some a) => some a.block
  | .slice (some a) _ _ => some a.block
  | _ => none

/-- The place that stood at first where an address comes from. -/
def prov (ops : List AOper) : Nat → Nat → Option Nat
  | 0, x => some x
  | k + 1, x => match ops[k]? with
    | some ⟨dst, op, guard⟩ =>
      if dst = some x then
        match guard, op with
        | none, .move (.t y) | none, .nilCheck (.t y) | none, .fieldAddr _ (.t y) | none, .indexAddr _ (.t y) _ | none, .indexArr _ _ (.t y) _ => prov ops k y
        | _, _ => none
      else prov ops k x
    | none => none

end Go.Proofs.Pm

/- From what a law's arguments were read as to pure values. -/
namespace Go.Proofs.Pm
open Go Go.Proofs.Am Go.RowKit

theorem args_ok {H : Type} {enc : TypeId × Value → H} {P : Program} {W : World} {base m : Nat} {held : Bool} : ∀ (ts : List TypeId) (vs : List Value) (ds : List (DataW H)) (ps : List MemPlace) (tl : List TD),
    DataW.TrodAll enc P W base (fun _ => true) held ts vs ds ps → ts.length = tl.length → (∀ (j : Nat) (t : TypeId) (td : TD), ts[j]? = some t → tl[j]? = some td → isAggT P t = false ∧ tds P m t = some [td]) →
    (∀ (j : Nat) (t : TypeId) (d : DataW H), ts[j]? = some t → ds[j]? = some d → (d.weights P t).all (fun x => decide (x ≤ reachBytes)) = true) → ∀ M : Mem,
    M.length ≤ (mkArgs P ts ds M).2.length ∧ (∀ b, b < M.length → (mkArgs P ts ds M).2[b]? = M[b]?) ∧ ∃ pargs : List PV, pargs.length = tl.length ∧ (∀ (j : Nat) (td : TD) (p : PV), tl[j]? = some td → pargs[j]? = some p → Ty td p) ∧ VRL [] (fun b => b < (mkArgs P ts ds M).2.length) (mkArgs P ts ds M).2 pargs (mkArgs P ts ds M).1
  | [], vs, ds, ps, tl, h, hl, _, _, M => by
    obtain ⟨rfl, rfl, rfl⟩ := ChangeShapes.trodAll_nil h
    obtain rfl : tl = [] := List.eq_nil_of_length_eq_zero (by simpa using hl.symm)
    exact ⟨by simp [mkArgs], fun b _ => by simp [mkArgs], [], rfl, fun j td p e => by simp at e, by simp only [mkArgs]; exact .nil⟩
  | t :: ts, vs, ds, ps, [], h, hl, _, _, M => by simp at hl
  | t :: ts, vs, ds, ps, td :: tl, h, hl, ht, hw, M => by
    obtain ⟨v, vs', d, ds', p, q, rfl, rfl, rfl, h1, h2⟩ := ChangeShapes.trodAll_cons h
    obtain ⟨k, hk⟩ := h1
    obtain ⟨ha, htd⟩ := ht 0 t td rfl rfl
    obtain ⟨f1, f2, f3⟩ := trod_fits k m t _ d p [td] hk htd (hw 0 t d rfl rfl) M
    obtain ⟨g1, g2, pargs, g3, g4, g5⟩ := args_ok ts vs' ds' q tl h2 (by simpa using hl) (fun j t' td' e1 e2 => ht (j + 1) t' td' (by simpa using e1) (by simpa using e2)) (fun j t' d' e1 e2 => hw (j + 1) t' d' (by simpa using e1) (by simpa using e2)) (mk d M).2
    have e : mkArgs P (t :: ts) (d :: ds') M = ((mk d M).1.getD 0 undef :: (mkArgs P ts ds' (mk d M).2).1, (mkArgs P ts ds' (mk d M).2).2) := by simp [mkArgs, ha]
    rw [e]
    refine ⟨Nat.le_trans f1 g1, fun b hb => by rw [g2 b (by omega), f2 b hb], ?_⟩
    have keeps : Keeps (mk d M).2 (mkArgs P ts ds' (mk d M).2).2 := fun b CS e1 => by rw [g2 b (List.getElem?_eq_some_iff.1 e1).1]; exact e1
    obtain ⟨c1, c2⟩ := f3 _ keeps
    have hl1 : (mk d M).1.length = 1 := by simpa using c1
    have e0 : (mk d M).1[0]? = some ((mk d M).1.getD 0 undef) := by
      rw [List.getD_eq_getElem?_getD, List.getElem?_eq_getElem (by omega)]; rfl
    obtain ⟨p0, hp1, hp2⟩ := cell_ty (c2 0 td _ rfl e0)
    refine ⟨p0 :: pargs, by simp [g3], fun j td' p' e1 e2 => ?_, .cons hp2 g5⟩
    cases j with
    | zero => simp at e1 e2; subst e1; subst e2; exact hp1
    | succ j => exact g4 j td' p' (by simpa using e1) (by simpa using e2)

/-- Cells, by their types. -/
def TyL (e : List TD) (x : List PV) : Prop := x.length = e.length ∧ ∀ (j : Nat) (td : TD) (v : PV), e[j]? = some td → x[j]? = some v → Ty td v

theorem TyL.cons {td : TD} {e : List TD} {x : List PV} (h : TyL (td :: e) x) : ∃ v x', x = v :: x' ∧ Ty td v ∧ TyL e x' := by
  obtain ⟨h1, h2⟩ := h
  cases x with
  | nil => simp at h1
  | cons v x' => exact ⟨v, x', rfl, h2 0 td v rfl rfl, by simpa using h1, fun j td' v' e1 e2 => h2 (j + 1) td' v' (by simpa using e1) (by simpa using e2)⟩

theorem TyL.nil {x : List PV} (h : TyL [] x) : x = [] := List.eq_nil_of_length_eq_zero (by simpa using h.1)

theorem all_choose {α β : Type} {f : β → α} {P : β → Prop} : ∀ {cs : List α}, (∀ x, x ∈ cs → ∃ b, x = f b ∧ P b) → ∃ l : List β, cs = l.map f ∧ ∀ b, b ∈ l → P b
  | [], _ => ⟨[], rfl, fun b hb => by simp at hb⟩
  | x :: cs, h => by
    obtain ⟨b, rfl, hb⟩ := h x (by simp)
    obtain ⟨l, rfl, hl⟩ := all_choose (cs := cs) fun y hy => h y (by simp [hy])
    exact ⟨b :: l, rfl, fun c hc => by rcases List.mem_cons.1 hc with rfl | hc; exact hb; exact hl c hc⟩

/-- A slice of structs. -/
theorem Ty.structs {β : Type} {e : List TD} {f : β → PV} {P : β → Prop} (he : e.length ≠ 1) (h : ∀ x, TyL e x → ∃ b, PV.agg x = f b ∧ P b) {p : PV} (hp : Ty (.slice e) p) : ∃ l : List β, p = .lst e.length false (l.map f) ∧ l.length ≤ reachBytes ∧ ∀ b, b ∈ l → P b := by
  cases hp with
  | nil => exact ⟨[], rfl, Nat.zero_le _, fun b hb => by simp at hb⟩
  | one hn h0 h1 => simp at he
  | agg hn hl h0 h1 =>
    rename_i cs
    obtain ⟨l, e1, hl2⟩ := all_choose (cs := cs.map PV.agg) (f := f) (P := P) fun x hx => by
      obtain ⟨y, hy, rfl⟩ := List.mem_map.1 hx
      exact h y ⟨hl y hy, h0 y hy⟩
    refine ⟨l, by rw [e1], ?_, hl2⟩
    have := congrArg List.length e1
    simp at this; omega

/-- A slice of single cells. -/
theorem Ty.singles {β : Type} {td : TD} {f : β → PV} {P : β → Prop} (h : ∀ x, Ty td x → ∃ b, x = f b ∧ P b) {p : PV} (hp : Ty (.slice [td]) p) : ∃ l : List β, p = .lst 1 false (l.map f) ∧ l.length ≤ reachBytes ∧ ∀ b, b ∈ l → P b := by
  cases hp with
  | nil => exact ⟨[], rfl, Nat.zero_le _, fun b hb => by simp at hb⟩
  | one hn h0 h1 =>
    rename_i xs
    obtain ⟨l, e1, hl2⟩ := all_choose (cs := xs) (f := f) (P := P) fun x hx => h x (h0 x hx)
    subst e1
    exact ⟨l, rfl, by simpa using hn, hl2⟩
  | agg hn hl h0 h1 => simp at h1

theorem Ty.int_inv {k : IntKind} {p : PV} (h : Ty (.int k) p) : ∃ n, p = .int k n ∧ k.min ≤ n ∧ n ≤ k.max := by cases h with | int k n h => exact ⟨n, rfl, h.1, h.2⟩
theorem Ty.str_inv {p : PV} (h : Ty .str p) : ∃ s, p = .str s ∧ s.length ≤ reachBytes := by cases h with | str s h => exact ⟨s, rfl, h⟩

end Go.Proofs.Pm

/- Regions that draw their order, and look at what may have turned: looks and acts that do not meet. -/
namespace Go.Proofs.Pm
open Go Go.Proofs.Am

theorem add_block (a : Addr) (k : Nat) : (a.add k).block = a.block := by unfold Addr.add; split <;> rfl
theorem blk_nilCheck {i : Inv} {x : AX} {e : AX → Value} {m n : Mem} {v : Value} (hs : step1 i (.nilCheck x) e m = some (.ok v, n)) : blkOf v = blkOf (e x) := by
  unfold step1 aop at hs
  cases hx : e x with
  | pointer a => cases a <;> simp [hx] at hs <;> (try (obtain ⟨rfl, _⟩ := hs)) <;> rfl
  | func f a b => cases f <;> simp [hx] at hs <;> (try (obtain ⟨rfl, _⟩ := hs)) <;> rfl
  | _ => simp [hx] at hs
theorem blk_fieldAddr {i : Inv} {o : Nat} {x : AX} {e : AX → Value} {m n : Mem} {v : Value} (hs : step1 i (.fieldAddr o x) e m = some (.ok v, n)) : blkOf v = blkOf (e x) := by
  unfold step1 aop at hs
  cases hx : e x with
  | pointer a => cases a <;> simp [hx] at hs <;> (try (obtain ⟨rfl, _⟩ := hs)) <;> simp [blkOf, add_block]
  | _ => simp [hx] at hs
theorem blk_indexAddr {i : Inv} {s : Nat} {x y : AX} {e : AX → Value} {m n : Mem} {v : Value} (hs : step1 i (.indexAddr s x y) e m = some (.ok v, n)) : blkOf v = blkOf (e x) := by
  unfold step1 aop at hs
  cases hx : e x with
  | slice a l c =>
    cases a with
    | none => simp [hx] at hs
    | some a =>
      cases hy : e y with
      | int k j =>
        simp only [hx, hy] at hs
        by_cases hc : 0 ≤ j ∧ j < l
        · rw [if_pos hc] at hs; simp at hs; obtain ⟨rfl, _⟩ := hs; simp [blkOf, add_block]
        · rw [if_neg hc] at hs; simp at hs
      | _ => simp [hx, hy] at hs
  | _ => simp [hx] at hs
theorem blk_indexArr {i : Inv} {l s : Nat} {x y : AX} {e : AX → Value} {m n : Mem} {v : Value} (hs : step1 i (.indexArr l s x y) e m = some (.ok v, n)) : blkOf v = blkOf (e x) := by
  unfold step1 aop at hs
  cases hx : e x with
  | pointer a =>
    cases a with
    | none => simp [hx] at hs
    | some a =>
      cases hy : e y with
      | int k j =>
        simp only [hx, hy] at hs
        by_cases hc : 0 ≤ j ∧ j < l
        · rw [if_pos hc] at hs; simp at hs; obtain ⟨rfl, _⟩ := hs; simp [blkOf, add_block]
        · rw [if_neg hc] at hs; simp at hs
      | _ => simp [hx, hy] at hs
  | _ => simp [hx] at hs
section
variable {i : Inv} {all : List AOper}

theorem Tr.step {ops fr A st fr' A'} (t : Tr i all ops fr A st fr' A') : ∀ (k : Nat) (o : AOper) (f g : List Value) (m n : Mem), ops[k]? = some o → (st ++ [(fr', A')])[k]? = some (f, m) → (st ++ [(fr', A')])[k + 1]? = some (g, n) →
    (∃ v, wantedA all f o = some true ∧ step1 i o.op (ev f) m = some (.ok v, n) ∧ g = put f o.dst v) ∨ (wantedA all f o = some false ∧ g = put f o.dst undef) := by
  have first : ∀ {ops fr A st fr' A'}, Tr i all ops fr A st fr' A' → (st ++ [(fr', A')])[0]? = some (fr, A) := by
    intro ops fr A st fr' A' t
    cases t <;> rfl
  induction t with
  | nil => intro k o f g m n e; simp at e
  | @val o ops fr A v A1 st fr' A' hw hs hq t ih =>
    intro k o2 f g m n e e2 e3
    cases k with
    | zero =>
      simp at e; subst e
      simp at e2; obtain ⟨rfl, rfl⟩ := e2
      have := first t
      simp only [List.cons_append, List.getElem?_cons_succ] at e3
      rw [this] at e3
      simp at e3; obtain ⟨rfl, rfl⟩ := e3
      exact .inl ⟨v, hw, hs, rfl⟩
    | succ k => exact ih k o2 f g m n (by simpa using e) (by simpa using e2) (by simpa using e3)
  | @skip o ops fr A st fr' A' hw t ih =>
    intro k o2 f g m n e e2 e3
    cases k with
    | zero =>
      simp at e; subst e
      simp at e2; obtain ⟨rfl, rfl⟩ := e2
      have := first t
      simp only [List.cons_append, List.getElem?_cons_succ] at e3
      rw [this] at e3
      simp at e3; obtain ⟨rfl, rfl⟩ := e3
      exact .inr ⟨hw, rfl⟩
    | succ k => exact ih k o2 f g m n (by simpa using e) (by simpa using e2) (by simpa using e3)

theorem Tr.first {ops fr A st fr' A'} (t : Tr i all ops fr A st fr' A') : (st ++ [(fr', A')])[0]? = some (fr, A) := by
  cases t <;> rfl

theorem put_getD (f : List Value) (d x : Nat) (v : Value) (hx : d = x → x < f.length) : (put f (some d) v).getD x undef = if d = x then v else f.getD x undef := by
  simp only [put]
  split
  · rename_i h; subst h
    rw [List.getD_eq_getElem?_getD, List.getElem?_set_self (hx rfl)]; rfl
  · rename_i h
    rw [List.getD_eq_getElem?_getD, List.getElem?_set_ne h, ← List.getD_eq_getElem?_getD]

theorem put_len' (f : List Value) (d : Option Nat) (v : Value) : (put f d v).length = f.length := by cases d <;> simp [put]

theorem Tr.flen {ops fr A st fr' A'} (t : Tr i all ops fr A st fr' A') : ∀ (k : Nat) (f : List Value) (m : Mem), (st ++ [(fr', A')])[k]? = some (f, m) → f.length = fr.length := by
  induction t with
  | nil =>
    intro k f m e
    cases k with
    | zero => simp at e; rw [e.1]
    | succ k => simp at e
  | val hw hs hq t ih =>
    intro k f m e
    cases k with
    | zero => simp at e; rw [e.1]
    | succ k => rw [ih k f m (by simpa using e), put_len']
  | skip hw t ih =>
    intro k f m e
    cases k with
    | zero => simp at e; rw [e.1]
    | succ k => rw [ih k f m (by simpa using e), put_len']

/-- Where an address comes from: the same block. -/
theorem Tr.prov {ops fr A st fr' A'} (t : Tr i all ops fr A st fr' A') : ∀ (k : Nat) (f : List Value) (m : Mem), (st ++ [(fr', A')])[k]? = some (f, m) → ∀ x y, x < fr.length → Pm.prov ops k x = some y → (∃ b, blkOf (f.getD x undef) = some b) → blkOf (f.getD x undef) = blkOf (fr.getD y undef)
  | 0, f, m, e, x, y, hx, hp, _ => by
    rw [t.first] at e; simp at e; obtain ⟨rfl, rfl⟩ := e
    simp only [Pm.prov, Option.some.injEq] at hp; subst hp; rfl
  | k + 1, f, m, e, x, y, hx, hp, hb => by
    simp only [Pm.prov] at hp
    split at hp
    · rename_i dst op guard ho
      have hk : k < (st ++ [(fr', A')]).length := by have := (List.getElem?_eq_some_iff.1 e).1; omega
      obtain ⟨⟨f0, m0⟩, e0⟩ : ∃ p, (st ++ [(fr', A')])[k]? = some p := ⟨_, List.getElem?_eq_getElem hk⟩
      have hl0 := t.flen k f0 m0 e0
      rcases t.step k _ f0 f m0 m ho e0 e with ⟨v, hw, hs, rfl⟩ | ⟨hw, rfl⟩
      · split at hp
        · rename_i hd; subst hd
          simp only at hb ⊢
          rw [put_getD _ _ _ _ (fun _ => by omega), if_pos rfl] at hb ⊢
          have go : ∀ z, blkOf v = blkOf (f0.getD z undef) → Pm.prov ops k z = some y → z < fr.length → blkOf v = blkOf (fr.getD y undef) := by
            intro z h1 h2 h3
            rw [h1, t.prov k f0 m0 e0 z y h3 h2 (by rw [← h1]; exact hb)]
          have inlen : ∀ z, (∃ b, blkOf (f0.getD z undef) = some b) → z < fr.length := by
            rintro z ⟨b, h⟩
            rw [← hl0]
            by_cases hz : z < f0.length
            · exact hz
            · rw [List.getD_eq_getElem?_getD, List.getElem?_eq_none (by omega)] at h; simp [undef, blkOf] at h
          obtain ⟨b, hb⟩ := hb
          split at hp <;> first | (cases hp; done) | skip
          · rename_i z
            simp only [step1, aop, Option.some.injEq, Prod.mk.injEq, Except.ok.injEq, ev] at hs
            obtain ⟨rfl, _⟩ := hs
            exact go z rfl hp (inlen z ⟨b, hb⟩)
          · rename_i z; have h1 := blk_nilCheck hs; exact go z h1 hp (inlen z ⟨b, h1 ▸ hb⟩)
          · rename_i z; have h1 := blk_fieldAddr hs; exact go z h1 hp (inlen z ⟨b, h1 ▸ hb⟩)
          · rename_i z _; have h1 := blk_indexAddr hs; exact go z h1 hp (inlen z ⟨b, h1 ▸ hb⟩)
          · rename_i z _; have h1 := blk_indexArr hs; exact go z h1 hp (inlen z ⟨b, h1 ▸ hb⟩)
        · rename_i hd
          have hne : (put f0 dst v).getD x undef = f0.getD x undef := by
            cases dst with
            | none => rfl
            | some d => rw [put_getD _ _ _ _ (fun e => (hd (by rw [e])).elim), if_neg fun e => hd (by rw [e])]
          simp only at hb ⊢
          rw [hne] at hb ⊢
          exact t.prov k f0 m0 e0 x y hx hp hb
      · split at hp
        · rename_i hd; subst hd
          simp only at hb
          rw [put_getD _ _ _ _ (fun _ => by omega), if_pos rfl] at hb
          obtain ⟨b, hb⟩ := hb; simp [undef, blkOf] at hb
        · rename_i hd
          have hne : (put f0 dst undef).getD x undef = f0.getD x undef := by
            cases dst with
            | none => rfl
            | some d => rw [put_getD _ _ _ _ (fun e => (hd (by rw [e])).elim), if_neg fun e => hd (by rw [e])]
          simp only at hb ⊢
          rw [hne] at hb ⊢
          exact t.prov k f0 m0 e0 x y hx hp hb
    · cases hp

end
end Go.Proofs.Pm

/- Regions that draw their order: the rule. -/
namespace Go.Proofs.Pm
open Go Go.Proofs.Am

def loadOf : AOp → Option (Option Nat × Nat)
  | .load (.t x) => some (none, x)
  | .loadN n (.t x) => some (some n, x)
  | _ => none

theorem load_blk {H : Mem} {n : Option Nat} {p v : Value} (h : loadA H n p = some v) : ∃ b o, p = .pointer (some ⟨b, o, none⟩) ∧ b < H.length ∧ ∀ H' : Mem, H'[b]? = H[b]? → loadA H' n p = some v := by
  unfold loadA at h
  split at h
  · rename_i b o
    refine ⟨b, o, rfl, ?_, fun H' e => ?_⟩
    · by_cases hb : b < H.length
      · exact hb
      · exfalso
        cases n <;> simp [rd1, rdN, List.getElem?_eq_none (Nat.le_of_not_lt hb)] at h
    · rw [← h]; unfold loadA
      cases n <;> simp only [rd1, rdN, e]
  · cases h

theorem step_load {i : Inv} {op : AOp} {n : Option Nat} {x : Nat} {f : List Value} {m m' : Mem} {v : Value} (ho : loadOf op = some (n, x)) (hs : step1 i op (ev f) m = some (.ok v, m')) : loadA m n (f.getD x undef) = some v := by
  unfold loadOf at ho
  split at ho
  · cases ho
    simp only [step1, aop, ev] at hs
    cases h : loadA m none (f.getD x undef) with
    | none => rw [h] at hs; cases hs
    | some w => rw [h] at hs; cases hs; rfl
  · cases ho
    simp only [step1, aop, ev] at hs
    cases h : loadA m (some _) (f.getD x undef) with
    | none => rw [h] at hs; cases hs
    | some w => rw [h] at hs; cases hs; rfl
  · cases ho

theorem aop_load {op : AOp} {n : Option Nat} {x : Nat} {f : List Value} {m : Mem} {v : Value} (ho : loadOf op = some (n, x)) (h : loadA m n (f.getD x undef) = some v) : aop op (ev f) m = some (.val v, m) := by
  unfold loadOf at ho
  split at ho
  · cases ho; simp only [aop, ev, h, Option.map_some]
  · cases ho; simp only [aop, ev, h, Option.map_some]
  · cases ho

theorem chk_ok {i : Inv} {all ops rest : List AOper} {fr fr' : List Value} {A A' : Mem} {st TR : List (List Value × Mem)} (t : Tr i all ops fr A st fr' A') (hall : all = ops ++ rest)
    (hTR : ∀ k, k ≤ ops.length → TR[k]? = (st ++ [(fr', A')])[k]?) {a b d : Nat} {op : AOp} {g : Option (Nat × Bool)} {n : Option Nat} {x : Nat} (ho : ops[a]? = some ⟨some d, op, g⟩) (hop : loadOf op = some (n, x)) (hb : b < ops.length) (hd : d < fr.length)
    (hna : (ops.drop (a + 1)).all (fun o' => decide (o'.dst ≠ some d)) = true) (hv : veq (fr'.getD d undef) (fr'.getD d undef) = true)
    (hab : a < b ∨ (x < fr.length ∧ ∃ y, Pm.prov ops a x = some y ∧ ∀ blk, blkOf (fr.getD y undef) = some blk → blk < A.length)) : chkOk all TR (a, b) = true := by
  have hal := (List.getElem?_eq_some_iff.1 ho).1
  have hlen := t.len
  obtain ⟨oj, hoj⟩ : ∃ oj, ops[b]? = some oj := ⟨_, List.getElem?_eq_getElem hb⟩
  obtain ⟨⟨fi, Hi⟩, ei⟩ : ∃ p, (st ++ [(fr', A')])[a]? = some p := ⟨_, List.getElem?_eq_getElem (by simp; omega)⟩
  obtain ⟨⟨fj, Hj⟩, ej⟩ : ∃ p, (st ++ [(fr', A')])[b]? = some p := ⟨_, List.getElem?_eq_getElem (by simp; omega)⟩
  obtain ⟨⟨fj', Hj'⟩, ej'⟩ : ∃ p, (st ++ [(fr', A')])[b + 1]? = some p := ⟨_, List.getElem?_eq_getElem (by simp; omega)⟩
  have e1 : all[a]? = some ⟨some d, op, g⟩ := by rw [hall, List.getElem?_append_left hal]; exact ho
  have e2 : all[b]? = some oj := by rw [hall, List.getElem?_append_left hb]; exact hoj
  unfold chkOk
  simp only [e1, e2, hTR a (by omega), hTR b (by omega), hTR (b + 1) (by omega), ei, ej, ej']
  split
  · rename_i hw
    simp only [Bool.and_eq_true, beq_iff_eq] at hw
    have ei' : st[a]? = some (fi, Hi) := by rw [List.getElem?_append_left (by omega)] at ei; exact ei
    obtain ⟨v, m', hs, hres⟩ := t.res a _ fi Hi ho ei' hw.1
    obtain ⟨hv1, _⟩ := hres d rfl hna (by rw [t.flen a fi Hi ei]; exact hd)
    have hload := step_load hop hs
    obtain ⟨bk, o, hp, hbk, hsame⟩ := load_blk hload
    have both : ∀ base : Mem, bk < base.length → Quiet base Hi → Quiet base Hj → Quiet base Hj' → Hj[bk]? = Hi[bk]? ∧ Hj'[bk]? = Hi[bk]? := by
      intro base h0 h1 h2 h3
      rw [h1.2 bk h0, h2.2 bk h0, h3.2 bk h0]; exact ⟨rfl, rfl⟩
    obtain ⟨s1, s2⟩ : Hj[bk]? = Hi[bk]? ∧ Hj'[bk]? = Hi[bk]? := by
      rcases hab with hab | ⟨hx, y, hy, hblk⟩
      · have q := (t.at a fi Hi ei).2
        exact both Hi hbk (.refl _) (q b fj Hj ej (by omega)) (q (b + 1) fj' Hj' ej' (by omega))
      · have hpv := t.prov a fi Hi ei x y hx hy ⟨bk, by rw [hp]; rfl⟩
        have hb0 : bk < A.length := hblk bk (by rw [← hpv, hp]; rfl)
        exact both A hb0 (t.at a fi Hi ei).1 (t.at b fj Hj ej).1 (t.at (b + 1) fj' Hj' ej').1
    rw [aop_load hop (hsame Hj s1), aop_load hop (hsame Hj' s2)]
    simp only
    rw [← hv1]; exact hv
  · rfl

theorem ex_tr {i : Inv} {all : List AOper} : ∀ {ops : List AOper} {fr : List Value} {A : Mem} {tr : List (List Value × Mem)} {o fr2 A2 tr2}, exOps i all ops fr A tr = some (o, fr2, A2, tr2) → o = .normal → ∃ X, tr2 = X ++ tr ∧ (X.reverse ++ [(fr2, A2)])[0]? = some (fr, A)
  | [], fr, A, tr, o, fr2, A2, tr2, h, _ => by cases h; exact ⟨[], rfl, rfl⟩
  | op :: ops, fr, A, tr, o, fr2, A2, tr2, h, hn => by
    subst hn
    simp only [exOps] at h
    have done : ∀ fr' A', exOps i all ops fr' A' ((fr, A) :: tr) = some (.normal, fr2, A2, tr2) → ∃ X, tr2 = X ++ tr ∧ (X.reverse ++ [(fr2, A2)])[0]? = some (fr, A) := by
      intro fr' A' h
      obtain ⟨X, rfl, hX⟩ := ex_tr h rfl
      refine ⟨X ++ [(fr, A)], by simp, by simp⟩
    split at h
    · split at h
      · exact done _ _ h
      · cases h
      · cases h
    · exact done _ _ h
    · cases h

/-- A region that draws, in two parts: all that may meet stands in the first, which leaves what is there alone. -/
theorem W.drawnQ {T : Tbl} {rd : Bool} {ops1 ops2 : List AOper} {chk pk} {fr fr' : List Value} {A A' : Mem} {st} {n : Nat} {Q} (t : Tr (inv T n) (ops1 ++ ops2) ops1 fr A st fr' A')
    (hchk : ∀ TR : List (List Value × Mem), (∀ k, k ≤ ops1.length → TR[k]? = (st ++ [(fr', A')])[k]?) → chk.all (chkOk (ops1 ++ ops2) TR) = true)
    (h : WO T (ops1 ++ ops2) ops2 fr' A' fun o f h => o = .normal ∧ Q o f h) : W T rd (.region true (ops1 ++ ops2) chk pk) fr A Q := by
  obtain ⟨m, out, fr2, A2, tr2, e, rfl, q⟩ := h.run (st.reverse ++ [])
  have t' := t.mono (inv_mono T (Nat.le_max_left n m))
  have e' := exOps_mono (inv_mono T (Nat.le_max_right n m)) e
  have e0 := t'.ex ops2 []
  rw [e'] at e0
  obtain ⟨X, rfl, hX⟩ := ex_tr e' rfl
  refine ⟨max n m, .normal, fr2, A2, ?_, q⟩
  simp only [exec, exRegion, e0]
  rw [if_pos]
  simp only [Bool.not_true, Bool.false_or]
  refine hchk _ fun k hk => ?_
  have e1 : ((fr2, A2) :: (X ++ (st.reverse ++ []))).reverse = st ++ (X.reverse ++ [(fr2, A2)]) := by simp
  rw [e1]
  have hlen := t.len
  by_cases hk2 : k < st.length
  · rw [List.getElem?_append_left hk2, List.getElem?_append_left hk2]
  · obtain rfl : k = st.length := by omega
    rw [List.getElem?_append_right (Nat.le_refl _), List.getElem?_append_right (Nat.le_refl _), Nat.sub_self, hX]; rfl

mutual
/-- Is all of a value known? -/
def pkn : PV → Bool
  | .un => false
  | .fn _ a b => pknL a && pknL b
  | .iface _ v => pkn v
  | .agg cs => pknL cs
  | .tup vs => pknL vs
  | _ => true
def pknL : List PV → Bool
  | [] => true
  | x :: xs => pkn x && pknL xs
end

mutual
theorem pkn_veq {ρ S A} : ∀ {v : PV} {y : Value}, VR ρ S A v y → pkn v = true → veq y y = true
  | _, _, .un v, h => by simp [pkn] at h
  | _, _, .bool b, _ => by simp [veq]
  | _, _, .int k n, _ => by simp [veq]
  | _, _, .str s h, _ => by simp [veq]
  | _, _, .nilF, _ => by simp [veq]
  | _, _, .nilI, _ => by simp [veq]
  | _, _, .nilP, _ => by simp [veq]
  | _, _, .nilM, _ => by simp [veq]
  | _, _, .ptr o h, _ => by simp [veq]
  | _, _, .cptr hs hb ho h, _ => by simp [veq]
  | _, _, .sl o h hc, _ => by simp [veq]
  | _, _, .slE i g o a hc, _ => by simp [veq]
  | _, _, .lstE a hc, _ => by simp [veq]
  | _, _, .lst hc hs hb ho hz h, _ => by simp [veq]
  | _, _, .map h, _ => by simp [veq]
  | _, _, .fn f h h', k => by
    simp only [pkn, Bool.and_eq_true] at k
    simp [veq, pknL_veq h k.1, pknL_veq h' k.2]
  | _, _, .yield h, _ => by simp [veq, veqL]
  | _, _, .iface t h, k => by
    simp only [pkn] at k
    simp [veq, pkn_veq h k]
  | _, _, .agg h, k => by
    simp only [pkn] at k
    simp [veq, pknL_veq h k]
  | _, _, .tup h, k => by
    simp only [pkn] at k
    simp [veq, pknL_veq h k]
theorem pknL_veq {ρ S A} : ∀ {v : List PV} {y : List Value}, VRL ρ S A v y → pknL v = true → veqL y y = true
  | _, _, .nil, _ => by simp [veqL]
  | _, _, .cons h t, k => by
    simp only [pknL, Bool.and_eq_true] at k
    simp [veqL, pkn_veq h k.1, pknL_veq t k.2]
end

/-- A place whose block is there already. -/
def baseP (H : PH) : PV → Prop
  | .ptr s g _ | .sl s g _ (_ + 1) _ => ∃ cs, slot H s g = some cs
  | .cptr _ => True
  | .lst _ _ xs => xs ≠ []
  | _ => False

theorem baseP_lt {ρ S H A v y b} (hr : HR ρ S H A) (hv : VR ρ S A v y) (h : baseP H v) (hb : blkOf y = some b) : b < A.length := by
  unfold baseP at h
  split at h
  · obtain ⟨cs, h⟩ := h
    obtain ⟨b', rfl, hr'⟩ := hv.ptr_inv
    obtain ⟨e1, e2, _⟩ := hr.ref h hr'
    simp [blkOf] at hb; subst hb
    exact hr.lt _ _ _ e2 ⟨_, e1, rfl⟩
  · obtain ⟨cs, h⟩ := h
    rcases hv.sl_inv with ⟨b', c', rfl, hr', _⟩ | ⟨hz, _⟩
    · obtain ⟨e1, e2, _⟩ := hr.ref h hr'
      simp [blkOf] at hb; subst hb
      exact hr.lt _ _ _ e2 ⟨_, e1, rfl⟩
    · omega
  · obtain ⟨b', o, all, t, ro, rfl, hS, _⟩ := hv.cptr_inv
    simp [blkOf] at hb; subst hb; exact hr.slt _ hS
  · obtain ⟨a, c, rfl, _, h1 | ⟨b', o, all, t, ro, rfl, hS, _⟩⟩ := hv.lst_inv
    · exact (h h1).elim
    · simp [blkOf, adr] at hb; subst hb; exact hr.slt _ hS
  · exact h.elim

/-- An operation that leaves what is there alone. -/
def qOK (F : Fr) : AOp → Bool
  | .store .. | .update .. | .copy .. | .clear .. | .panic _ | .call .. => false
  | .append _ _ _ s x => match fev F s, plen (fev F x) with
    | .sl _ _ _ n (.k c), some m => decide (m = 0 ∨ c < n + m)
    | .lst _ true _, some _ => true
    | _, _ => false
  | _ => true

theorem quiet_app (A : Mem) (x : Blk) : Quiet A (A ++ [x]) := ⟨by simp, fun b hb => List.getElem?_append_left hb⟩

end Go.Proofs.Pm

/- Operations that leave what is there alone, by pure values. -/
namespace Go.Proofs.Pm
open Go Go.Proofs.Am

theorem Ev.both {T : Tbl} {g : Tgt} {args : List Value} {A : Mem} {P Q : Except Value Value → Mem → Prop} (h : Ev T g args A P) (k : Ev T g args A Q) : Ev T g args A fun r A' => P r A' ∧ Q r A' := by
  obtain ⟨n, r, A', e, p⟩ := h
  obtain ⟨m, r2, A2, e2, q⟩ := k
  have e' := inv_mono T (Nat.le_max_left n m) _ _ _ _ e
  have e2' := inv_mono T (Nat.le_max_right n m) _ _ _ _ e2
  rw [e'] at e2'; cases e2'
  exact ⟨max n m, r, A', e', p, q⟩

/-- What is called by what turns no more leaves what is there alone. -/
theorem Pur.quiet {T : Tbl} {f : FuncId} {args : List PV} {res : PV} (h : Pur T f args res) {ρ S H A argsA} (hr : HR ρ S H A) (ha : VRL ρ S A args argsA) :
    Ev T (.fn f) argsA A fun r A' => Fin ρ S H A (fun r H' => r = .ok res ∧ H' = H) r A' ∧ Quiet A A' := by
  refine Ev.both ((h H).run ρ S A (.fn f) argsA hr rfl ha) ?_
  have h0 : HR ρ S (H.map fun _ => PBlk.gone) A := by
    have nl : ∀ i, ¬ live (H.map fun _ => PBlk.gone) i := by
      rintro i ⟨blk, e, hon⟩
      rw [List.getElem?_map, Option.map_eq_some_iff] at e
      obtain ⟨_, _, rfl⟩ := e; cases hon
    refine ⟨by simp [hr.len], fun i j g g' b _ _ l => (nl i l).elim, fun i g b _ l => (nl i l).elim, hr.slt, ?_, ?_⟩
    · rintro b _ ⟨i, g, _, l⟩; exact nl i l
    · intro i blk gb e _
      rw [List.getElem?_map, Option.map_eq_some_iff] at e
      obtain ⟨_, _, rfl⟩ := e; trivial
  refine ((h _).run ρ S A (.fn f) argsA h0 rfl ha).mono fun r A' => ?_
  rintro ⟨ρ', S', H', rP, s, _⟩
  refine ⟨s.len, fun b hb => s.keep b hb ?_⟩
  rintro ⟨i, g, _, blk, e, hon⟩
  rw [List.getElem?_map, Option.map_eq_some_iff] at e
  obtain ⟨_, _, rfl⟩ := e; cases hon

theorem app_quiet {t : TypeId} {size bytes : Nat} {s x v : Value} {A A' : Mem} (h : appendA t size bytes s x A = some (v, A')) (hc : ∀ a n c m, s = .slice a n c → lenOfA x = some m → m = 0 ∨ (c < UC ∧ c < n + m)) : Quiet A A' := by
  unfold appendA at h
  split at h
  · rename_i a n c m hm
    split at h
    · cases h
    · split at h
      · cases h; exact .refl _
      · rename_i h0
        obtain ⟨h1, h2⟩ := (hc a n c m rfl hm).resolve_left h0
        split at h
        · rw [if_neg (by omega), if_neg (by omega)] at h
          simp only [Option.map_eq_some_iff] at h
          obtain ⟨old, _, e⟩ := h
          cases e; exact quiet_app _ _
        · cases h
  · cases h

theorem aop_quiet {o : AOp} {e : AX → Value} {A A' : Mem} {v : Value} (h : aop o e A = some (.val v, A')) (hq : match o with
    | .store .. | .update .. | .copy .. | .clear .. | .append .. => False
    | _ => True) : Quiet A A' := by
  cases o <;> simp only at hq <;> simp only [aop] at h
  all_goals first
    | (cases h; exact .refl _)
    | (cases h; exact quiet_app _ _)
    | (simp only [Option.map_eq_some_iff] at h; obtain ⟨_, _, e2⟩ := h; cases e2; first | exact .refl _ | exact quiet_app _ _)
    | (repeat' split at h) <;> first
        | (cases h; done)
        | (cases h; first | exact .refl _ | exact quiet_app _ _)
        | (simp only [Option.map_eq_some_iff] at h; obtain ⟨_, _, e2⟩ := h; cases e2; first | exact .refl _ | exact quiet_app _ _)

theorem aop_enter {o : AOp} {e : AX → Value} {A A' : Mem} {g : Tgt} {args : List Value} (h : aop o e A = some (.enter g args, A')) : A' = A := by
  cases o <;> simp only [aop] at h
  all_goals first
    | (cases h; done)
    | (cases h; rfl)
    | (simp only [Option.map_eq_some_iff] at h; obtain ⟨_, _, e2⟩ := h; cases e2; done)
    | (repeat' split at h) <;> first
        | (cases h; done)
        | (cases h; rfl)
        | (simp only [Option.map_eq_some_iff] at h; obtain ⟨_, _, e2⟩ := h; cases e2; done)

/-- Operations that leave what is there alone come to what K says. -/
structure QOps (T : Tbl) (N : Nat) (all ops : List AOper) (F : Fr) (H : PH) (K : Fr → PH → Prop) : Prop where
  run : ∀ ρ S A fr, HR ρ S H A → FrR ρ S A N F fr → ∃ n st fr' A' ρ' S' F' H', Tr (inv T n) all ops fr A st fr' A' ∧ Step ρ S H A ρ' S' H' A' ∧ HR ρ' S' H' A' ∧ FrR ρ' S' A' N F' fr' ∧ K F' H'

def qrun (N : Nat) : List AOper → Fr → PH → ORes
  | [], F, H => .done F H
  | ⟨dst, op, none⟩ :: ops, F, H => match dOk N dst with
    | true => match pop op (fev F) H with
      | some (.val v, H') => cond (qOK F op) (qrun N ops (fput F dst v) H') .stuck
      | some (.enter g args, H') => .call g args H' dst ops F
      | _ => .stuck
    | false => .stuck
  | ⟨_, _, some _⟩ :: _, _, _ => .stuck

def QReg (T : Tbl) (N : Nat) (all : List AOper) (K : Fr → PH → Prop) : ORes → Prop
  | .done F H => K F H
  | .call g args H d rest F => ∃ f v, g = .fn f ∧ Pur T f args v ∧ QOps T N all rest (fput F d v) H K
  | _ => False

section
variable {T : Tbl} {N : Nat} {all : List AOper} {K : Fr → PH → Prop}

theorem QReg_done {F H} : QReg T N all K (.done F H) = K F H := rfl

theorem qOK_ok {ρ S A F fr op v A'} {r : PV} {H H' : PH} (hf : FrR ρ S A N F fr) (hq : qOK F op = true) (h : aop op (Am.ev fr) A = some (.val v, A')) : Quiet A A' := by
  cases op
  case append t size bytes s x =>
    simp only [aop, Option.map_eq_some_iff] at h
    obtain ⟨⟨v', A2⟩, h, e⟩ := h
    simp only [Prod.mk.injEq, AR.val.injEq] at e
    obtain ⟨rfl, rfl⟩ := e
    refine app_quiet h fun a n c m hs hm => ?_
    simp only [qOK] at hq
    have h1 := hf.ev s
    have h2 := hf.ev x
    split at hq
    · rename_i i g o n' c' m' e1 e2
      rw [e1] at h1
      have hm2 := len_ok h2 e2
      rw [hm] at hm2; cases hm2
      simp only [decide_eq_true_eq] at hq
      rcases hq with hq | hq
      · exact .inl hq
      rcases h1.sl_inv with ⟨b, c2, e3, _, hcap⟩ | ⟨rfl, a2, e3, hcc⟩
      · rw [e3] at hs; cases hs
        obtain ⟨q1, q2, q3⟩ : CapR (.k c') n c := hcap
        exact .inr ⟨q3, by omega⟩
      · rw [e3] at hs; cases hs
        by_cases h0 : m = 0
        · exact .inl h0
        · exact .inr ⟨by decide, by omega⟩
    · rename_i sz xs m' e1 e2
      rw [e1] at h1
      obtain ⟨a2, c2, e3, ⟨q1, q2, q3⟩, _⟩ := h1.lst_inv
      rw [e3] at hs; cases hs
      have := q3 rfl
      by_cases h0 : m = 0
      · exact .inl h0
      · exact .inr ⟨by omega, by omega⟩
    · cases hq
  all_goals first | exact aop_quiet h trivial | (simp [qOK] at hq; done)

theorem QReg.ok : ∀ {ops : List AOper} {F : Fr} {H : PH}, QReg T N all K (qrun N ops F H) → QOps T N all ops F H K
  | [], F, H, h => ⟨fun ρ S A fr hr hf => ⟨0, [], fr, A, ρ, S, F, H, .nil fr A, .refl .., hr, hf, h⟩⟩
  | ⟨dst, op, some g⟩ :: ops, F, H, h => by simp only [qrun] at h; exact h.elim
  | ⟨dst, op, none⟩ :: ops, F, H, h => ⟨fun ρ S A fr hr hf => by
    simp only [qrun] at h
    split at h
    · rename_i hd
      split at h
      · rename_i v H' hp
        obtain ⟨rA, A', ρ', S', e, s, h', hv'⟩ := pop_sound hr (fun x => hf.ev x) (fun l => VRL.map l fun x _ => hf.ev x) hp
        cases hv' with
        | val hv' =>
          rename_i w
          cases hqk : qOK F op with
          | false => rw [hqk] at h; exact h.elim
          | true =>
            rw [hqk] at h
            obtain ⟨n, st, fr', A2, ρ2, S2, F2, H2, t, s2, h2, hf2, hK⟩ := (QReg.ok h).run ρ' S' A' _ h' ((hf.mono (s.ext hr)).put hv' hd)
            exact ⟨n, _, fr', A2, ρ2, S2, F2, H2, .val rfl (by simp only [step1, e]) (qOK_ok (r := v) (H := H) (H' := H') hf hqk e) t, s.trans s2, h2, hf2, hK⟩
      · rename_i g args H' hp
        obtain ⟨f, v, rfl, hpur, hrest⟩ := h
        obtain ⟨rA, A', ρ', S', e, s, h', hv'⟩ := pop_sound hr (fun x => hf.ev x) (fun l => VRL.map l fun x _ => hf.ev x) hp
        cases hv' with
        | fn _ ha =>
          have hA : A' = A := aop_enter e
          subst hA
          obtain ⟨n1, r, A1, e1, ⟨ρ1, S1, H1, rP, s1, h1, hrr, rfl, rfl⟩, hquiet⟩ := hpur.quiet h' ha
          cases hrr with
          | ok hvv =>
            obtain ⟨n2, st, fr', A2, ρ2, S2, F2, H2, t, s2, h2, hf2, hK⟩ := hrest.run ρ1 S1 A1 _ h1 (((hf.mono (s.ext hr)).mono (s1.ext h')).put hvv hd)
            refine ⟨max n1 n2, _, fr', A2, ρ2, S2, F2, H2, .val rfl ?_ hquiet (t.mono (inv_mono T (Nat.le_max_right n1 n2))), (s.trans s1).trans s2, h2, hf2, hK⟩
            simp only [step1, e]
            exact inv_mono T (Nat.le_max_left n1 n2) _ _ _ _ e1
      · exact h.elim
    · exact h.elim⟩

end
end Go.Proofs.Pm

/- Regions that draw their order: the rule by pure values. -/
namespace Go.Proofs.Pm
open Go Go.Proofs.Am

def ChkP (N : Nat) (ops1 : List AOper) (F F' : Fr) (H : PH) (p : Nat × Nat) : Prop :=
  ∃ d op g n x, ops1[p.1]? = some ⟨some d, op, g⟩ ∧ loadOf op = some (n, x) ∧ p.2 < ops1.length ∧ d < N ∧ (ops1.drop (p.1 + 1)).all (fun o' => decide (o'.dst ≠ some d)) = true ∧ pkn (fget F' d) = true ∧
    (p.1 < p.2 ∨ (x < N ∧ ∃ y, prov ops1 p.1 x = some y ∧ baseP H (fget F y)))

theorem RK.drawnQ {T : Tbl} {rd : Bool} {N : Nat} {Q : PQ} {ks : List K} {F : Fr} {H : PH} (L : List Nat) (ops1 ops2 : List AOper) {ops : List AOper} {chk : List (Nat × Nat)} {pk : List Nat} (hops : ops1 ++ ops2 = ops)
    (h : QReg T N ops (fun F' H' => (∀ p, p ∈ chk → ChkP N ops1 F F' H p) ∧ RReg T rd N (fun o F H => o = .normal ∧ RO T rd N Q ks .normal (fkeep L F) H) ops [] (orun N ops ops2 F' H')) (qrun N ops1 F H)) :
    RK T rd N Q (.region true ops chk pk) ks F H := ⟨fun ρ S A fr hr hf => by
  subst hops
  obtain ⟨n, st, fr', A', ρ', S', F', H', t, s, h', hf', hchk, hreg⟩ := (QReg.ok h).run ρ S A fr hr hf
  refine W.drawnQ t ?_ (WO.mono (fun o f A2 => ?_) ((RReg.ok hreg).run ρ' S' A' fr' h' hf'))
  · intro TR hTR
    rw [List.all_eq_true]
    intro p hp
    obtain ⟨d, op, g, m, x, e1, e2, e3, e4, e5, e6, e7⟩ := hchk p hp
    obtain ⟨a, b⟩ := p
    refine chk_ok t rfl hTR e1 e2 e3 (by rw [hf.len]; exact e4) e5 (pkn_veq (hf'.fget d) e6) ?_
    rcases e7 with e7 | ⟨hx, y, hy, hb⟩
    · exact .inl e7
    · exact .inr ⟨by rw [hf.len]; exact hx, y, hy, fun blk hblk => baseP_lt hr (hf.fget y) hb hblk⟩
  · rintro ⟨ρ2, S2, H2, oP, F2, s2, h2, ho, hf2, rfl, q⟩
    cases ho
    exact ⟨rfl, KQ.pre (s.trans s2) (RO.ok q h2 (hf2.sub fkeep_sub) .normal)⟩⟩

theorem RK.drawnR {T : Tbl} {rd : Bool} {N : Nat} {Q : PQ} {ks : List K} {F : Fr} {H : PH} (L : List Nat) (ops1 ops2 : List AOper) {ops : List AOper} {chk : List (Nat × Nat)} {pk : List Nat} (hops : ops1 ++ ops2 = ops) {F1 : Fr} {H1 : PH}
    (h : QReg T N ops (fun F' H' => F' = F1 ∧ H' = H1) (qrun N ops1 F H)) (hc : ∀ p, p ∈ chk → ChkP N ops1 F F1 H p) (hr : RReg T rd N (fun o F H => o = .normal ∧ RO T rd N Q ks .normal (fkeep L F) H) ops [] (orun N ops ops2 F1 H1)) :
    RK T rd N Q (.region true ops chk pk) ks F H := by
  refine RK.drawnQ L ops1 ops2 hops ?_
  have mono : ∀ (r : ORes), QReg T N ops (fun F' H' => F' = F1 ∧ H' = H1) r → QReg T N ops (fun F' H' => (∀ p, p ∈ chk → ChkP N ops1 F F' H p) ∧ RReg T rd N (fun o F H => o = .normal ∧ RO T rd N Q ks .normal (fkeep L F) H) ops [] (orun N ops ops2 F' H')) r := by
    intro r hr'
    cases r with
    | done F H => obtain ⟨rfl, rfl⟩ := hr'; exact ⟨hc, hr⟩
    | call g args H d rest F =>
      obtain ⟨f, v, e, hp, hq⟩ := hr'
      refine ⟨f, v, e, hp, ⟨fun ρ S A fr h1 h2 => ?_⟩⟩
      obtain ⟨n, st, fr', A', ρ', S', F', H', t, s, h', hf', rfl, rfl⟩ := hq.run ρ S A fr h1 h2
      exact ⟨n, st, fr', A', ρ', S', _, _, t, s, h', hf', hc, hr⟩
    | panic v F H => exact hr'.elim
    | stuck => exact hr'.elim
  exact mono _ h

theorem QReg.pure {T : Tbl} {N : Nat} {all : List AOper} {K : Fr → PH → Prop} {f : FuncId} {args : List PV} {v : PV} {H : PH} {d : Option Nat} {rest : List AOper} {F : Fr} (h : Pur T f args v) (k : QReg T N all K (qrun N rest (fput F d v) H)) : QReg T N all K (.call (.fn f) args H d rest F) :=
  ⟨f, v, rfl, h, QReg.ok k⟩

attribute [go_sem] qrun.eq_1 qrun.eq_2 qOK QReg_done
end Go.Proofs.Pm
