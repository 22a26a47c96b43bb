/- A small language for the functions of a program, and what it means: values as trees, variables as numbered objects, one order. -/
import Derived.Orders
import Derived.Below
set_option linter.unusedSimpArgs false
set_option linter.unusedVariables false
namespace Go.Ev

inductive Cap where
  | no | fx | gr (sz : Nat) | lk
  deriving DecidableEq, Repr

/-- Values. sl: a row that nobody writes (gr: its holder alone may let it grow; fx: there is no room behind it; lk: in a cell alone: a row whose holder is at work). hs: a row that is an object. eptr: the address of a variable that nobody writes. any: nothing is known. -/
inductive V where
  | any | undef
  | bool (b : Bool) | int (k : IntKind) (n : Int) | str (s : List UInt8)
  | nilp | ptr (o off : Nat) | eptr (cs : List V) (off : Nat)
  | nils | sl (xs : List V) (c : Cap) | hs (o off len sz : Nat) (ag : Bool)
  | agg (cs : List V) | tup (vs : List V)
  | ifc (t : TypeId) (x : V) | nili
  | fn (f : FuncId) (first caps : List V) | nilf
  | mp (o : Nat) | nilm
  deriving Repr

inductive O where
  | cells (cs : List V) | mp (es : List (V × V))
  deriving Repr

mutual
def V.beq : V → V → Bool
  | .any, .any | .undef, .undef | .nilp, .nilp | .nils, .nils | .nili, .nili | .nilf, .nilf | .nilm, .nilm => true
  | .bool a, .bool b => a == b
  | .int k a, .int j b => decide (k = j) && a == b
  | .str a, .str b => decide (a = b)
  | .ptr a i, .ptr b j => a == b && i == j
  | .eptr a i, .eptr b j => V.beqs a b && i == j
  | .sl a i, .sl b j => V.beqs a b && decide (i = j)
  | .hs a b c d e, .hs a' b' c' d' e' => a == a' && b == b' && c == c' && d == d' && e == e'
  | .agg a, .agg b => V.beqs a b
  | .tup a, .tup b => V.beqs a b
  | .ifc t a, .ifc u b => t == u && V.beq a b
  | .fn f a b, .fn g c d => f == g && V.beqs a c && V.beqs b d
  | .mp a, .mp b => a == b
  | _, _ => false
def V.beqs : List V → List V → Bool
  | [], [] => true
  | x :: xs, y :: ys => V.beq x y && V.beqs xs ys
  | _, _ => false
end

mutual
/-- Does a value lead to no object from number n on? -/
def V.rb (n : Nat) : V → Bool
  | .ptr o _ => decide (o < n)
  | .hs o _ _ _ _ => decide (o < n)
  | .mp o => decide (o < n)
  | .eptr cs _ => V.rbs n cs
  | .sl xs _ => V.rbs n xs
  | .agg cs => V.rbs n cs
  | .tup cs => V.rbs n cs
  | .ifc _ x => V.rb n x
  | .fn _ a b => V.rbs n a && V.rbs n b
  | _ => true
def V.rbs (n : Nat) : List V → Bool
  | [] => true
  | x :: xs => V.rb n x && V.rbs n xs
end

def V.nogr : V → V
  | .sl xs _ => .sl xs .no
  | x => x

def V.isLk : V → Bool
  | .sl _ .lk => true
  | _ => false

def V.cells : V → List V
  | .agg cs => cs
  | x => [x]

def V.one : V → Bool
  | .any | .undef | .agg _ | .tup _ => false
  | _ => true

/-- n cells of a row, as a value. -/
def part (ag : Bool) (sz : Nat) (cs : List V) (off : Nat) : Option V :=
  if ag then (if off + sz ≤ cs.length then some (.agg (((cs.drop off).take sz).map V.nogr)) else none)
  else if sz = 1 then cs[off]?.map V.nogr else none

/-- cells of a row laid anew. -/
def putAt : List V → Nat → List V → List V
  | cs, _, [] => cs
  | [], _, _ => []
  | _ :: cs, 0, x :: xs => x :: putAt cs 0 xs
  | c :: cs, n + 1, xs => c :: putAt cs n xs

def chunks (ag : Bool) (sz : Nat) (cs : List V) : Nat → Nat → Option (List V)
  | 0, _ => some []
  | n + 1, off => do
    let x ← part ag sz cs off
    let xs ← chunks ag sz cs n (off + sz)
    pure (x :: xs)

abbrev Objs := List O
def Objs.get (σ : Objs) (o : Nat) : Option (List V) :=
  match σ[o]? with
  | some (.cells cs) => some cs
  | _ => none

/-- What leads to objects from n on is laid as what nobody writes any more. -/
def fz (n : Nat) (σ : Objs) : Nat → V → Option V
  | 0, x => if x.rb n then some x else none
  | f + 1, x =>
    if x.rb n then some x else
    match x with
    | .ptr o off => do
      let cs ← Objs.get σ o
      let ds ← cs.mapM (fz n σ f)
      pure (.eptr ds off)
    | .hs o off len sz ag => do
      let cs ← Objs.get σ o
      let xs ← chunks ag sz cs len off
      let ys ← xs.mapM (fz n σ f)
      pure (.sl ys .no)
    | .eptr cs off => do pure (.eptr (← cs.mapM (fz n σ f)) off)
    | .sl xs c => do pure (.sl (← xs.mapM (fz n σ f)) c)
    | .agg cs => do pure (.agg (← cs.mapM (fz n σ f)))
    | .tup cs => do pure (.tup (← cs.mapM (fz n σ f)))
    | .ifc t x => do pure (.ifc t (← fz n σ f x))
    | .fn g a b => do pure (.fn g (← a.mapM (fz n σ f)) (← b.mapM (fz n σ f)))
    | _ => none

def fzDepth : Nat := 40

def fzO (n : Nat) (σ : Objs) : O → Option O
  | .cells cs => if V.rbs n cs then some (.cells cs) else (cs.mapM (fz n σ fzDepth)).map O.cells
  | .mp es => if V.rbs n (es.map Prod.fst) && V.rbs n (es.map Prod.snd) then some (.mp es) else none

/-- The objects from n on are let go. -/
def cutObjs (n : Nat) (σ : Objs) : Option Objs := (σ.take n).mapM (fzO n σ)

/-- Slots outside a list are forgotten; those on it are frozen. -/
def cutSlots (n : Nat) (σ : Objs) (live : List Nat) : Nat → List V → Option (List V)
  | _, [] => some []
  | i, x :: xs => do
    let y ← if live.contains i then fz n σ fzDepth x else some .any
    let ys ← cutSlots n σ live (i + 1) xs
    pure (y :: ys)

inductive Arg where
  | t (n : Nat) | c (x : V) | g (n : Nat) | f (id : FuncId)
  deriving Repr

/-- What kind of values is compared. -/
inductive CK where
  | b | i | s
  deriving Repr, DecidableEq
inductive EqK where
  | no | bool | ptr | row | ifc | fn | mp | agg (ks : List CK)
  deriving Repr, DecidableEq

inductive Conv where
  | toInt (k : IntKind) | same | intStr | strBytes | bytesStr | bytesStrN
  deriving Repr, DecidableEq

inductive Ins where
  | mv (x : Arg) (tk : Bool)
  | pick (c a b : Arg)
  | alloc (z : List V)
  | box (x : Arg)
  | build (z : List V) (parts : List (Nat × Nat × Arg))
  | buildSl (ag : Bool) (sz len : Nat) (z : V) (parts : List (Nat × Arg)) (h : Bool)
  | load (ag : Bool) (sz : Nat) (x : Arg)
  | loadT (x : Arg)
  | store (sz : Nat) (p x : Arg) (tk : Bool)
  | nilc (x : Arg)
  | bin (op : BinOp) (k : EqK) (x y : Arg)
  | un (op : UnOp) (x : Arg)
  | conv (k : Conv) (x : Arg)
  | cutS (x : Arg) (lo hi : Option Arg)
  | cut (sz : Nat) (x : Arg) (lo hi mx : Option Arg)
  | cutA (n sz : Nat) (ag : Bool) (x : Arg) (lo hi : Option Arg)
  | faddr (off : Nat) (x : Arg)
  | field (ag : Bool) (off sz : Nat) (x : Arg)
  | iaddr (sz : Nat) (x i : Arg)
  | iaddrA (n sz : Nat) (x i : Arg)
  | idx (x i : Arg)
  | idxA (n : Nat) (ag : Bool) (sz : Nat) (x i : Arg)
  | lenS (x : Arg)
  | len (x : Arg)
  | app (str ag : Bool) (sz bytes : Nat) (x y : Arg) (tk : Bool)
  | appH (str ag : Bool) (sz bytes : Nat) (x y : Arg)
  | bytesH (x : Arg)
  | call (f : FuncId) (args : List Arg)
  | callv (x : Arg) (args : List Arg)
  | mkfn (f : FuncId) (first caps : List Arg)
  | mkif (t : TypeId) (x : Arg)
  | extr (x : Arg) (i : Nat)
  | mkSl (ag : Bool) (sz bytes : Nat) (z : V) (l c : Arg) (h : Bool)
  | mm (mx : Bool) (args : List Arg)
  | mkmp
  | mset (m k x : Arg)
  | mget (z : V) (m k : Arg) (ok : Bool)
  | buildG (ag : Bool) (sz len : Nat) (z : V) (parts : List (Nat × Arg))
  | mark (x : Arg)
  deriving Repr

structure Step where
  dst : Option Nat
  gd : Option (Nat × Bool)
  ins : Ins
  deriving Repr

/-- A step of a region that draws its order: its place in the program's text; un: the places, in this list, of steps ahead that may come behind it. -/
structure DS where
  s : Step
  op : Nat
  un : List Nat
  deriving Repr

inductive Cd where
  | skip | ret
  | ops (k : Nat) (l : List Step)
  | drw (k : Nat) (l : List DS)
  | seq (a b : Cd)
  | cond (c : Arg) (a b : Cd)
  | block (id : Nat) (b : Cd)
  | loop (lin lout : List Nat) (b : Cd)
  | exit (id : Nat)
  deriving Repr

inductive Res where
  | tmp (t : Nat) | cell (t : Nat) (ag : Bool) (sz : Nat)
  deriving Repr

structure Fn where
  nt : Nat
  res : List Res
  keep : Bool
  esc : Bool
  body : Cd
  deriving Repr

def bytesLess : List UInt8 → List UInt8 → Bool
  | _, [] => false
  | [], _ :: _ => true
  | a :: x, b :: y => a < b || (a == b && bytesLess x y)

/-- Cells that are compared by themselves. -/
def eqCell : V → V → Option Bool
  | .bool a, .bool b => some (a == b)
  | .int k a, .int j b => if k = j then some (a == b) else none
  | .str a, .str b => some (decide (a = b))
  | _, _ => none

def eqCellK : CK → V → V → Option Bool
  | .b, .bool a, .bool b => some (a == b)
  | .i, .int k a, .int j b => if k = j then some (a == b) else none
  | .s, .str a, .str b => some (decide (a = b))
  | _, _, _ => none

def eqCells : List CK → List V → List V → Option Bool
  | [], [], [] => some true
  | k :: ks, x :: xs, y :: ys => do
    let a ← eqCellK k x y
    let b ← eqCells ks xs ys
    pure (a && b)
  | _, _, _ => none

def eqV (k : EqK) (x y : V) : Option Bool :=
  match k, x, y with
  | .bool, .bool a, .bool b => some (a == b)
  | .ptr, .nilp, .nilp => some true
  | .ptr, .nilp, .ptr _ _ | .ptr, .ptr _ _, .nilp | .ptr, .nilp, .eptr _ _ | .ptr, .eptr _ _, .nilp => some false
  | .row, .nils, .nils => some true
  | .row, .nils, .sl _ _ | .row, .sl _ _, .nils | .row, .nils, .hs .. | .row, .hs .., .nils => some false
  | .ifc, .nili, .nili => some true
  | .ifc, .nili, .ifc _ _ | .ifc, .ifc _ _, .nili => some false
  | .fn, .nilf, .nilf => some true
  | .fn, .nilf, .fn .. | .fn, .fn .., .nilf => some false
  | .mp, .nilm, .nilm => some true
  | .mp, .nilm, .mp _ | .mp, .mp _, .nilm => some false
  | .agg ks, .agg a, .agg b => eqCells ks a b
  | _, _, _ => none

def strMax : Nat := 4611686018427387904
def rowMax : Nat := 140737488355328

def evBin (op : BinOp) (e : EqK) (x y : V) : Option V :=
  match x, y with
  | .int k a, .int j b =>
    match op with
    | .shl => if b < 0 then none else some (.int k (k.wrap (a * 2 ^ (min b.toNat k.bits))))
    | .shr => if b < 0 then none else some (.int k (a.fdiv (2 ^ (min b.toNat k.bits))))
    | _ => if k = j then
      match op with
      | .add => some (.int k (k.wrap (a + b)))
      | .sub => some (.int k (k.wrap (a - b)))
      | .mul => some (.int k (k.wrap (a * b)))
      | .quo => if b = 0 then none else some (.int k (k.wrap (a.tdiv b)))
      | .rem => if b = 0 then none else some (.int k (a.tmod b))
      | .and => some (.int k (k.wrap (BitVec.ofInt k.bits a &&& BitVec.ofInt k.bits b).toNat))
      | .or => some (.int k (k.wrap (BitVec.ofInt k.bits a ||| BitVec.ofInt k.bits b).toNat))
      | .xor => some (.int k (k.wrap (BitVec.ofInt k.bits a ^^^ BitVec.ofInt k.bits b).toNat))
      | .andNot => some (.int k (k.wrap (BitVec.ofInt k.bits a &&& ~~~ BitVec.ofInt k.bits b).toNat))
      | .eql => some (.bool (a == b))
      | .neq => some (.bool (a != b))
      | .lss => some (.bool (decide (a < b)))
      | .leq => some (.bool (decide (a ≤ b)))
      | .gtr => some (.bool (decide (a > b)))
      | .geq => some (.bool (decide (a ≥ b)))
      | _ => none
      else none
  | .str a, .str b =>
    match op with
    | .add => if a.length + b.length ≤ strMax then some (.str (a ++ b)) else none
    | .eql => some (.bool (decide (a = b)))
    | .neq => some (.bool (!decide (a = b)))
    | .lss => some (.bool (bytesLess a b))
    | .leq => some (.bool (bytesLess a b || decide (a = b)))
    | .gtr => some (.bool (!(bytesLess a b || decide (a = b))))
    | .geq => some (.bool (!bytesLess a b))
    | _ => none
  | x, y =>
    match op with
    | .eql => (eqV e x y).map V.bool
    | .neq => (eqV e x y).map fun b => .bool (!b)
    | _ => none

def evUn (op : UnOp) (x : V) : Option V :=
  match op, x with
  | .neg, .int k n => some (.int k (k.wrap (0 - n)))
  | .xor, .int k n => some (.int k (k.wrap (BitVec.ofInt k.bits (if k.signed then -1 else k.max) ^^^ BitVec.ofInt k.bits n).toNat))
  | .not, .bool b => some (.bool !b)
  | _, _ => none

def bytesOf : List V → Option (List UInt8)
  | [] => some []
  | .int .u8 n :: xs => do
    let bs ← bytesOf xs
    pure (UInt8.ofNat n.toNat :: bs)
  | _ => none

def ofBytes (s : List UInt8) : List V := s.map fun b => .int .u8 b.toNat

def rowOf (σ : Objs) : V → Option (List V)
  | .nils => some []
  | .sl xs _ => some xs
  | .hs o off len sz ag => do
    let cs ← Objs.get σ o
    chunks ag sz cs len off
  | _ => none

/-- What is appended: a row, or a text's bytes. -/
def srcOf (str : Bool) (σ : Objs) (x : V) : Option (List V) :=
  if str then (match x with | .str s => some (ofBytes s) | _ => none) else rowOf σ x

def evConv (σ : Objs) (k : Conv) (x : V) : Option V :=
  match k, x with
  | .toInt k, .int _ n => some (.int k (k.wrap n))
  | .same, .str s => some (.str s)
  | .intStr, .int _ n => some (.str (Utf8.encode n).data.toList)
  | .strBytes, .str s => some (.sl (ofBytes s) (.gr 1))
  | .bytesStr, .nils => some (.str [])
  | .bytesStr, .sl xs _ => (bytesOf xs).map V.str
  | .bytesStrN, .nils => some (.str [])
  | .bytesStrN, .sl xs _ => (bytesOf xs).map V.str
  | .bytesStr, .hs o off len sz ag => do
    let xs ← rowOf σ (.hs o off len sz ag)
    (bytesOf xs).map V.str
  | _, _ => none

def bound (x : V) (hi : Nat) : Option Nat :=
  match x with
  | .int _ i => if 0 ≤ i ∧ i ≤ hi then some i.toNat else none
  | _ => none

def bounds (len : Nat) (lo hi mx : Option V) : Option (Nat × Nat × Option Nat) := do
  let m ← match mx with | some v => (bound v len).map some | none => some none
  let h ← match hi with | some v => bound v (m.getD len) | none => some len
  let l ← match lo with | some v => bound v h | none => some 0
  pure (l, h, m)

def evCutS (x : V) (lo hi : Option V) : Option V :=
  match x with
  | .str s => do
    let (l, h, _) ← bounds s.length lo hi none
    some (.str ((s.drop l).take (h - l)))
  | _ => none

def evCut (sz : Nat) (x : V) (lo hi mx : Option V) : Option V :=
  match x with
  | .nils => do
    let (_, _, _) ← bounds 0 lo hi mx
    some .nils
  | .sl xs _ => do
    let (l, h, m) ← bounds xs.length lo hi mx
    if xs.all (fun y => decide (y.cells.length = sz)) then some (.sl ((xs.drop l).take (h - l)) (if m = some h then .fx else .no)) else none
  | .hs o off len s ag => do
    let (l, h, _) ← bounds len lo hi mx
    if s = sz then some (if l = h then .sl [] .no else .hs o (off + l * sz) (h - l) sz ag) else none
  | _ => none

def okCells (cs : List V) : Bool := cs.all V.one

def evCutA (n sz : Nat) (ag : Bool) (x : V) (lo hi : Option V) : Option V := do
  let (l, h, _) ← bounds n lo hi none
  match x with
  | .ptr o off => some (if l = h then .sl [] .no else .hs o (off + l * sz) (h - l) sz ag)
  | .eptr cs off => do
    let xs ← chunks ag sz cs (h - l) (off + l * sz)
    if okCells cs then some (.sl xs .no) else none
  | _ => none

def index (i : V) (n : Nat) : Option Nat :=
  match i with
  | .int _ i => if 0 ≤ i ∧ i < n then some i.toNat else none
  | _ => none

def mmInt (mx : Bool) : V → List V → Option V
  | x, [] => some x
  | .int k a, .int j b :: r => if k = j then mmInt mx (.int k (if mx then (if b > a then b else a) else (if b < a then b else a))) r else none
  | _, _ => none

def agOk (ag : Bool) : V → Bool
  | .agg _ => ag
  | _ => !ag

/-- Zero cells with parts laid in. -/
def lay (z : List V) : List (Nat × Nat × V) → Option (List V)
  | [] => some z
  | (off, sz, x) :: r =>
    if x.cells.length = sz ∧ off + sz ≤ z.length ∧ okCells x.cells then lay (putAt z off (x.cells.map V.nogr)) r else none

def laySl (sz : Nat) (z : List V) : List (Nat × V) → Option (List V)
  | [] => some z
  | (i, x) :: r => if x.cells.length = sz ∧ i < z.length ∧ okCells x.cells then laySl sz (z.set i x.nogr) r else none

def intOf : V → Option Int
  | .int _ n => some n
  | _ => none

/-- What a map holds at a key. -/
def mfind (k : V) : List (V × V) → Option (Option V)
  | [] => some none
  | (k', x) :: r => do
    let b ← eqCell k k'
    if b then some (some x) else mfind k r

def mput (k x : V) : List (V × V) → Option (List (V × V))
  | [] => some [(k, x)]
  | (k', y) :: r => do
    let b ← eqCell k k'
    if b then some ((k, x) :: r) else
    let r' ← mput k x r
    some ((k', y) :: r')

section
variable (G : Nat → V) (call : FuncId → List V → Objs → Option (V × Objs))

/-- An argument as it stands, with what its holder may do. -/
def argT (ρ : List V) : Arg → V
  | .t n => ρ.getD n .undef
  | .c x => x
  | .g n => G n
  | .f id => .fn id [] []

def arg (ρ : List V) (x : Arg) : V := (argT G ρ x).nogr

def keepIf (tk : Bool) (x : V) : V := if tk then x else x.nogr

/-- The slot that an argument is taken from. -/
def unslot (ρ : List V) (x : Arg) (tk : Bool) : List V :=
  match x, tk with
  | .t n, true => ρ.set n (ρ.getD n .undef).nogr
  | _, _ => ρ

def put (ρ : List V) (d : Option Nat) (x : V) : List V :=
  match d with
  | some d => ρ.set d x
  | none => ρ

/-- What a step takes from a slot. -/
def Ins.takes : Ins → Arg × Bool
  | .mv x tk => (x, tk)
  | .store _ _ x tk => (x, tk)
  | .app _ _ _ _ x _ tk => (x, tk)
  | .mark x => (x, true)
  | _ => (.c .undef, false)

def evLoad (σ : Objs) (ag : Bool) (sz : Nat) : V → Option V
  | .ptr o off => do
    let cs ← Objs.get σ o
    part ag sz cs off
  | .eptr cs off => part ag sz cs off
  | _ => none
def evFaddr (off : Nat) : V → Option V
  | .ptr o a => some (.ptr o (a + off))
  | .eptr cs a => some (.eptr cs (a + off))
  | _ => none
def evField (ag : Bool) (off sz : Nat) : V → Option V
  | .agg cs => part ag sz cs off
  | _ => none
def evIaddr (sz : Nat) (i : V) : V → Option V
  | .sl xs _ => do
    let j ← index i xs.length
    let e ← xs[j]?
    if e.cells.length = sz then some (.eptr e.cells 0) else none
  | .hs o off len s _ => do
    let j ← index i len
    if s = sz then some (.ptr o (off + j * sz)) else none
  | _ => none
def evIaddrA (n sz : Nat) (i x : V) : Option V := do
  let j ← index i n
  match x with
  | .ptr o a => some (.ptr o (a + j * sz))
  | .eptr cs a => some (.eptr cs (a + j * sz))
  | _ => none
def evIdx (i : V) : V → Option V
  | .str s => do
    let j ← index i s.length
    let b ← s[j]?
    some (.int .u8 b.toNat)
  | _ => none
def evIdxA (n : Nat) (ag : Bool) (sz : Nat) (i x : V) : Option V := do
  let j ← index i n
  match x with
  | .agg cs => part ag sz cs (j * sz)
  | _ => none
def evExtr (i : Nat) : V → Option V
  | .tup vs => vs[i]?
  | _ => none
def evLenS : V → Option V
  | .str s => some (.int .i64 s.length)
  | _ => none
def evLen : V → Option V
  | .nils => some (.int .i64 0)
  | .sl xs _ => some (.int .i64 xs.length)
  | .hs _ _ len _ _ => some (.int .i64 len)
  | _ => none
def evNilc : V → Option V
  | .ptr o off => some (.ptr o off)
  | .eptr cs off => some (.eptr cs off)
  | .fn f a b => some (.fn f a b)
  | _ => none

/-- Steps that leave the objects as they are. A: its arguments. -/
def evPure (A : Arg → V) (σ : Objs) : Ins → Option V
  | .pick c a b =>
    match A c with
    | .bool t => some (if t then A a else A b)
    | _ => none
  | .build z parts => (lay z (parts.map fun (o, s, x) => (o, s, A x))).map V.agg
  | .nilc x => evNilc (A x)
  | .bin op k x y => evBin op k (A x) (A y)
  | .un op x => evUn op (A x)
  | .conv k x => evConv σ k (A x)
  | .cutS x lo hi => evCutS (A x) (lo.map A) (hi.map A)
  | .cut sz x lo hi mx => evCut sz (A x) (lo.map A) (hi.map A) (mx.map A)
  | .cutA n sz ag x lo hi => evCutA n sz ag (A x) (lo.map A) (hi.map A)
  | .load ag sz x => evLoad σ ag sz (A x)
  | .faddr off x => evFaddr off (A x)
  | .field ag off sz x => evField ag off sz (A x)
  | .iaddr sz x i => evIaddr sz (A i) (A x)
  | .iaddrA n sz x i => evIaddrA n sz (A i) (A x)
  | .idx x i => evIdx (A i) (A x)
  | .idxA n ag sz x i => evIdxA n ag sz (A i) (A x)
  | .lenS x => evLenS (A x)
  | .len x => evLen (A x)
  | .mkfn f first caps => some (.fn f (first.map A) (caps.map A))
  | .mkif t x => some (.ifc t (A x))
  | .extr x i => evExtr i (A x)
  | .mm mx args =>
    match args.map A with
    | x :: r => if (intOf x).isSome then mmInt mx x r else none
    | [] => none
  | .mget z m k ok => do
    let r ← match A m with
      | .nilm => some none
      | .mp o => (match σ[o]? with | some (.mp es) => mfind (A k) es | _ => none)
      | _ => none
    let x := r.getD z
    some (if ok then .tup [x, .bool r.isSome] else x)
  | _ => none

/-- Do elements have a row's form? -/
def okRow (ag : Bool) (sz : Nat) (ys : List V) : Bool := ys.all fun y => decide (y.cells.length = sz) && okCells y.cells && agOk ag y

def evApp (ag : Bool) (sz bytes : Nat) (x : V) (ys : List V) : Option V :=
  if okRow ag sz ys then
    match x with
    | .nils => if ys = [] then some .nils else if ys.length * bytes ≤ rowMax then some (.sl ys (.gr sz)) else none
    | .sl xs c =>
      match ys with
      | [] => some (.sl xs c)
      | _ :: _ =>
        if (c = .fx ∨ c = .gr sz) ∧ xs.all (fun y => decide (y.cells.length = sz)) ∧ (xs.length + ys.length) * bytes ≤ rowMax then some (.sl (xs ++ ys) (.gr sz)) else none
    | _ => none
  else none

/-- One step's value, and the objects behind it. A: its arguments; T: with what their holders may do. -/
def evIns (A T : Arg → V) (σ : Objs) : Ins → Option (V × Objs)
  | .mv x tk => some (if tk then T x else A x, σ)
  | .alloc z => if okCells z then some (.ptr σ.length 0, σ ++ [.cells z]) else none
  | .box x =>
    let cs := (A x).cells
    if okCells cs then some (.ptr σ.length 0, σ ++ [.cells (cs.map V.nogr)]) else none
  | .buildSl ag sz len z parts h => do
    let xs ← laySl sz (List.replicate len z) (parts.map fun (i, x) => (i, A x))
    if okRow ag sz xs then
      if h then some (.hs σ.length 0 len sz ag, σ ++ [.cells ((xs.flatMap V.cells).map V.nogr)])
      else some (.sl xs .fx, σ)
    else none
  | .buildG ag sz len z parts => do
    let xs ← laySl sz (List.replicate len z) (parts.map fun (i, x) => (i, A x))
    if okRow ag sz xs then some (.sl xs (.gr sz), σ) else none
  | .mark x =>
    match T x with
    | .sl xs (.gr _) => some (.sl xs .no, σ)
    | _ => none
  | .store sz p x tk =>
    match A p with
    | .ptr o off => do
      let cs ← Objs.get σ o
      let v := A x
      let ds := v.cells
      if ds.length = sz ∧ off + sz ≤ cs.length ∧ okCells ds then
        match v with
        | .agg _ => some (.undef, σ.set o (.cells (putAt cs off (ds.map V.nogr))))
        | _ => if (if tk then T x else v).isLk then none else some (.undef, σ.set o (.cells (cs.set off (if tk then T x else v))))
      else none
    | _ => none
  | .loadT x =>
    match A x with
    | .ptr o off => do
      let cs ← Objs.get σ o
      let v ← cs[off]?
      match v with
      | .sl xs (.gr s) => some (.sl xs (.gr s), σ.set o (.cells (cs.set off (.sl xs .no))))
      | .sl _ .lk => none
      | v => some (v, σ)
    | .eptr cs off => do
      let v ← cs[off]?
      some (v.nogr, σ)
    | _ => none
  | .app str ag sz bytes x y tk => do
    let ys ← srcOf str σ (A y)
    let v ← evApp ag sz bytes (if tk then T x else A x) ys
    some (v, σ)
  | .appH str ag sz bytes x y => do
    let ys ← srcOf str σ (A y)
    match ys with
    | [] => do
      let v ← evApp ag sz bytes (A x) []
      some (v.nogr, σ)
    | _ :: _ => do
      let v ← evApp ag sz bytes (A x) ys
      match v with
      | .sl xs _ => some (.hs σ.length 0 xs.length sz ag, σ ++ [.cells ((xs.flatMap V.cells).map V.nogr)])
      | _ => none
  | .bytesH x =>
    match A x with
    | .str b => some (.hs σ.length 0 b.length 1 false, σ ++ [.cells (ofBytes b)])
    | _ => none
  | .mkSl ag sz bytes z l c h => do
    let l ← intOf (A l)
    let c ← intOf (A c)
    if 0 ≤ l ∧ l ≤ c ∧ c * bytes ≤ rowMax ∧ z.cells.length = sz ∧ okCells z.cells ∧ agOk ag z then
      if h then
        some (.hs σ.length 0 l.toNat sz ag, σ ++ [.cells ((List.replicate c.toNat z).flatMap V.cells)])
      else some (.sl (List.replicate l.toNat z) (if l = c then .fx else .gr sz), σ)
    else none
  | .mkmp => some (.mp σ.length, σ ++ [.mp []])
  | .mset m k x =>
    match A m with
    | .mp o =>
      match σ[o]? with
      | some (.mp es) => do
        let es' ← mput (A k) (A x) es
        some (.undef, σ.set o (.mp es'))
      | _ => none
    | _ => none
  | .call f args => call f (args.map A) σ
  | .callv x args =>
    match A x with
    | .fn f first caps => call f (((first ++ args.map A) ++ caps).map V.nogr) σ
    | _ => none
  | .conv .strBytes x => do
    let v ← evConv σ .strBytes (A x)
    some (v, σ)
  | i => do
    let v ← evPure A σ i
    some (v.nogr, σ)

/-- One step. -/
def ev1 (s : Step) (ρ : List V) (σ : Objs) : Option (List V × Objs) := do
  let (v, σ') ← evIns call (arg G ρ) (argT G ρ) σ s.ins
  some (put (unslot ρ s.ins.takes.1 s.ins.takes.2) s.dst v, σ')

/-- Is a step run? none: that is not known. -/
def wanted (ρ : List V) : Option (Nat × Bool) → Option Bool
  | none => some true
  | some (g, b) =>
    match ρ.getD g .undef with
    | .bool t => some (t == b)
    | .undef => some false
    | _ => none

def evStep (s : Step) (ρ : List V) (σ : Objs) : Option (List V × Objs) := do
  if ← wanted ρ s.gd then ev1 G call s ρ σ else some (put ρ s.dst .undef, σ)

def evSteps : List Step → List V → Objs → Option (List V × Objs)
  | [], ρ, σ => some (ρ, σ)
  | s :: r, ρ, σ => do
    let (ρ', σ') ← evStep G call s ρ σ
    evSteps r ρ' σ'

/-- What a step reads of the objects, or makes; took: it takes what a cell's holder may do. -/
inductive Rd where
  | none | same (ex : Bool) (o off n : Nat) | made (o : Nat) | took (o off : Nat)

def reads (A : Arg → V) (σ : Objs) : Ins → Rd
  | .load ag sz x => match A x with | .ptr o off => .same false o off (if ag then sz else 1) | _ => .none
  | .loadT x =>
    match A x with
    | .ptr o off =>
      match (Objs.get σ o).bind (·[off]?) with
      | some (.sl _ (.gr _)) => .took o off
      | _ => .same true o off 1
    | _ => .none
  | .alloc _ | .box _ => .made σ.length
  | _ => .none

def Rd.cell : Rd → Option (Nat × Nat)
  | .took o off => some (o, off)
  | _ => Option.none

def stable (σ σ' : Objs) : Rd → Bool
  | .same ex o off n =>
    match Objs.get σ o, Objs.get σ' o with
    | some cs, some ds => decide (cs.length = ds.length) && (if ex then V.beqs ((cs.drop off).take n) ((ds.drop off).take n) else V.beqs (((cs.drop off).take n).map V.nogr) (((ds.drop off).take n).map V.nogr))
    | _, _ => false
  | .made o =>
    match Objs.get σ o, Objs.get σ' o with
    | some cs, some ds => V.beqs cs ds
    | _, _ => false
  | _ => true

/-- Cells that others may read, but not write, for a while. -/
def lockC (σ : Objs) : List (Nat × Nat) → Option Objs
  | [] => some σ
  | (o, off) :: r =>
    match Objs.get σ o with
    | some cs =>
      match cs[off]? with
      | some (.sl xs _) => lockC (σ.set o (.cells (cs.set off (.sl xs .lk)))) r
      | _ => none
    | none => none
def openC (σ : Objs) : List (Nat × Nat) → Option Objs
  | [] => some σ
  | (o, off) :: r =>
    match Objs.get σ o with
    | some cs =>
      match cs[off]? with
      | some (.sl xs .lk) => openC (σ.set o (.cells (cs.set off (.sl xs .no)))) r
      | _ => none
    | none => none

/-- Steps of a region that draws its order. -/
def evDrw (past : List Rd) : List DS → List V → Objs → Option (List V × Objs)
  | [], ρ, σ => some (ρ, σ)
  | d :: r, ρ, σ => do
    let seen := d.un.map fun k => past.getD k .none
    let taken := seen.filterMap Rd.cell
    let σ0 ← lockC σ taken
    let (ρ', σ1) ← evStep G call d.s ρ σ0
    let σ' ← openC σ1 taken
    if seen.all (stable σ σ') then
      evDrw (past ++ [if (wanted ρ d.s.gd).getD false then reads (arg G ρ) σ d.s.ins else .none]) r ρ' σ'
    else none

inductive Out where
  | norm | ex (id : Nat) | ret

abbrev Ran := Option (Out × List V × Objs)

def loopN (lin lout : List Nat) (n : Nat) (rd : List V → Objs → Ran) : Nat → List V → Objs → Ran
  | 0, _, _ => none
  | k + 1, ρ, σ =>
    match rd ρ σ with
    | none => none
    | some (.norm, ρ', σ') => do
      let ρ'' ← cutSlots n σ' lin 0 ρ'
      let σ'' ← cutObjs n σ'
      loopN lin lout n rd k ρ'' σ''
    | some (e, ρ', σ') => do
      let ρ'' ← cutSlots n σ' lout 0 ρ'
      let σ'' ← cutObjs n σ'
      some (e, ρ'', σ'')

def evCd (fuel : Nat) : Cd → List V → Objs → Ran
  | .skip, ρ, σ => some (.norm, ρ, σ)
  | .ret, ρ, σ => some (.ret, ρ, σ)
  | .exit id, ρ, σ => some (.ex id, ρ, σ)
  | .ops _ l, ρ, σ => (evSteps G call l ρ σ).map fun (ρ', σ') => (.norm, ρ', σ')
  | .drw _ l, ρ, σ => (evDrw G call [] l ρ σ).map fun (ρ', σ') => (.norm, ρ', σ')
  | .seq a b, ρ, σ =>
    match evCd fuel a ρ σ with
    | some (.norm, ρ', σ') => evCd fuel b ρ' σ'
    | r => r
  | .cond c a b, ρ, σ =>
    match arg G ρ c with
    | .bool true => evCd fuel a ρ σ
    | .bool false => evCd fuel b ρ σ
    | _ => none
  | .block id b, ρ, σ =>
    match evCd fuel b ρ σ with
    | some (.ex i, ρ', σ') => if i = id then some (.norm, ρ', σ') else some (.ex i, ρ', σ')
    | r => r
  | .loop lin lout b, ρ, σ => do
    let ρ' ← cutSlots σ.length σ lin 0 ρ
    loopN lin lout σ.length (evCd fuel b) fuel ρ' σ

def resV (ρ : List V) (σ : Objs) : Res → Option V
  | .tmp t => some (ρ.getD t .undef)
  | .cell t ag sz =>
    match ρ.getD t .undef with
    | .ptr o off => do
      let cs ← Objs.get σ o
      part ag sz cs off
    | _ => none

def results (keep : Bool) (ρ : List V) (σ : Objs) : List Res → Option V
  | [r] => do
    let v ← resV ρ σ r
    if v.one || agOk true v then some (keepIf keep v) else none
  | rs => do
    let vs ← rs.mapM (resV ρ σ)
    some (.tup (vs.map V.nogr))

/-- An object that a function hands on. -/
def leaves (n : Nat) (σ : Objs) (o : Nat) : Option (List V) := do
  let cs ← Objs.get σ o
  cs.mapM (fz n σ fzDepth)

def evFn (F : Fn) (fuel : Nat) (args : List V) (σ : Objs) : Option (V × Objs) := do
  let fin (ρ : List V) (σ' : Objs) : Option (V × Objs) := do
    let r ← results F.keep ρ σ' F.res
    let σ'' ← cutObjs σ.length σ'
    match F.esc, r with
    | true, .ptr o off => if o < σ.length then some (.ptr o off, σ'') else do
      let cs ← leaves σ.length σ' o
      some (.ptr σ.length off, σ'' ++ [.cells cs])
    | true, .hs o off len sz ag => if o < σ.length then some (.hs o off len sz ag, σ'') else do
      let cs ← leaves σ.length σ' o
      some (.hs σ.length off len sz ag, σ'' ++ [.cells cs])
    | true, .tup (.ptr o off :: vs) => do
      let vs' ← vs.mapM (fz σ.length σ' fzDepth)
      if o < σ.length then some (.tup (.ptr o off :: vs'), σ'') else do
      let cs ← leaves σ.length σ' o
      some (.tup (.ptr σ.length off :: vs'), σ'' ++ [.cells cs])
    | _, _ => do
      let r' ← fz σ.length σ' fzDepth r
      some (r', σ'')
  match ← evCd G call fuel F.body (args ++ List.replicate (F.nt - args.length) .undef) σ with
  | (.ret, ρ, σ') => fin ρ σ'
  | (.norm, ρ, σ') => fin ρ σ'
  | _ => none
end

structure Ctx where
  G : Nat → V
  code : FuncId → Option Fn
  prim : FuncId → Option (List V → Objs → Option (V × Objs))

def ev (C : Ctx) : Nat → FuncId → List V → Objs → Option (V × Objs)
  | 0, _, _, _ => none
  | n + 1, f, args, σ =>
    match C.prim f with
    | some h => h args σ
    | none =>
      match C.code f with
      | some F => evFn C.G (ev C n) F n args σ
      | none => none

end Go.Ev
