/- Part of a proof: the small language, and functions of the program on it. -/
import Derived.Orders
import Derived.Below
import Derived.Wp
import Derived.Laws.StructEq
import Derived.Laws.BytesString
import Derived.Laws.Pointers
import Derived.Great.BuildSlice
import Derived.Laws.MakeOwn
import Derived.Deep.AppendSrc
import Derived.Lib.ConvBytes
set_option linter.unusedSimpArgs false
set_option linter.unusedVariables false
set_option linter.unusedSectionVars false
namespace Go.Ev
inductive Cap where
 | no | fx | gr (sz : Nat) | lk
 deriving DecidableEq, Repr
inductive V where
 | any | undef
 | bool (b : Bool) | int (k : IntKind) (n : Int) | str (s : List UInt8)
 | nilp | ptr (o off : Nat) | eptr (cs : List V) (off : Nat)
 | nils | sl (xs : List V) (c : Cap) | hs (o off len sz : Nat) (ag : Bool)
 | agg (cs : List V) | tup (vs : List V)
 | ifc (t : TypeId) (x : V) | nili
 | fn (f : FuncId) (first caps : List V) | nilf
 | mp (o : Nat) | nilm
 deriving Repr
inductive O where
 | cells (cs : List V) | mp (es : List (V × V))
 deriving Repr
mutual
def V.beq : V → V → Bool
 | .any, .any | .undef, .undef | .nilp, .nilp | .nils, .nils | .nili, .nili | .nilf, .nilf | .nilm, .nilm => true
 | .bool a, .bool b => a == b
 | .int k a, .int j b => decide (k = j) && a == b
 | .str a, .str b => decide (a = b)
 | .ptr a i, .ptr b j => a == b && i == j
 | .eptr a i, .eptr b j => V.beqs a b && i == j
 | .sl a i, .sl b j => V.beqs a b && decide (i = j)
 | .hs a b c d e, .hs a' b' c' d' e' => a == a' && b == b' && c == c' && d == d' && e == e'
 | .agg a, .agg b => V.beqs a b
 | .tup a, .tup b => V.beqs a b
 | .ifc t a, .ifc u b => t == u && V.beq a b
 | .fn f a b, .fn g c d => f == g && V.beqs a c && V.beqs b d
 | .mp a, .mp b => a == b
 | _, _ => false
def V.beqs : List V → List V → Bool
 | [], [] => true
 | x :: xs, y :: ys => V.beq x y && V.beqs xs ys
 | _, _ => false
end
mutual
def V.rb (n : Nat) : V → Bool
 | .ptr o _ => decide (o < n)
 | .hs o _ _ _ _ => decide (o < n)
 | .mp o => decide (o < n)
 | .eptr cs _ => V.rbs n cs
 | .sl xs _ => V.rbs n xs
 | .agg cs => V.rbs n cs
 | .tup cs => V.rbs n cs
 | .ifc _ x => V.rb n x
 | .fn _ a b => V.rbs n a && V.rbs n b
 | _ => true
def V.rbs (n : Nat) : List V → Bool
 | [] => true
 | x :: xs => V.rb n x && V.rbs n xs
end
def V.ng : V → V
 | .sl xs _ => .sl xs .no
 | x => x
def V.isLk : V → Bool
 | .sl _ .lk => true
 | _ => false
def V.cells : V → List V
 | .agg cs => cs
 | x => [x]
def V.one : V → Bool
 | .any | .undef | .agg _ | .tup _ => false
 | _ => true
def part (ag : Bool) (sz : Nat) (cs : List V) (off : Nat) : Option V :=
 if ag then (if off + sz ≤ cs.length then some (.agg (((cs.drop off).take sz).map V.ng)) else none)
 else if sz = 1 then cs[off]?.map V.ng else none
def Qcd : List V → Nat → List V → List V
 | cs, _, [] => cs
 | [], _, _ => []
 | _ :: cs, 0, x :: xs => x :: Qcd cs 0 xs
 | c :: cs, n + 1, xs => c :: Qcd cs n xs
def chunks (ag : Bool) (sz : Nat) (cs : List V) : Nat → Nat → Option (List V)
 | 0, _ => some []
 | n + 1, off => do
  let x ← part ag sz cs off
  let xs ← chunks ag sz cs n (off + sz)
  pure (x :: xs)
abbrev Objs := List O
def Objs.get (σ : Objs) (o : Nat) : Option (List V) :=
 match σ[o]? with
 | some (.cells cs) => some cs
 | _ => none
def fz (n : Nat) (σ : Objs) : Nat → V → Option V
 | 0, x => if x.rb n then some x else none
 | f + 1, x =>
  if x.rb n then some x else
  match x with
  | .ptr o off => do
   let cs ← Objs.get σ o
   let ds ← cs.mapM (fz n σ f)
   pure (.eptr ds off)
  | .hs o off len sz ag => do
   let cs ← Objs.get σ o
   let xs ← chunks ag sz cs len off
   let ys ← xs.mapM (fz n σ f)
   pure (.sl ys .no)
  | .eptr cs off => do pure (.eptr (← cs.mapM (fz n σ f)) off)
  | .sl xs c => do pure (.sl (← xs.mapM (fz n σ f)) c)
  | .agg cs => do pure (.agg (← cs.mapM (fz n σ f)))
  | .tup cs => do pure (.tup (← cs.mapM (fz n σ f)))
  | .ifc t x => do pure (.ifc t (← fz n σ f x))
  | .fn g a b => do pure (.fn g (← a.mapM (fz n σ f)) (← b.mapM (fz n σ f)))
  | _ => none
def fzD : Nat := 40
def fzO (n : Nat) (σ : Objs) : O → Option O
 | .cells cs => if V.rbs n cs then some (.cells cs) else (cs.mapM (fz n σ fzD)).map O.cells
 | .mp es => if V.rbs n (es.map Prod.fst) && V.rbs n (es.map Prod.snd) then some (.mp es) else none
def cuO (n : Nat) (σ : Objs) : Option Objs := (σ.take n).mapM (fzO n σ)
def Qas (n : Nat) (σ : Objs) (live : List Nat) : Nat → List V → Option (List V)
 | _, [] => some []
 | i, x :: xs => do
  let y ← if live.contains i then fz n σ fzD x else some .any
  let ys ← Qas n σ live (i + 1) xs
  pure (y :: ys)
inductive Arg where
 | t (n : Nat) | c (x : V) | g (n : Nat) | f (id : FuncId)
 deriving Repr
inductive CK where
 | b | i | s
 deriving Repr, DecidableEq
inductive EqK where
 | no | bool | ptr | row | ifc | fn | mp | agg (ks : List CK)
 deriving Repr, DecidableEq
inductive Conv where
 | toInt (k : IntKind) | same | intStr | strBytes | bytesStr | bytesStrN
 deriving Repr, DecidableEq
inductive Ins where
 | mv (x : Arg) (tk : Bool)
 | pick (c a b : Arg)
 | alloc (z : List V)
 | box (x : Arg)
 | build (z : List V) (parts : List (Nat × Nat × Arg))
 | buildSl (ag : Bool) (sz len : Nat) (z : V) (parts : List (Nat × Arg)) (h : Bool)
 | load (ag : Bool) (sz : Nat) (x : Arg)
 | loadT (x : Arg)
 | store (sz : Nat) (p x : Arg) (tk : Bool)
 | nilc (x : Arg)
 | bin (op : BinOp) (k : EqK) (x y : Arg)
 | un (op : UnOp) (x : Arg)
 | conv (k : Conv) (x : Arg)
 | cutS (x : Arg) (lo hi : Option Arg)
 | cut (sz : Nat) (x : Arg) (lo hi mx : Option Arg)
 | cutA (n sz : Nat) (ag : Bool) (x : Arg) (lo hi : Option Arg)
 | faddr (off : Nat) (x : Arg)
 | field (ag : Bool) (off sz : Nat) (x : Arg)
 | iaddr (sz : Nat) (x i : Arg)
 | iaddrA (n sz : Nat) (x i : Arg)
 | idx (x i : Arg)
 | idxA (n : Nat) (ag : Bool) (sz : Nat) (x i : Arg)
 | lenS (x : Arg)
 | len (x : Arg)
 | app (str ag : Bool) (sz bytes : Nat) (x y : Arg) (tk : Bool)
 | appH (str ag : Bool) (sz bytes : Nat) (x y : Arg)
 | bytesH (x : Arg)
 | call (f : FuncId) (args : List Arg)
 | callv (x : Arg) (args : List Arg)
 | mkfn (f : FuncId) (first caps : List Arg)
 | mkif (t : TypeId) (x : Arg)
 | extr (x : Arg) (i : Nat)
 | mkSl (ag : Bool) (sz bytes : Nat) (z : V) (l c : Arg) (h : Bool)
 | mm (mx : Bool) (args : List Arg)
 | mkmp
 | mset (m k x : Arg)
 | mget (z : V) (m k : Arg) (ok : Bool)
 | buildG (ag : Bool) (sz len : Nat) (z : V) (parts : List (Nat × Arg))
 | mark (x : Arg)
 deriving Repr
structure Step where
 dst : Option Nat
 gd : Option (Nat × Bool)
 ins : Ins
 deriving Repr
structure DS where
 s : Step
 op : Nat
 un : List Nat
 deriving Repr
inductive Cd where
 | skip | ret
 | ops (k : Nat) (l : List Step)
 | drw (k : Nat) (l : List DS)
 | seq (a b : Cd)
 | cond (c : Arg) (a b : Cd)
 | block (id : Nat) (b : Cd)
 | loop (lin lout : List Nat) (b : Cd)
 | exit (id : Nat)
 deriving Repr
inductive Res where
 | tmp (t : Nat) | cell (t : Nat) (ag : Bool) (sz : Nat)
 deriving Repr
structure Fn where
 nt : Nat
 res : List Res
 keep : Bool
 esc : Bool
 body : Cd
 deriving Repr
def bytesLess : List UInt8 → List UInt8 → Bool
 | _, [] => false
 | [], _ :: _ => true
 | a :: x, b :: y => a < b || (a == b && bytesLess x y)
def Qk6 : V → V → Option Bool
 | .bool a, .bool b => some (a == b)
 | .int k a, .int j b => if k = j then some (a == b) else none
 | .str a, .str b => some (decide (a = b))
 | _, _ => none
def Qdp : CK → V → V → Option Bool
 | .b, .bool a, .bool b => some (a == b)
 | .i, .int k a, .int j b => if k = j then some (a == b) else none
 | .s, .str a, .str b => some (decide (a = b))
 | _, _, _ => none
def Qa8 : List CK → List V → List V → Option Bool
 | [], [], [] => some true
 | k :: ks, x :: xs, y :: ys => do
  let a ← Qdp k x y
  let b ← Qa8 ks xs ys
  pure (a && b)
 | _, _, _ => none
def eqV (k : EqK) (x y : V) : Option Bool :=
 match k, x, y with
 | .bool, .bool a, .bool b => some (a == b)
 | .ptr, .nilp, .nilp => some true
 | .ptr, .nilp, .ptr _ _ | .ptr, .ptr _ _, .nilp | .ptr, .nilp, .eptr _ _ | .ptr, .eptr _ _, .nilp => some false
 | .row, .nils, .nils => some true
 | .row, .nils, .sl _ _ | .row, .sl _ _, .nils | .row, .nils, .hs .. | .row, .hs .., .nils => some false
 | .ifc, .nili, .nili => some true
 | .ifc, .nili, .ifc _ _ | .ifc, .ifc _ _, .nili => some false
 | .fn, .nilf, .nilf => some true
 | .fn, .nilf, .fn .. | .fn, .fn .., .nilf => some false
 | .mp, .nilm, .nilm => some true
 | .mp, .nilm, .mp _ | .mp, .mp _, .nilm => some false
 | .agg ks, .agg a, .agg b => Qa8 ks a b
 | _, _, _ => none
def Qt3 : Nat := 4611686018427387904
def Qb0 : Nat := 140737488355328
def eB (op : BinOp) (e : EqK) (x y : V) : Option V :=
 match x, y with
 | .int k a, .int j b =>
  match op with
  | .shl => if b < 0 then none else some (.int k (k.wrap (a * 2 ^ (min b.toNat k.bits))))
  | .shr => if b < 0 then none else some (.int k (a.fdiv (2 ^ (min b.toNat k.bits))))
  | _ => if k = j then
   match op with
   | .add => some (.int k (k.wrap (a + b)))
   | .sub => some (.int k (k.wrap (a - b)))
   | .mul => some (.int k (k.wrap (a * b)))
   | .quo => if b = 0 then none else some (.int k (k.wrap (a.tdiv b)))
   | .rem => if b = 0 then none else some (.int k (a.tmod b))
   | .and => some (.int k (k.wrap (BitVec.ofInt k.bits a &&& BitVec.ofInt k.bits b).toNat))
   | .or => some (.int k (k.wrap (BitVec.ofInt k.bits a ||| BitVec.ofInt k.bits b).toNat))
   | .xor => some (.int k (k.wrap (BitVec.ofInt k.bits a ^^^ BitVec.ofInt k.bits b).toNat))
   | .andNot => some (.int k (k.wrap (BitVec.ofInt k.bits a &&& ~~~ BitVec.ofInt k.bits b).toNat))
   | .eql => some (.bool (a == b))
   | .neq => some (.bool (a != b))
   | .lss => some (.bool (decide (a < b)))
   | .leq => some (.bool (decide (a ≤ b)))
   | .gtr => some (.bool (decide (a > b)))
   | .geq => some (.bool (decide (a ≥ b)))
   | _ => none
   else none
 | .str a, .str b =>
  match op with
  | .add => if a.length + b.length ≤ Qt3 then some (.str (a ++ b)) else none
  | .eql => some (.bool (decide (a = b)))
  | .neq => some (.bool (!decide (a = b)))
  | .lss => some (.bool (bytesLess a b))
  | .leq => some (.bool (bytesLess a b || decide (a = b)))
  | .gtr => some (.bool (!(bytesLess a b || decide (a = b))))
  | .geq => some (.bool (!bytesLess a b))
  | _ => none
 | x, y =>
  match op with
  | .eql => (eqV e x y).map V.bool
  | .neq => (eqV e x y).map fun b => .bool (!b)
  | _ => none
def evUn (op : UnOp) (x : V) : Option V :=
 match op, x with
 | .neg, .int k n => some (.int k (k.wrap (0 - n)))
 | .xor, .int k n => some (.int k (k.wrap (BitVec.ofInt k.bits (if k.signed then -1 else k.max) ^^^ BitVec.ofInt k.bits n).toNat))
 | .not, .bool b => some (.bool !b)
 | _, _ => none
def bytesOf : List V → Option (List UInt8)
 | [] => some []
 | .int .u8 n :: xs => do
  let bs ← bytesOf xs
  pure (UInt8.ofNat n.toNat :: bs)
 | _ => none
def Qad (s : List UInt8) : List V := s.map fun b => .int .u8 b.toNat
def Qh3 (σ : Objs) : V → Option (List V)
 | .nils => some []
 | .sl xs _ => some xs
 | .hs o off len sz ag => do
  let cs ← Objs.get σ o
  chunks ag sz cs len off
 | _ => none
def Qes (str : Bool) (σ : Objs) (x : V) : Option (List V) :=
 if str then (match x with | .str s => some (Qad s) | _ => none) else Qh3 σ x
def eC (σ : Objs) (k : Conv) (x : V) : Option V :=
 match k, x with
 | .toInt k, .int _ n => some (.int k (k.wrap n))
 | .same, .str s => some (.str s)
 | .intStr, .int _ n => some (.str (Utf8.encode n).data.toList)
 | .strBytes, .str s => some (.sl (Qad s) (.gr 1))
 | .bytesStr, .nils => some (.str [])
 | .bytesStr, .sl xs _ => (bytesOf xs).map V.str
 | .bytesStrN, .nils => some (.str [])
 | .bytesStrN, .sl xs _ => (bytesOf xs).map V.str
 | .bytesStr, .hs o off len sz ag => do
  let xs ← Qh3 σ (.hs o off len sz ag)
  (bytesOf xs).map V.str
 | _, _ => none
def bound (x : V) (hi : Nat) : Option Nat :=
 match x with
 | .int _ i => if 0 ≤ i ∧ i ≤ hi then some i.toNat else none
 | _ => none
def bounds (len : Nat) (lo hi mx : Option V) : Option (Nat × Nat × Option Nat) := do
 let m ← match mx with | some v => (bound v len).map some | none => some none
 let h ← match hi with | some v => bound v (m.getD len) | none => some len
 let l ← match lo with | some v => bound v h | none => some 0
 pure (l, h, m)
def Qgk (x : V) (lo hi : Option V) : Option V :=
 match x with
 | .str s => do
  let (l, h, _) ← bounds s.length lo hi none
  some (.str ((s.drop l).take (h - l)))
 | _ => none
def Qbb (sz : Nat) (x : V) (lo hi mx : Option V) : Option V :=
 match x with
 | .nils => do
  let (_, _, _) ← bounds 0 lo hi mx
  some .nils
 | .sl xs _ => do
  let (l, h, m) ← bounds xs.length lo hi mx
  if xs.all (fun y => decide (y.cells.length = sz)) then some (.sl ((xs.drop l).take (h - l)) (if m = some h then .fx else .no)) else none
 | .hs o off len s ag => do
  let (l, h, _) ← bounds len lo hi mx
  if s = sz then some (if l = h then .sl [] .no else .hs o (off + l * sz) (h - l) sz ag) else none
 | _ => none
def Qal (cs : List V) : Bool := cs.all V.one
def Qe0 (n sz : Nat) (ag : Bool) (x : V) (lo hi : Option V) : Option V := do
 let (l, h, _) ← bounds n lo hi none
 match x with
 | .ptr o off => some (if l = h then .sl [] .no else .hs o (off + l * sz) (h - l) sz ag)
 | .eptr cs off => do
  let xs ← chunks ag sz cs (h - l) (off + l * sz)
  if Qal cs then some (.sl xs .no) else none
 | _ => none
def index (i : V) (n : Nat) : Option Nat :=
 match i with
 | .int _ i => if 0 ≤ i ∧ i < n then some i.toNat else none
 | _ => none
def Qjm (mx : Bool) : V → List V → Option V
 | x, [] => some x
 | .int k a, .int j b :: r => if k = j then Qjm mx (.int k (if mx then (if b > a then b else a) else (if b < a then b else a))) r else none
 | _, _ => none
def agOk (ag : Bool) : V → Bool
 | .agg _ => ag
 | _ => !ag
def lay (z : List V) : List (Nat × Nat × V) → Option (List V)
 | [] => some z
 | (off, sz, x) :: r =>
  if x.cells.length = sz ∧ off + sz ≤ z.length ∧ Qal x.cells then lay (Qcd z off (x.cells.map V.ng)) r else none
def Qc9 (sz : Nat) (z : List V) : List (Nat × V) → Option (List V)
 | [] => some z
 | (i, x) :: r => if x.cells.length = sz ∧ i < z.length ∧ Qal x.cells then Qc9 sz (z.set i x.ng) r else none
def Qe8 : V → Option Int
 | .int _ n => some n
 | _ => none
def mfind (k : V) : List (V × V) → Option (Option V)
 | [] => some none
 | (k', x) :: r => do
  let b ← Qk6 k k'
  if b then some (some x) else mfind k r
def mput (k x : V) : List (V × V) → Option (List (V × V))
 | [] => some [(k, x)]
 | (k', y) :: r => do
  let b ← Qk6 k k'
  if b then some ((k, x) :: r) else
  let r' ← mput k x r
  some ((k', y) :: r')
structure GV where
 g : Nat → V
 ex : List (Nat × Nat × Value)
instance : CoeFun GV (fun _ => Nat → V) := ⟨GV.g⟩
section
variable (G : GV) (call : FuncId → List V → Objs → Option (V × Objs))
def argT (ρ : List V) : Arg → V
 | .t n => ρ.getD n .undef
 | .c x => x
 | .g n => G n
 | .f id => .fn id [] []
def arg (ρ : List V) (x : Arg) : V := (argT G ρ x).ng
def Qnf (tk : Bool) (x : V) : V := if tk then x else x.ng
def unslot (ρ : List V) (x : Arg) (tk : Bool) : List V :=
 match x, tk with
 | .t n, true => ρ.set n (ρ.getD n .undef).ng
 | _, _ => ρ
def put (ρ : List V) (d : Option Nat) (x : V) : List V :=
 match d with
 | some d => ρ.set d x
 | none => ρ
def Ins.takes : Ins → Arg × Bool
 | .mv x tk => (x, tk)
 | .store _ _ x tk => (x, tk)
 | .app _ _ _ _ x _ tk => (x, tk)
 | .mark x => (x, true)
 | _ => (.c .undef, false)
def eL (σ : Objs) (ag : Bool) (sz : Nat) : V → Option V
 | .ptr o off => do
  let cs ← Objs.get σ o
  part ag sz cs off
 | .eptr cs off => part ag sz cs off
 | _ => none
def eF (off : Nat) : V → Option V
 | .ptr o a => some (.ptr o (a + off))
 | .eptr cs a => some (.eptr cs (a + off))
 | _ => none
def Qgs (ag : Bool) (off sz : Nat) : V → Option V
 | .agg cs => part ag sz cs off
 | _ => none
def eI (sz : Nat) (i : V) : V → Option V
 | .sl xs _ => do
  let j ← index i xs.length
  let e ← xs[j]?
  if e.cells.length = sz then some (.eptr e.cells 0) else none
 | .hs o off len s _ => do
  let j ← index i len
  if s = sz then some (.ptr o (off + j * sz)) else none
 | _ => none
def Qcq (n sz : Nat) (i x : V) : Option V := do
 let j ← index i n
 match x with
 | .ptr o a => some (.ptr o (a + j * sz))
 | .eptr cs a => some (.eptr cs (a + j * sz))
 | _ => none
def Qlz (i : V) : V → Option V
 | .str s => do
  let j ← index i s.length
  let b ← s[j]?
  some (.int .u8 b.toNat)
 | _ => none
def Qk7 (n : Nat) (ag : Bool) (sz : Nat) (i x : V) : Option V := do
 let j ← index i n
 match x with
 | .agg cs => part ag sz cs (j * sz)
 | _ => none
def eX (i : Nat) : V → Option V
 | .tup vs => vs[i]?
 | _ => none
def Qe1 : V → Option V
 | .str s => some (.int .i64 s.length)
 | _ => none
def Qan : V → Option V
 | .nils => some (.int .i64 0)
 | .sl xs _ => some (.int .i64 xs.length)
 | .hs _ _ len _ _ => some (.int .i64 len)
 | _ => none
def Qa9 : V → Option V
 | .ptr o off => some (.ptr o off)
 | .eptr cs off => some (.eptr cs off)
 | .fn f a b => some (.fn f a b)
 | _ => none
def Qay (A : Arg → V) (σ : Objs) : Ins → Option V
 | .pick c a b =>
  match A c with
  | .bool t => some (if t then A a else A b)
  | _ => none
 | .build z parts => (lay z (parts.map fun (o, s, x) => (o, s, A x))).map V.agg
 | .nilc x => Qa9 (A x)
 | .bin op k x y => eB op k (A x) (A y)
 | .un op x => evUn op (A x)
 | .conv k x => eC σ k (A x)
 | .cutS x lo hi => Qgk (A x) (lo.map A) (hi.map A)
 | .cut sz x lo hi mx => Qbb sz (A x) (lo.map A) (hi.map A) (mx.map A)
 | .cutA n sz ag x lo hi => Qe0 n sz ag (A x) (lo.map A) (hi.map A)
 | .load ag sz x => eL σ ag sz (A x)
 | .faddr off x => eF off (A x)
 | .field ag off sz x => Qgs ag off sz (A x)
 | .iaddr sz x i => eI sz (A i) (A x)
 | .iaddrA n sz x i => Qcq n sz (A i) (A x)
 | .idx x i => Qlz (A i) (A x)
 | .idxA n ag sz x i => Qk7 n ag sz (A i) (A x)
 | .lenS x => Qe1 (A x)
 | .len x => Qan (A x)
 | .mkfn f first caps => some (.fn f (first.map A) (caps.map A))
 | .mkif t x => some (.ifc t (A x))
 | .extr x i => eX i (A x)
 | .mm mx args =>
  match args.map A with
  | x :: r => if (Qe8 x).isSome then Qjm mx x r else none
  | [] => none
 | .mget z m k ok => do
  let r ← match A m with
   | .nilm => some none
   | .mp o => (match σ[o]? with | some (.mp es) => mfind (A k) es | _ => none)
   | _ => none
  let x := r.getD z
  some (if ok then .tup [x, .bool r.isSome] else x)
 | _ => none
def Qcz (ag : Bool) (sz : Nat) (ys : List V) : Bool := ys.all fun y => decide (y.cells.length = sz) && Qal y.cells && agOk ag y
def Qdi (ag : Bool) (sz bytes : Nat) (x : V) (ys : List V) : Option V :=
 if Qcz ag sz ys then
  match x with
  | .nils => if ys = [] then some .nils else if ys.length * bytes ≤ Qb0 then some (.sl ys (.gr sz)) else none
  | .sl xs c =>
   match ys with
   | [] => some (.sl xs c)
   | _ :: _ =>
    if (c = .fx ∨ c = .gr sz) ∧ xs.all (fun y => decide (y.cells.length = sz)) ∧ (xs.length + ys.length) * bytes ≤ Qb0 then some (.sl (xs ++ ys) (.gr sz)) else none
  | _ => none
 else none
def Qaw (A T : Arg → V) (σ : Objs) : Ins → Option (V × Objs)
 | .mv x tk => some (if tk then T x else A x, σ)
 | .alloc z => if Qal z then some (.ptr σ.length 0, σ ++ [.cells z]) else none
 | .box x =>
  let cs := (A x).cells
  if Qal cs then some (.ptr σ.length 0, σ ++ [.cells (cs.map V.ng)]) else none
 | .buildSl ag sz len z parts h => do
  let xs ← Qc9 sz (List.replicate len z) (parts.map fun (i, x) => (i, A x))
  if Qcz ag sz xs then
   if h then some (.hs σ.length 0 len sz ag, σ ++ [.cells ((xs.flatMap V.cells).map V.ng)])
   else some (.sl xs .fx, σ)
  else none
 | .buildG ag sz len z parts => do
  let xs ← Qc9 sz (List.replicate len z) (parts.map fun (i, x) => (i, A x))
  if Qcz ag sz xs then some (.sl xs (.gr sz), σ) else none
 | .mark x =>
  match T x with
  | .sl xs (.gr _) => some (.sl xs .no, σ)
  | _ => none
 | .store sz p x tk =>
  match A p with
  | .ptr o off => do
   let cs ← Objs.get σ o
   let v := A x
   let ds := v.cells
   if ds.length = sz ∧ off + sz ≤ cs.length ∧ Qal ds then
    match v with
    | .agg _ => some (.undef, σ.set o (.cells (Qcd cs off (ds.map V.ng))))
    | _ => if (if tk then T x else v).isLk then none else some (.undef, σ.set o (.cells (cs.set off (if tk then T x else v))))
   else none
  | _ => none
 | .loadT x =>
  match A x with
  | .ptr o off => do
   let cs ← Objs.get σ o
   let v ← cs[off]?
   match v with
   | .sl xs (.gr s) => some (.sl xs (.gr s), σ.set o (.cells (cs.set off (.sl xs .no))))
   | .sl _ .lk => none
   | v => some (v, σ)
  | .eptr cs off => do
   let v ← cs[off]?
   some (v.ng, σ)
  | _ => none
 | .app str ag sz bytes x y tk => do
  let ys ← Qes str σ (A y)
  let v ← Qdi ag sz bytes (if tk then T x else A x) ys
  some (v, σ)
 | .appH str ag sz bytes x y => do
  let ys ← Qes str σ (A y)
  match ys with
  | [] => do
   let v ← Qdi ag sz bytes (A x) []
   some (v.ng, σ)
  | _ :: _ => do
   let v ← Qdi ag sz bytes (A x) ys
   match v with
   | .sl xs _ => some (.hs σ.length 0 xs.length sz ag, σ ++ [.cells ((xs.flatMap V.cells).map V.ng)])
   | _ => none
 | .bytesH x =>
  match A x with
  | .str b => some (.hs σ.length 0 b.length 1 false, σ ++ [.cells (Qad b)])
  | _ => none
 | .mkSl ag sz bytes z l c h => do
  let l ← Qe8 (A l)
  let c ← Qe8 (A c)
  if 0 ≤ l ∧ l ≤ c ∧ c * bytes ≤ Qb0 ∧ z.cells.length = sz ∧ Qal z.cells ∧ agOk ag z then
   if h then
    some (.hs σ.length 0 l.toNat sz ag, σ ++ [.cells ((List.replicate c.toNat z).flatMap V.cells)])
   else some (.sl (List.replicate l.toNat z) (if l = c then .fx else .gr sz), σ)
  else none
 | .mkmp => some (.mp σ.length, σ ++ [.mp []])
 | .mset m k x =>
  match A m with
  | .mp o =>
   match σ[o]? with
   | some (.mp es) => do
    let es' ← mput (A k) (A x) es
    some (.undef, σ.set o (.mp es'))
   | _ => none
  | _ => none
 | .call f args => call f (args.map A) σ
 | .callv x args =>
  match A x with
  | .fn f first caps => call f (((first ++ args.map A) ++ caps).map V.ng) σ
  | _ => none
 | .conv .strBytes x => do
  let v ← eC σ .strBytes (A x)
  some (v, σ)
 | i => do
  let v ← Qay A σ i
  some (v.ng, σ)
def ev1 (s : Step) (ρ : List V) (σ : Objs) : Option (List V × Objs) := do
 let (v, σ') ← Qaw call (arg G ρ) (argT G ρ) σ s.ins
 some (put (unslot ρ s.ins.takes.1 s.ins.takes.2) s.dst v, σ')
def wanted (ρ : List V) : Option (Nat × Bool) → Option Bool
 | none => some true
 | some (g, b) =>
  match ρ.getD g .undef with
  | .bool t => some (t == b)
  | .undef => some false
  | _ => none
def Qbq (s : Step) (ρ : List V) (σ : Objs) : Option (List V × Objs) := do
 if ← wanted ρ s.gd then ev1 G call s ρ σ else some (put ρ s.dst .undef, σ)
def Qcr : List Step → List V → Objs → Option (List V × Objs)
 | [], ρ, σ => some (ρ, σ)
 | s :: r, ρ, σ => do
  let (ρ', σ') ← Qbq G call s ρ σ
  Qcr r ρ' σ'
inductive Rd where
 | none | same (ex : Bool) (o off n : Nat) | made (o : Nat) | took (o off : Nat)
def reads (A : Arg → V) (σ : Objs) : Ins → Rd
 | .load ag sz x => match A x with | .ptr o off => .same false o off (if ag then sz else 1) | _ => .none
 | .loadT x =>
  match A x with
  | .ptr o off =>
   match (Objs.get σ o).bind (·[off]?) with
   | some (.sl _ (.gr _)) => .took o off
   | _ => .same true o off 1
  | _ => .none
 | .alloc _ | .box _ => .made σ.length
 | _ => .none
def Rd.cell : Rd → Option (Nat × Nat)
 | .took o off => some (o, off)
 | _ => Option.none
def stable (σ σ' : Objs) : Rd → Bool
 | .same ex o off n =>
  match Objs.get σ o, Objs.get σ' o with
  | some cs, some ds => decide (cs.length = ds.length) && (if ex then V.beqs ((cs.drop off).take n) ((ds.drop off).take n) else V.beqs (((cs.drop off).take n).map V.ng) (((ds.drop off).take n).map V.ng))
  | _, _ => false
 | .made o =>
  match Objs.get σ o, Objs.get σ' o with
  | some cs, some ds => V.beqs cs ds
  | _, _ => false
 | _ => true
def Qgg (σ : Objs) : List (Nat × Nat) → Option Objs
 | [] => some σ
 | (o, off) :: r =>
  match Objs.get σ o with
  | some cs =>
   match cs[off]? with
   | some (.sl xs _) => Qgg (σ.set o (.cells (cs.set off (.sl xs .lk)))) r
   | _ => none
  | none => none
def Qef (σ : Objs) : List (Nat × Nat) → Option Objs
 | [] => some σ
 | (o, off) :: r =>
  match Objs.get σ o with
  | some cs =>
   match cs[off]? with
   | some (.sl xs .lk) => Qef (σ.set o (.cells (cs.set off (.sl xs .no)))) r
   | _ => none
  | none => none
def Qgh (past : List Rd) : List DS → List V → Objs → Option (List V × Objs)
 | [], ρ, σ => some (ρ, σ)
 | d :: r, ρ, σ => do
  let seen := d.un.map fun k => past.getD k .none
  let taken := seen.filterMap Rd.cell
  let σ0 ← Qgg σ taken
  let (ρ', σ1) ← Qbq G call d.s ρ σ0
  let σ' ← Qef σ1 taken
  if seen.all (stable σ σ') then
   Qgh (past ++ [if (wanted ρ d.s.gd).getD false then reads (arg G ρ) σ d.s.ins else .none]) r ρ' σ'
  else none
inductive Out where
 | norm | ex (id : Nat) | ret
abbrev Ran := Option (Out × List V × Objs)
def Qi5 (lin lout : List Nat) (n : Nat) (rd : List V → Objs → Ran) : Nat → List V → Objs → Ran
 | 0, _, _ => none
 | k + 1, ρ, σ =>
  match rd ρ σ with
  | none => none
  | some (.norm, ρ', σ') => do
   let ρ'' ← Qas n σ' lin 0 ρ'
   let σ'' ← cuO n σ'
   Qi5 lin lout n rd k ρ'' σ''
  | some (e, ρ', σ') => do
   let ρ'' ← Qas n σ' lout 0 ρ'
   let σ'' ← cuO n σ'
   some (e, ρ'', σ'')
def evCd (fuel : Nat) : Cd → List V → Objs → Ran
 | .skip, ρ, σ => some (.norm, ρ, σ)
 | .ret, ρ, σ => some (.ret, ρ, σ)
 | .exit id, ρ, σ => some (.ex id, ρ, σ)
 | .ops _ l, ρ, σ => (Qcr G call l ρ σ).map fun (ρ', σ') => (.norm, ρ', σ')
 | .drw _ l, ρ, σ => (Qgh G call [] l ρ σ).map fun (ρ', σ') => (.norm, ρ', σ')
 | .seq a b, ρ, σ =>
  match evCd fuel a ρ σ with
  | some (.norm, ρ', σ') => evCd fuel b ρ' σ'
  | r => r
 | .cond c a b, ρ, σ =>
  match arg G ρ c with
  | .bool true => evCd fuel a ρ σ
  | .bool false => evCd fuel b ρ σ
  | _ => none
 | .block id b, ρ, σ =>
  match evCd fuel b ρ σ with
  | some (.ex i, ρ', σ') => if i = id then some (.norm, ρ', σ') else some (.ex i, ρ', σ')
  | r => r
 | .loop lin lout b, ρ, σ => do
  let ρ' ← Qas σ.length σ lin 0 ρ
  Qi5 lin lout σ.length (evCd fuel b) fuel ρ' σ
def resV (ρ : List V) (σ : Objs) : Res → Option V
 | .tmp t => some (ρ.getD t .undef)
 | .cell t ag sz =>
  match ρ.getD t .undef with
  | .ptr o off => do
   let cs ← Objs.get σ o
   part ag sz cs off
  | _ => none
def results (keep : Bool) (ρ : List V) (σ : Objs) : List Res → Option V
 | [r] => do
  let v ← resV ρ σ r
  if v.one || agOk true v then some (Qnf keep v) else none
 | rs => do
  let vs ← rs.mapM (resV ρ σ)
  some (.tup (vs.map V.ng))
def leaves (n : Nat) (σ : Objs) (o : Nat) : Option (List V) := do
 let cs ← Objs.get σ o
 cs.mapM (fz n σ fzD)
def evFn (F : Fn) (fuel : Nat) (args : List V) (σ : Objs) : Option (V × Objs) := do
 let fin (ρ : List V) (σ' : Objs) : Option (V × Objs) := do
  let r ← results F.keep ρ σ' F.res
  let σ'' ← cuO σ.length σ'
  match F.esc, r with
  | true, .ptr o off => if o < σ.length then some (.ptr o off, σ'') else do
   let cs ← leaves σ.length σ' o
   some (.ptr σ.length off, σ'' ++ [.cells cs])
  | true, .hs o off len sz ag => if o < σ.length then some (.hs o off len sz ag, σ'') else do
   let cs ← leaves σ.length σ' o
   some (.hs σ.length off len sz ag, σ'' ++ [.cells cs])
  | true, .tup (.ptr o off :: vs) => do
   let vs' ← vs.mapM (fz σ.length σ' fzD)
   if o < σ.length then some (.tup (.ptr o off :: vs'), σ'') else do
   let cs ← leaves σ.length σ' o
   some (.tup (.ptr σ.length off :: vs'), σ'' ++ [.cells cs])
  | _, _ => do
   let r' ← fz σ.length σ' fzD r
   some (r', σ'')
 match ← evCd G call fuel F.body (args ++ List.replicate (F.nt - args.length) .undef) σ with
 | (.ret, ρ, σ') => fin ρ σ'
 | (.norm, ρ, σ') => fin ρ σ'
 | _ => none
end
structure Ctx where
 G : GV
 code : FuncId → Option Fn
 prim : FuncId → Option (List V → Objs → Option (V × Objs))
def ev (C : Ctx) : Nat → FuncId → List V → Objs → Option (V × Objs)
 | 0, _, _, _ => none
 | n + 1, f, args, σ =>
  match C.prim f with
  | some h => h args σ
  | none =>
   match C.code f with
   | some F => evFn C.G (ev C n) F n args σ
   | none => none
end Go.Ev
namespace Go.Ev
open Go
abbrev Mem := Nat → Nat → Option Value
abbrev Plc := Nat → Option Nat
inductive Rep (M : Mem) (ι : Plc) : Value → V → Prop
 | any (v : Value) : Rep M ι v .any
 | undef : Rep M ι (.tuple #[]) .undef
 | bool (b : Bool) : Rep M ι (.bool b) (.bool b)
 | int (k : IntKind) (n : Int) : Rep M ι (.int k n) (.int k n)
 | str (s : ByteArray) (l : List UInt8) (h : s.data.toList = l) : Rep M ι (.string s) (.str l)
 | nilp : Rep M ι (.pointer none) .nilp
 | ptr (o off b : Nat) (h : ι o = some b) : Rep M ι (.pointer (some ⟨b, off, none⟩)) (.ptr o off)
 | eptr (cs : List V) (off b base : Nat) (us : List Value) (hl : us.length = cs.length)
   (hm : ∀ (i : Nat) u, us[i]? = some u → M b (base + i) = some u) (hr : ∀ (i : Nat) u c, us[i]? = some u → cs[i]? = some c → Rep M ι u c) :
   Rep M ι (.pointer (some ⟨b, base + off, none⟩)) (.eptr cs off)
 | nils : Rep M ι (.slice none 0 0) .nils
 | sl (xs : List V) (c : Cap) (b off cap sz : Nat) (us : List Value) (hs : ∀ x ∈ xs, x.cells.length = sz) (hl : us.length = (xs.flatMap V.cells).length)
   (hm : ∀ (i : Nat) u, us[i]? = some u → M b (off + i) = some u) (hr : ∀ (i : Nat) u c, us[i]? = some u → (xs.flatMap V.cells)[i]? = some c → Rep M ι u c)
   (hcap : xs.length ≤ cap) (hfx : c = .fx → cap = xs.length) : Rep M ι (.slice (some ⟨b, off, none⟩) xs.length cap) (.sl xs c)
 | sl0 (a : Addr) (c : Cap) (hg : ∀ s, c ≠ .gr s) : Rep M ι (.slice (some a) 0 0) (.sl [] c)
 | hs (o off len sz : Nat) (ag : Bool) (b cap : Nat) (h : ι o = some b) (hc : len ≤ cap) : Rep M ι (.slice (some ⟨b, off, none⟩) len cap) (.hs o off len sz ag)
 | agg (vs : Array Value) (cs : List V) (hl : vs.size = cs.length) (hr : ∀ (i : Nat) v c, vs[i]? = some v → cs[i]? = some c → Rep M ι v c) : Rep M ι (.agg vs) (.agg cs)
 | tup (vs : Array Value) (cs : List V) (hl : vs.size = cs.length) (hr : ∀ (i : Nat) v c, vs[i]? = some v → cs[i]? = some c → Rep M ι v c) : Rep M ι (.tuple vs) (.tup cs)
 | ifc (t : TypeId) (v : Value) (x : V) (h : Rep M ι v x) : Rep M ι (.iface t v) (.ifc t x)
 | nili : Rep M ι .nilIface .nili
 | fn (f : FuncId) (as bs : Array Value) (first caps : List V) (ha : as.size = first.length) (hb : bs.size = caps.length)
   (hra : ∀ (i : Nat) v c, as[i]? = some v → first[i]? = some c → Rep M ι v c) (hrb : ∀ (i : Nat) v c, bs[i]? = some v → caps[i]? = some c → Rep M ι v c) :
   Rep M ι (.func (.func f) as bs) (.fn f first caps)
 | nilf : Rep M ι .nilFunc .nilf
 | mp (o r : Nat) (h : ι o = some r) : Rep M ι (.map (some r)) (.mp o)
 | nilm : Rep M ι (.map none) .nilm
structure MemLe (M M' : Mem) : Prop where
 le : ∀ b i u, M b i = some u → M' b i = some u
structure PlcLe (ι ι' : Plc) : Prop where
 le : ∀ o b, ι o = some b → ι' o = some b
theorem MemLe.refl (M : Mem) : MemLe M M := ⟨fun _ _ _ h => h⟩
theorem MemLe.trans {M M' M'' : Mem} (h : MemLe M M') (k : MemLe M' M'') : MemLe M M'' := ⟨fun b i u e => k.le b i u (h.le b i u e)⟩
theorem PlcLe.refl (ι : Plc) : PlcLe ι ι := ⟨fun _ _ h => h⟩
theorem PlcLe.trans {ι ι' ι'' : Plc} (h : PlcLe ι ι') (k : PlcLe ι' ι'') : PlcLe ι ι'' := ⟨fun o b e => k.le o b (h.le o b e)⟩
theorem Rep.mono {M M' : Mem} {ι ι' : Plc} (hm : MemLe M M') (hi : PlcLe ι ι') {v : Value} {x : V} (h : Rep M ι v x) : Rep M' ι' v x := by
 induction h with
 | any v => exact .any v
 | undef => exact .undef
 | bool b => exact .bool b
 | int k n => exact .int k n
 | str s l h => exact .str s l h
 | nilp => exact .nilp
 | ptr o off b h => exact .ptr o off b (hi.le _ _ h)
 | eptr cs off b base us hl hmm hr ih => exact .eptr cs off b base us hl (fun i u e => hm.le _ _ _ (hmm i u e)) ih
 | nils => exact .nils
 | sl xs c b off cap sz us hs hl hmm hr hcap hfx ih => exact .sl xs c b off cap sz us hs hl (fun i u e => hm.le _ _ _ (hmm i u e)) ih hcap hfx
 | sl0 a c hg => exact .sl0 a c hg
 | hs o off len sz ag b cap h hc => exact .hs o off len sz ag b cap (hi.le _ _ h) hc
 | agg vs cs hl hr ih => exact .agg vs cs hl ih
 | tup vs cs hl hr ih => exact .tup vs cs hl ih
 | ifc t v x h ih => exact .ifc t v x ih
 | nili => exact .nili
 | fn f as bs first caps ha hb hra hrb iha ihb => exact .fn f as bs first caps ha hb iha ihb
 | nilf => exact .nilf
 | mp o r h => exact .mp o r (hi.le _ _ h)
 | nilm => exact .nilm
theorem Rep.ng {M : Mem} {ι : Plc} {v : Value} {x : V} (h : Rep M ι v x) : Rep M ι v x.ng := by
 cases h with
 | sl xs c b off cap sz us hs hl hmm hr hcap hfx => exact .sl xs .no b off cap sz us hs hl hmm hr hcap (fun e => by cases e)
 | sl0 a c hg => exact .sl0 a .no (fun s e => by cases e)
 | any v => exact .any v
 | undef => exact .undef
 | bool b => exact .bool b
 | int k n => exact .int k n
 | str s l h => exact .str s l h
 | nilp => exact .nilp
 | ptr o off b h => exact .ptr o off b h
 | eptr cs off b base us hl hmm hr => exact .eptr cs off b base us hl hmm hr
 | nils => exact .nils
 | hs o off len sz ag b cap h hc => exact .hs o off len sz ag b cap h hc
 | agg vs cs hl hr => exact .agg vs cs hl hr
 | tup vs cs hl hr => exact .tup vs cs hl hr
 | ifc t v x h => exact .ifc t v x h
 | nili => exact .nili
 | fn f as bs first caps ha hb hra hrb => exact .fn f as bs first caps ha hb hra hrb
 | nilf => exact .nilf
 | mp o r h => exact .mp o r h
 | nilm => exact .nilm
theorem V.nogr_cells_length (x : V) : x.ng.cells.length = x.cells.length := by cases x <;> rfl
theorem V.nogr_one (x : V) : x.ng.one = x.one := by cases x <;> rfl
theorem V.nogr_nogr (x : V) : x.ng.ng = x.ng := by cases x <;> rfl
def Reps (M : Mem) (ι : Plc) (us : List Value) (cs : List V) : Prop := us.length = cs.length ∧ ∀ (i : Nat) u c, us[i]? = some u → cs[i]? = some c → Rep M ι u c
theorem Reps.nil {M : Mem} {ι : Plc} : Reps M ι [] [] := ⟨rfl, fun i u c h => by simp at h⟩
theorem Reps.cons {M : Mem} {ι : Plc} {u : Value} {c : V} {us : List Value} {cs : List V} (h : Rep M ι u c) (hs : Reps M ι us cs) : Reps M ι (u :: us) (c :: cs) :=
 ⟨by simp [hs.1], fun i u' c' hu hc => by
  cases i with
  | zero => simp at hu hc; subst hu hc; exact h
  | succ i => simp at hu hc; exact hs.2 i u' c' hu hc⟩
theorem Reps.head {M : Mem} {ι : Plc} {u : Value} {c : V} {us : List Value} {cs : List V} (h : Reps M ι (u :: us) (c :: cs)) : Rep M ι u c := h.2 0 u c rfl rfl
theorem Reps.tail {M : Mem} {ι : Plc} {u : Value} {c : V} {us : List Value} {cs : List V} (h : Reps M ι (u :: us) (c :: cs)) : Reps M ι us cs :=
 ⟨by have := h.1; simpa using this, fun i u' c' hu hc => h.2 (i + 1) u' c' (by simpa using hu) (by simpa using hc)⟩
theorem Reps.mono {M M' : Mem} {ι ι' : Plc} (hm : MemLe M M') (hi : PlcLe ι ι') {us : List Value} {cs : List V} (h : Reps M ι us cs) : Reps M' ι' us cs :=
 ⟨h.1, fun i u c hu hc => (h.2 i u c hu hc).mono hm hi⟩
theorem Reps.append {M : Mem} {ι : Plc} {us us' : List Value} {cs cs' : List V} (h : Reps M ι us cs) (h' : Reps M ι us' cs') : Reps M ι (us ++ us') (cs ++ cs') := by
 refine ⟨by simp [h.1, h'.1], fun i u c hu hc => ?_⟩
 rw [List.getElem?_append] at hu hc
 rw [← h.1] at hc
 split at hu
 ·rename_i hi; rw [if_pos hi] at hc; exact h.2 i u c hu hc
 ·rename_i hi; rw [if_neg hi] at hc; exact h'.2 _ u c hu hc
theorem Reps.drop {M : Mem} {ι : Plc} {us : List Value} {cs : List V} (h : Reps M ι us cs) (n : Nat) : Reps M ι (us.drop n) (cs.drop n) :=
 ⟨by simp [h.1], fun i u c hu hc => h.2 (n + i) u c (by simpa using hu) (by simpa using hc)⟩
theorem Reps.take {M : Mem} {ι : Plc} {us : List Value} {cs : List V} (h : Reps M ι us cs) (n : Nat) : Reps M ι (us.take n) (cs.take n) :=
 ⟨by simp [h.1], fun i u c hu hc => by
  rw [List.getElem?_take] at hu hc
  split at hu
  ·rename_i hi; rw [if_pos hi] at hc; exact h.2 i u c hu hc
  ·cases hu⟩
theorem Reps.ng {M : Mem} {ι : Plc} {us : List Value} {cs : List V} (h : Reps M ι us cs) : Reps M ι us (cs.map V.ng) :=
 ⟨by simp [h.1], fun i u c hu hc => by
  simp only [List.getElem?_map, Option.map_eq_some_iff] at hc
  obtain ⟨c', hc', rfl⟩ := hc
  exact (h.2 i u c' hu hc').ng⟩
theorem Reps.get {M : Mem} {ι : Plc} {us : List Value} {cs : List V} (h : Reps M ι us cs) {i : Nat} {c : V} (hc : cs[i]? = some c) : ∃ u, us[i]? = some u ∧ Rep M ι u c := by
 have hi : i < us.length := by rw [h.1]; exact (List.getElem?_eq_some_iff.1 hc).1
 exact ⟨us[i], List.getElem?_eq_getElem hi, h.2 i _ c (List.getElem?_eq_getElem hi) hc⟩
theorem Reps.get' {M : Mem} {ι : Plc} {us : List Value} {cs : List V} (h : Reps M ι us cs) {i : Nat} {u : Value} (hu : us[i]? = some u) : ∃ c, cs[i]? = some c ∧ Rep M ι u c := by
 have hi : i < cs.length := by rw [← h.1]; exact (List.getElem?_eq_some_iff.1 hu).1
 exact ⟨cs[i], List.getElem?_eq_getElem hi, h.2 i u _ hu (List.getElem?_eq_getElem hi)⟩
theorem Reps.set {M : Mem} {ι : Plc} {us : List Value} {cs : List V} (h : Reps M ι us cs) {u : Value} {c : V} (hu : Rep M ι u c) (i : Nat) : Reps M ι (us.set i u) (cs.set i c) := by
 refine ⟨by simp [h.1], fun j u' c' hu' hc' => ?_⟩
 rw [List.getElem?_set] at hu' hc'
 by_cases hij : i = j
 ·subst hij
  rw [if_pos rfl] at hu' hc'
  split at hu'
  ·rename_i hlt; rw [if_pos (by rw [← h.1]; exact hlt)] at hc'; cases hu'; cases hc'; exact hu
  ·cases hu'
 ·rw [if_neg hij] at hu' hc'; exact h.2 j u' c' hu' hc'
theorem Rep.agg_iff {M : Mem} {ι : Plc} {vs : Array Value} {cs : List V} : Rep M ι (.agg vs) (.agg cs) ↔ Reps M ι vs.toList cs := by
 constructor
 ·intro h
  cases h with
  | agg _ _ hl hr => exact ⟨by simpa using hl, fun i u c hu hc => hr i u c (by simpa using hu) hc⟩
 ·intro h
  exact .agg vs cs (by simpa using h.1) (fun i v c hv hc => h.2 i v c (by simpa using hv) hc)
theorem Rep.cells {M : Mem} {ι : Plc} {v : Value} {x : V} (h : Rep M ι v x) (hx : ∀ c ∈ x.cells, c.one = true) : Reps M ι v.cells.toList x.cells := by
 cases h with
 | agg vs cs hl hr => exact Rep.agg_iff.1 (.agg vs cs hl hr)
 | any v => exact absurd (hx .any (by simp [V.cells])) (by simp [V.one])
 | undef => exact absurd (hx .undef (by simp [V.cells])) (by simp [V.one])
 | tup vs cs hl hr => exact absurd (hx (.tup cs) (by simp [V.cells])) (by simp [V.one])
 | bool b => exact Reps.cons (.bool b) Reps.nil
 | int k n => exact Reps.cons (.int k n) Reps.nil
 | str s l h => exact Reps.cons (.str s l h) Reps.nil
 | nilp => exact Reps.cons .nilp Reps.nil
 | ptr o off b h => exact Reps.cons (.ptr o off b h) Reps.nil
 | eptr cs off b base us hl hmm hr => exact Reps.cons (.eptr cs off b base us hl hmm hr) Reps.nil
 | nils => exact Reps.cons .nils Reps.nil
 | sl xs c b off cap sz us hs hl hmm hr hcap hfx => exact Reps.cons (.sl xs c b off cap sz us hs hl hmm hr hcap hfx) Reps.nil
 | sl0 a c hg => exact Reps.cons (.sl0 a c hg) Reps.nil
 | hs o off len sz ag b cap h hc => exact Reps.cons (.hs o off len sz ag b cap h hc) Reps.nil
 | ifc t v x h => exact Reps.cons (.ifc t v x h) Reps.nil
 | nili => exact Reps.cons .nili Reps.nil
 | fn f as bs first caps ha hb hra hrb => exact Reps.cons (.fn f as bs first caps ha hb hra hrb) Reps.nil
 | nilf => exact Reps.cons .nilf Reps.nil
 | mp o r h => exact Reps.cons (.mp o r h) Reps.nil
 | nilm => exact Reps.cons .nilm Reps.nil
theorem Rep.one {M : Mem} {ι : Plc} {v : Value} {x : V} (h : Rep M ι v x) (hx : x.one = true) : v.oneCell = true := by
 cases h <;> first | rfl | simp [V.one] at hx
end Go.Ev
namespace Go.Ev
open Go
def ownB : Value → V → Option Nat
 | .slice (some a) _ _, .sl _ (.gr _) => some a.block
 | _, _ => none
def Qbd (fz : Nat × Nat) (i : Nat) : Bool := decide (fz.1 ≤ i) && decide (i < fz.2)
theorem Qa6 (v : Value) (x : V) : ownB v x.ng = none := by
 unfold ownB
 split
 ·rename_i heq
  cases x <;> simp [V.ng] at heq
 ·rfl
inductive Pl where
 | s (i : Nat) | c (o i : Nat)
abbrev Own := Nat → Option Pl
def At (ι : Plc) (w : World) (us : List Value) (ρ : List V) (σ : Objs) : Pl → Value → V → Prop
 | .s i, v, x => us[i]? = some v ∧ ρ[i]? = some x
 | .c o i, v, x => ∃ b ws T fz cs, ι o = some b ∧ w.heap[b]? = some (.cells ws T fz) ∧ σ[o]? = some (.cells cs) ∧ ws[i]? = some v ∧ cs[i]? = some x
structure GrOK (M : Mem) (w : World) (v : Value) (x : V) : Prop where
 ok : ∀ xs sz, x = .sl xs (.gr sz) → ∀ a len cap, v = .slice (some a) len cap →
  (∀ y ∈ xs, y.cells.length = sz) ∧ (∀ i, a.off + (xs.flatMap V.cells).length ≤ i → M a.block i = none) ∧
  ∃ ws T fz, w.heap[a.block]? = some (.cells ws T fz) ∧ a.off + cap * sz ≤ ws.size ∧ ∀ i, a.off + (xs.flatMap V.cells).length ≤ i → i < ws.size → Qbd fz i = false
theorem GrOK.of_none {M : Mem} {w : World} {v : Value} {x : V} (h : ownB v x = none) : GrOK M w v x := by
 refine ⟨fun xs sz hx a len cap hv => ?_⟩
 subst hx hv
 simp [ownB] at h
def Wfl (M : Mem) (ι : Plc) (en : List MapEntry) (es : List (V × V)) : Prop :=
 en.length = es.length ∧ ∀ (i : Nat) e p, en[i]? = some e → es[i]? = some p → Rep M ι e.key p.1 ∧ Rep M ι e.val p.2
def Qjn (M : Mem) (ι : Plc) (w : World) (b : Nat) : O → Prop
 | .cells cs => ∃ ws T fz, w.heap[b]? = some (.cells ws T fz) ∧ Reps M ι (ws.toList.take cs.length) cs ∧ (∀ i, i < cs.length → Qbd fz i = false) ∧ (∀ i, M b i = none) ∧ ∀ c ∈ cs, c.one = true
 | .mp es => ∃ en clock, w.heap[b]? = some (.map en clock) ∧ Wfl M ι en.toList es
structure Wd (M : Mem) (ι : Plc) (X : Nat → Prop) (κ : Own) (w : World) (σ : Objs) : Prop where
 mem : ∀ b i u, M b i = some u → w.cell? ⟨b, i, none⟩ = some u
 obj : ∀ o b, ι o = some b → ∃ O, σ[o]? = some O ∧ Qjn M ι w b O
 olt : ∀ o b, ι o = some b → b < w.heap.size
 inj : ∀ o o' b, ι o = some b → ι o' = some b → o = o'
 xlt : ∀ b, X b → b < w.heap.size
 xobj : ∀ o b, ι o = some b → ¬ X b
 kap : ∀ b p, κ b = some p → ¬ X b ∧ (∀ o, ι o ≠ some b) ∧ b < w.heap.size
structure St (M : Mem) (ι : Plc) (X : Nat → Prop) (κ : Own) (w : World) (us : List Value) (ρ : List V) (σ : Objs) : Prop where
 wd : Wd M ι X κ w σ
 rep : Reps M ι us ρ
 own : ∀ p v x b, At ι w us ρ σ p v x → ownB v x = some b → κ b = some p
 gr : ∀ p v x, At ι w us ρ σ p v x → GrOK M w v x
structure Ext (X : Nat → Prop) (M : Mem) (ι : Plc) (w : World) (M' : Mem) (ι' : Plc) (w' : World) : Prop where
 m : MemLe M M'
 i : PlcLe ι ι'
 mX : ∀ b i, X b → M' b i = M b i
 size : w.heap.size ≤ w'.heap.size
 keep : ∀ b, X b → w'.heap[b]? = w.heap[b]?
 os : w'.os = w.os
 tape : w'.tape = w.tape
 output : w'.output = w.output
theorem Ext.refl (X : Nat → Prop) (M : Mem) (ι : Plc) (w : World) : Ext X M ι w M ι w :=
 ⟨.refl _, .refl _, fun _ _ _ => rfl, Nat.le_refl _, fun _ _ => rfl, rfl, rfl, rfl⟩
theorem Ext.trans {X : Nat → Prop} {M M' M'' : Mem} {ι ι' ι'' : Plc} {w w' w'' : World} (h : Ext X M ι w M' ι' w') (k : Ext X M' ι' w' M'' ι'' w'') : Ext X M ι w M'' ι'' w'' :=
 ⟨h.m.trans k.m, h.i.trans k.i, fun b i hx => (k.mX b i hx).trans (h.mX b i hx), Nat.le_trans h.size k.size, fun b hx => (k.keep b hx).trans (h.keep b hx), k.os.trans h.os, k.tape.trans h.tape, k.output.trans h.output⟩
theorem Ext.less {X X' : Nat → Prop} {M M' : Mem} {ι ι' : Plc} {w w' : World} (h : Ext X M ι w M' ι' w') (hX : ∀ b, X' b → X b) : Ext X' M ι w M' ι' w' :=
 ⟨h.m, h.i, fun b i hx => h.mX b i (hX b hx), h.size, fun b hx => h.keep b (hX b hx), h.os, h.tape, h.output⟩
section
variable {M : Mem} {ι : Plc} {X : Nat → Prop} {κ : Own} {w : World} {us : List Value} {ρ : List V} {σ : Objs}
theorem Wd.lt (h : Wd M ι X κ w σ) {b i : Nat} {u : Value} (hm : M b i = some u) : b < w.heap.size := by
 have := h.mem b i u hm
 unfold World.cell? at this
 rcases Nat.lt_or_ge b w.heap.size with hb | hb
 ·exact hb
 ·simp [Array.getElem?_eq_none hb] at this
theorem Wd.drew (h : Wd M ι X κ w σ) : Wd M ι X κ { w with drawn := w.drawn + 1 } σ :=
 ⟨h.mem, fun o b hi => by
  obtain ⟨O, hO, hr⟩ := h.obj o b hi
  refine ⟨O, hO, ?_⟩
  cases O <;> exact hr, h.olt, h.inj, h.xlt, h.xobj, h.kap⟩
theorem At.heap {w' : World} (hw : w'.heap = w.heap) {p : Pl} {v : Value} {x : V} (h : At ι w' us ρ σ p v x) : At ι w us ρ σ p v x := by
 cases p with
 | s i => exact h
 | c o i => obtain ⟨b, ws, T, fz, cs, h1, h2, h3⟩ := h; exact ⟨b, ws, T, fz, cs, h1, hw ▸ h2, h3⟩
theorem GrOK.heap {w' : World} {v : Value} {x : V} (hw : w'.heap = w.heap) (h : GrOK M w v x) : GrOK M w' v x :=
 ⟨fun xs sz hx a len cap hv => by
  obtain ⟨h1, h2, ws, T, fz, h3, h4⟩ := h.ok xs sz hx a len cap hv
  exact ⟨h1, h2, ws, T, fz, hw.symm ▸ h3, h4⟩⟩
theorem St.drew (h : St M ι X κ w us ρ σ) : St M ι X κ { w with drawn := w.drawn + 1 } us ρ σ :=
 ⟨h.wd.drew, h.rep, fun p v x b ha => h.own p v x b (At.heap (w := w) rfl ha), fun p v x ha => GrOK.heap (w := w) (w' := { w with drawn := w.drawn + 1 }) rfl (h.gr p v x (At.heap (w := w) rfl ha))⟩
theorem Ext.drew (X : Nat → Prop) (M : Mem) (ι : Plc) (w : World) : Ext X M ι w M ι { w with drawn := w.drawn + 1 } :=
 ⟨.refl _, .refl _, fun _ _ _ => rfl, Nat.le_refl _, fun _ _ => rfl, rfl, rfl, rfl⟩
theorem St.setSlot (h : St M ι X κ w us ρ σ) {v : Value} {x : V} (hr : Rep M ι v x) (ho : ownB v x = none) (d : Nat) : St M ι X κ w (us.set d v) (ρ.set d x) σ := by
 have key : ∀ p u y, At ι w (us.set d v) (ρ.set d x) σ p u y → At ι w us ρ σ p u y ∨ (u = v ∧ y = x) := by
  intro p u y ha
  cases p with
  | c o i => exact .inl ha
  | s i =>
   obtain ⟨h1, h2⟩ := ha
   rw [List.getElem?_set] at h1 h2
   by_cases hd : d = i
   ·subst hd
    rw [if_pos rfl] at h1 h2
    split at h1
    ·split at h2
     ·cases h1; cases h2; exact .inr ⟨rfl, rfl⟩
     ·cases h2
    ·cases h1
   ·rw [if_neg hd] at h1 h2; exact .inl ⟨h1, h2⟩
 refine ⟨h.wd, h.rep.set hr d, fun p u y b ha hb => ?_, fun p u y ha => ?_⟩
 ·rcases key p u y ha with ha | ⟨rfl, rfl⟩
  ·exact h.own p u y b ha hb
  ·rw [ho] at hb; cases hb
 ·rcases key p u y ha with ha | ⟨rfl, rfl⟩
  ·exact h.gr p u y ha
  ·exact .of_none ho
theorem St.dropSlot (h : St M ι X κ w us ρ σ) (n : Nat) : St M ι X κ w us (ρ.set n (ρ.getD n .undef).ng) σ := by
 by_cases hn : n < ρ.length
 ·have hu : us[n]? = some (us[n]'(by rw [h.rep.1]; exact hn)) := List.getElem?_eq_getElem _
  have hx : ρ[n]? = some (ρ[n]) := List.getElem?_eq_getElem hn
  have := h.setSlot ((h.rep.2 n _ _ hu hx).ng) (Qa6 _ _) n
  rw [show us.set n (us[n]'(by rw [h.rep.1]; exact hn)) = us from List.set_getElem_self _] at this
  simpa [List.getD, hx] using this
 ·rw [List.set_eq_of_length_le (by omega)]; exact h
theorem St.moveSlot (h : St M ι X κ w us ρ σ) {n d : Nat} {v : Value} {x : V} (hv : us[n]? = some v) (hx : ρ[n]? = some x) :
  ∃ κ', St M ι X κ' w (us.set d v) ((ρ.set n x.ng).set d x) σ ∧ (∀ b, (κ b).isNone → (κ' b).isNone) := by
 have hd := h.dropSlot n
 have hg : ρ.getD n .undef = x := by simp [List.getD, hx]
 rw [hg] at hd
 have hrx := h.rep.2 n v x hv hx
 have hnlt : n < ρ.length := (List.getElem?_eq_some_iff.1 hx).1
 cases hb : ownB v x with
 | none => exact ⟨κ, hd.setSlot hrx hb d, fun b hb => hb⟩
 | some b =>
  have hat : At ι w us ρ σ (.s n) v x := ⟨hv, hx⟩
  have hk := h.own _ v x b hat hb
  refine ⟨fun b' => if b' = b then some (.s d) else κ b', ⟨⟨h.wd.mem, h.wd.obj, h.wd.olt, h.wd.inj, h.wd.xlt, h.wd.xobj, ?_⟩, hd.rep.set hrx d, ?_, ?_⟩, ?_⟩
  ·intro b' p hp
   by_cases hbb : b' = b
   ·subst hbb; exact h.wd.kap b' _ hk
   ·rw [if_neg hbb] at hp; exact h.wd.kap b' p hp
  ·intro p u y b' ha hb'
   have hcase : p = .s d ∧ u = v ∧ y = x ∨ (p ≠ .s d ∧ At ι w us (ρ.set n x.ng) σ p u y) := by
    cases p with
    | c o i => exact .inr ⟨by simp, ha⟩
    | s i =>
     obtain ⟨h1, h2⟩ := ha
     rw [List.getElem?_set] at h1 h2
     by_cases hd' : d = i
     ·subst hd'
      rw [if_pos rfl] at h1 h2
      split at h1
      ·split at h2
       ·cases h1; cases h2; exact .inl ⟨rfl, rfl, rfl⟩
       ·cases h2
      ·cases h1
     ·rw [if_neg hd'] at h1 h2; exact .inr ⟨by simpa using fun e => hd' e.symm, ⟨h1, h2⟩⟩
   rcases hcase with ⟨rfl, rfl, rfl⟩ | ⟨hp, ha'⟩
   ·rw [hb] at hb'; cases hb'; rw [if_pos rfl]
   ·have hk' := hd.own p u y b' ha' hb'
    by_cases hbb : b' = b
    ·subst hbb
     rw [hk] at hk'
     cases hk'
     obtain ⟨h1, h2⟩ := ha'
     rw [List.getElem?_set_self hnlt] at h2
     cases h2
     rw [Qa6] at hb'; cases hb'
    ·rw [if_neg hbb]; exact hk'
  ·intro p u y ha
   have hcase : (u = v ∧ y = x) ∨ At ι w us (ρ.set n x.ng) σ p u y := by
    cases p with
    | c o i => exact .inr ha
    | s i =>
     obtain ⟨h1, h2⟩ := ha
     rw [List.getElem?_set] at h1 h2
     by_cases hd' : d = i
     ·subst hd'
      rw [if_pos rfl] at h1 h2
      split at h1
      ·split at h2
       ·cases h1; cases h2; exact .inl ⟨rfl, rfl⟩
       ·cases h2
      ·cases h1
     ·rw [if_neg hd'] at h1 h2; exact .inr ⟨h1, h2⟩
   rcases hcase with ⟨rfl, rfl⟩ | ha'
   ·exact h.gr _ _ _ hat
   ·exact hd.gr p u y ha'
  ·intro b' hb'
   by_cases hbb : b' = b
   ·subst hbb; rw [hk] at hb'; cases hb'
   ·simpa [hbb] using hb'
end
end Go.Ev
namespace Go.Ev
open Go
theorem Qcf (b off n : Nat) : (⟨b, off, none⟩ : Addr).add n = ⟨b, off + n, none⟩ := by
 unfold Addr.add
 split
 ·rename_i h; subst h; rfl
 ·rfl
theorem Qaj {α : Type} (P : Program) (x : α) (w : World) : (pure x : Sem α).run P w = .ok x w := rfl
theorem Qab {α β : Type} (P : Program) (x : Sem α) (f : α → Sem β) (w : World) :
  (x >>= f).run P w = (x.run P w).andThen fun a w' => (f a).run P w' := Sem.run_bind' P x f w
theorem Qi8 {P : Program} {w : World} {a : Addr} {v : Value} (h : w.cell? a = some v) : (load a).run P w = .ok v w := by
 simp [load, Sem.run, h]
theorem Qeg {P : Program} {w : World} (b off : Nat) : ∀ (vs : List Value) (i : Nat) (acc : Array Value),
  (∀ (j : Nat) u, vs[j]? = some u → w.cell? ⟨b, off + (i + j), none⟩ = some u) →
  (loadCellsFrom ⟨b, off, none⟩ i vs.length acc).run P w = .ok (acc ++ vs.toArray) w
 | [], i, acc, _ => by simp [loadCellsFrom, Qaj]
 | v :: vs, i, acc, h => by
  have h0 := h 0 v rfl
  simp only [List.length_cons, loadCellsFrom, Qcf]
  rw [Qab, Qi8 (by simpa using h0)]
  simp only [Result.andThen]
  rw [Qeg b off vs (i + 1) (acc.push v) (fun j u hu => by
   have := h (j + 1) u (by simpa using hu)
   rw [show off + (i + 1 + j) = off + (i + (j + 1)) from by omega]
   exact this)]
  simp
theorem Qet {P : Program} {w : World} (b off : Nat) (vs : List Value) (h : ∀ (j : Nat) u, vs[j]? = some u → w.cell? ⟨b, off + j, none⟩ = some u) :
  (loadCells ⟨b, off, none⟩ vs.length).run P w = .ok vs.toArray w := by
 unfold loadCells
 rw [Qeg b off vs 0 #[] (fun j u hu => by simpa using h j u hu)]
 simp
def setRow (w : World) (b : Nat) (ws : Array Value) (T : TypeId) (fz : Nat × Nat) : World := { w with heap := w.heap.setIfInBounds b (.cells ws T fz) }
theorem Qaq (w : World) (b : Nat) (ws : Array Value) (T : TypeId) (fz : Nat × Nat) (c : Nat) :
  (setRow w b ws T fz).heap[c]? = if b = c then (if b < w.heap.size then some (.cells ws T fz) else none) else w.heap[c]? := by
 simp only [setRow, Array.getElem?_setIfInBounds]
theorem Qbc (w : World) (b : Nat) (ws : Array Value) (T : TypeId) (fz : Nat × Nat) : (setRow w b ws T fz).heap.size = w.heap.size := by
 simp [setRow]
theorem Qpb {w : World} {b : Nat} {ws : Array Value} {T : TypeId} {fz : Nat × Nat} (h : w.heap[b]? = some (.cells ws T fz)) : setRow w b ws T fz = w := by
 have hb : b < w.heap.size := (Array.getElem?_eq_some_iff.1 h).1
 have he : w.heap[b] = .cells ws T fz := by rw [Array.getElem?_eq_getElem hb] at h; exact Option.some.inj h
 unfold setRow
 have : w.heap.setIfInBounds b (.cells ws T fz) = w.heap := by
  apply Array.ext
  ·simp
  ·intro i h1 h2
   rw [Array.getElem_setIfInBounds (by simpa using h1)]
   split
   ·rename_i hbi; subst hbi; exact he.symm
   ·rfl
 rw [this]
def layA : Array Value → Nat → List Value → Array Value
 | ws, _, [] => ws
 | ws, i, u :: us => layA (ws.setIfInBounds i u) (i + 1) us
theorem Qe9 : ∀ (us : List Value) (ws : Array Value) (i : Nat), (layA ws i us).size = ws.size
 | [], _, _ => rfl
 | u :: us, ws, i => by simp [layA, Qe9 us]
theorem Qfz : ∀ (us : List Value) (ws : Array Value) (i j : Nat), i + us.length ≤ ws.size →
  (layA ws i us)[j]? = if i ≤ j ∧ j < i + us.length then us[j - i]? else ws[j]?
 | [], ws, i, j, _ => by
  have : ¬ (i ≤ j ∧ j < i + ([] : List Value).length) := by simp only [List.length_nil]; omega
  rw [if_neg this]
  rfl
 | u :: us, ws, i, j, h => by
  simp only [List.length_cons] at h
  simp only [layA]
  rw [Qfz us _ (i + 1) j (by simp; omega), Array.getElem?_setIfInBounds]
  by_cases hij : i = j
  ·subst hij
   rw [if_neg (by omega), if_pos rfl, if_pos (by omega), if_pos (by simp)]
   simp
  ·by_cases hc : i + 1 ≤ j ∧ j < i + 1 + us.length
   ·rw [if_pos hc, if_pos (by simp; omega)]
    rw [show j - i = (j - (i + 1)) + 1 from by omega]
    simp
   ·rw [if_neg hc, if_neg hij, if_neg (by simp; omega)]
theorem Qcm {w : World} {b : Nat} {ws : Array Value} {T : TypeId} {fz : Nat × Nat} (h : w.heap[b]? = some (.cells ws T fz)) (i : Nat) : w.cell? ⟨b, i, none⟩ = ws[i]? := by
 simp [World.cell?, h]
theorem Qsr {w : World} {b : Nat} {ws : Array Value} {T : TypeId} {fz : Nat × Nat} (h : w.heap[b]? = some (.cells ws T fz)) (i : Nat) : w.frozen? ⟨b, i, none⟩ = Qbd fz i := by
 simp [World.frozen?, h, Qbd]
theorem Qpc {w : World} {b : Nat} {ws : Array Value} {T : TypeId} {fz : Nat × Nat} (h : w.heap[b]? = some (.cells ws T fz)) (i : Nat) (u : Value) :
  w.setCell ⟨b, i, none⟩ u = setRow w b (ws.setIfInBounds i u) T fz := by
 have hb : b < w.heap.size := (Array.getElem?_eq_some_iff.1 h).1
 have he : w.heap[b] = .cells ws T fz := by rw [Array.getElem?_eq_getElem hb] at h; exact Option.some.inj h
 unfold World.setCell setRow
 have : w.heap.modify b (fun
   | .cells c elem frozen => .cells (if (⟨b, i, none⟩ : Addr).spot.isSome then c else c.setIfInBounds (⟨b, i, none⟩ : Addr).off u) elem frozen
   | o => o) = w.heap.setIfInBounds b (.cells (ws.setIfInBounds i u) T fz) := by
  apply Array.ext
  ·simp
  ·intro j h1 h2
   rw [Array.getElem_modify, Array.getElem_setIfInBounds (by simpa using h2)]
   split
   ·rename_i hbj; subst hbj; simp [he]
   ·rfl
 exact congrArg (fun h => ({ w with heap := h } : World)) this
theorem Qt4 {P : Program} {w : World} {b i : Nat} {ws : Array Value} {T : TypeId} {fz : Nat × Nat} {u : Value} (h : w.heap[b]? = some (.cells ws T fz))
  (hi : i < ws.size) (hf : Qbd fz i = false) (hu : u.oneCell = true) : (store ⟨b, i, none⟩ u).run P w = .ok () (setRow w b (ws.setIfInBounds i u) T fz) := by
 have hc : w.cell? ⟨b, i, none⟩ = some ws[i] := by rw [Qcm h, Array.getElem?_eq_getElem hi]
 have hfz : w.frozen? ⟨b, i, none⟩ = false := by rw [Qsr h, hf]
 rw [← Qpc h i u]
 unfold store
 cases u <;> first | (simp [Value.oneCell] at hu; done) | simp [Sem.run, hc, hfz]
theorem Qea {P : Program} (b off : Nat) (T : TypeId) (fz : Nat × Nat) : ∀ (us : List Value) (w : World) (ws : Array Value) (i : Nat),
  w.heap[b]? = some (.cells ws T fz) → off + i + us.length ≤ ws.size → (∀ j, off + i ≤ j → j < off + i + us.length → Qbd fz j = false) → (∀ u ∈ us, u.oneCell = true) →
  (storeCells ⟨b, off, none⟩ us i).run P w = .ok () (setRow w b (layA ws (off + i) us) T fz)
 | [], w, ws, i, h, _, _, _ => by
  simp only [storeCells, layA]
  rw [Qpb h]
  rfl
 | u :: us, w, ws, i, h, hl, hf, hu => by
  simp only [List.length_cons] at hl hf
  simp only [storeCells, Qcf, layA]
  have hb : b < w.heap.size := (Array.getElem?_eq_some_iff.1 h).1
  rw [Qab, Qt4 h (by omega) (hf _ (by omega) (by omega)) (hu u (by simp))]
  simp only [Result.andThen]
  have h' : (setRow w b (ws.setIfInBounds (off + i) u) T fz).heap[b]? = some (.cells (ws.setIfInBounds (off + i) u) T fz) := by
   rw [Qaq, if_pos rfl, if_pos hb]
  rw [Qea b off T fz us _ _ (i + 1) h' (by simp; omega) (fun j h1 h2 => hf j (by omega) (by omega)) (fun v hv => hu v (by simp [hv]))]
  congr 1
  unfold setRow
  simp only [Array.setIfInBounds_setIfInBounds, Nat.add_assoc]
def Qca (w : World) (o : Obj) : World := { w with heap := w.heap.push o }
theorem Qh4 (w : World) (o : Obj) (c : Nat) : (Qca w o).heap[c]? = if c = w.heap.size then some o else w.heap[c]? := by
 simp only [Qca, Array.getElem?_push]
theorem Qb1 (w : World) (o : Obj) : (Qca w o).heap.size = w.heap.size + 1 := by simp [Qca]
theorem Qcp (w : World) (o : Obj) {c : Nat} (h : c < w.heap.size) : (Qca w o).heap[c]? = w.heap[c]? := by
 rw [Qh4, if_neg (by omega)]
theorem Qg9 (w : World) (o : Obj) : (Qca w o).heap[w.heap.size]? = some o := by rw [Qh4, if_pos rfl]
def Qh5 (M : Mem) (s : Nat) (ws : List Value) : Mem := fun b i => if b = s then ws[i]? else M b i
section
variable {M : Mem} {ι : Plc} {X : Nat → Prop} {κ : Own} {w : World} {us : List Value} {ρ : List V} {σ : Objs}
theorem Qjn.push (hw : Wd M ι X κ w σ) {M' : Mem} (hM : MemLe M M') (hM' : ∀ b i, b < w.heap.size → M' b i = M b i) {ι' : Plc} (hι : PlcLe ι ι') (o : Obj) {b : Nat} {O : O} (h : Qjn M ι w b O)
  (hb : b < w.heap.size) : Qjn M' ι' (Qca w o) b O := by
 cases O with
 | cells cs =>
  obtain ⟨ws, T, fz, h1, h2, h3, h4, h5⟩ := h
  exact ⟨ws, T, fz, by rw [Qcp w o hb]; exact h1, h2.mono hM hι, h3, fun i => by rw [hM' b i hb]; exact h4 i, h5⟩
 | mp es =>
  obtain ⟨en, c, h1, h2⟩ := h
  exact ⟨en, c, by rw [Qcp w o hb]; exact h1, h2.1, fun i e p he hp => ⟨(h2.2 i e p he hp).1.mono hM hι, (h2.2 i e p he hp).2.mono hM hι⟩⟩
end
end Go.Ev
namespace Go.Ev
open Go
section
variable {M : Mem} {ι : Plc} {X : Nat → Prop} {κ : Own} {w : World} {us : List Value} {ρ : List V} {σ : Objs}
theorem Qc0 {s : Nat} {ws : List Value} {b i : Nat} (h : b ≠ s) : Qh5 M s ws b i = M b i := by unfold Qh5; rw [if_neg h]
theorem Qfa {s : Nat} {ws : List Value} {i : Nat} : Qh5 M s ws s i = ws[i]? := by unfold Qh5; rw [if_pos rfl]
theorem Wd.pushM_le (h : Wd M ι X κ w σ) (ws : List Value) : MemLe M (Qh5 M w.heap.size ws) :=
 ⟨fun b i u hm => by rw [Qc0 (by have := h.lt hm; omega)]; exact hm⟩
theorem Wd.push (h : Wd M ι X κ w σ) (o : Obj) (ws : List Value) (ho : ∀ (i : Nat) u, ws[i]? = some u → ∃ as T fz, o = .cells as T fz ∧ as[i]? = some u) :
  Wd (Qh5 M w.heap.size ws) ι X κ (Qca w o) σ := by
 refine ⟨fun b i u hm => ?_, fun o' b hi => ?_, fun o' b hi => ?_, h.inj, fun b hx => ?_, h.xobj, fun b p hp => ?_⟩
 ·by_cases hb : b = w.heap.size
  ·subst hb
   rw [Qfa] at hm
   obtain ⟨as, T, fz, rfl, ha⟩ := ho i u hm
   rw [Qcm (Qg9 w _)]; exact ha
  ·rw [Qc0 hb] at hm
   have := h.mem b i u hm
   rw [← this]
   have hlt := h.lt hm
   simp only [World.cell?, Qcp w o hlt]
 ·obtain ⟨O, hO, hr⟩ := h.obj o' b hi
  exact ⟨O, hO, hr.push h (h.pushM_le ws) (fun b i hb => Qc0 (by omega)) (.refl _) o (h.olt o' b hi)⟩
 ·have := h.olt o' b hi; rw [Qb1]; omega
 ·have := h.xlt b hx; rw [Qb1]; omega
 ·obtain ⟨h1, h2, h3⟩ := h.kap b p hp
  exact ⟨h1, h2, by rw [Qb1]; omega⟩
theorem Ext.push (h : Wd M ι X κ w σ) (o : Obj) (ws : List Value) : Ext X M ι w (Qh5 M w.heap.size ws) ι (Qca w o) :=
 ⟨h.pushM_le ws, .refl _, fun b i hx => Qc0 (by have := h.xlt b hx; omega), by rw [Qb1]; omega, fun b hx => Qcp w o (h.xlt b hx), rfl, rfl, rfl⟩
theorem At.push (h : Wd M ι X κ w σ) {o : Obj} {p : Pl} {v : Value} {x : V} (ha : At ι (Qca w o) us ρ σ p v x) : At ι w us ρ σ p v x := by
 cases p with
 | s i => exact ha
 | c q i =>
  obtain ⟨b, ws, T, fz, cs, h1, h2, h3⟩ := ha
  rw [Qcp w o (h.olt q b h1)] at h2
  exact ⟨b, ws, T, fz, cs, h1, h2, h3⟩
theorem GrOK.push {v : Value} {x : V} (h : GrOK M w v x) (o : Obj) (ws : List Value) (hl : ∀ a len cap, v = .slice (some a) len cap → ∀ b, ownB v x = some b → b < w.heap.size) :
  GrOK (Qh5 M w.heap.size ws) (Qca w o) v x := by
 refine ⟨fun xs sz hx a len cap hv => ?_⟩
 obtain ⟨h1, h2, as, T, fz, h3, h4, h5⟩ := h.ok xs sz hx a len cap hv
 have hlt : a.block < w.heap.size := (Array.getElem?_eq_some_iff.1 h3).1
 exact ⟨h1, fun i hi => by rw [Qc0 (by omega)]; exact h2 i hi, as, T, fz, by rw [Qcp w o hlt]; exact h3, h4, h5⟩
theorem St.push (h : St M ι X κ w us ρ σ) (o : Obj) (ws : List Value) (ho : ∀ (i : Nat) u, ws[i]? = some u → ∃ as T fz, o = .cells as T fz ∧ as[i]? = some u) :
  St (Qh5 M w.heap.size ws) ι X κ (Qca w o) us ρ σ :=
 ⟨h.wd.push o ws ho, h.rep.mono (h.wd.pushM_le ws) (.refl _), fun p v x b ha hb => h.own p v x b (At.push h.wd ha) hb, fun p v x ha =>
  (h.gr p v x (At.push h.wd ha)).push o ws fun a len cap hv b hb => (h.wd.kap b _ (h.own p v x b (At.push h.wd ha) hb)).2.2⟩
theorem St.setOwn (h : St M ι X κ w us ρ σ) {v : Value} {x : V} (hr : Rep M ι v x) {b : Nat} (hb : ownB v x = some b) (hk : κ b = none) (hX : ¬ X b) (hι : ∀ o, ι o ≠ some b) (hlt : b < w.heap.size)
  (hg : GrOK M w v x) (d : Nat) : ∃ κ', St M ι X κ' w (us.set d v) (ρ.set d x) σ := by
 have key : ∀ p u y, At ι w (us.set d v) (ρ.set d x) σ p u y → (p ≠ .s d ∧ At ι w us ρ σ p u y) ∨ (p = .s d ∧ u = v ∧ y = x) := by
  intro p u y ha
  cases p with
  | c o i => exact .inl ⟨by simp, ha⟩
  | s i =>
   obtain ⟨h1, h2⟩ := ha
   rw [List.getElem?_set] at h1 h2
   by_cases hd : d = i
   ·subst hd
    rw [if_pos rfl] at h1 h2
    split at h1
    ·split at h2
     ·cases h1; cases h2; exact .inr ⟨rfl, rfl, rfl⟩
     ·cases h2
    ·cases h1
   ·rw [if_neg hd] at h1 h2; exact .inl ⟨by simpa using fun e => hd e.symm, ⟨h1, h2⟩⟩
 refine ⟨fun b' => if b' = b then some (.s d) else κ b', ⟨h.wd.mem, h.wd.obj, h.wd.olt, h.wd.inj, h.wd.xlt, h.wd.xobj, ?_⟩, h.rep.set hr d, ?_, ?_⟩
 ·intro b' p hp
  by_cases hbb : b' = b
  ·subst hbb; exact ⟨hX, hι, hlt⟩
  ·simp only [hbb, if_false] at hp; exact h.wd.kap b' p hp
 ·intro p u y b' ha hb'
  rcases key p u y ha with ⟨hp, ha⟩ | ⟨rfl, rfl, rfl⟩
  ·have hk' := h.own p u y b' ha hb'
   have hbb : b' ≠ b := fun e => by subst e; rw [hk] at hk'; cases hk'
   simp only [hbb, if_false]; exact hk'
  ·rw [hb] at hb'; cases hb'; simp
 ·intro p u y ha
  rcases key p u y ha with ⟨hp, ha⟩ | ⟨rfl, rfl, rfl⟩
  ·exact h.gr p u y ha
  ·exact hg
theorem Wch (h : Wd M ι X κ w σ) : κ w.heap.size = none := by
 cases hk : κ w.heap.size with
 | none => rfl
 | some p => have := (h.kap _ p hk).2.2; omega
theorem inew (h : Wd M ι X κ w σ) : ∀ o, ι o ≠ some w.heap.size := fun o ho => by have := h.olt o _ ho; omega
theorem St.newRow (h : St M ι X κ w us ρ σ) (as : Array Value) (T : TypeId) (fz : Nat × Nat) (xs : List V) (c : Cap) (cap sz : Nat)
  (hr : Reps M ι (as.toList.take (xs.flatMap V.cells).length) (xs.flatMap V.cells)) (hs : ∀ y ∈ xs, y.cells.length = sz) (hcap : xs.length ≤ cap) (hfx : c = .fx → cap = xs.length)
  (hgr : ∀ s, c = .gr s → s = sz ∧ cap * sz ≤ as.size ∧ ∀ i, (xs.flatMap V.cells).length ≤ i → i < as.size → Qbd fz i = false) (d : Nat) :
  ∃ M' κ', Ext X M ι w M' ι (Qca w (.cells as T fz)) ∧ St M' ι X κ' (Qca w (.cells as T fz)) (us.set d (.slice (some ⟨w.heap.size, 0, none⟩) xs.length cap)) (ρ.set d (.sl xs c)) σ ∧
   Rep M' ι (.slice (some ⟨w.heap.size, 0, none⟩) xs.length cap) (.sl xs c) := by
 generalize hk : (xs.flatMap V.cells).length = k at *
 have hM := h.wd.pushM_le (as.toList.take k)
 have hst := h.push (.cells as T fz) (as.toList.take k) (fun i u hu => ⟨as, T, fz, rfl, by
  rw [List.getElem?_take] at hu
  split at hu
  ·simpa using hu
  ·cases hu⟩)
 have hrep : Rep (Qh5 M w.heap.size (as.toList.take k)) ι (.slice (some ⟨w.heap.size, 0, none⟩) xs.length cap) (.sl xs c) :=
  .sl xs c w.heap.size 0 cap sz (as.toList.take k) hs (by rw [hr.1]) (fun i u hu => by simpa [Qfa] using hu) (fun i u y hu hy => (hr.2 i u y hu hy).mono hM (.refl _)) hcap hfx
 cases ho : ownB (.slice (some ⟨w.heap.size, 0, none⟩) xs.length cap) (.sl xs c) with
 | none => exact ⟨_, κ, Ext.push h.wd _ _, hst.setSlot hrep ho d, hrep⟩
 | some b =>
  have hb : b = w.heap.size := by cases c <;> simp [ownB] at ho; exact ho.symm
  subst hb
  obtain ⟨s, hc⟩ : ∃ s, c = .gr s := by cases c <;> simp [ownB] at ho; exact ⟨_, rfl⟩
  subst hc
  obtain ⟨rfl, hroom, hfrz⟩ := hgr s rfl
  obtain ⟨κ', hst'⟩ := hst.setOwn hrep ho (Wch h.wd) (fun hx => by have := h.wd.xlt _ hx; omega) (inew h.wd) (by rw [Qb1]; omega)
   ⟨fun xs' sz' hx a len cap' hv => by
    cases hx; cases hv
    refine ⟨hs, fun i hi => ?_, as, T, fz, Qg9 w _, by simpa using hroom, fun i h1 h2 => hfrz i (by simpa [hk] using h1) h2⟩
    rw [Qfa, List.getElem?_take]
    rw [if_neg (by simp only [hk, Nat.zero_add] at hi; omega)]⟩ d
  exact ⟨_, κ', Ext.push h.wd _ _, hst', hrep⟩
theorem St.newObj (h : St M ι X κ w us ρ σ) (hι0 : ι σ.length = none) (as : Array Value) (T : TypeId) (fz : Nat × Nat) (cs : List V) (hr : Reps M ι (as.toList.take cs.length) cs)
  (hfz : ∀ i, i < cs.length → Qbd fz i = false) (hone : ∀ c ∈ cs, c.one = true) (hno : ∀ c ∈ cs, ∀ v, ownB v c = none) :
  ∃ M' ι', Ext X M ι w M' ι' (Qca w (.cells as T fz)) ∧ ι' σ.length = some w.heap.size ∧ St M' ι' X κ (Qca w (.cells as T fz)) us ρ (σ ++ [.cells cs]) ∧ ∀ o, o ≠ σ.length → ι' o = ι o := by
 have hst := h.push (.cells as T fz) [] (fun i u hu => by simp at hu)
 have hM := h.wd.pushM_le []
 have hι : PlcLe ι (fun o => if o = σ.length then some w.heap.size else ι o) := ⟨fun o b hb => by
  by_cases ho : o = σ.length
  ·subst ho; rw [hι0] at hb; cases hb
  ·simp only [ho, if_false]; exact hb⟩
 refine ⟨Qh5 M w.heap.size [], fun o => if o = σ.length then some w.heap.size else ι o, ⟨hM, hι, fun b i hx => Qc0 (by have := h.wd.xlt b hx; omega), by rw [Qb1]; omega, fun b hx => Qcp w _ (h.wd.xlt b hx), rfl, rfl, rfl⟩, by simp, ⟨⟨hst.wd.mem, ?_, ?_, ?_, hst.wd.xlt, ?_, ?_⟩, hst.rep.mono (.refl _) hι, ?_, ?_⟩, fun o ho => by simp [ho]⟩
 ·intro o b hb
  by_cases ho : o = σ.length
  ·subst ho
   simp only [if_true] at hb
   cases hb
   refine ⟨.cells cs, by simp, as, T, fz, Qg9 w _, hr.mono hM hι, hfz, fun i => by rw [Qfa]; simp, hone⟩
  ·simp only [ho, if_false] at hb
   obtain ⟨O, hO, hor⟩ := h.wd.obj o b hb
   refine ⟨O, by rw [List.getElem?_append_left (List.getElem?_eq_some_iff.1 hO).1]; exact hO, ?_⟩
   exact hor.push h.wd hM (fun b i hb => Qc0 (by omega)) hι _ (h.wd.olt o b hb)
 ·intro o b hb
  by_cases ho : o = σ.length
  ·simp only [ho, if_true] at hb; cases hb; rw [Qb1]; omega
  ·simp only [ho, if_false] at hb; exact hst.wd.olt o b hb
 ·intro o o' b hb hb'
  by_cases ho : o = σ.length
  ·by_cases ho' : o' = σ.length
   ·rw [ho, ho']
   ·simp only [ho, if_true] at hb; simp only [ho', if_false] at hb'
    cases hb; exact absurd hb' (inew h.wd o')
  ·by_cases ho' : o' = σ.length
   ·simp only [ho, if_false] at hb; simp only [ho', if_true] at hb'
    cases hb'; exact absurd hb (inew h.wd o)
   ·simp only [ho, if_false] at hb; simp only [ho', if_false] at hb'
    exact h.wd.inj o o' b hb hb'
 ·intro o b hb
  by_cases ho : o = σ.length
  ·simp only [ho, if_true] at hb; cases hb; intro hx; have := h.wd.xlt _ hx; omega
  ·simp only [ho, if_false] at hb; exact h.wd.xobj o b hb
 ·intro b p hp
  obtain ⟨h1, h2, h3⟩ := h.wd.kap b p hp
  refine ⟨h1, fun o ho => ?_, by rw [Qb1]; omega⟩
  by_cases hoo : o = σ.length
  ·simp only [hoo, if_true] at ho; cases ho; omega
  ·simp only [hoo, if_false] at ho; exact h2 o ho
 all_goals
  have key : ∀ p v x, At (fun o => if o = σ.length then some w.heap.size else ι o) (Qca w (.cells as T fz)) us ρ (σ ++ [.cells cs]) p v x → At ι (Qca w (.cells as T fz)) us ρ σ p v x ∨ ownB v x = none := by
   intro p v x ha
   cases p with
   | s i => exact .inl ha
   | c o i =>
    obtain ⟨b, ws, T', fz', cs', h1, h2, h3, h4, h5⟩ := ha
    by_cases ho : o = σ.length
    ·subst ho
     simp at h3
     subst h3
     exact .inr (hno x (List.mem_of_getElem? h5) v)
    ·simp only [ho, if_false] at h1
     have hlt : o < σ.length := by
      obtain ⟨O, hO, _⟩ := h.wd.obj o b h1
      exact (List.getElem?_eq_some_iff.1 hO).1
     rw [List.getElem?_append_left hlt] at h3
     exact .inl ⟨b, ws, T', fz', cs', h1, h2, h3, h4, h5⟩
 ·intro p v x b ha hb
  rcases key p v x ha with ha | hn
  ·exact hst.own p v x b ha hb
  ·rw [hn] at hb; cases hb
 ·intro p v x ha
  rcases key p v x ha with ha | hn
  ·exact hst.gr p v x ha
  ·exact .of_none hn
theorem Wd.none_of_ge (h : Wd M ι X κ w σ) {o : Nat} (ho : σ.length ≤ o) : ι o = none := by
 cases hi : ι o with
 | none => rfl
 | some b =>
  obtain ⟨O, hO, _⟩ := h.obj o b hi
  have := (List.getElem?_eq_some_iff.1 hO).1
  omega
end
end Go.Ev
namespace Go.Ev
open Go
theorem Qqo {α : Type} {l : List α} {i : Nat} {u : α} (h : l[i]? = some u) : l.set i u = l := by
 obtain ⟨hi, rfl⟩ := List.getElem?_eq_some_iff.1 h
 exact List.set_getElem_self hi
theorem Qcu : ∀ (cs : List V) (off : Nat) (ds : List V), (Qcd cs off ds).length = cs.length
 | cs, _, [] => by unfold Qcd; rfl
 | [], _, _ :: _ => by simp [Qcd]
 | _ :: cs, 0, x :: xs => by simp [Qcd, Qcu cs 0 xs]
 | c :: cs, n + 1, x :: xs => by simp [Qcd, Qcu cs n (x :: xs)]
theorem Qdq : ∀ (cs : List V) (off : Nat) (ds : List V) (j : Nat), off + ds.length ≤ cs.length →
  (Qcd cs off ds)[j]? = if off ≤ j ∧ j < off + ds.length then ds[j - off]? else cs[j]?
 | cs, off, [], j, _ => by
  rw [if_neg (by simp only [List.length_nil]; omega)]
  unfold Qcd; rfl
 | [], off, x :: xs, j, h => by simp at h
 | c :: cs, 0, x :: xs, j, h => by
  simp only [Qcd]
  cases j with
  | zero => simp
  | succ j =>
   simp only [List.getElem?_cons_succ]
   rw [Qdq cs 0 xs j (by simp at h ⊢; exact h)]
   simp only [Nat.zero_le, true_and, Nat.zero_add, List.length_cons, Nat.sub_zero, Nat.add_lt_add_iff_right, List.getElem?_cons_succ]
 | c :: cs, n + 1, x :: xs, j, h => by
  simp only [Qcd]
  cases j with
  | zero => simp
  | succ j =>
   simp only [List.getElem?_cons_succ]
   rw [Qdq cs n (x :: xs) j (by simp at h ⊢; omega)]
   simp only [Nat.add_le_add_iff_right, Nat.add_sub_add_right]
   by_cases hc : n ≤ j ∧ j < n + (x :: xs).length
   ·rw [if_pos hc, if_pos (by omega)]
   ·rw [if_neg hc, if_neg (by omega)]
section
variable {M : Mem} {ι : Plc} {X : Nat → Prop} {κ : Own} {w : World} {us : List Value} {ρ : List V} {σ : Objs}
theorem Ext.setRow {b : Nat} (hX : ¬ X b) (ws : Array Value) (T : TypeId) (fz : Nat × Nat) : Ext X M ι w M ι (setRow w b ws T fz) :=
 ⟨.refl _, .refl _, fun _ _ _ => rfl, by rw [Qbc]; exact Nat.le_refl _, fun c hc => by
  have hbc : b ≠ c := fun e => by subst e; exact hX hc
  rw [Qaq, if_neg hbc], rfl, rfl, rfl⟩
theorem Qjn.setRow {b c : Nat} {O : O} {ws : Array Value} {T : TypeId} {fz : Nat × Nat} (h : Qjn M ι w c O) (hbc : b ≠ c) : Qjn M ι (setRow w b ws T fz) c O := by
 cases O with
 | cells cs =>
  obtain ⟨as, T', fz', h1, h2⟩ := h
  exact ⟨as, T', fz', by rw [Qaq, if_neg hbc]; exact h1, h2⟩
 | mp es =>
  obtain ⟨en, k, h1, h2⟩ := h
  exact ⟨en, k, by rw [Qaq, if_neg hbc]; exact h1, h2⟩
theorem GrOK.setRow {v : Value} {x : V} {b : Nat} {ws : Array Value} {T : TypeId} {fz : Nat × Nat} (h : GrOK M w v x) (hb : ∀ c, ownB v x = some c → b ≠ c) : GrOK M (setRow w b ws T fz) v x := by
 refine ⟨fun xs sz hx a len cap hv => ?_⟩
 obtain ⟨h1, h2, as, T', fz', h3, h4⟩ := h.ok xs sz hx a len cap hv
 exact ⟨h1, h2, as, T', fz', by rw [Qaq, if_neg (hb a.block (by rw [hx, hv]; rfl))]; exact h3, h4⟩
theorem St.setObj (h : St M ι X κ w us ρ σ) {o b off : Nat} {cs : List V} (hi : ι o = some b) (ho : σ[o]? = some (.cells cs)) {ws : Array Value} {T : TypeId} {fz : Nat × Nat}
  (hb : w.heap[b]? = some (.cells ws T fz)) {vs : List Value} {ds : List V} (hr : Reps M ι vs ds) (hl : off + ds.length ≤ cs.length) (hone : ∀ c ∈ ds, c.one = true) (hno : ∀ c ∈ ds, ∀ v, ownB v c = none) :
  St M ι X κ (setRow w b (layA ws off vs) T fz) us ρ (σ.set o (.cells (Qcd cs off ds))) ∧ Ext X M ι w M ι (setRow w b (layA ws off vs) T fz) := by
 have hX := h.wd.xobj o b hi
 have hbl := h.wd.olt o b hi
 have hol : o < σ.length := (List.getElem?_eq_some_iff.1 ho).1
 obtain ⟨O, hO, hor⟩ := h.wd.obj o b hi
 rw [ho] at hO; cases hO
 obtain ⟨as, T', fz', h1, h2, h3, h4, h5⟩ := hor
 rw [hb] at h1; cases h1
 have hsz : cs.length ≤ ws.size := by have := h2.1; simp at this; omega
 have hvl : vs.length = ds.length := hr.1
 have hget : ∀ j, (layA ws off vs)[j]? = if off ≤ j ∧ j < off + vs.length then vs[j - off]? else ws[j]? := fun j => Qfz vs ws off j (by omega)
 have hget' : ∀ j, (Qcd cs off ds)[j]? = if off ≤ j ∧ j < off + ds.length then ds[j - off]? else cs[j]? := fun j => Qdq cs off ds j hl
 have hreps : Reps M ι ((layA ws off vs).toList.take (Qcd cs off ds).length) (Qcd cs off ds) := by
  refine ⟨by simp [Qe9, Qcu]; omega, fun i u c hu hc => ?_⟩
  rw [List.getElem?_take] at hu
  split at hu
  ·rename_i hlt
   rw [Array.getElem?_toList, hget i] at hu
   rw [hget' i, ← hvl] at hc
   by_cases hin : off ≤ i ∧ i < off + vs.length
   ·rw [if_pos hin] at hu hc; exact hr.2 _ u c hu hc
   ·rw [if_neg hin] at hu hc
    refine h2.2 i u c ?_ hc
    rw [List.getElem?_take, if_pos (by rw [Qcu] at hlt; exact hlt)]; simpa using hu
  ·cases hu
 have key : ∀ p v x, At ι (Ev.setRow w b (layA ws off vs) T fz) us ρ (σ.set o (.cells (Qcd cs off ds))) p v x → At ι w us ρ σ p v x ∨ ownB v x = none := by
  intro p v x ha
  cases p with
  | s i => exact .inl ha
  | c o' i =>
   obtain ⟨b', ws', T', fz', cs', g1, g2, g3, g4, g5⟩ := ha
   by_cases hoo : o = o'
   ·subst hoo
    rw [hi] at g1; cases g1
    rw [Qaq, if_pos rfl, if_pos hbl] at g2; cases g2
    rw [List.getElem?_set_self hol] at g3; cases g3
    rw [hget i] at g4; rw [hget' i, ← hvl] at g5
    by_cases hin : off ≤ i ∧ i < off + vs.length
    ·rw [if_pos hin] at g5; exact .inr (hno x (List.mem_of_getElem? g5) v)
    ·rw [if_neg hin] at g4 g5; exact .inl ⟨b, ws, _, _, cs, hi, hb, ho, g4, g5⟩
   ·have hbb : b ≠ b' := fun e => hoo (h.wd.inj o o' b hi (e ▸ g1))
    rw [Qaq, if_neg hbb] at g2
    rw [List.getElem?_set_ne hoo] at g3
    exact .inl ⟨b', ws', T', fz', cs', g1, g2, g3, g4, g5⟩
 refine ⟨⟨⟨fun c i u hm => ?_, fun o' c hi' => ?_, fun o' c hi' => by rw [Qbc]; exact h.wd.olt o' c hi', h.wd.inj, fun c hc => by rw [Qbc]; exact h.wd.xlt c hc, h.wd.xobj,
  fun c p hp => by rw [Qbc]; exact h.wd.kap c p hp⟩, h.rep, fun p v x c ha hc => ?_, fun p v x ha => ?_⟩, Ext.setRow hX _ _ _⟩
 ·have hcb : b ≠ c := fun e => by subst e; rw [h4 i] at hm; cases hm
  have := h.wd.mem c i u hm
  simp only [World.cell?, Qaq, if_neg hcb]
  simpa [World.cell?] using this
 ·by_cases hoo : o = o'
  ·subst hoo
   rw [hi] at hi'; cases hi'
   refine ⟨_, List.getElem?_set_self hol, layA ws off vs, T, fz, by rw [Qaq, if_pos rfl, if_pos hbl], hreps, fun i hi => h3 i (by rw [Qcu] at hi; exact hi), h4, fun c hc => ?_⟩
   obtain ⟨i, hi⟩ := List.mem_iff_getElem?.1 hc
   rw [hget' i] at hi
   split at hi
   ·exact hone c (List.mem_of_getElem? hi)
   ·exact h5 c (List.mem_of_getElem? hi)
  ·obtain ⟨O', hO', hr'⟩ := h.wd.obj o' c hi'
   have hbb : b ≠ c := fun e => hoo (h.wd.inj o o' b hi (e ▸ hi'))
   exact ⟨O', by rw [List.getElem?_set_ne hoo]; exact hO', hr'.setRow hbb⟩
 ·rcases key p v x ha with ha | hn
  ·exact h.own p v x c ha hc
  ·rw [hn] at hc; cases hc
 ·rcases key p v x ha with ha | hn
  ·exact (h.gr p v x ha).setRow fun c hc => fun e => by
    subst e
    exact (h.wd.kap _ _ (h.own p v x _ ha hc)).2.1 o hi
  ·exact .of_none hn
theorem St.weakCell (h : St M ι X κ w us ρ σ) {o i : Nat} {cs : List V} {x y : V} (ho : σ[o]? = some (.cells cs)) (hx : cs[i]? = some x) (hx1 : y.one = true) (hxy : ∀ v, Rep M ι v x → Rep M ι v y) (hyo : ∀ v, ownB v y = none) :
  St M ι X κ w us ρ (σ.set o (.cells (cs.set i y))) := by
 have hol : o < σ.length := (List.getElem?_eq_some_iff.1 ho).1
 have hil : i < cs.length := (List.getElem?_eq_some_iff.1 hx).1
 have key : ∀ p v z, At ι w us ρ (σ.set o (.cells (cs.set i y))) p v z → At ι w us ρ σ p v z ∨ ownB v z = none := by
  intro p v z ha
  cases p with
  | s j => exact .inl ha
  | c o' j =>
   obtain ⟨b, ws, T, fz, cs', g1, g2, g3, g4, g5⟩ := ha
   by_cases hoo : o = o'
   ·subst hoo
    rw [List.getElem?_set_self hol] at g3; cases g3
    by_cases hij : i = j
    ·subst hij
     rw [List.getElem?_set_self hil] at g5; cases g5
     exact .inr (hyo _)
    ·rw [List.getElem?_set_ne hij] at g5
     exact .inl ⟨b, ws, T, fz, cs, g1, g2, ho, g4, g5⟩
   ·rw [List.getElem?_set_ne hoo] at g3
    exact .inl ⟨b, ws, T, fz, cs', g1, g2, g3, g4, g5⟩
 refine ⟨⟨h.wd.mem, fun o' b hi => ?_, h.wd.olt, h.wd.inj, h.wd.xlt, h.wd.xobj, h.wd.kap⟩, h.rep, fun p v z b ha hb => ?_, fun p v z ha => ?_⟩
 ·obtain ⟨O, hO, hr⟩ := h.wd.obj o' b hi
  by_cases hoo : o = o'
  ·subst hoo
   rw [ho] at hO; cases hO
   obtain ⟨ws, T, fz, h1, h2, h3, h4, h5⟩ := hr
   refine ⟨_, List.getElem?_set_self hol, ws, T, fz, h1, ?_, fun j hj => h3 j (by simpa using hj), h4, fun c hc => ?_⟩
   ·rw [List.length_set]
    obtain ⟨u, hu, hru⟩ := h2.get hx
    have := h2.set (hxy _ hru) i
    rwa [Qqo hu] at this
   ·rcases List.mem_or_eq_of_mem_set hc with hc | rfl
    ·exact h5 c hc
    ·exact hx1
  ·exact ⟨O, by rw [List.getElem?_set_ne hoo]; exact hO, hr⟩
 ·rcases key p v z ha with ha | hn
  ·exact h.own p v z b ha hb
  ·rw [hn] at hb; cases hb
 ·rcases key p v z ha with ha | hn
  ·exact h.gr p v z ha
  ·exact .of_none hn
theorem St.dropCell (h : St M ι X κ w us ρ σ) {o i : Nat} {cs : List V} {x : V} (ho : σ[o]? = some (.cells cs)) (hx : cs[i]? = some x) (hx1 : x.ng.one = true) :
  St M ι X κ w us ρ (σ.set o (.cells (cs.set i x.ng))) := h.weakCell ho hx hx1 (fun _ hr => hr.ng) (fun _ => Qa6 _ _)
end
end Go.Ev
namespace Go.Ev
open Go
section
variable {M : Mem} {ι : Plc} {X : Nat → Prop} {κ : Own} {w : World} {us : List Value} {ρ : List V} {σ : Objs}
structure Free (M : Mem) (ι : Plc) (X : Nat → Prop) (κ : Own) (w : World) (b : Nat) : Prop where
 k : κ b = none
 x : ¬ X b
 i : ∀ o, ι o ≠ some b
 lt : b < w.heap.size
theorem St.release (h : St M ι X κ w us ρ σ) (b : Nat) (hn : ∀ p v x, At ι w us ρ σ p v x → ownB v x ≠ some b) : St M ι X (fun c => if c = b then none else κ c) w us ρ σ :=
 ⟨⟨h.wd.mem, h.wd.obj, h.wd.olt, h.wd.inj, h.wd.xlt, h.wd.xobj, fun c p hp => by
  by_cases hc : c = b
  ·simp only [hc, if_true] at hp; cases hp
  ·simp only [hc, if_false] at hp; exact h.wd.kap c p hp⟩, h.rep, fun p v x c ha hc => by
  by_cases hcb : c = b
  ·subst hcb; exact absurd hc (hn p v x ha)
  ·simp only [hcb, if_false]; exact h.own p v x c ha hc, h.gr⟩
theorem St.takeSlot (h : St M ι X κ w us ρ σ) {n b : Nat} {v : Value} {x : V} (hv : us[n]? = some v) (hx : ρ[n]? = some x) (hb : ownB v x = some b) :
  ∃ κ', St M ι X κ' w us (ρ.set n x.ng) σ ∧ Free M ι X κ' w b ∧ GrOK M w v x := by
 have hat : At ι w us ρ σ (.s n) v x := ⟨hv, hx⟩
 have hk := h.own _ v x b hat hb
 have hd := h.dropSlot n
 have hg : ρ.getD n .undef = x := by simp [List.getD, hx]
 rw [hg] at hd
 have hnlt : n < ρ.length := (List.getElem?_eq_some_iff.1 hx).1
 refine ⟨_, hd.release b fun p u y ha hu => ?_, ⟨by simp, (h.wd.kap b _ hk).1, (h.wd.kap b _ hk).2.1, (h.wd.kap b _ hk).2.2⟩, h.gr _ _ _ hat⟩
 have := hd.own p u y b ha hu
 rw [hk] at this
 cases this
 obtain ⟨h1, h2⟩ := ha
 rw [List.getElem?_set_self hnlt] at h2
 cases h2
 rw [Qa6] at hu; cases hu
theorem St.takeCell (h : St M ι X κ w us ρ σ) {o i b c : Nat} {cs : List V} {v : Value} {x : V} (hi : ι o = some c) {ws : Array Value} {T : TypeId} {fz : Nat × Nat} (hw : w.heap[c]? = some (.cells ws T fz))
  (ho : σ[o]? = some (.cells cs)) (hv : ws[i]? = some v) (hx : cs[i]? = some x) (hb : ownB v x = some b) :
  ∃ κ', St M ι X κ' w us ρ (σ.set o (.cells (cs.set i x.ng))) ∧ Free M ι X κ' w b ∧ GrOK M w v x := by
 have hat : At ι w us ρ σ (.c o i) v x := ⟨c, ws, T, fz, cs, hi, hw, ho, hv, hx⟩
 have hk := h.own _ v x b hat hb
 have hx1 : x.ng.one = true := by
  rw [V.nogr_one]
  cases x <;> first | rfl | simp [ownB] at hb
 have hd := h.dropCell ho hx hx1
 have hol : o < σ.length := (List.getElem?_eq_some_iff.1 ho).1
 have hil : i < cs.length := (List.getElem?_eq_some_iff.1 hx).1
 refine ⟨_, hd.release b fun p u y ha hu => ?_, ⟨by simp, (h.wd.kap b _ hk).1, (h.wd.kap b _ hk).2.1, (h.wd.kap b _ hk).2.2⟩, h.gr _ _ _ hat⟩
 have := hd.own p u y b ha hu
 rw [hk] at this
 cases this
 obtain ⟨b', ws', T', fz', cs', g1, g2, g3, g4, g5⟩ := ha
 rw [List.getElem?_set_self hol] at g3; cases g3
 rw [List.getElem?_set_self hil] at g5; cases g5
 rw [Qa6] at hu; cases hu
theorem St.giveSlot (h : St M ι X κ w us ρ σ) {v : Value} {x : V} (hr : Rep M ι v x) {b : Nat} (hb : ownB v x = some b) (hf : Free M ι X κ w b) (hg : GrOK M w v x) (d : Nat) :
  ∃ κ', St M ι X κ' w (us.set d v) (ρ.set d x) σ := h.setOwn hr hb hf.k hf.x hf.i hf.lt hg d
theorem St.giveCell (h : St M ι X κ w us ρ σ) {o i c : Nat} {cs : List V} {v : Value} {x : V} (hi : ι o = some c) {ws : Array Value} {T : TypeId} {fz : Nat × Nat} (hw : w.heap[c]? = some (.cells ws T fz))
  (ho : σ[o]? = some (.cells cs)) (hv : ws[i]? = some v) (hx : i < cs.length) (hr : Rep M ι v x) (hx1 : x.one = true) {b : Nat} (hb : ownB v x = some b) (hf : Free M ι X κ w b) (hg : GrOK M w v x) :
  ∃ κ', St M ι X κ' w us ρ (σ.set o (.cells (cs.set i x))) := by
 have hol : o < σ.length := (List.getElem?_eq_some_iff.1 ho).1
 have key : ∀ p u y, At ι w us ρ (σ.set o (.cells (cs.set i x))) p u y → (p ≠ .c o i ∧ At ι w us ρ σ p u y) ∨ (p = .c o i ∧ u = v ∧ y = x) := by
  intro p u y ha
  cases p with
  | s j => exact .inl ⟨by simp, ha⟩
  | c o' j =>
   obtain ⟨b', ws', T', fz', cs', g1, g2, g3, g4, g5⟩ := ha
   by_cases hoo : o = o'
   ·subst hoo
    rw [hi] at g1; cases g1
    rw [hw] at g2; cases g2
    rw [List.getElem?_set_self hol] at g3; cases g3
    by_cases hij : i = j
    ·subst hij
     rw [List.getElem?_set_self hx] at g5; cases g5
     rw [hv] at g4; cases g4
     exact .inr ⟨rfl, rfl, rfl⟩
    ·rw [List.getElem?_set_ne hij] at g5
     exact .inl ⟨by simpa using fun e => hij e.symm, ⟨_, _, _, _, cs, hi, hw, ho, g4, g5⟩⟩
   ·rw [List.getElem?_set_ne hoo] at g3
    exact .inl ⟨by simpa using fun e => absurd e.symm hoo, ⟨b', ws', T', fz', cs', g1, g2, g3, g4, g5⟩⟩
 refine ⟨fun b' => if b' = b then some (.c o i) else κ b', ⟨h.wd.mem, fun o' c' hi' => ?_, h.wd.olt, h.wd.inj, h.wd.xlt, h.wd.xobj, ?_⟩, h.rep, ?_, ?_⟩
 ·obtain ⟨O, hO, hor⟩ := h.wd.obj o' c' hi'
  by_cases hoo : o = o'
  ·subst hoo
   rw [hi] at hi'; cases hi'
   rw [ho] at hO; cases hO
   obtain ⟨ws', T', fz', h1, h2, h3, h4, h5⟩ := hor
   rw [hw] at h1; cases h1
   refine ⟨_, List.getElem?_set_self hol, ws, T, fz, hw, ?_, fun j hj => h3 j (by simpa using hj), h4, fun c hc => ?_⟩
   ·rw [List.length_set]
    have := h2.set hr i
    rwa [Qqo (show (ws.toList.take cs.length)[i]? = some v by rw [List.getElem?_take, if_pos hx]; simpa using hv)] at this
   ·rcases List.mem_or_eq_of_mem_set hc with hc | rfl
    ·exact h5 c hc
    ·exact hx1
  ·exact ⟨O, by rw [List.getElem?_set_ne hoo]; exact hO, hor⟩
 ·intro b' p hp
  by_cases hbb : b' = b
  ·subst hbb; exact ⟨hf.x, hf.i, hf.lt⟩
  ·simp only [hbb, if_false] at hp; exact h.wd.kap b' p hp
 ·intro p u y b' ha hb'
  rcases key p u y ha with ⟨hp, ha⟩ | ⟨rfl, rfl, rfl⟩
  ·have hk' := h.own p u y b' ha hb'
   have hbb : b' ≠ b := fun e => by subst e; rw [hf.k] at hk'; cases hk'
   simp only [hbb, if_false]; exact hk'
  ·rw [hb] at hb'; cases hb'; simp
 ·intro p u y ha
  rcases key p u y ha with ⟨hp, ha⟩ | ⟨rfl, rfl, rfl⟩
  ·exact h.gr p u y ha
  ·exact hg
def Qjo (M : Mem) (b s : Nat) (vs : List Value) : Mem := fun c i => if c = b ∧ s ≤ i ∧ i < s + vs.length then vs[i - s]? else M c i
theorem Qyd {b s : Nat} {vs : List Value} (hn : ∀ i, s ≤ i → M b i = none) : MemLe M (Qjo M b s vs) :=
 ⟨fun c i u hm => by
  unfold Qjo
  by_cases hc : c = b ∧ s ≤ i ∧ i < s + vs.length
  ·obtain ⟨rfl, h1, _⟩ := hc; rw [hn i h1] at hm; cases hm
  ·rw [if_neg hc]; exact hm⟩
theorem St.fill (h : St M ι X κ w us ρ σ) {b s : Nat} (hf : Free M ι X κ w b) {ws : Array Value} {T : TypeId} {fz : Nat × Nat} (hb : w.heap[b]? = some (.cells ws T fz)) {vs : List Value}
  (hn : ∀ i, s ≤ i → M b i = none) (hl : s + vs.length ≤ ws.size) :
  St (Qjo M b s vs) ι X κ (setRow w b (layA ws s vs) T fz) us ρ σ ∧ Ext X M ι w (Qjo M b s vs) ι (setRow w b (layA ws s vs) T fz) := by
 have hle := Qyd (M := M) (vs := vs) hn
 have hget : ∀ j, (layA ws s vs)[j]? = if s ≤ j ∧ j < s + vs.length then vs[j - s]? else ws[j]? := fun j => Qfz vs ws s j hl
 have hother : ∀ c i, c ≠ b → Qjo M b s vs c i = M c i := fun c i hc => by unfold Qjo; rw [if_neg (fun e => hc e.1)]
 have hatb : ∀ p v x, At ι (setRow w b (layA ws s vs) T fz) us ρ σ p v x → At ι w us ρ σ p v x := by
  intro p v x ha
  cases p with
  | s i => exact ha
  | c o i =>
   obtain ⟨b', ws', T', fz', cs', g1, g2, g3⟩ := ha
   have hbb : b ≠ b' := fun e => by subst e; exact hf.i o g1
   rw [Qaq, if_neg hbb] at g2
   exact ⟨b', ws', T', fz', cs', g1, g2, g3⟩
 have hownb : ∀ p v x c, At ι w us ρ σ p v x → ownB v x = some c → b ≠ c := fun p v x c ha hc e => by
  subst e; have := h.own p v x _ ha hc; rw [hf.k] at this; cases this
 refine ⟨⟨⟨fun c i u hm => ?_, fun o c hi => ?_, fun o c hi => by rw [Qbc]; exact h.wd.olt o c hi, h.wd.inj, fun c hc => by rw [Qbc]; exact h.wd.xlt c hc, h.wd.xobj,
  fun c p hp => by rw [Qbc]; exact h.wd.kap c p hp⟩, h.rep.mono hle (.refl _), fun p v x c ha hc => h.own p v x c (hatb p v x ha) hc, fun p v x ha => ?_⟩,
  ⟨hle, .refl _, fun c i hc => hother c i (fun e => hf.x (e ▸ hc)), by rw [Qbc]; exact Nat.le_refl _, fun c hc => by
   have hbc : b ≠ c := fun e => by subst e; exact hf.x hc
   rw [Qaq, if_neg hbc], rfl, rfl, rfl⟩⟩
 ·by_cases hcb : c = b
  ·subst hcb
   rw [Qcm (by rw [Qaq, if_pos rfl, if_pos hf.lt] : (setRow w c (layA ws s vs) T fz).heap[c]? = some (.cells (layA ws s vs) T fz)), hget i]
   unfold Qjo at hm
   by_cases hin : s ≤ i ∧ i < s + vs.length
   ·rw [if_pos ⟨rfl, hin⟩] at hm; rw [if_pos hin]; exact hm
   ·rw [if_neg (fun e => hin e.2)] at hm; rw [if_neg hin]
    have := h.wd.mem c i u hm
    rwa [Qcm hb] at this
  ·rw [hother c i hcb] at hm
   have := h.wd.mem c i u hm
   simp only [World.cell?, Qaq, if_neg (Ne.symm hcb)]
   simpa [World.cell?] using this
 ·obtain ⟨O, hO, hor⟩ := h.wd.obj o c hi
  have hcb : c ≠ b := fun e => hf.i o (e ▸ hi)
  refine ⟨O, hO, ?_⟩
  cases O with
  | cells cs =>
   obtain ⟨as, T', fz', h1, h2, h3, h4, h5⟩ := hor
   exact ⟨as, T', fz', by rw [Qaq, if_neg (Ne.symm hcb)]; exact h1, h2.mono hle (.refl _), h3, fun i => by rw [hother c i hcb]; exact h4 i, h5⟩
  | mp es =>
   obtain ⟨en, k, h1, h2⟩ := hor
   exact ⟨en, k, by rw [Qaq, if_neg (Ne.symm hcb)]; exact h1, h2.1, fun i e p he hp => ⟨(h2.2 i e p he hp).1.mono hle (.refl _), (h2.2 i e p he hp).2.mono hle (.refl _)⟩⟩
 ·have ha' := hatb p v x ha
  refine ⟨fun xs sz hx a len cap hv => ?_⟩
  have hob : ownB v x = some a.block := by rw [hx, hv]; rfl
  have hne := hownb p v x _ ha' hob
  obtain ⟨h1, h2, as, T', fz', h3, h4⟩ := (h.gr p v x ha').ok xs sz hx a len cap hv
  exact ⟨h1, fun i hi => by rw [hother _ i (Ne.symm hne)]; exact h2 i hi, as, T', fz', by rw [Qaq, if_neg hne]; exact h3, h4⟩
end
end Go.Ev
namespace Go.Ev
open Go
def Ql0 : Value → V → Bool
 | .bool a, .bool b => a == b
 | .int k a, .int j b => decide (k = j) && decide (a = b)
 | .string s, .str l => decide (s.data.toList = l)
 | .pointer none, .nilp => true
 | .slice none n m, .nils => n == 0 && m == 0
 | .map none, .nilm => true
 | .nilIface, .nili => true
 | .nilFunc, .nilf => true
 | _, _ => false
def Qdd : List Value → List V → Bool
 | [], [] => true
 | v :: vs, x :: xs => Ql0 v x && Qdd vs xs
 | _, _ => false
def Ql1 : Value → V → Bool
 | .agg vs, .agg cs => Qdd vs.toList cs
 | .tuple vs, .undef => vs.toList.isEmpty
 | v, x => Ql0 v x
def Qat : Operand → Arg → Bool
 | .tmp t, .t n => t == n
 | .const v, .c x => Ql1 v x
 | .global g, .g n => g == n
 | .func f, .f g => f == g
 | _, _ => false
def Qbo : List Operand → List Arg → Bool
 | [], [] => true
 | x :: xs, y :: ys => Qat x y && Qbo xs ys
 | _, _ => false
def szOf (P : Program) (t : TypeId) : Option Nat := (P.info? t).map (·.size)
def isAg : TypeDesc → Bool
 | .struct _ | .array _ _ => true
 | _ => false
def agOf (P : Program) (t : TypeId) : Option Bool := (P.underlying t).map isAg
def Qeb (P : Program) (t : TypeId) (ag : Bool) (sz : Nat) : Bool := agOf P t == some ag && szOf P t == some sz && (ag || sz == 1)
section
variable {M : Mem} {ι : Plc}
theorem Qjp {v : Value} {x : V} (h : Ql0 v x = true) : Rep M ι v x ∧ x.one = true ∧ x.ng = x ∧ v.oneCell = true := by
 unfold Ql0 at h
 split at h
 ·simp at h; subst h; exact ⟨.bool _, rfl, rfl, rfl⟩
 ·simp at h; obtain ⟨rfl, rfl⟩ := h; exact ⟨.int _ _, rfl, rfl, rfl⟩
 ·simp at h; exact ⟨.str _ _ h, rfl, rfl, rfl⟩
 ·exact ⟨.nilp, rfl, rfl, rfl⟩
 ·simp at h; obtain ⟨rfl, rfl⟩ := h; exact ⟨.nils, rfl, rfl, rfl⟩
 ·exact ⟨.nilm, rfl, rfl, rfl⟩
 ·exact ⟨.nili, rfl, rfl, rfl⟩
 ·exact ⟨.nilf, rfl, rfl, rfl⟩
 ·cases h
theorem Qbr : ∀ {vs : List Value} {xs : List V}, Qdd vs xs = true → Reps M ι vs xs ∧ (∀ x ∈ xs, x.one = true ∧ x.ng = x) ∧ ∀ v ∈ vs, v.oneCell = true
 | [], [], _ => ⟨.nil, by simp, by simp⟩
 | v :: vs, x :: xs, h => by
  simp only [Qdd, Bool.and_eq_true] at h
  obtain ⟨h1, h2, h3, h4⟩ := Qjp (M := M) (ι := ι) h.1
  obtain ⟨h5, h6, h7⟩ := Qbr h.2
  exact ⟨Reps.cons h1 h5, fun y hy => by
   rcases List.mem_cons.1 hy with rfl | hy
   ·exact ⟨h2, h3⟩
   ·exact h6 y hy, fun y hy => by
   rcases List.mem_cons.1 hy with rfl | hy
   ·exact h4
   ·exact h7 y hy⟩
 | [], _ :: _, h => by simp [Qdd] at h
 | _ :: _, [], h => by simp [Qdd] at h
theorem Qng {v : Value} {x : V} (h : Ql1 v x = true) : Rep M ι v x ∧ x.ng = x := by
 unfold Ql1 at h
 split at h
 ·exact ⟨Rep.agg_iff.2 (Qbr h).1, rfl⟩
 ·rename_i vs
  have : vs = #[] := by simpa using h
  subst this
  exact ⟨.undef, rfl⟩
 ·have := Qjp (M := M) (ι := ι) h; exact ⟨this.1, this.2.2.1⟩
structure GOK (G : GV) (M : Mem) (ι : Plc) : Prop where
 ok : ∀ g, Rep M ι (.pointer (some ⟨g, 0, none⟩)) (G g)
 ex : ∀ p ∈ G.ex, M p.1 p.2.1 = some p.2.2
theorem GOK.mono {G : GV} {M M' : Mem} {ι ι' : Plc} (h : GOK G M ι) (hm : MemLe M M') (hi : PlcLe ι ι') : GOK G M' ι' := ⟨fun g => (h.ok g).mono hm hi, fun p hp => hm.le _ _ _ (h.ex p hp)⟩
theorem Qha {us : List Value} {ρ : List V} (h : Reps M ι us ρ) (n : Nat) : Rep M ι (us.getD n undef) (ρ.getD n .undef) := by
 by_cases hn : n < ρ.length
 ·have hu : n < us.length := by rw [h.1]; exact hn
  simp only [List.getD, List.getElem?_eq_getElem hn, List.getElem?_eq_getElem hu, Option.getD_some]
  exact h.2 n _ _ (List.getElem?_eq_getElem hu) (List.getElem?_eq_getElem hn)
 ·have hu : ¬ n < us.length := by rw [h.1]; exact hn
  simp only [List.getD, List.getElem?_eq_none (Nat.not_lt.1 hn), List.getElem?_eq_none (Nat.not_lt.1 hu), Option.getD_none]
  exact .undef
theorem Qh6 {G : GV} {a : Act} {ρ : List V} (hr : Reps M ι a.tmps.toList ρ) (hG : GOK G M ι) {x : Operand} {y : Arg} (h : Qat x y = true) : Rep M ι (a.eval x) (argT G ρ y) := by
 unfold Qat at h
 split at h
 ·rename_i t n
  have : t = n := by simpa using h
  subst this
  have := Qha hr t
  simpa [Act.eval, argT, Array.getD_eq_getD_getElem?, List.getD] using this
 ·exact (Qng h).1
 ·rename_i g n
  have : g = n := by simpa using h
  subst this
  exact hG.ok g
 ·rename_i f g
  have : f = g := by simpa using h
  subst this
  exact .fn f #[] #[] [] [] rfl rfl (fun i v c h => by simp at h) (fun i v c h => by simp at h)
 ·cases h
structure Opd (M : Mem) (ι : Plc) (r : Operand → Value) (A : Arg → V) : Prop where
 ok : ∀ x y, Qat x y = true → Rep M ι (r x) (A y)
theorem Opd.args {r : Operand → Value} {A : Arg → V} (h : Opd M ι r A) : ∀ {xs : List Operand} {ys : List Arg}, Qbo xs ys = true → Reps M ι (xs.map r) (ys.map A)
 | [], [], _ => .nil
 | x :: xs, y :: ys, hc => by
  simp only [Qbo, Bool.and_eq_true] at hc
  exact Reps.cons (h.ok x y hc.1) (h.args hc.2)
 | [], _ :: _, hc => by simp [Qbo] at hc
 | _ :: _, [], hc => by simp [Qbo] at hc
theorem Opd.of_state {G : GV} {a : Act} {ρ : List V} (hr : Reps M ι a.tmps.toList ρ) (hG : GOK G M ι) : Opd M ι a.eval (arg G ρ) :=
 ⟨fun x y h => (Qh6 hr hG h).ng⟩
theorem Rep.inv_bool {v : Value} {b : Bool} (h : Rep M ι v (.bool b)) : v = .bool b := by cases h; rfl
theorem Rep.inv_int {v : Value} {k : IntKind} {n : Int} (h : Rep M ι v (.int k n)) : v = .int k n := by cases h; rfl
theorem Rep.inv_str {v : Value} {s : List UInt8} (h : Rep M ι v (.str s)) : ∃ b : ByteArray, v = .string b ∧ b.data.toList = s := by cases h; exact ⟨_, rfl, ‹_›⟩
theorem Rep.inv_ptr {v : Value} {o off : Nat} (h : Rep M ι v (.ptr o off)) : ∃ b, v = .pointer (some ⟨b, off, none⟩) ∧ ι o = some b := by cases h; exact ⟨_, rfl, ‹_›⟩
theorem Rep.inv_eptr {v : Value} {cs : List V} {off : Nat} (h : Rep M ι v (.eptr cs off)) :
  ∃ b base us, v = .pointer (some ⟨b, base + off, none⟩) ∧ Reps M ι us cs ∧ ∀ (i : Nat) u, us[i]? = some u → M b (base + i) = some u := by
 cases h with
 | eptr _ _ b base us hl hm hr => exact ⟨b, base, us, rfl, ⟨hl, hr⟩, hm⟩
theorem Rep.inv_sl {v : Value} {xs : List V} {c : Cap} (h : Rep M ι v (.sl xs c)) :
  (∃ b off cap sz us, v = .slice (some ⟨b, off, none⟩) xs.length cap ∧ (∀ x ∈ xs, x.cells.length = sz) ∧ Reps M ι us (xs.flatMap V.cells) ∧ (∀ (i : Nat) u, us[i]? = some u → M b (off + i) = some u) ∧ xs.length ≤ cap ∧ (c = .fx → cap = xs.length)) ∨
   ∃ a, v = .slice (some a) 0 0 ∧ xs = [] ∧ ∀ s, c ≠ .gr s := by
 cases h with
 | sl _ _ b off cap sz us hs hl hm hr hcap hfx => exact .inl ⟨b, off, cap, sz, us, rfl, hs, ⟨hl, hr⟩, hm, hcap, hfx⟩
 | sl0 a _ hg => exact .inr ⟨a, rfl, rfl, hg⟩
theorem Rep.inv_hs {v : Value} {o off len sz : Nat} {ag : Bool} (h : Rep M ι v (.hs o off len sz ag)) : ∃ b cap, v = .slice (some ⟨b, off, none⟩) len cap ∧ ι o = some b ∧ len ≤ cap := by
 cases h; exact ⟨_, _, rfl, ‹_›, ‹_›⟩
end
section
variable {P : Program} {w : World}
theorem run_underlying {t : TypeId} {d : TypeDesc} (h : P.underlying t = some d) : (underlying t).run P w = .ok d w := by
 simp [underlying, program, Qab, Sem.run, Result.andThen, h]
theorem Qiq {t : TypeId} {i : TypeInfo} (h : P.info? t = some i) : (typeInfo t).run P w = .ok i w := by
 simp [typeInfo, program, Qab, Sem.run, Result.andThen, h]
theorem Qbp {t : TypeId} {n : Nat} (h : szOf P t = some n) : (sizeOf t).run P w = .ok n w := by
 unfold szOf at h
 rw [Option.map_eq_some_iff] at h
 obtain ⟨i, hi, rfl⟩ := h
 simp only [sizeOf, Qab, Qiq hi, Result.andThen]
 rfl
theorem Qdf {t : TypeId} {b : Bool} (h : agOf P t = some b) : (isAgg t).run P w = .ok b w := by
 unfold agOf at h
 rw [Option.map_eq_some_iff] at h
 obtain ⟨d, hd, rfl⟩ := h
 simp only [isAgg, Qab, run_underlying hd, Result.andThen]
 cases d <;> rfl
end
end Go.Ev
namespace Go.Ev
open Go
def Qdr (w : World) (b off : Nat) (us : List Value) : Prop := ∀ (i : Nat) u, us[i]? = some u → w.cell? ⟨b, off + i, none⟩ = some u
section
variable {P : Program} {M : Mem} {ι : Plc} {X : Nat → Prop} {κ : Own} {w : World} {σ : Objs}
theorem Qdr.drop {b off : Nat} {us : List Value} (h : Qdr w b off us) (n : Nat) : Qdr w b (off + n) (us.drop n) := fun i u hu => by
 rw [List.getElem?_drop] at hu
 have := h (n + i) u hu
 rwa [← Nat.add_assoc] at this
theorem Qdr.take {b off : Nat} {us : List Value} (h : Qdr w b off us) (n : Nat) : Qdr w b off (us.take n) := fun i u hu => by
 rw [List.getElem?_take] at hu
 split at hu
 ·exact h i u hu
 ·cases hu
theorem Wd.cells (h : Wd M ι X κ w σ) {b off : Nat} {us : List Value} (hm : ∀ (i : Nat) u, us[i]? = some u → M b (off + i) = some u) : Qdr w b off us := fun i u hu => h.mem b _ u (hm i u hu)
theorem Wd.objCells (h : Wd M ι X κ w σ) {o b : Nat} {cs : List V} (hi : ι o = some b) (ho : Objs.get σ o = some cs) : ∃ us, Reps M ι us cs ∧ Qdr w b 0 us := by
 unfold Objs.get at ho
 obtain ⟨O, hO, hr⟩ := h.obj o b hi
 rw [hO] at ho
 cases O with
 | cells cs' =>
  simp at ho; subst ho
  obtain ⟨ws, T, fz, h1, h2, _⟩ := hr
  refine ⟨_, h2, fun i u hu => ?_⟩
  rw [Qcm h1, Nat.zero_add]
  rw [List.getElem?_take] at hu
  split at hu
  ·simpa using hu
  ·cases hu
 | mp es => cases ho
theorem Qgt {t : TypeId} {ag : Bool} {sz b base off : Nat} {cs : List V} {us : List Value} {x : V} (ht : Qeb P t ag sz = true) (hr : Reps M ι us cs) (hc : Qdr w b base us)
  (hp : part ag sz cs off = some x) : ∃ u, (loadVar t ⟨b, base + off, none⟩).run P w = .ok u w ∧ Rep M ι u x := by
 simp only [Qeb, Bool.and_eq_true, beq_iff_eq] at ht
 obtain ⟨⟨hag, hsz⟩, hone⟩ := ht
 unfold part at hp
 cases ag with
 | true =>
  simp only [if_true] at hp
  split at hp
  ·rename_i hle
   cases hp
   have hl : ((us.drop off).take sz).length = sz := by
    have := hr.1
    simp; omega
   have hrun := Qet (P := P) (w := w) b (base + off) ((us.drop off).take sz) ((hc.drop off).take sz)
   rw [hl] at hrun
   refine ⟨.agg ((us.drop off).take sz).toArray, ?_, Rep.agg_iff.2 (by simpa using ((hr.drop off).take sz).ng)⟩
   unfold loadVar
   simp only [Qab, Qdf hag, Qbp hsz, Result.andThen, if_true, hrun]
   rfl
  ·cases hp
 | false =>
  simp only [Bool.false_eq_true, if_false] at hp
  split at hp
  ·rw [Option.map_eq_some_iff] at hp
   obtain ⟨c, hcx, rfl⟩ := hp
   obtain ⟨u, hu, hru⟩ := hr.get hcx
   refine ⟨u, ?_, hru.ng⟩
   unfold loadVar
   simp only [Qab, Qdf hag, Result.andThen, Bool.false_eq_true, if_false]
   exact Qi8 (hc off u hu)
  ·cases hp
theorem Qye (h : Wd M ι X κ w σ) {t : TypeId} {ag : Bool} {sz : Nat} {v : Value} {p x : V} (ht : Qeb P t ag sz = true) (hv : Rep M ι v p)
  (hx : eL σ ag sz p = some x) :
  ∃ u, (Instr.loadAt t v).run P w = .ok u w ∧ Rep M ι u x := by
 unfold eL at hx
 cases p with
 | ptr o off =>
  obtain ⟨b, rfl, hi⟩ := hv.inv_ptr
  simp only [Option.bind_eq_bind, Option.bind_eq_some_iff] at hx
  obtain ⟨cs, hcs, hp⟩ := hx
  obtain ⟨us, hr, hc⟩ := h.objCells hi hcs
  obtain ⟨u, hrun, hu⟩ := Qgt ht hr hc hp
  refine ⟨u, ?_, hu⟩
  rw [Nat.zero_add] at hrun
  unfold Instr.loadAt Instr.sureAddr
  rw [Qab, Qaj]
  exact hrun
 | eptr cs off =>
  obtain ⟨b, base, us, rfl, hr, hm⟩ := hv.inv_eptr
  obtain ⟨u, hrun, hu⟩ := Qgt ht hr (h.cells hm) hx
  refine ⟨u, ?_, hu⟩
  unfold Instr.loadAt Instr.sureAddr
  rw [Qab, Qaj]
  exact hrun
 | _ => simp at hx
theorem Qqp {t : TypeId} {ag : Bool} {sz off : Nat} {cs : List V} {vs : Array Value} {x : V} (ht : Qeb P t ag sz = true) (hr : Reps M ι vs.toList cs) (hp : part ag sz cs off = some x) :
  ∃ u, (Go.part t vs off).run P w = .ok u w ∧ Rep M ι u x := by
 simp only [Qeb, Bool.and_eq_true, beq_iff_eq] at ht
 obtain ⟨⟨hag, hsz⟩, hone⟩ := ht
 unfold part at hp
 cases ag with
 | true =>
  simp only [if_true] at hp
  split at hp
  ·rename_i hle
   cases hp
   refine ⟨.agg (vs.extract off (off + sz)), ?_, Rep.agg_iff.2 ?_⟩
   ·unfold Go.part
    simp only [Qab, Qdf hag, Qbp hsz, Result.andThen, if_true]
    rfl
   ·have := ((hr.drop off).take sz).ng
    rw [Array.toList_extract, List.extract_eq_take_drop]
    simpa using this
  ·cases hp
 | false =>
  simp only [Bool.false_eq_true, if_false] at hp
  split at hp
  ·rw [Option.map_eq_some_iff] at hp
   obtain ⟨c, hcx, rfl⟩ := hp
   obtain ⟨u, hu, hru⟩ := hr.get hcx
   refine ⟨u, ?_, hru.ng⟩
   unfold Go.part
   simp only [Qab, Qdf hag, Result.andThen, Bool.false_eq_true, if_false]
   rw [show vs[off]? = some u by simpa using hu]
   rfl
  ·cases hp
theorem Qeh {k : IntKind} {n : Int} : (asIntOf (.int k n)).run P w = .ok (k, n) w := rfl
theorem Qei {i : V} {n j : Nat} (h : index i n = some j) : ∃ k q, i = .int k q ∧ 0 ≤ q ∧ q < n ∧ j = q.toNat := by
 unfold index at h
 split at h
 ·split at h
  ·rename_i hc; cases h; exact ⟨_, _, rfl, hc.1, hc.2, rfl⟩
  ·cases h
 ·cases h
theorem Qh7 {x : V} {hi l : Nat} (h : bound x hi = some l) : ∃ k q, x = .int k q ∧ 0 ≤ q ∧ q ≤ hi ∧ l = q.toNat := by
 unfold bound at h
 split at h
 ·split at h
  ·rename_i hc; cases h; exact ⟨_, _, rfl, hc.1, hc.2, rfl⟩
  ·cases h
 ·cases h
theorem Qbe {v : Value} {x : V} {hi l : Nat} {code : BoundsCode} (hv : Rep M ι v x) (h : bound x hi = some l) : (Instr.sliceBound v hi code).run P w = .ok l w := by
 obtain ⟨k, q, rfl, h0, h1, rfl⟩ := Qh7 h
 cases hv.inv_int
 unfold Instr.sliceBound
 simp only [Qab, Qeh, Result.andThen]
 rw [if_pos ⟨h0, h1⟩]
 rfl
def RepO (M : Mem) (ι : Plc) : Option Value → Option V → Prop
 | none, none => True
 | some v, some x => Rep M ι v x
 | _, _ => False
theorem Qf0 {x : V} {a b l : Nat} (h : bound x a = some l) (hab : a ≤ b) : bound x b = some l := by
 obtain ⟨k, q, rfl, h0, h1, rfl⟩ := Qh7 h
 show (if 0 ≤ q ∧ q ≤ (b : Int) then some q.toNat else none) = some q.toNat
 rw [if_pos ⟨h0, by omega⟩]
theorem Qd2 {x : V} {a l : Nat} (h : bound x a = some l) : l ≤ a := by
 obtain ⟨k, q, rfl, h0, h1, rfl⟩ := Qh7 h
 omega
theorem Qb2 {isSlice : Bool} {len cap l h : Nat} {m : Option Nat} {lo hi mx : Option Value} {xlo xhi xmx : Option V} (hcap : len ≤ cap)
  (h1 : RepO M ι lo xlo) (h2 : RepO M ι hi xhi) (h3 : RepO M ι mx xmx) (hmx : xmx.isSome → xhi.isSome) (hb : bounds len xlo xhi xmx = some (l, h, m)) :
  (Instr.sliceBounds isSlice len cap lo hi mx).run P w = .ok (l, h, m.getD cap) w ∧ l ≤ h ∧ h ≤ len ∧ (∀ k, m = some k → h ≤ k ∧ k ≤ len) := by
 unfold bounds at hb
 cases xmx with
 | none =>
  cases mx with
  | some _ => exact h3.elim
  | none =>
   simp only [Option.bind_eq_bind, Option.bind_some, Option.getD_none] at hb
   cases xhi with
   | none =>
    cases hi with
    | some _ => exact h2.elim
    | none =>
     simp only [Option.bind_some] at hb
     cases xlo with
     | none =>
      cases lo with
      | some _ => exact h1.elim
      | none => simp at hb; obtain ⟨rfl, rfl, rfl⟩ := hb; exact ⟨rfl, Nat.zero_le _, Nat.le_refl _, by simp⟩
     | some xl =>
      cases lo with
      | none => exact h1.elim
      | some vl =>
       simp only [Option.bind_eq_some_iff, Option.pure_def] at hb
       obtain ⟨l', hl', he⟩ := hb
       simp at he; obtain ⟨rfl, rfl, rfl⟩ := he
       refine ⟨?_, Qd2 hl', Nat.le_refl _, by simp⟩
       unfold Instr.sliceBounds
       simp only [Qab, Qaj, Result.andThen, Qbe (P := P) (w := w) (code := _) h1 hl']
       rfl
   | some xh =>
    cases hi with
    | none => exact h2.elim
    | some vh =>
     simp only [Option.bind_eq_some_iff] at hb
     obtain ⟨h', hh', hb⟩ := hb
     have hle := Qd2 hh'
     cases xlo with
     | none =>
      cases lo with
      | some _ => exact h1.elim
      | none =>
       simp at hb; obtain ⟨rfl, rfl, rfl⟩ := hb
       refine ⟨?_, Nat.zero_le _, hle, by simp⟩
       unfold Instr.sliceBounds
       simp only [Qab, Qaj, Result.andThen, Qbe (P := P) (w := w) h2 (Qf0 hh' hcap)]
       rfl
     | some xl =>
      cases lo with
      | none => exact h1.elim
      | some vl =>
       simp only [Option.bind_eq_some_iff, Option.pure_def] at hb
       obtain ⟨l', hl', he⟩ := hb
       simp at he; obtain ⟨rfl, rfl, rfl⟩ := he
       refine ⟨?_, Qd2 hl', hle, by simp⟩
       unfold Instr.sliceBounds
       simp only [Qab, Qaj, Result.andThen, Qbe (P := P) (w := w) h2 (Qf0 hh' hcap), Qbe (P := P) (w := w) h1 hl']
       rfl
 | some xm =>
  cases mx with
  | none => exact h3.elim
  | some vm =>
   cases xhi with
   | none => simp at hmx
   | some xh =>
    cases hi with
    | none => exact h2.elim
    | some vh =>
     cases xlo with
     | none =>
      cases lo with
      | some _ => exact h1.elim
      | none =>
       simp only [Option.bind_eq_bind, Option.bind_eq_some_iff, Option.map_eq_some_iff, Option.bind_some, Option.pure_def] at hb
       obtain ⟨m', ⟨m0, hm', rfl⟩, h', hh', he⟩ := hb
       simp at he; obtain ⟨rfl, rfl, rfl⟩ := he
       simp only [Option.getD_some] at hh'
       have hle := Qd2 hh'
       have hlm := Qd2 hm'
       refine ⟨?_, Nat.zero_le _, by omega, fun k hk => by cases hk; exact ⟨hle, hlm⟩⟩
       unfold Instr.sliceBounds
       simp only [Qab, Qaj, Result.andThen, Qbe (P := P) (w := w) h3 (Qf0 hm' hcap), Qbe (P := P) (w := w) h2 hh']
       rfl
     | some xl =>
      cases lo with
      | none => exact h1.elim
      | some vl =>
       simp only [Option.bind_eq_bind, Option.bind_eq_some_iff, Option.map_eq_some_iff, Option.pure_def] at hb
       obtain ⟨m', ⟨m0, hm', rfl⟩, h', hh', l', hl', he⟩ := hb
       simp at he; obtain ⟨rfl, rfl, rfl⟩ := he
       simp only [Option.getD_some] at hh'
       have hle := Qd2 hh'
       have hlm := Qd2 hm'
       refine ⟨?_, Qd2 hl', by omega, fun k hk => by cases hk; exact ⟨hle, hlm⟩⟩
       unfold Instr.sliceBounds
       simp only [Qab, Qaj, Result.andThen, Qbe (P := P) (w := w) h3 (Qf0 hm' hcap), Qbe (P := P) (w := w) h2 hh', Qbe (P := P) (w := w) h1 hl']
       rfl
end
end Go.Ev
namespace Go.Ev
open Go
section
variable {P : Program} {M : Mem} {ι : Plc} {X : Nat → Prop} {κ : Own} {w : World} {σ : Objs}
theorem Qqq {v : Value} {p : V} (hv : Rep M ι v p) (hp : (∃ o a, p = .ptr o a) ∨ ∃ cs a, p = .eptr cs a) :
  ∃ b a, v = .pointer (some ⟨b, a, none⟩) ∧ ∀ k, Rep M ι (.pointer (some ⟨b, a + k, none⟩)) (match p with | .ptr o x => .ptr o (x + k) | .eptr cs x => .eptr cs (x + k) | y => y) := by
 rcases hp with ⟨o, a, rfl⟩ | ⟨cs, a, rfl⟩
 ·obtain ⟨b, rfl, hi⟩ := hv.inv_ptr
  exact ⟨b, a, rfl, fun k => .ptr o (a + k) b hi⟩
 ·obtain ⟨b, base, us, rfl, hr, hm⟩ := hv.inv_eptr
  exact ⟨b, base + a, rfl, fun k => by rw [Nat.add_assoc]; exact .eptr cs (a + k) b base us hr.1 hm hr.2⟩
def Qf1 (P : Program) (s : TypeId) (f off : Nat) : Option TypeId :=
 match P.underlying s with
 | some (.struct fs) => match fs[f]? with
  | some fd => if fd.offset = off then some fd.type else none
  | none => none
 | _ => none
theorem Qhb {s : TypeId} {f off : Nat} {t : TypeId} (h : Qf1 P s f off = some t) : ∃ fs fd, P.underlying s = some (.struct fs) ∧ fs[f]? = some fd ∧ fd.offset = off ∧ fd.type = t := by
 unfold Qf1 at h
 split at h
 ·split at h
  ·split at h
   ·cases h; exact ⟨_, _, ‹_›, ‹_›, ‹_›, rfl⟩
   ·cases h
  ·cases h
 ·cases h
theorem Qt5 {s : TypeId} {f off sz : Nat} {t : TypeId} {v : Value} {p x : V} (hs : Qf1 P s f off = some t) (hz : szOf P t = some sz) (hz0 : sz ≠ 0) (hv : Rep M ι v p)
  (hx : eF off p = some x) :
  ∃ u, (Instr.fieldAt s v f).run P w = .ok u w ∧ Rep M ι u x := by
 unfold eF at hx
 obtain ⟨fs, fd, h1, h2, rfl, rfl⟩ := Qhb hs
 have hp : (∃ o a, p = .ptr o a) ∨ ∃ cs a, p = .eptr cs a := by
  split at hx
  ·exact .inl ⟨_, _, rfl⟩
  ·exact .inr ⟨_, _, rfl⟩
  ·cases hx
 obtain ⟨b, a, rfl, hk⟩ := Qqq hv hp
 refine ⟨.pointer (some ⟨b, a + fd.offset, none⟩), ?_, ?_⟩
 ·unfold Instr.fieldAt Instr.sureAddr fieldPlace
  simp only [Qab, run_underlying h1, Result.andThen, h2, Qaj, Qbp hz, hz0, if_false, Qcf]
 ·have := hk fd.offset
  rcases hp with ⟨o, a', rfl⟩ | ⟨cs, a', rfl⟩
  ·cases hx; exact this
  ·cases hx; exact this
theorem Qt6 {s : TypeId} {f off sz : Nat} {ag : Bool} {t : TypeId} {v : Value} {p x : V} (hs : Qf1 P s f off = some t) (ht : Qeb P t ag sz = true) (hv : Rep M ι v p)
  (hx : Qgs ag off sz p = some x) : ∃ u, (Instr.field s v f).run P w = .ok u w ∧ Rep M ι u x := by
 unfold Qgs at hx
 obtain ⟨fs, fd, h1, h2, rfl, rfl⟩ := Qhb hs
 cases p with
 | agg cs =>
  cases hv with
  | agg vs _ hl hr =>
   obtain ⟨u, hrun, hu⟩ := Qqp (P := P) (w := w) ht (Rep.agg_iff.1 (.agg vs cs hl hr)) hx
   refine ⟨u, ?_, hu⟩
   unfold Instr.field
   simp only [Qab, run_underlying h1, Result.andThen, h2, asAgg, Qaj]
   exact hrun
 | _ => cases hx
theorem Qbs {xs : List V} {sz : Nat} (hs : ∀ x ∈ xs, x.cells.length = sz) : (xs.flatMap V.cells).length = xs.length * sz := by
 induction xs with
 | nil => simp
 | cons x xs ih =>
  simp only [List.flatMap_cons, List.length_append, List.length_cons]
  rw [hs x (by simp), ih (fun y hy => hs y (by simp [hy])), Nat.add_mul, Nat.one_mul, Nat.add_comm]
theorem Qnh {xs : List V} {sz : Nat} (hs : ∀ x ∈ xs, x.cells.length = sz) (n : Nat) : (xs.drop n).flatMap V.cells = (xs.flatMap V.cells).drop (n * sz) := by
 induction n generalizing xs with
 | zero => simp
 | succ n ih =>
  cases xs with
  | nil => simp
  | cons x xs =>
   simp only [List.drop_succ_cons, List.flatMap_cons]
   rw [ih (fun y hy => hs y (by simp [hy])), Nat.succ_mul, Nat.add_comm, ← List.drop_drop, List.drop_left' (hs x (by simp))]
theorem Qt7 {xs : List V} {sz : Nat} (hs : ∀ x ∈ xs, x.cells.length = sz) (n : Nat) : (xs.take n).flatMap V.cells = (xs.flatMap V.cells).take (n * sz) := by
 induction n generalizing xs with
 | zero => simp
 | succ n ih =>
  cases xs with
  | nil => simp
  | cons x xs =>
   have hx := hs x (by simp)
   simp only [List.take_succ_cons, List.flatMap_cons]
   rw [ih (fun y hy => hs y (by simp [hy])), Nat.succ_mul, Nat.add_comm, ← hx, List.take_length_add_append]
theorem Ql2 {xs : List V} {sz j : Nat} {e : V} (hs : ∀ x ∈ xs, x.cells.length = sz) (he : xs[j]? = some e) : ((xs.flatMap V.cells).drop (j * sz)).take sz = e.cells := by
 rw [← Qnh hs, List.drop_eq_getElem_cons (List.getElem?_eq_some_iff.1 he).1, List.flatMap_cons]
 have h1 := (List.getElem?_eq_some_iff.1 he).2
 rw [h1, List.take_left' (hs e (List.mem_of_getElem? he))]
theorem Qt8 (h : Wd M ι X κ w σ) {t e : TypeId} {sz : Nat} {v vi : Value} {p i x : V} (ht : P.underlying t = some (.slice e)) (hz : szOf P e = some sz) (hv : Rep M ι v p) (hi : Rep M ι vi i)
  (hx : eI sz i p = some x) : ∃ u, (Instr.indexAt t v vi).run P w = .ok u w ∧ Rep M ι u x := by
 unfold eI at hx
 cases p with
 | sl xs c =>
  simp only [Option.bind_eq_bind, Option.bind_eq_some_iff] at hx
  obtain ⟨j, hj, el, hel, hx⟩ := hx
  split at hx
  ·rename_i hlen
   cases hx
   obtain ⟨k, q, rfl, h0, h1, rfl⟩ := Qei hj
   cases hi.inv_int
   rcases hv.inv_sl with ⟨b, off, cap, sz', us, rfl, hs, hr, hm, hcap, _⟩ | ⟨_, _, hnil, _⟩
   case inr => subst hnil; simp at hel
   have hsz : sz' = sz := by rw [← hs el (List.mem_of_getElem? hel)]; exact hlen
   subst hsz
   refine ⟨.pointer (some ⟨b, off + q.toNat * sz', none⟩), ?_, ?_⟩
   ·unfold Instr.indexAt
    simp only [Qab, Qeh, run_underlying ht, Result.andThen, Qaj]
    rw [if_pos ⟨h0, h1⟩]
    simp only [Qab, Qbp hz, Result.andThen, Qaj, Qcf]
   ·have hrr := ((hr.drop (q.toNat * sz')).take sz')
    rw [Ql2 hs hel] at hrr
    refine .eptr el.cells 0 b (off + q.toNat * sz') _ hrr.1 (fun m u hu => ?_) hrr.2
    rw [List.getElem?_take] at hu
    split at hu
    ·rw [List.getElem?_drop] at hu
     have := hm _ u hu
     rwa [← Nat.add_assoc] at this
    ·cases hu
  ·cases hx
 | hs o off len s ag =>
  simp only [Option.bind_eq_bind, Option.bind_eq_some_iff] at hx
  obtain ⟨j, hj, hx⟩ := hx
  split at hx
  ·rename_i hs
   cases hx
   obtain ⟨k, q, rfl, h0, h1, rfl⟩ := Qei hj
   cases hi.inv_int
   obtain ⟨b, cap, rfl, hib, hc⟩ := hv.inv_hs
   refine ⟨.pointer (some ⟨b, off + q.toNat * sz, none⟩), ?_, .ptr o _ b hib⟩
   unfold Instr.indexAt
   simp only [Qab, Qeh, run_underlying ht, Result.andThen, Qaj]
   rw [if_pos ⟨h0, h1⟩]
   simp only [Qab, Qbp hz, Result.andThen, Qaj, Qcf]
  ·cases hx
 | _ => cases hx
theorem Qss {t e : TypeId} {n sz : Nat} {v vi : Value} {p i x : V} (ht : P.underlying t = some (.array n e)) (hz : szOf P e = some sz) (hv : Rep M ι v p) (hi : Rep M ι vi i)
  (hx : Qcq n sz i p = some x) : ∃ u, (Instr.indexAt t v vi).run P w = .ok u w ∧ Rep M ι u x := by
 unfold Qcq at hx
 simp only [Option.bind_eq_bind, Option.bind_eq_some_iff] at hx
 obtain ⟨j, hj, hx⟩ := hx
 obtain ⟨k, q, rfl, h0, h1, rfl⟩ := Qei hj
 cases hi.inv_int
 have hp : (∃ o a, p = .ptr o a) ∨ ∃ cs a, p = .eptr cs a := by
  split at hx
  ·exact .inl ⟨_, _, rfl⟩
  ·exact .inr ⟨_, _, rfl⟩
  ·cases hx
 obtain ⟨b, a, rfl, hk⟩ := Qqq hv hp
 refine ⟨.pointer (some ⟨b, a + q.toNat * sz, none⟩), ?_, ?_⟩
 ·unfold Instr.indexAt Instr.sureAddr
  simp only [Qab, Qeh, run_underlying ht, Result.andThen, Qaj]
  rw [if_pos ⟨h0, h1⟩]
  simp only [Qab, Qbp hz, Result.andThen, Qaj, Qcf]
 ·have := hk (q.toNat * sz)
  rcases hp with ⟨o, a', rfl⟩ | ⟨cs, a', rfl⟩
  ·cases hx; exact this
  ·cases hx; exact this
theorem Wci {t : TypeId} {v vi : Value} {p i x : V} (ht : P.underlying t = some .string) (hv : Rep M ι v p) (hi : Rep M ι vi i)
  (hx : Qlz i p = some x) : ∃ u, (Instr.index t v vi).run P w = .ok u w ∧ Rep M ι u x := by
 unfold Qlz at hx
 cases p with
 | str s =>
  simp only [Option.bind_eq_bind, Option.bind_eq_some_iff] at hx
  obtain ⟨j, hj, b, hb, hx⟩ := hx
  cases hx
  obtain ⟨k, q, rfl, h0, h1, rfl⟩ := Qei hj
  cases hi.inv_int
  obtain ⟨ba, rfl, hs⟩ := hv.inv_str
  refine ⟨.int .u8 b.toNat, ?_, .int _ _⟩
  unfold Instr.index
  simp only [Qab, Qeh, run_underlying ht, Result.andThen]
  have hg : ba[q.toNat]? = some b := by
   subst hs
   have hlt := (List.getElem?_eq_some_iff.1 hb).1
   simp only [Array.length_toList] at hlt
   rw [Array.getElem?_toList] at hb
   show (if h : q.toNat < ba.size then some ba[q.toNat] else none) = some b
   rw [dif_pos (show q.toNat < ba.size from hlt)]
   rw [← hb, Array.getElem?_eq_getElem hlt]
   rfl
  rw [if_pos h0, hg]
  rfl
 | _ => cases hx
theorem Qyf {t e : TypeId} {n sz : Nat} {ag : Bool} {v vi : Value} {p i x : V} (ht : P.underlying t = some (.array n e)) (he : Qeb P e ag sz = true) (hv : Rep M ι v p) (hi : Rep M ι vi i)
  (hx : Qk7 n ag sz i p = some x) : ∃ u, (Instr.index t v vi).run P w = .ok u w ∧ Rep M ι u x := by
 unfold Qk7 at hx
 simp only [Option.bind_eq_bind, Option.bind_eq_some_iff] at hx
 obtain ⟨j, hj, hx⟩ := hx
 obtain ⟨k, q, rfl, h0, h1, rfl⟩ := Qei hj
 cases hi.inv_int
 cases p with
 | agg cs =>
  cases hv with
  | agg vs _ hl hr =>
   obtain ⟨u, hrun, hu⟩ := Qqp (P := P) (w := w) he (Rep.agg_iff.1 (.agg vs cs hl hr)) hx
   refine ⟨u, ?_, hu⟩
   have hz : szOf P e = some sz := by simp only [Qeb, Bool.and_eq_true, beq_iff_eq] at he; exact he.1.2
   unfold Instr.index
   simp only [Qab, Qeh, run_underlying ht, Result.andThen]
   rw [if_pos ⟨h0, h1⟩]
   simp only [Qab, Qbp hz, Result.andThen]
   exact hrun
 | _ => cases hx
theorem Qyg {v : Value} {p x : V} {i : Nat} (hv : Rep M ι v p) (hx : eX i p = some x) :
  ∃ u, (Instr.extract v i).run P w = .ok u w ∧ Rep M ι u x := by
 unfold eX at hx
 cases p with
 | tup cs =>
  cases hv with
  | tup vs _ hl hr =>
   have hr' : Reps M ι vs.toList cs := ⟨by simpa using hl, fun i u c hu hc => hr i u c (by simpa using hu) hc⟩
   obtain ⟨u, hu, hru⟩ := hr'.get hx
   refine ⟨u, ?_, hru⟩
   unfold Instr.extract
   simp only [show vs[i]? = some u by simpa using hu]
   rfl
 | _ => cases hx
theorem Qyh {t : TypeId} {v : Value} {p x : V} {lo hi : Option Value} {xlo xhi : Option V} (ht : P.underlying t = some .string) (hv : Rep M ι v p)
  (h1 : RepO M ι lo xlo) (h2 : RepO M ι hi xhi) (hx : Qgk p xlo xhi = some x) : ∃ u, (Instr.sliceAt t v lo hi none).run P w = .ok u w ∧ Rep M ι u x := by
 cases p with
 | str s =>
  unfold Qgk at hx
  simp only [Option.bind_eq_bind, Option.bind_eq_some_iff] at hx
  obtain ⟨⟨l, hh, m⟩, hb, hx⟩ := hx
  cases hx
  obtain ⟨ba, rfl, hs⟩ := hv.inv_str
  have hlen : s.length = ba.size := by rw [← hs]; exact Array.length_toList
  rw [hlen] at hb
  obtain ⟨hrun, hle, hle2, _⟩ := Qb2 (P := P) (w := w) (isSlice := false) (mx := none) (xmx := none) (Nat.le_refl _) h1 h2 trivial (by simp) hb
  refine ⟨.string (ba.extract l hh), ?_, .str _ _ ?_⟩
  ·unfold Instr.sliceAt Instr.slice
   simp only [Qab, run_underlying ht, Result.andThen, Option.isSome_none, Bool.false_eq_true, if_false, Qaj, hrun]
  ·subst hs
   rw [ByteArray.data_extract, Array.toList_extract, List.extract_eq_take_drop]
 | _ => cases hx
theorem Wcj {t e : TypeId} {sz : Nat} {v : Value} {p x : V} {lo hi mx : Option Value} {xlo xhi xmx : Option V}
  (ht : P.underlying t = some (.slice e)) (hz : szOf P e = some sz) (hv : Rep M ι v p)
  (h1 : RepO M ι lo xlo) (h2 : RepO M ι hi xhi) (h3 : RepO M ι mx xmx) (hmx : xmx.isSome → xhi.isSome) (hx : Qbb sz p xlo xhi xmx = some x) :
  ∃ u, (Instr.sliceAt t v lo hi mx).run P w = .ok u w ∧ Rep M ι u x := by
 have start : ∀ a len cap l hh k, (Instr.sliceBounds true len cap lo hi mx).run P w = .ok (l, hh, k) w →
   (Instr.sliceAt t (.slice a len cap) lo hi mx).run P w = .ok (.slice (if k = l then a else a.map (·.add (l * sz))) (hh - l) (k - l)) w := by
  intro a len cap l hh k hrun
  unfold Instr.sliceAt Instr.slice
  simp only [Qab, run_underlying ht, Result.andThen, hrun, Qbp hz, Qaj]
 unfold Qbb at hx
 cases p with
 | nils =>
  simp only [Option.bind_eq_bind, Option.bind_eq_some_iff] at hx
  obtain ⟨⟨l, hh, m⟩, hb, hx⟩ := hx
  cases hx
  cases hv
  obtain ⟨hrun, hle, hle2, hm⟩ := Qb2 (P := P) (w := w) (isSlice := true) (Nat.le_refl 0) h1 h2 h3 hmx hb
  refine ⟨_, start none 0 0 l hh _ hrun, ?_⟩
  have h0 : hh = 0 := by omega
  have hl0 : l = 0 := by omega
  have hk0 : m.getD 0 = 0 := by
   cases m with
   | none => rfl
   | some k => have := (hm k rfl).2; simp; omega
  subst h0 hl0
  rw [hk0]
  exact .nils
 | sl xs c =>
  simp only [Option.bind_eq_bind, Option.bind_eq_some_iff] at hx
  obtain ⟨⟨l, hh, m⟩, hb, hx⟩ := hx
  split at hx
  ·rename_i hall
   cases hx
   rcases hv.inv_sl with ⟨b, off, cap, sz', us, rfl, hs', hr, hmm, hcap, _⟩ | ⟨a0, rfl, hnil, _⟩
   case inr =>
    subst hnil
    obtain ⟨hrun, hle, hle2, hm⟩ := Qb2 (P := P) (w := w) (isSlice := true) (Nat.le_refl 0) h1 h2 h3 hmx hb
    have h0 : hh = 0 := by simpa using hle2
    have hl0 : l = 0 := by omega
    have hk0 : m.getD 0 = 0 := by
     cases m with
     | none => rfl
     | some k => have := (hm k rfl).2; simp; omega
    refine ⟨_, start _ _ 0 l hh _ hrun, ?_⟩
    subst h0 hl0
    rw [hk0]
    exact .sl0 _ _ (fun s => by split <;> simp)
   have hs : ∀ y ∈ xs, y.cells.length = sz := fun y hy => by simpa using List.all_eq_true.1 hall y hy
   obtain ⟨hrun, hle, hle2, hm⟩ := Qb2 (P := P) (w := w) (isSlice := true) hcap h1 h2 h3 hmx hb
   have hk : hh ≤ m.getD cap ∧ m.getD cap ≤ cap := by
    cases m with
    | none => exact ⟨by simp; omega, by simp⟩
    | some k => exact ⟨(hm k rfl).1, by have := (hm k rfl).2; simp; omega⟩
   refine ⟨_, start _ _ cap l hh _ hrun, ?_⟩
   have hlen : ((xs.drop l).take (hh - l)).length = hh - l := by simp; omega
   have hs2 : ∀ y ∈ (xs.drop l).take (hh - l), y.cells.length = sz := fun y hy => hs y (List.mem_of_mem_drop (List.mem_of_mem_take hy))
   have hflat : ((xs.drop l).take (hh - l)).flatMap V.cells = ((xs.flatMap V.cells).drop (l * sz)).take ((hh - l) * sz) := by
    rw [Qt7 (fun y hy => hs y (List.mem_of_mem_drop hy)), Qnh hs]
   have hrr := ((hr.drop (l * sz)).take ((hh - l) * sz))
   rw [← hflat] at hrr
   by_cases hkl : m.getD cap = l
   ·
    have hhl : hh - l = 0 := by omega
    rw [if_pos hkl]
    have hnil : (xs.drop l).take (hh - l) = [] := by rw [hhl]; rfl
    have := Rep.sl (M := M) (ι := ι) [] (if m = some hh then .fx else .no) b off (m.getD cap - l) 0 [] (by simp) rfl (by simp) (by simp) (Nat.zero_le _) (fun _ => by simp; omega)
    rw [hnil, hhl]
    exact this
   ·rw [if_neg hkl]
    simp only [Option.map_some, Qcf]
    have := Rep.sl (M := M) (ι := ι) ((xs.drop l).take (hh - l)) (if m = some hh then .fx else .no) b (off + l * sz) (m.getD cap - l) sz _ hs2 hrr.1 (fun i u hu => ?_) hrr.2 (by rw [hlen]; omega) (fun hfx => ?_)
    ·rw [hlen] at this; exact this
    ·rw [List.getElem?_take] at hu
     split at hu
     ·rw [List.getElem?_drop] at hu
      have := hmm _ u hu
      rwa [← Nat.add_assoc] at this
     ·cases hu
    ·rw [hlen]
     split at hfx
     ·rename_i hmh; subst hmh; rfl
     ·cases hfx
  ·cases hx
 | hs o off len s ag =>
  simp only [Option.bind_eq_bind, Option.bind_eq_some_iff] at hx
  obtain ⟨⟨l, hh, m⟩, hb, hx⟩ := hx
  split at hx
  ·rename_i hs
   cases hx
   obtain ⟨b, cap, rfl, hib, hc⟩ := hv.inv_hs
   obtain ⟨hrun, hle, hle2, hm⟩ := Qb2 (P := P) (w := w) (isSlice := true) hc h1 h2 h3 hmx hb
   have hk : hh ≤ m.getD cap := by
    cases m with
    | none => simp; omega
    | some k => exact (hm k rfl).1
   refine ⟨_, start _ _ cap l hh _ hrun, ?_⟩
   by_cases hlh : l = hh
   ·subst hlh
    rw [if_pos rfl, Nat.sub_self]
    by_cases hkl : m.getD cap = l
    ·rw [if_pos hkl]
     exact Rep.sl (M := M) (ι := ι) [] .no b off _ 0 [] (by simp) rfl (by simp) (by simp) (Nat.zero_le _) (fun e => by cases e)
    ·rw [if_neg hkl]
     simp only [Option.map_some, Qcf]
     exact Rep.sl (M := M) (ι := ι) [] .no b _ _ 0 [] (by simp) rfl (by simp) (by simp) (Nat.zero_le _) (fun e => by cases e)
   ·rw [if_neg hlh, if_neg (by omega)]
    simp only [Option.map_some, Qcf]
    exact .hs o _ _ sz ag b _ hib (by omega)
  ·cases hx
 | _ => cases hx
end
end Go.Ev
namespace Go.Ev
open Go
def isC : Operand → Bool
 | .const _ => true
 | _ => false
def Qhc (P : Program) (ks : TypeId → Option (List CK)) : List Field → Nat → Option (List CK)
 | [], _ => some []
 | f :: fs, off =>
  if f.name ≠ "_" ∧ f.offset = off then
   match ks f.type with
   | some k => if szOf P f.type = some k.length then
     match Qhc P ks fs (off + k.length) with
     | some r => some (k ++ r)
     | none => none
    else none
   | none => none
  else none
def Qfb (P : Program) : Nat → TypeId → Option (List CK)
 | 0, _ => none
 | n + 1, t =>
  match P.underlying t with
  | some .bool => some [.b]
  | some (.int _) => some [.i]
  | some .string => some [.s]
  | some (.struct fs) => if P.stoodInHeld t then none else Qhc P (Qfb P n) fs.toList 0
  | _ => none
def Qt9 : TypeDesc → Option EqK
 | .bool => some .bool
 | .pointer _ => some .ptr
 | .slice _ => some .row
 | .interface _ => some .ifc
 | .func .. => some .fn
 | .map .. => some .mp
 | _ => none
def Qpd (P : Program) (k : EqK) (t : TypeId) (x y : Operand) : Bool :=
 match k with
 | .no => true
 | .agg ks => decide (agOf P t = some true) && decide (Qfb P 20 t = some ks) && !P.eqGuardType P.depth t
 | _ => decide ((P.underlying t).bind Qt9 = some k) && (decide (k ≠ .ifc) || isC x || isC y)
def Wfm (P : Program) (op : BinOp) (k : EqK) (t : TypeId) (x y : Operand) : Bool :=
 match op with
 | .eql | .neq => Qpd P k t x y
 | _ => true
section
variable {P : Program} {M : Mem} {ι : Plc} {X : Nat → Prop} {κ : Own} {w : World} {σ : Objs}
theorem Qda {op : BinOp} {t : TypeId} {x y : Operand} {a b : Value} (h1 : ¬ (a = .nilIface ∧ b = .nilIface)) (h2 : ∀ u v, ¬ (a = .agg u ∧ b = .agg v)) :
  (eqGuard op t x y a b).run P w = .ok () w := by
 unfold eqGuard
 cases op <;> simp only [] <;> (try rfl)
 all_goals
  cases a <;> (try rfl) <;> cases b <;> (try rfl)
  ·exact absurd ⟨rfl, rfl⟩ h1
  ·exact absurd ⟨rfl, rfl⟩ (h2 _ _)
theorem Wfn {op : UnOp} {v : Value} {x y : V} (hv : Rep M ι v x) (hx : evUn op x = some y) : ∃ u, (Op.unary op v).run P w = .ok u w ∧ Rep M ι u y := by
 unfold evUn at hx
 split at hx
 ·cases hx; cases hv.inv_int; exact ⟨_, rfl, .int _ _⟩
 ·cases hx; cases hv.inv_int; exact ⟨_, rfl, .int _ _⟩
 ·cases hx; cases hv.inv_bool; exact ⟨_, rfl, .bool _⟩
 ·cases hx
theorem Qfc (s : ByteArray) : s.toList = s.data.toList := ByteArray.toList_eq s
theorem Qir : ∀ (a b : List UInt8), Op.bytesLess a b = bytesLess a b
 | _, [] => by cases ‹List UInt8› <;> rfl
 | [], _ :: _ => rfl
 | a :: x, b :: y => by simp only [Op.bytesLess, bytesLess, Qir x y]
theorem Qk8 (a b : List UInt8) : (a == b) = decide (a = b) := by
 rw [Bool.eq_iff_iff]; simp
theorem Wck {op : BinOp} {va vb : ByteArray} {y : V} (hx : eB op .no (.str va.data.toList) (.str vb.data.toList) = some y) :
  ∃ u, (Op.stringOp op va vb).run P w = .ok u w ∧ Rep M ι u y := by
 have hl : ∀ s : ByteArray, s.data.toList.length = s.size := fun s => Array.length_toList
 unfold Op.stringOp
 simp only [Qfc, Qir, Qk8]
 cases op <;> simp only [eB] at hx <;> (try cases hx)
 ·split at hx
  ·rename_i hle
   cases hx
   refine ⟨.string (va ++ vb), ?_, .str _ _ (by rw [ByteArray.data_append, Array.toList_append])⟩
   rw [if_neg]
   ·rfl
   ·rw [hl, hl] at hle
    unfold Qt3 at hle
    show ¬ (((va.size + vb.size : Nat) : Int) > 9223372036854775807)
    omega
  ·cases hx
 all_goals exact ⟨_, rfl, .bool _⟩
theorem Wcl {op : BinOp} {t : TypeId} {k j : IntKind} {a b : Int} {e : EqK} {y : V} (hx : eB op e (.int k a) (.int j b) = some y) :
  ∃ u, (binOp op t (.int k a) (.int j b)).run P w = .ok u w ∧ Rep M ι u y := by
 unfold eB at hx
 simp only at hx
 cases op <;> simp only [] at hx
 case shl =>
  split at hx
  ·cases hx
  ·rename_i hb
   cases hx
   refine ⟨_, ?_, .int _ _⟩
   simp only [binOp, Op.shift, hb, if_false]
   rfl
 case shr =>
  split at hx
  ·cases hx
  ·rename_i hb
   cases hx
   refine ⟨_, ?_, .int _ _⟩
   simp only [binOp, Op.shift, hb, if_false]
   rfl
 case quo =>
  split at hx
  ·rename_i hk; subst hk
   split at hx
   ·cases hx
   ·rename_i hb
    cases hx
    refine ⟨_, ?_, .int _ _⟩
    simp only [binOp, Op.intDiv, ne_eq, not_true_eq_false, if_false, hb]
    rfl
  ·cases hx
 case rem =>
  split at hx
  ·rename_i hk; subst hk
   split at hx
   ·cases hx
   ·rename_i hb
    cases hx
    refine ⟨_, ?_, .int _ _⟩
    simp only [binOp, Op.intDiv, ne_eq, not_true_eq_false, if_false, hb]
    rfl
  ·cases hx
 all_goals
  split at hx
  ·rename_i hk; subst hk
   cases hx
   refine ⟨_, ?_, by first | exact .int _ _ | exact .bool _⟩
   simp only [binOp, Op.intArith, Op.intBits, Op.intCmp, ne_eq, not_true_eq_false, if_false]
   rfl
  ·cases hx
theorem Wcm {t : TypeId} {va vb : Value} {x y : V} {k : EqK} {b : Bool} (hk : (P.underlying t).bind Qt9 = some k) (ha : Rep M ι va x) (hb : Rep M ι vb y) (hx : eqV k x y = some b) :
  (Op.equal t va vb).run P w = .ok b w := by
 rw [Option.bind_eq_some_iff] at hk
 obtain ⟨d, ht, hd⟩ := hk
 suffices h : ∀ d0, (Op.equalIn (d0 + 1) t va vb).run P w = .ok b w from h 9999
 intro d0
 unfold eqV at hx
 split at hx <;> (try (cases d <;> cases hd; done)) <;> (try (cases hx; done)) <;> cases hx <;> cases ha <;> cases hb <;> cases d <;> (try (cases hd; done)) <;>
  (simp only [Op.equalIn, Qab, run_underlying ht, Result.andThen]; rfl)
def Val (ag : Bool) (us : List Value) (v : Value) : Prop := if ag then v = .agg us.toArray else us = [v]
theorem Qjq {t : TypeId} {ag : Bool} {n off : Nat} {us : List Value} (hag : agOf P t = some ag) (hsz : szOf P t = some n) (h1 : ag = false → n = 1) (hle : off + n ≤ us.length) :
  ∃ v, (Go.part t us.toArray off).run P w = .ok v w ∧ Val ag ((us.drop off).take n) v := by
 cases ag with
 | true =>
  refine ⟨.agg (us.toArray.extract off (off + n)), ?_, ?_⟩
  ·unfold Go.part
   simp only [Qab, Qdf hag, Qbp hsz, Result.andThen, if_true]
   rfl
  ·unfold Val
   rw [if_pos rfl]
   congr 1
   apply Array.ext'
   rw [Array.toList_extract, List.extract_eq_take_drop]
   simp
 | false =>
  have h1 := h1 rfl
  subst h1
  have hlt : off < us.length := by omega
  refine ⟨us[off], ?_, ?_⟩
  ·unfold Go.part
   simp only [Qab, Qdf hag, Result.andThen, Bool.false_eq_true, if_false]
   rw [show us.toArray[off]? = some us[off] by simp [hlt]]
   rfl
  ·unfold Val
   rw [if_neg (by simp), List.drop_eq_getElem_cons hlt]
   rfl
theorem Qeu : ∀ {ks : List CK} {cs ds : List V} {b : Bool}, Qa8 ks cs ds = some b → cs.length = ks.length ∧ ds.length = ks.length
 | [], [], [], _, _ => ⟨rfl, rfl⟩
 | k :: ks, c :: cs, d :: ds, b, h => by
  simp only [Qa8, Option.bind_eq_bind, Option.bind_eq_some_iff] at h
  obtain ⟨_, _, b', hb', _⟩ := h
  have := Qeu hb'
  simp [this.1, this.2]
 | [], _ :: _, _, _, h => by simp [Qa8] at h
 | [], [], _ :: _, _, h => by simp [Qa8] at h
 | _ :: _, [], _, _, h => by simp [Qa8] at h
 | _ :: _, _ :: _, [], _, h => by simp [Qa8] at h
theorem Qgl : ∀ {k r : List CK} {cs ds : List V} {b : Bool}, Qa8 (k ++ r) cs ds = some b →
  ∃ b1 b2, Qa8 k (cs.take k.length) (ds.take k.length) = some b1 ∧ Qa8 r (cs.drop k.length) (ds.drop k.length) = some b2 ∧ b = (b1 && b2)
 | [], r, cs, ds, b, h => ⟨true, b, by simp [Qa8], by simpa using h, by simp⟩
 | x :: k, r, c :: cs, d :: ds, b, h => by
  simp only [List.cons_append, Qa8, Option.bind_eq_bind, Option.bind_eq_some_iff] at h
  obtain ⟨a, ha, b', hb', he⟩ := h
  obtain ⟨b1, b2, h1, h2, rfl⟩ := Qgl hb'
  refine ⟨a && b1, b2, by simp [Qa8, ha, h1], by simpa using h2, ?_⟩
  simp at he
  rw [← he, Bool.and_assoc]
 | _ :: _, _, [], _, _, h => by simp [Qa8] at h
 | _ :: _, _, _ :: _, [], _, h => by simp [Qa8] at h
theorem Qis {ks : TypeId → Option (List CK)} {d : Nat}
  (ih : ∀ (t : TypeId) (k : List CK) (ag : Bool) (us us' : List Value) (cs ds : List V) (v v' : Value) (b : Bool), ks t = some k → agOf P t = some ag → (ag = false → k.length = 1) → Val ag us v → Val ag us' v' → Reps M ι us cs → Reps M ι us' ds → Qa8 k cs ds = some b →
   (Op.equalIn d t v v').run P w = .ok b w) (hks : ∀ t k, ks t = some k → ∃ ag, agOf P t = some ag ∧ (ag = false → k.length = 1)) :
  ∀ (fs : List Field) (off : Nat) (r : List CK) (us us' : List Value) (cs ds : List V) (b : Bool), Qhc P ks fs off = some r → Reps M ι us cs → Reps M ι us' ds → off ≤ us.length → off ≤ us'.length →
   Qa8 r (cs.drop off) (ds.drop off) = some b → (Op.eqFields d us.toArray us'.toArray fs).run P w = .ok b w
 | [], off, r, us, us', cs, ds, b, hf, hr, hr', _, _, hb => by
  simp only [Qhc] at hf
  cases hf
  have hl := Qeu hb
  have h1 : cs.drop off = [] := List.length_eq_zero_iff.1 hl.1
  have h2 : ds.drop off = [] := List.length_eq_zero_iff.1 hl.2
  rw [h1, h2] at hb
  simp only [Qa8] at hb
  cases hb
  rfl
 | f :: fs, off, r, us, us', cs, ds, b, hf, hr, hr', hle, hle', hb => by
  simp only [Qhc] at hf
  split at hf
  ·rename_i hcond
   obtain ⟨hname, hoff⟩ := hcond
   split at hf
   ·rename_i k hk
    split at hf
    ·rename_i hsz
     split at hf
     ·rename_i r' hr''
      cases hf
      obtain ⟨ag, hag, hone⟩ := hks _ _ hk
      obtain ⟨b1, b2, e1, e2, rfl⟩ := Qgl hb
      have hl := Qeu e1
      have hl1 : off + k.length ≤ us.length := by have h0 := hr.1; have := hl.1; rw [List.length_take, List.length_drop] at this; omega
      have hl2 : off + k.length ≤ us'.length := by have h0 := hr'.1; have := hl.2; rw [List.length_take, List.length_drop] at this; omega
      obtain ⟨v, hv, hval⟩ := Qjq (P := P) (w := w) hag hsz hone hl1
      obtain ⟨v', hv', hval'⟩ := Qjq (P := P) (w := w) hag hsz hone hl2
      have h1 := ih f.type k ag _ _ _ _ v v' b1 hk hag hone hval hval' ((hr.drop off).take k.length) ((hr'.drop off).take k.length) e1
      have h2 := Qis ih hks fs (off + k.length) r' us us' cs ds b2 hr'' hr hr' hl1 hl2 (by rw [List.drop_drop, List.drop_drop] at e2; exact e2)
      unfold Op.eqFields
      rw [if_pos hname]
      subst hoff
      simp only [Qab, hv, hv', h1, Result.andThen]
      cases b1
      ·rfl
      ·simp only [Bool.not_true, Bool.false_eq_true, if_false, h2, Bool.true_and]
     ·cases hf
    ·cases hf
   ·cases hf
  ·cases hf
theorem Qua {x y : V} {b : Bool} (h : Qdp .b x y = some b) : ∃ a c, x = .bool a ∧ y = .bool c ∧ b = (a == c) := by
 cases x <;> (try (cases h; done))
 cases y <;> (try (cases h; done))
 cases h; exact ⟨_, _, rfl, rfl, rfl⟩
theorem Qub {x y : V} {b : Bool} (h : Qdp .i x y = some b) : ∃ k a c, x = .int k a ∧ y = .int k c ∧ b = (a == c) := by
 cases x <;> (try (cases h; done))
 cases y <;> (try (cases h; done))
 simp only [Qdp] at h
 split at h
 ·rename_i hk; subst hk; cases h; exact ⟨_, _, _, rfl, rfl, rfl⟩
 ·cases h
theorem Quc {x y : V} {b : Bool} (h : Qdp .s x y = some b) : ∃ a c, x = .str a ∧ y = .str c ∧ b = decide (a = c) := by
 cases x <;> (try (cases h; done))
 cases y <;> (try (cases h; done))
 cases h; exact ⟨_, _, rfl, rfl, rfl⟩
theorem Qst : ∀ (n : Nat) (t : TypeId) (k : List CK), Qfb P n t = some k → ∃ ag, agOf P t = some ag ∧ (ag = false → k.length = 1)
 | 0, t, k, h => by simp [Qfb] at h
 | n + 1, t, k, h => by
  unfold Qfb at h
  unfold agOf
  split at h <;> (try (cases h; done))
  ·rename_i hu; cases h; exact ⟨false, by rw [hu]; rfl, fun _ => rfl⟩
  ·rename_i hu; cases h; exact ⟨false, by rw [hu]; rfl, fun _ => rfl⟩
  ·rename_i hu; cases h; exact ⟨false, by rw [hu]; rfl, fun _ => rfl⟩
  ·rename_i hu; exact ⟨true, by rw [hu]; rfl, fun h => by cases h⟩
theorem Qqr : ∀ (n : Nat) (d : Nat) (t : TypeId) (k : List CK) (ag : Bool) (us us' : List Value) (cs ds : List V) (v v' : Value) (b : Bool), Qfb P n t = some k → agOf P t = some ag → (ag = false → k.length = 1) →
  Val ag us v → Val ag us' v' → Reps M ι us cs → Reps M ι us' ds → Qa8 k cs ds = some b → (Op.equalIn (n + d) t v v').run P w = .ok b w
 | 0, _, t, k, _, _, _, _, _, _, _, _, h, _, _, _, _, _, _, _ => by simp [Qfb] at h
 | n + 1, d, t, k, ag, us, us', cs, ds, v, v', b, h, hag, hone, hv, hv', hr, hr', hb => by
  have one : ∀ {c : CK}, k = [c] → ag = false → ∃ x y, us = [v] ∧ us' = [v'] ∧ Rep M ι v x ∧ Rep M ι v' y ∧ Qdp c x y = some b := by
   intro c hk hag'
   subst hk hag'
   unfold Val at hv hv'
   rw [if_neg (by simp)] at hv hv'
   subst hv hv'
   obtain ⟨hl1, hl2⟩ := Qeu hb
   obtain ⟨x, rfl⟩ := List.length_eq_one_iff.1 hl1
   obtain ⟨y, rfl⟩ := List.length_eq_one_iff.1 hl2
   refine ⟨x, y, rfl, rfl, hr.head, hr'.head, ?_⟩
   simp only [Qa8, Option.bind_eq_bind, Option.bind_eq_some_iff] at hb
   obtain ⟨a, ha, b', hb', he⟩ := hb
   cases hb'
   simp at he
   rw [ha, he]
  rw [show n + 1 + d = (n + d) + 1 from by omega]
  unfold Qfb at h
  split at h <;> (try (cases h; done))
  ·rename_i hu
   cases h
   obtain ⟨x, y, _, _, hx, hy, he⟩ := one rfl (by unfold agOf at hag; rw [hu] at hag; cases hag; rfl)
   obtain ⟨a, c, rfl, rfl, rfl⟩ := Qua he
   cases hx.inv_bool; cases hy.inv_bool
   simp only [Op.equalIn, Qab, run_underlying hu, Result.andThen]
   rfl
  ·rename_i kk hu
   cases h
   obtain ⟨x, y, _, _, hx, hy, he⟩ := one rfl (by unfold agOf at hag; rw [hu] at hag; cases hag; rfl)
   obtain ⟨k, a, c, rfl, rfl, rfl⟩ := Qub he
   cases hx.inv_int; cases hy.inv_int
   simp only [Op.equalIn, Qab, run_underlying hu, Result.andThen, if_true]
   rfl
  ·rename_i hu
   cases h
   obtain ⟨x, y, _, _, hx, hy, he⟩ := one rfl (by unfold agOf at hag; rw [hu] at hag; cases hag; rfl)
   obtain ⟨_, _, rfl, rfl, rfl⟩ := Quc he
   obtain ⟨sa, rfl, rfl⟩ := hx.inv_str
   obtain ⟨sb, rfl, rfl⟩ := hy.inv_str
   rw [run_equalIn_string w _ t sa sb hu, Qfc, Qfc, Qk8]
  ·rename_i fs hu
   split at h
   ·cases h
   ·rename_i hst
    have hag' : ag = true := by unfold agOf at hag; rw [hu] at hag; cases hag; rfl
    subst hag'
    unfold Val at hv hv'
    rw [if_pos rfl] at hv hv'
    subst hv hv'
    have hfo : P.fieldsOf t = fs := by unfold Program.fieldsOf; rw [hu]
    rw [run_equalIn_struct w (n + d) t us.toArray us'.toArray (by rw [hfo]; exact hu) (by simpa using hst), hfo]
    exact Qis (fun t k ag us us' cs ds v v' b => Qqr n d t k ag us us' cs ds v v' b) (fun t k hk => Qst n t k hk) fs.toList 0 k us us' cs ds b h hr hr' (Nat.zero_le _) (Nat.zero_le _) (by simpa using hb)
theorem Ql3 {op : BinOp} {t : TypeId} {ox oy : Operand} (h : (isC ox || isC oy) = true) : (eqGuard op t ox oy .nilIface .nilIface).run P w = .ok () w := by
 cases ox <;> cases oy <;> (try (simp [isC] at h; done)) <;> cases op <;> rfl
def Wcn : Value → Value → Bool
 | .int _ _, .int _ _ | .float _ _, .float _ _ | .complex _ _ _, .complex _ _ _ | .string _, .string _ => false
 | _, _ => true
theorem Qud {t : TypeId} {va vb : Value} (h : Wcn va vb = true) : binOp .eql t va vb = (do pure (.bool (← Op.equal t va vb))) := by
 cases va <;> cases vb <;> first | rfl | cases h
theorem Que {t : TypeId} {va vb : Value} (h : Wcn va vb = true) : binOp .neq t va vb = (do pure (.bool (!(← Op.equal t va vb)))) := by
 cases va <;> cases vb <;> first | rfl | cases h
theorem Wco {op : BinOp} {t : TypeId} {ox oy : Operand} {k : EqK} {va vb : Value} {x y z : V} (hc : Wfm P op k t ox oy = true) (ha : Rep M ι va x) (hb : Rep M ι vb y) (hx : eB op k x y = some z) :
  ∃ u, ((do eqGuard op t ox oy va vb; binOp op t va vb : Sem Value)).run P w = .ok u w ∧ Rep M ι u z := by
 by_cases hi : (∃ k a, x = .int k a) ∧ ∃ j b, y = .int j b
 ·obtain ⟨⟨kk, a, rfl⟩, j, b, rfl⟩ := hi
  cases ha.inv_int; cases hb.inv_int
  obtain ⟨u, hrun, hu⟩ := Wcl (P := P) (M := M) (ι := ι) (w := w) (t := t) hx
  refine ⟨u, ?_, hu⟩
  rw [Qab, Qda (fun h => by cases h.1) (fun _ _ h => by cases h.1)]
  exact hrun
 by_cases hs : (∃ a, x = .str a) ∧ ∃ b, y = .str b
 ·obtain ⟨⟨a, rfl⟩, b, rfl⟩ := hs
  obtain ⟨sa, rfl, rfl⟩ := ha.inv_str
  obtain ⟨sb, rfl, rfl⟩ := hb.inv_str
  have hx' : eB op .no (.str sa.data.toList) (.str sb.data.toList) = some z := by rw [← hx]; cases op <;> rfl
  obtain ⟨u, hrun, hu⟩ := Wck (P := P) (M := M) (ι := ι) (w := w) hx'
  refine ⟨u, ?_, hu⟩
  rw [Qab, Qda (fun h => by cases h.1) (fun _ _ h => by cases h.1)]
  have : binOp op t (.string sa) (.string sb) = Op.stringOp op sa sb := by cases op <;> rfl
  simp only [Result.andThen, this]
  exact hrun
 have hev : ∃ b, eqV k x y = some b ∧ ((op = .eql ∧ z = .bool b) ∨ (op = .neq ∧ z = .bool (!b))) := by
  have : eB op k x y = match op with
    | .eql => (eqV k x y).map V.bool
    | .neq => (eqV k x y).map fun b => .bool (!b)
    | _ => none := by
   unfold eB
   split
   ·exact absurd ⟨⟨_, _, rfl⟩, _, _, rfl⟩ hi
   ·exact absurd ⟨⟨_, rfl⟩, _, rfl⟩ hs
   ·cases op <;> rfl
  rw [this] at hx
  cases op <;> (try (cases hx; done))
  ·simp only [Option.map_eq_some_iff] at hx
   obtain ⟨b, hb, rfl⟩ := hx
   exact ⟨b, hb, .inl ⟨rfl, rfl⟩⟩
  ·simp only [Option.map_eq_some_iff] at hx
   obtain ⟨b, hb, rfl⟩ := hx
   exact ⟨b, hb, .inr ⟨rfl, rfl⟩⟩
 obtain ⟨b, heq, hop⟩ := hev
 have fin : (eqGuard op t ox oy va vb).run P w = .ok () w → (Op.equal t va vb).run P w = .ok b w → Wcn va vb = true →
   ∃ u, ((do eqGuard op t ox oy va vb; binOp op t va vb : Sem Value)).run P w = .ok u w ∧ Rep M ι u z := by
  intro h1 h2 hn
  rcases hop with ⟨rfl, rfl⟩ | ⟨rfl, rfl⟩
  ·refine ⟨.bool b, ?_, .bool _⟩
   rw [Qab, h1]
   simp only [Result.andThen, Qud hn, Qab, h2]
   rfl
  ·refine ⟨.bool (!b), ?_, .bool _⟩
   rw [Qab, h1]
   simp only [Result.andThen, Que hn, Qab, h2]
   rfl
 have hc' : Qpd P k t ox oy = true := by
  rcases hop with ⟨rfl, _⟩ | ⟨rfl, _⟩ <;> exact hc
 unfold Qpd at hc'
 by_cases hag : ∃ ks, k = .agg ks
 ·obtain ⟨ks, rfl⟩ := hag
  simp only [Bool.and_eq_true, decide_eq_true_eq, Bool.not_eq_true'] at hc'
  obtain ⟨⟨h1, h2⟩, h3⟩ := hc'
  cases x <;> (try (cases heq; done))
  cases y <;> (try (cases heq; done))
  rename_i cs ds
  have heq' : Qa8 ks cs ds = some b := heq
  cases ha with
  | agg vs _ hl hr =>
   cases hb with
   | agg us _ hl' hr' =>
    refine fin (run_eqGuard_agg w op t ox oy vs us h3) ?_ rfl
    exact Qqr 20 9980 t ks true vs.toList us.toList cs ds _ _ b h2 h1 (fun e => by cases e) rfl rfl (Rep.agg_iff.1 (.agg vs cs hl hr)) (Rep.agg_iff.1 (.agg us ds hl' hr')) heq'
 ·have hk : (P.underlying t).bind Qt9 = some k ∧ (k = .ifc → (isC ox || isC oy) = true) := by
   cases k
   case no => cases heq
   case agg ks => exact absurd ⟨ks, rfl⟩ hag
   all_goals
    simp only [Bool.and_eq_true, decide_eq_true_eq] at hc'
    refine ⟨hc'.1, fun e => ?_⟩
    first
     | (cases e; done)
     | simpa using hc'.2
  have hrun := Wcm (w := w) hk.1 ha hb heq
  refine fin ?_ hrun ?_
  ·by_cases hn : va = .nilIface ∧ vb = .nilIface
   ·obtain ⟨rfl, rfl⟩ := hn
    have hkk : k = .ifc := by
     cases ha with
     | any _ => cases k <;> cases heq
     | nili => cases k <;> first | rfl | (cases y <;> cases heq)
    exact Ql3 (hk.2 hkk)
   ·refine Qda hn fun u v huv => ?_
    obtain ⟨rfl, rfl⟩ := huv
    cases ha with
    | any _ => cases k <;> cases heq
    | agg _ _ _ _ =>
     cases k <;> first | exact hag ⟨_, rfl⟩ | (cases y <;> cases heq)
  ·unfold eqV at heq
   split at heq <;> (try (cases heq; done)) <;> cases ha <;> cases hb <;> rfl
end
end Go.Ev
namespace Go.Ev
open Go
section
variable {P : Program} {M : Mem} {ι : Plc} {X : Nat → Prop} {κ : Own} {w : World} {σ : Objs}
theorem Quf {src dst : TypeId} {k : IntKind} {sd : TypeDesc} {v : Value} {x y : V} (hs : P.underlying src = some sd) (hd : P.underlying dst = some (.int k)) (hv : Rep M ι v x)
  (hx : eC σ (.toInt k) x = some y) : ∃ u, (convert src dst v).run P w = .ok u w ∧ Rep M ι u y := by
 cases x <;> (try (cases hx; done))
 cases hx
 cases hv.inv_int
 refine ⟨_, ?_, .int _ _⟩
 unfold convert
 simp only [Qab, run_underlying hs, run_underlying hd, Result.andThen]
 rfl
theorem Qyi {src dst : TypeId} {v : Value} {x y : V} (hs : P.underlying src = some .string) (hd : P.underlying dst = some .string) (hv : Rep M ι v x)
  (hx : eC σ .same x = some y) : ∃ u, (convert src dst v).run P w = .ok u w ∧ Rep M ι u y := by
 cases x <;> (try (cases hx; done))
 cases hx
 obtain ⟨s, rfl, rfl⟩ := hv.inv_str
 refine ⟨_, ?_, .str s _ rfl⟩
 unfold convert
 simp only [Qab, run_underlying hs, run_underlying hd, Result.andThen]
 rfl
theorem Qsu {src dst : TypeId} {j : IntKind} {v : Value} {x y : V} (hs : P.underlying src = some (.int j)) (hd : P.underlying dst = some .string) (hv : Rep M ι v x)
  (hx : eC σ .intStr x = some y) : ∃ u, (convert src dst v).run P w = .ok u w ∧ Rep M ι u y := by
 cases x <;> (try (cases hx; done))
 cases hx
 cases hv.inv_int
 refine ⟨_, ?_, .str _ _ rfl⟩
 unfold convert
 simp only [Qab, run_underlying hs, run_underlying hd, Result.andThen]
 rfl
theorem Qjr : ∀ (ns : List Int) (r : ByteArray), (ns.foldl (fun r n => r.push (UInt8.ofNat n.toNat)) r).data.toList = r.data.toList ++ ns.map fun n => UInt8.ofNat n.toNat
 | [], r => by simp
 | n :: ns, r => by
  simp only [List.foldl_cons, List.map_cons]
  rw [Qjr ns]
  simp [ByteArray.push]
theorem Qit : ∀ {xs : List V} {bs : List UInt8}, bytesOf xs = some bs → ∃ ns : List Int, xs = ns.map (V.int .u8) ∧ bs = ns.map fun n => UInt8.ofNat n.toNat
 | [], bs, h => by cases h; exact ⟨[], rfl, rfl⟩
 | x :: xs, bs, h => by
  cases x <;> (try (cases h; done))
  rename_i k n
  cases k <;> (try (cases h; done))
  simp only [bytesOf, Option.bind_eq_bind, Option.bind_eq_some_iff] at h
  obtain ⟨bs', hb, he⟩ := h
  obtain ⟨ns, rfl, rfl⟩ := Qit hb
  cases he
  exact ⟨n :: ns, rfl, rfl⟩
theorem Qni : ∀ {us : List Value} {ns : List Int}, Reps M ι us (ns.map (V.int .u8)) → us = ns.map (Value.int .u8)
 | [], [], _ => rfl
 | u :: us, n :: ns, h => by
  have h1 := h.head.inv_int
  rw [h1, Qni h.tail]
  rfl
 | [], _ :: _, h => by have := h.1; simp at this
 | _ :: _, [], h => by have := h.1; simp at this
theorem Qnj : ∀ (ns : List Int), (ns.map (V.int .u8)).flatMap V.cells = ns.map (V.int .u8)
 | [] => rfl
 | n :: ns => by simp only [List.map_cons, List.flatMap_cons, Qnj ns]; rfl
theorem Wd.objOne (h : Wd M ι X κ w σ) {o b : Nat} {cs : List V} (hi : ι o = some b) (ho : Objs.get σ o = some cs) : ∀ c ∈ cs, c.one = true := by
 unfold Objs.get at ho
 obtain ⟨O, hO, hr⟩ := h.obj o b hi
 rw [hO] at ho
 cases O with
 | cells cs' =>
  simp at ho; subst ho
  exact hr.choose_spec.choose_spec.choose_spec.2.2.2.2
 | mp es => cases ho
theorem Qug {c : V} (h : c.one = true) : c.cells = [c] := by cases c <;> first | rfl | cases h
theorem Qsv {ag : Bool} {sz off : Nat} {cs : List V} {x : V} (hone : ∀ c ∈ cs, c.one = true) (hx : Ev.part ag sz cs off = some x) : x.cells = ((cs.drop off).take sz).map V.ng ∧ x.cells.length = sz := by
 unfold Ev.part at hx
 cases ag with
 | true =>
  simp only [if_true] at hx
  split at hx
  ·cases hx; exact ⟨rfl, by simp [V.cells]; omega⟩
  ·cases hx
 | false =>
  simp only [Bool.false_eq_true, if_false] at hx
  split at hx
  ·rename_i hsz
   subst hsz
   rw [Option.map_eq_some_iff] at hx
   obtain ⟨c, hc, rfl⟩ := hx
   rw [List.drop_eq_getElem_cons (List.getElem?_eq_some_iff.1 hc).1, (List.getElem?_eq_some_iff.1 hc).2]
   have hc1 := hone c (List.mem_of_getElem? hc)
   rw [Qug (by rw [V.nogr_one]; exact hc1)]
   exact ⟨rfl, rfl⟩
  ·cases hx
theorem Qev {ag : Bool} {sz : Nat} {cs : List V} (hone : ∀ c ∈ cs, c.one = true) : ∀ (n off : Nat) (ys : List V), chunks ag sz cs n off = some ys →
  ys.length = n ∧ ys.flatMap V.cells = ((cs.drop off).take (n * sz)).map V.ng ∧ ∀ y ∈ ys, y.cells.length = sz
 | 0, off, ys, h => by cases h; simp
 | n + 1, off, ys, h => by
  simp only [chunks, Option.bind_eq_bind, Option.bind_eq_some_iff] at h
  obtain ⟨x, hx, xs, hxs, he⟩ := h
  cases he
  obtain ⟨h1, h2, h3⟩ := Qev hone n _ xs hxs
  obtain ⟨hxc, hxl⟩ := Qsv hone hx
  refine ⟨by simp [h1], ?_, fun y hy => ?_⟩
  ·simp only [List.flatMap_cons, h2]
   rw [hxc, ← List.map_append, Nat.succ_mul, Nat.add_comm (n * sz) sz, List.take_add, List.drop_drop]
  ·rcases List.mem_cons.1 hy with rfl | hy
   ·exact hxl
   ·exact h3 y hy
theorem Qnk (h : Wd M ι X κ w σ) {v : Value} {x : V} {ys : List V} (hv : Rep M ι v x) (hx : Qh3 σ x = some ys) :
  ((∃ a, v = .slice a 0 0) ∧ ys = []) ∨ ∃ b off cap us, v = .slice (some ⟨b, off, none⟩) ys.length cap ∧ Reps M ι us (ys.flatMap V.cells) ∧ Qdr w b off us := by
 cases x <;> (try (cases hx; done))
 case nils => cases hx; cases hv; exact .inl ⟨⟨_, rfl⟩, rfl⟩
 case sl xs c =>
  cases hx
  rcases hv.inv_sl with ⟨b, off, cap, sz, us, rfl, _, hr, hm, _, _⟩ | ⟨a, rfl, rfl, _⟩
  case inr => exact .inl ⟨⟨_, rfl⟩, rfl⟩
  exact .inr ⟨b, off, cap, us, rfl, hr, h.cells hm⟩
 case hs o off len sz ag =>
  simp only [Qh3, Option.bind_eq_bind, Option.bind_eq_some_iff] at hx
  obtain ⟨cs, hcs, hch⟩ := hx
  obtain ⟨b, cap, rfl, hi, hc⟩ := hv.inv_hs
  obtain ⟨us, hr, hcell⟩ := h.objCells hi hcs
  have hone := h.objOne hi hcs
  obtain ⟨h1, h2, _⟩ := Qev hone len off ys hch
  refine .inr ⟨b, off, cap, (us.drop off).take (len * sz), by rw [h1], ?_, ?_⟩
  ·rw [h2]; exact ((hr.drop off).take _).ng
  ·have := (hcell.drop off).take (len * sz)
   rwa [Nat.zero_add] at this
theorem Qgm {b off n sz cap : Nat} {us : List Value} (hl : us.length = n * sz) (hc : Qdr w b off us) (len : Nat) :
  (Builtin.firstCells sz n (.slice (some ⟨b, off, none⟩) len cap)).run P w = .ok us.toArray w := by
 unfold Builtin.firstCells
 simp only
 rw [← hl]
 exact Qet b off us hc
theorem Qiu (h : Wd M ι X κ w σ) {src dst e : TypeId} {v : Value} {x y : V} (hs : P.underlying src = some (.slice e)) (he : P.underlying e = some (.int .u8)) (hd : P.underlying dst = some .string) (hv : Rep M ι v x)
  (hx : eC σ .bytesStr x = some y) : ∃ u, (convert src dst v).run P w = .ok u w ∧ Rep M ι u y := by
 have main : ∀ xs bs, Qh3 σ x = some xs → bytesOf xs = some bs → y = .str bs → ∃ u, (convert src dst v).run P w = .ok u w ∧ Rep M ι u y := by
  intro xs bs hrow hb hy
  subst hy
  obtain ⟨ns, rfl, rfl⟩ := Qit hb
  rcases Qnk h hv hrow with ⟨⟨a0, rfl⟩, hnil⟩ | ⟨b, off, cap, us, rfl, hr, hc⟩
  ·have : ns = [] := by simpa using hnil
   subst this
   refine ⟨.string .empty, ?_, .str _ _ rfl⟩
   rw [run_convert_bytes_string w src dst e a0 0 0 hs he hd]
   cases a0 <;> rfl
  ·rw [Qnj] at hr
   have hus := Qni hr
   subst hus
   refine ⟨_, ?_, .str _ _ (Qjr ns ByteArray.empty)⟩
   rw [run_convert_bytes_string w src dst e _ _ _ hs he hd]
   refine run_bytesToString w _ _ _ ns ?_
   have := Qet (P := P) b off _ hc
   rwa [show (ns.map (Value.int .u8)).length = (ns.map (V.int .u8)).length from by simp] at this
 cases x <;> (try (cases hx; done))
 case nils => cases hx; exact main [] [] rfl rfl rfl
 case sl xs c =>
  simp only [eC, Option.map_eq_some_iff] at hx
  obtain ⟨bs, hb, rfl⟩ := hx
  exact main xs bs rfl hb rfl
 case hs o off len sz ag =>
  simp only [eC, Option.bind_eq_bind, Option.bind_eq_some_iff, Option.map_eq_some_iff] at hx
  obtain ⟨xs, hxs, bs, hb, rfl⟩ := hx
  exact main xs bs hxs hb rfl
theorem Qyj {σ : Objs} {x y : V} (h : eC σ .bytesStrN x = some y) : eC σ .bytesStr x = some y := by
 cases x <;> first | exact h | cases h
theorem Qyk {t ty : TypeId} {v : Value} {x y : V} (ht : P.underlying t = some .string) (hv : Rep M ι v x) (hx : Qe1 x = some y) :
  ∃ u, (Builtin.len_ #[t] ty #[v]).run P w = .ok u w ∧ Rep M ι u y := by
 cases x <;> (try (cases hx; done))
 cases hx
 obtain ⟨ba, rfl, rfl⟩ := hv.inv_str
 refine ⟨goInt ba.size, ?_, ?_⟩
 ·unfold Builtin.len_
  simp only [List.getElem?_toArray, List.getElem?_cons_zero, Qab, run_underlying ht, Result.andThen]
  rfl
 ·have : ((ba.data.toList.length : Nat) : Int) = ba.size := by rw [Array.length_toList]; rfl
  rw [this]; exact .int _ _
theorem Wcp {t ty e : TypeId} {v : Value} {x y : V} (ht : P.underlying t = some (.slice e)) (hv : Rep M ι v x)
  (hx : Qan x = some y) : ∃ u, (Builtin.len_ #[t] ty #[v]).run P w = .ok u w ∧ Rep M ι u y := by
 have run : ∀ a n c, (Builtin.len_ #[t] ty #[.slice a n c]).run P w = .ok (goInt n) w := by
  intro a n c
  unfold Builtin.len_
  simp only [List.getElem?_toArray, List.getElem?_cons_zero, Qab, run_underlying ht, Result.andThen]
  rfl
 cases x <;> (try (cases hx; done)) <;> cases hx
 ·cases hv; exact ⟨goInt 0, run _ _ _, .int _ _⟩
 ·rcases hv.inv_sl with ⟨b, off, cap, sz, us, rfl, _⟩ | ⟨a, rfl, rfl, _⟩ <;> exact ⟨_, run _ _ _, .int _ _⟩
 ·obtain ⟨b, cap, rfl, _⟩ := hv.inv_hs; exact ⟨_, run _ _ _, .int _ _⟩
theorem Way {mx : Bool} : ∀ {vs : List Value} {xs : List V} {v : Value} {x y : V}, Rep M ι v x → (Qe8 x).isSome → Reps M ι vs xs → Qjm mx x xs = some y →
  ∃ u, (vs.foldlM (if mx then Builtin.max2 else Builtin.min2) v).run P w = .ok u w ∧ Rep M ι u y
 | [], [], v, x, y, hv, hi, _, hx => by
  simp only [Qjm] at hx
  cases hx
  exact ⟨v, rfl, hv⟩
 | u :: us, z :: zs, v, x, y, hv, hi, hr, hx => by
  cases x <;> (try (cases hx; done)) <;> (try (simp [Qe8] at hi; done))
  rename_i k a
  cases z <;> (try (cases hx; done))
  rename_i j b
  simp only [Qjm] at hx
  split at hx
  ·rename_i hkj
   subst hkj
   cases hv.inv_int
   have hu := hr.head.inv_int
   subst hu
   obtain ⟨r, hrun, hrep⟩ := Way (mx := mx) (.int k _) rfl hr.tail hx
   refine ⟨r, ?_, hrep⟩
   rw [List.foldlM_cons, Qab]
   cases mx <;> exact hrun
  ·cases hx
 | [], _ :: _, _, _, _, _, _, h, _ => by have := h.1; simp at this
 | _ :: _, [], _, _, _, _, _, h, _ => by have := h.1; simp at this
theorem Qyl (h : Wd M ι X κ w σ) {t e : TypeId} {n sz : Nat} {ag : Bool} {v : Value} {p x : V} {lo hi : Option Value} {xlo xhi : Option V} (ht : P.underlying t = some (.array n e)) (hz : szOf P e = some sz)
  (hv : Rep M ι v p) (h1 : RepO M ι lo xlo) (h2 : RepO M ι hi xhi) (hx : Qe0 n sz ag p xlo xhi = some x) :
  ∃ u, (Instr.sliceAt t v lo hi none).run P w = .ok u w ∧ Rep M ι u x := by
 unfold Qe0 at hx
 simp only [Option.bind_eq_bind, Option.bind_eq_some_iff] at hx
 obtain ⟨⟨l, hh, m⟩, hb, hx⟩ := hx
 obtain ⟨hrun, hle, hle2, hm⟩ := Qb2 (P := P) (w := w) (isSlice := false) (mx := none) (xmx := none) (Nat.le_refl n) h1 h2 trivial (by simp) hb
 have hmn : m = none := by
  cases m with
  | none => rfl
  | some k =>
   exfalso
   unfold bounds at hb
   simp only [Option.bind_eq_bind, Option.bind_some, Option.getD_none] at hb
   cases xhi <;> cases xlo <;> simp [Option.bind_eq_some_iff] at hb
 subst hmn
 simp only [Option.getD_none] at hrun
 have start : ∀ a, v = .pointer (some a) → (Instr.sliceAt t v lo hi none).run P w = .ok (.slice (some (if n = l then a else a.add (l * sz))) (hh - l) (n - l)) w := by
  intro a ha
  subst ha
  unfold Instr.sliceAt Instr.sureAddr
  simp only [Qab, run_underlying ht, Result.andThen, Qaj, hrun, Qbp hz]
 cases p <;> (try (cases hx; done))
 case ptr o off =>
  cases hx
  obtain ⟨b, rfl, hib⟩ := hv.inv_ptr
  refine ⟨_, start _ rfl, ?_⟩
  by_cases hlh : l = hh
  ·subst hlh
   rw [if_pos rfl, Nat.sub_self]
   by_cases hkl : n = l
   ·rw [if_pos hkl]
    exact Rep.sl (M := M) (ι := ι) [] .no b off _ 0 [] (by simp) rfl (by simp) (by simp) (Nat.zero_le _) (fun e => by cases e)
   ·rw [if_neg hkl, Qcf]
    exact Rep.sl (M := M) (ι := ι) [] .no b _ _ 0 [] (by simp) rfl (by simp) (by simp) (Nat.zero_le _) (fun e => by cases e)
  ·rw [if_neg hlh, if_neg (by omega), Qcf]
   exact .hs o _ _ sz ag b _ hib (by omega)
 case eptr cs off =>
  simp only [Option.bind_eq_some_iff] at hx
  obtain ⟨xs, hxs, hx⟩ := hx
  split at hx
  ·rename_i hok
   cases hx
   have hone : ∀ c ∈ cs, c.one = true := fun c hc => by simpa using List.all_eq_true.1 hok c hc
   obtain ⟨hl1, hflat, hsz⟩ := Qev hone (hh - l) (off + l * sz) xs hxs
   obtain ⟨b, base, us, rfl, hr, hmm⟩ := hv.inv_eptr
   refine ⟨_, start _ rfl, ?_⟩
   have hrr := (((hr.drop (off + l * sz)).take ((hh - l) * sz)).ng)
   rw [← hflat] at hrr
   by_cases hkl : n = l
   ·have h0 : hh - l = 0 := by omega
    rw [if_pos hkl]
    have hnil : xs = [] := List.length_eq_zero_iff.1 (by omega)
    subst hnil
    rw [h0]
    exact Rep.sl (M := M) (ι := ι) [] .no b (base + off) _ 0 [] (by simp) rfl (by simp) (by simp) (Nat.zero_le _) (fun e => by cases e)
   ·rw [if_neg hkl, Qcf, ← hl1]
    refine Rep.sl (M := M) (ι := ι) xs .no b _ _ sz _ hsz hrr.1 (fun i u hu => ?_) hrr.2 (by omega) (fun e => by cases e)
    rw [List.getElem?_take] at hu
    split at hu
    ·rw [List.getElem?_drop] at hu
     have := hmm _ u hu
     rwa [show base + (off + l * sz + i) = base + off + l * sz + i from by omega] at this
    ·cases hu
  ·cases hx
end
end Go.Ev
namespace Go.Ev
open Go
theorem Qk9 (off : Nat) : ∀ (vs : List Value) (k : Nat) (cells : Array Value), (vs.zipIdx k).foldl (fun cs (x : Value × Nat) => cs.setIfInBounds (off + x.2) x.1) cells = layA cells (off + k) vs
 | [], _, _ => rfl
 | v :: vs, k, cells => by
  simp only [List.zipIdx_cons, List.foldl_cons, layA]
  rw [Qk9 off vs (k + 1)]
  rfl
theorem Qnl (place : Nat → Option (Nat × Nat)) (cells : Array Value) (i : Nat) (v : Value) (rest : List (Nat × Value)) {off sz : Nat} (hp : place i = some (off, sz)) (hs : v.cells.size = sz) (hle : off + sz ≤ cells.size) :
  Instr.fill place cells ((i, v) :: rest) = Instr.fill place (layA cells off v.cells.toList) rest := by
 have h1 : v.cells.zipIdx.foldl (fun cs (x : Value × Nat) => cs.setIfInBounds (off + x.2) x.1) cells = layA cells off v.cells.toList := by
  rw [← Array.foldl_toList, Array.toList_zipIdx]
  exact Qk9 off v.cells.toList 0 cells
 simp only [Instr.fill, hp]
 rw [if_neg (by simp [hs]; omega)]
 exact congrArg (fun c => Instr.fill place c rest) h1
def Qf2 (place : Nat → Option (Nat × Nat)) : List (Nat × Operand) → List (Nat × Nat × Arg) → Bool
 | [], [] => true
 | (i, x) :: xs, (off, sz, y) :: ys => decide (place i = some (off, sz)) && Qat x y && Qf2 place xs ys
 | _, _ => false
def Qb3 : List (Nat × Operand) → List (Nat × Arg) → Bool
 | [], [] => true
 | (i, x) :: xs, (j, y) :: ys => i == j && Qat x y && Qb3 xs ys
 | _, _ => false
def Qqs (P : Program) (t : TypeId) : Option (Nat → Option (Nat × Nat)) :=
 match P.underlying t with
 | some (.array _ e) => (P.info? e).map fun ie => fun i => some (i * ie.size, ie.size)
 | some (.struct fields) => (fields.toList.mapM (fun f => (P.info? f.type).map fun i => (f.offset, i.size))).map fun places => fun i => places.toArray[i]?
 | _ => none
def Qe2 (P : Program) (t : TypeId) : Option Value := (P.info? t).bind (·.zero)
def Ql4 (P : Program) (t : TypeId) (z : List V) (ps : List (Nat × Operand)) (qs : List (Nat × Nat × Arg)) : Bool :=
 match Qe2 P t, Qqs P t with
 | some zv, some place => Qdd zv.cells.toList z && Qf2 place ps qs
 | _, _ => false
section
variable {P : Program} {M : Mem} {ι : Plc} {X : Nat → Prop} {κ : Own} {w : World} {σ : Objs}
theorem Qhd {cs : List V} (h : Qal cs = true) : ∀ c ∈ cs, c.one = true := fun c hc => by simpa using List.all_eq_true.1 h c hc
theorem Qqt {us vs : List Value} {cs ds : List V} {off : Nat} (hr : Reps M ι us cs) (hs : Reps M ι vs ds) (hle : off + ds.length ≤ cs.length) :
  Reps M ι (layA us.toArray off vs).toList (Qcd cs off ds) := by
 have hl := hr.1
 have hl' := hs.1
 refine ⟨by rw [Array.length_toList, Qe9, Qcu]; simpa using hl, fun i u c hu hc => ?_⟩
 rw [Array.getElem?_toList, Qfz vs us.toArray off i (by simp; omega)] at hu
 rw [Qdq cs off ds i hle, ← hl'] at hc
 by_cases hin : off ≤ i ∧ i < off + vs.length
 ·rw [if_pos hin] at hu hc; exact hs.2 _ u c hu hc
 ·rw [if_neg hin] at hu hc; exact hr.2 i u c (by simpa using hu) hc
theorem Qqu {r : Operand → Value} {A : Arg → V} (hA : Opd M ι r A) {place : Nat → Option (Nat × Nat)} : ∀ {ps : List (Nat × Operand)} {qs : List (Nat × Nat × Arg)} {us : List Value} {z z' : List V},
  Qf2 place ps qs = true → Reps M ι us z → lay z (qs.map fun q => (q.1, q.2.1, A q.2.2)) = some z' →
  ∃ us', Instr.fill place us.toArray (ps.map fun p => (p.1, r p.2)) = some us'.toArray ∧ Reps M ι us' z'
 | [], [], us, z, z', _, hr, hz => by
  simp only [List.map_nil, lay] at hz
  cases hz
  exact ⟨us, rfl, hr⟩
 | (i, x) :: ps, (off, sz, y) :: qs, us, z, z', hc, hr, hz => by
  simp only [Qf2, Bool.and_eq_true, decide_eq_true_eq] at hc
  obtain ⟨⟨h1, h2⟩, h3⟩ := hc
  simp only [List.map_cons, lay] at hz
  split at hz
  ·rename_i hcond
   obtain ⟨hlen, hle, hok⟩ := hcond
   have hrx := (hA.ok x y h2).cells (Qhd hok)
   have hsz : (r x).cells.size = sz := by have := hrx.1; simp at this; rw [this]; exact hlen
   have hl := hr.1
   have hreps := Qqt hr hrx.ng (off := off) (by simp; omega)
   obtain ⟨us', h4, h5⟩ := Qqu hA h3 hreps hz
   refine ⟨us', ?_, h5⟩
   simp only [List.map_cons]
   rw [Qnl place us.toArray i (r x) _ h1 hsz (by simp; omega)]
   simpa using h4
  ·cases hz
 | [], _ :: _, _, _, _, hc, _, _ => by simp [Qf2] at hc
 | _ :: _, [], _, _, _, hc, _, _ => by simp [Qf2] at hc
theorem Quh {r : Operand → Value} {A : Arg → V} (hA : Opd M ι r A) {t : TypeId} {z : List V} {ps : Array (Nat × Operand)} {qs : List (Nat × Nat × Arg)} {x : V} (hc : Ql4 P t z ps.toList qs = true)
  (hx : (lay z (qs.map fun (o, s, y) => (o, s, A y))).map V.agg = some x) : ∃ u, (Instr.build t (ps.map fun (i, y) => (i, r y))).run P w = .ok u w ∧ Rep M ι u x := by
 rw [Option.map_eq_some_iff] at hx
 obtain ⟨z', hz, rfl⟩ := hx
 unfold Ql4 at hc
 split at hc
 ·rename_i zv place hzv hpl
  simp only [Bool.and_eq_true] at hc
  obtain ⟨us', hf, hr⟩ := Qqu hA hc.2 (Qbr (M := M) (ι := ι) hc.1).1 hz
  refine ⟨.agg us'.toArray, run_build w t _ _ ?_, Rep.agg_iff.2 hr⟩
  unfold Qe2 at hzv
  rw [Option.bind_eq_some_iff] at hzv
  obtain ⟨it, hit, hzv⟩ := hzv
  have hps : (ps.map fun (i, y) => (i, r y)).toList = ps.toList.map fun p => (p.1, r p.2) := by simp
  unfold Qqs at hpl
  unfold Program.built
  rw [hps, hit]
  split at hpl
  ·rename_i n e hu
   rw [hu]
   rw [Option.map_eq_some_iff] at hpl
   obtain ⟨ie, hie, rfl⟩ := hpl
   simp only [hzv, hie]
   exact hf
  ·rename_i fields hu
   rw [hu]
   rw [Option.map_eq_some_iff] at hpl
   obtain ⟨places, hpp, rfl⟩ := hpl
   simp only [hzv, hpp]
   exact hf
  ·cases hpl
 ·cases hc
theorem Qym {xs : List V} {sz i : Nat} {y : V} (hs : ∀ x ∈ xs, x.cells.length = sz) (hy : y.cells.length = sz) (hi : i < xs.length) : (xs.set i y).flatMap V.cells = Qcd (xs.flatMap V.cells) (i * sz) y.cells := by
 have hs2 : ∀ x ∈ xs.set i y, x.cells.length = sz := fun x hx => by
  rcases List.mem_or_eq_of_mem_set hx with h | rfl
  ·exact hs x h
  ·exact hy
 have hl := Qbs hs
 have hle : i * sz + sz ≤ xs.length * sz := by rw [← Nat.succ_mul]; exact Nat.mul_le_mul_right _ hi
 apply List.ext_getElem?
 intro j
 rw [Qdq _ _ _ j (by rw [hy, hl]; exact hle), hy]
 by_cases hsz : sz = 0
 ·subst hsz
  have h1 : (xs.set i y).flatMap V.cells = [] := List.length_eq_zero_iff.1 (by rw [Qbs hs2]; simp)
  have h2 : xs.flatMap V.cells = [] := List.length_eq_zero_iff.1 (by rw [hl]; simp)
  rw [h1, h2, if_neg (by omega)]
 have hget : ∀ (zs : List V), (∀ x ∈ zs, x.cells.length = sz) → (zs.flatMap V.cells)[j]? = (zs[j / sz]?).bind fun x => x.cells[j % sz]? := by
  intro zs hz
  by_cases hj : j / sz < zs.length
  ·have he := List.getElem?_eq_getElem hj
   have := Ql2 hz he
   have hm := Nat.mod_lt j (Nat.pos_of_ne_zero hsz)
   rw [he, Option.bind_some, ← this, List.getElem?_take, if_pos hm, List.getElem?_drop]
   congr 1
   rw [Nat.mul_comm]; exact (Nat.div_add_mod j sz).symm
  ·rw [List.getElem?_eq_none (Nat.not_lt.1 hj), Option.bind_none, List.getElem?_eq_none]
   rw [Qbs hz]
   have h1 := Nat.not_lt.1 hj
   have h2 := Nat.div_mul_le_self j sz
   exact Nat.le_trans (Nat.mul_le_mul_right _ h1) h2
 rw [hget _ hs2, hget _ hs]
 by_cases hin : i * sz ≤ j ∧ j < i * sz + sz
 ·rw [if_pos hin]
  have hd : j / sz = i := by
   apply Nat.div_eq_of_lt_le
   ·exact hin.1
   ·rw [Nat.succ_mul]; exact hin.2
  have hm : j % sz = j - i * sz := by
   have := Nat.div_add_mod j sz
   rw [hd, Nat.mul_comm] at this
   omega
  rw [hd, List.getElem?_set_self hi, Option.bind_some, hm]
 ·rw [if_neg hin]
  have hd : j / sz ≠ i := by
   intro e
   apply hin
   subst e
   have := Nat.div_add_mod j sz
   have hm := Nat.mod_lt j (Nat.pos_of_ne_zero hsz)
   rw [Nat.mul_comm] at this
   omega
  rw [List.getElem?_set_ne (Ne.symm hd)]
theorem Qla {r : Operand → Value} {A : Arg → V} (hA : Opd M ι r A) {sz : Nat} : ∀ {ps : List (Nat × Operand)} {qs : List (Nat × Arg)} {us : List Value} {z z' : List V},
  Qb3 ps qs = true → (∀ x ∈ z, x.cells.length = sz) → Reps M ι us (z.flatMap V.cells) → Qc9 sz z (qs.map fun q => (q.1, A q.2)) = some z' →
  ∃ us', Instr.fill (fun i => some (i * sz, sz)) us.toArray (ps.map fun p => (p.1, r p.2)) = some us'.toArray ∧ Reps M ι us' (z'.flatMap V.cells) ∧ z'.length = z.length ∧ ∀ x ∈ z', x.cells.length = sz
 | [], [], us, z, z', _, hs, hr, hz => by
  simp only [List.map_nil, Qc9] at hz
  cases hz
  exact ⟨us, rfl, hr, rfl, hs⟩
 | (i, x) :: ps, (j, y) :: qs, us, z, z', hc, hs, hr, hz => by
  simp only [Qb3, Bool.and_eq_true, beq_iff_eq] at hc
  obtain ⟨⟨rfl, h2⟩, h3⟩ := hc
  simp only [List.map_cons, Qc9] at hz
  split at hz
  ·rename_i hcond
   obtain ⟨hlen, hlt, hok⟩ := hcond
   have hrx := (hA.ok x y h2).cells (Qhd hok)
   have hsz : (r x).cells.size = sz := by have := hrx.1; simp at this; rw [this]; exact hlen
   have hl := hr.1
   rw [Qbs hs] at hl
   have hle : i * sz + sz ≤ z.length * sz := by rw [← Nat.succ_mul]; exact Nat.mul_le_mul_right _ hlt
   have hny : (A y).ng.cells = (A y).cells ∨ ∃ q, (A y).cells = [q] ∧ (A y).ng.cells = [q.ng] := by
    cases A y <;> first | exact .inl rfl | exact .inr ⟨_, rfl, rfl⟩
   have hrx' : Reps M ι (r x).cells.toList (A y).ng.cells := by
    rcases hny with h | ⟨q, h1, h2⟩
    ·rw [h]; exact hrx
    ·rw [h2]; rw [h1] at hrx; exact hrx.ng
   have hnl : (A y).ng.cells.length = sz := by rw [V.nogr_cells_length]; exact hlen
   have hreps := Qqt hr hrx' (off := i * sz) (by rw [hnl, Qbs hs]; exact hle)
   rw [← Qym hs hnl hlt] at hreps
   obtain ⟨us', h4, h5, h6, h7⟩ := Qla hA h3 (fun q hq => by
    rcases List.mem_or_eq_of_mem_set hq with h | rfl
    ·exact hs q h
    ·exact hnl) hreps hz
   refine ⟨us', ?_, h5, by simpa using h6, h7⟩
   simp only [List.map_cons]
   rw [Qnl _ us.toArray i (r x) _ rfl hsz (by simp; omega)]
   simpa using h4
  ·cases hz
 | [], _ :: _, _, _, _, hc, _, _, _ => by simp [Qb3] at hc
 | _ :: _, [], _, _, _, hc, _, _, _ => by simp [Qb3] at hc
theorem Qsw {zv : List Value} {z : V} {n : Nat} (hr : Reps M ι zv z.cells) (h0 : zv.length ≠ 0) :
  Reps M ι ((Array.range (n * zv.length)).map (zv.toArray[· % zv.length]!)).toList ((List.replicate n z).flatMap V.cells) := by
 have hs : ∀ x ∈ List.replicate n z, x.cells.length = zv.length := fun x hx => by rw [List.eq_of_mem_replicate hx]; exact hr.1.symm
 refine ⟨by simp [Qbs hs], fun i u c hu hc => ?_⟩
 have hi : i < n * zv.length := by
  have := (List.getElem?_eq_some_iff.1 hc).1
  rw [Qbs hs] at this
  simpa using this
 have hm := Nat.mod_lt i (Nat.pos_of_ne_zero h0)
 have hu' : u = zv[i % zv.length] := by
  simp [hi] at hu
  rw [← hu]
  simp [hm]
 have hd : i / zv.length < n := Nat.div_lt_of_lt_mul (by rw [Nat.mul_comm]; exact hi)
 have he : (List.replicate n z)[i / zv.length]? = some z := by simp [hd]
 have hg := Ql2 hs he
 have hc' : z.cells[i % zv.length]? = some c := by
  rw [← hg, List.getElem?_take, if_pos hm, List.getElem?_drop]
  rw [← hc]
  congr 1
  rw [Nat.mul_comm]; exact Nat.div_add_mod i zv.length
 exact hr.2 _ u c (by rw [hu']; exact List.getElem?_eq_getElem hm) hc'
end
end Go.Ev
namespace Go.Ev
open Go
def putL (us : List Value) (d : Option Nat) (v : Value) : List Value :=
 match d with
 | some d => us.set d v
 | none => us
theorem Qdb (a : Act) (d : Option Nat) (v : Value) : (a.put d v).tmps.toList = putL a.tmps.toList d v := by
 cases d <;> simp [Act.put, putL]
section
variable {P : Program} {M : Mem} {ι : Plc} {X : Nat → Prop} {κ : Own} {w : World} {us : List Value} {ρ : List V} {σ : Objs}
theorem St.putNone (h : St M ι X κ w us ρ σ) {v : Value} {x : V} (hr : Rep M ι v x) (ho : ownB v x = none) (d : Option Nat) : St M ι X κ w (putL us d v) (put ρ d x) σ := by
 cases d with
 | none => exact h
 | some d => exact h.setSlot hr ho d
theorem St.putOwn (h : St M ι X κ w us ρ σ) {v : Value} {x : V} (hr : Rep M ι v x) (ho : ∀ b, ownB v x = some b → Free M ι X κ w b ∧ GrOK M w v x) (d : Option Nat) : ∃ κ', St M ι X κ' w (putL us d v) (put ρ d x) σ := by
 cases d with
 | none => exact ⟨κ, h⟩
 | some d =>
  cases hb : ownB v x with
  | none => exact ⟨κ, h.setSlot hr hb d⟩
  | some b => exact h.giveSlot hr hb (ho b hb).1 (ho b hb).2 d
theorem St.putRow (h : St M ι X κ w us ρ σ) (as : Array Value) (T : TypeId) (fz : Nat × Nat) (xs : List V) (c : Cap) (cap sz : Nat)
  (hr : Reps M ι (as.toList.take (xs.flatMap V.cells).length) (xs.flatMap V.cells)) (hs : ∀ y ∈ xs, y.cells.length = sz) (hcap : xs.length ≤ cap) (hfx : c = .fx → cap = xs.length)
  (hgr : ∀ s, c = .gr s → s = sz ∧ cap * sz ≤ as.size ∧ ∀ i, (xs.flatMap V.cells).length ≤ i → i < as.size → Qbd fz i = false) (d : Option Nat) :
  ∃ M' κ', Ext X M ι w M' ι (Qca w (.cells as T fz)) ∧ St M' ι X κ' (Qca w (.cells as T fz)) (putL us d (.slice (some ⟨w.heap.size, 0, none⟩) xs.length cap)) (put ρ d (.sl xs c)) σ := by
 cases d with
 | some d => obtain ⟨M', κ', h1, h2, _⟩ := h.newRow as T fz xs c cap sz hr hs hcap hfx hgr d; exact ⟨M', κ', h1, h2⟩
 | none =>
  refine ⟨Qh5 M w.heap.size (as.toList.take (xs.flatMap V.cells).length), κ, Ext.push h.wd _ _, h.push _ _ (fun i u hu => ⟨as, T, fz, rfl, ?_⟩)⟩
  rw [List.getElem?_take] at hu
  split at hu
  ·simpa using hu
  ·cases hu
theorem Qej {ag : Bool} {sz : Nat} {ys : List V} (h : Qcz ag sz ys = true) : (∀ y ∈ ys, y.cells.length = sz) ∧ (∀ y ∈ ys, ∀ c ∈ y.cells, c.one = true) ∧ ∀ y ∈ ys, agOk ag y = true := by
 unfold Qcz at h
 refine ⟨fun y hy => ?_, fun y hy => ?_, fun y hy => ?_⟩ <;> have := List.all_eq_true.1 h y hy <;> simp only [Bool.and_eq_true, decide_eq_true_eq] at this
 ·exact this.1.1
 ·exact Qhd this.1.2
 ·exact this.2
theorem Qlb {ag : Bool} {sz : Nat} {ys : List V} (h : Qcz ag sz ys = true) : ∀ c ∈ ys.flatMap V.cells, c.one = true := fun c hc => by
 obtain ⟨y, hy, hcy⟩ := List.mem_flatMap.1 hc
 exact (Qej h).2.1 y hy c hcy
def Qec (P : Program) (e : TypeId) (z : V) : Bool :=
 match Qe2 P e with
 | some zv => Qdd zv.cells.toList z.cells
 | none => false
def Qdj (P : Program) (t : TypeId) (ag : Bool) (sz : Nat) : Option TypeId :=
 match P.underlying t with
 | some (.slice e) => if Qeb P e ag sz then some e else none
 | _ => none
theorem Qd3 {t e : TypeId} {ag : Bool} {sz : Nat} (h : Qdj P t ag sz = some e) : P.underlying t = some (.slice e) ∧ Qeb P e ag sz = true := by
 unfold Qdj at h
 split at h
 ·split at h
  ·cases h; exact ⟨‹_›, ‹_›⟩
  ·cases h
 ·cases h
theorem Qhe {e : TypeId} {sz : Nat} (h : szOf P e = some sz) : ∃ i, P.info? e = some i ∧ i.size = sz := by
 unfold szOf at h
 rw [Option.map_eq_some_iff] at h
 exact h
theorem Qi9 {e : TypeId} {ag : Bool} {sz : Nat} (h : Qeb P e ag sz = true) : szOf P e = some sz := by
 simp only [Qeb, Bool.and_eq_true, beq_iff_eq] at h; exact h.1.2
theorem Qqv {e : TypeId} {z : V} {sz n : Nat} (hz : Qec P e z = true) (hsz : szOf P e = some sz) (hzl : z.cells.length = sz) (hpos : sz ≠ 0) :
  ∃ i zv, P.info? e = some i ∧ i.size = sz ∧ i.zero = some zv ∧ zv.cells.size = sz ∧ Reps M ι ((Array.range (n * sz)).map (zv.cells[· % zv.cells.size]!)).toList ((List.replicate n z).flatMap V.cells) := by
 unfold Qec at hz
 split at hz
 ·rename_i zv hzv
  unfold Qe2 at hzv
  rw [Option.bind_eq_some_iff] at hzv
  obtain ⟨i, hi, hiz⟩ := hzv
  obtain ⟨i', hi', his⟩ := Qhe hsz
  rw [hi] at hi'; cases hi'
  have hr := (Qbr (M := M) (ι := ι) hz).1
  have hl : zv.cells.size = sz := by
   have := hr.1
   rw [Array.length_toList] at this
   rw [this]; exact hzl
  refine ⟨i, zv, hi, his, hiz, hl, ?_⟩
  have := Qsw (n := n) hr (by rw [Array.length_toList, hl]; exact hpos)
  simpa [hl] using this
 ·cases hz
theorem Qjs (h : St M ι X κ w us ρ σ) {r : Operand → Value} {A : Arg → V} (hA : Opd M ι r A) {t e : TypeId} {ag : Bool} {sz len : Nat} {z : V} {ps : Array (Nat × Operand)} {qs : List (Nat × Arg)} {xs : List V}
  (ht : Qdj P t ag sz = some e) (hz : len = 0 ∨ Qec P e z = true ∧ z.cells.length = sz) (hpos : sz ≠ 0) (hsmall : len * sz ≤ 16777216) (hps : Qb3 ps.toList qs = true)
  (hx : Qc9 sz (List.replicate len z) (qs.map fun (i, y) => (i, A y)) = some xs) :
  ∃ as, (Instr.buildSlice t len (ps.map fun (i, y) => (i, r y))).run P w = .ok (.slice (some ⟨w.heap.size, 0, none⟩) len len) (Qca w (.cells as e (0, 0))) ∧
   Reps M ι as.toList (xs.flatMap V.cells) ∧ xs.length = len ∧ ∀ y ∈ xs, y.cells.length = sz := by
 obtain ⟨hu, hty⟩ := Qd3 ht
 have hsz := Qi9 hty
 have hpl : (ps.map fun (i, y) => (i, r y)).toList = ps.toList.map fun p => (p.1, r p.2) := by simp
 by_cases hlen : len = 0
 ·subst hlen
  obtain ⟨i, hi, his⟩ := Qhe hsz
  have hnil : ps.toList = [] ∧ qs = [] := by
   cases qs with
   | nil =>
    cases hpp : ps.toList with
    | nil => exact ⟨rfl, rfl⟩
    | cons a b => rw [hpp] at hps; simp [Qb3] at hps
   | cons q qs =>
    simp only [List.replicate_zero, List.map_cons, Qc9] at hx
    rw [if_neg (by simp)] at hx
    cases hx
  obtain ⟨hn1, rfl⟩ := hnil
  simp only [List.replicate_zero, List.map_nil, Qc9] at hx
  cases hx
  refine ⟨#[], ?_, by exact Reps.nil, rfl, by simp⟩
  unfold Instr.buildSlice
  simp only [Qab, run_underlying hu, Qbp hsz, Result.andThen, Nat.zero_mul]
  rw [if_neg (by decide)]
  simp [Qab, Qaj, Result.andThen, hpl, hn1, Instr.fill, newRow, newObj, Sem.run, Qca, Array.range_zero']
 ·obtain ⟨hz1, hz2⟩ := hz.resolve_left hlen
  obtain ⟨i, zv, hi, his, hiz, hzs, hreps⟩ := Qqv (M := M) (ι := ι) (n := len) hz1 hsz hz2 hpos
  obtain ⟨us', hf, hr, hl, hs⟩ := Qla hA hps (fun x hx => by rw [List.eq_of_mem_replicate hx]; exact hz2) hreps hx
  refine ⟨us'.toArray, ?_, by simpa using hr, by simpa using hl, hs⟩
  have := run_buildSlice (P := P) w t e len (ps.map fun (i, y) => (i, r y)) us'.toArray i zv hu hi hiz (by rw [his]; omega) (by rw [his]; exact Nat.mul_ne_zero hlen hpos) (by
   rw [his, hpl]
   rw [Array.toArray_toList] at hf
   exact hf)
  exact this
end
end Go.Ev
namespace Go.Ev
open Go
theorem one' {v : Value} (h : v.oneCell = true) : v.oneCell' = true := by cases v <;> first | rfl | cases h
section
variable {P : Program} {M : Mem} {ι : Plc} {X : Nat → Prop} {κ : Own} {w : World} {us : List Value} {ρ : List V} {σ : Objs}
def Qqw (P : Program) (str : Bool) (tx : TypeId) (sz : Nat) : Bool :=
 match P.underlying tx with
 | some (.slice _) => !str
 | some .string => str && sz == 1
 | _ => false
theorem Qnm (s : ByteArray) : Reps M ι (byteCells s) (Qad s.data.toList) := by
 unfold byteCells Qad
 refine ⟨by simp, fun i u c hu hc => ?_⟩
 simp only [List.getElem?_map, Option.map_eq_some_iff] at hu hc
 obtain ⟨b, hb, rfl⟩ := hu
 obtain ⟨b', hb', rfl⟩ := hc
 rw [hb] at hb'; cases hb'
 exact .int _ _
theorem Qiv (l : List UInt8) : (Qad l).flatMap V.cells = Qad l := by
 induction l with
 | nil => rfl
 | cons b l ih => unfold Qad at *; simp only [List.map_cons, List.flatMap_cons, ih]; rfl
theorem Qqx {vs : List Value} {cs : List V} (h : Reps M ι vs cs) (h1 : ∀ c ∈ cs, c.one = true) : ∀ u ∈ vs, u.oneCell = true := fun u hu => by
 obtain ⟨i, hi⟩ := List.mem_iff_getElem?.1 hu
 obtain ⟨c, hc, hr⟩ := h.get' hi
 exact hr.one (h1 c (List.mem_of_getElem? hc))
theorem Qqy (h : Wd M ι X κ w σ) {str : Bool} {tx : TypeId} {sz : Nat} {ag : Bool} {v : Value} {y : V} {ys : List V} (hk : Qqw P str tx sz = true) (hv : Rep M ι v y) (hs : Qes str σ y = some ys) (hok : Qcz ag sz ys = true) :
  ∃ vs, Src P sz tx v ys.length vs w ∧ Reps M ι vs (ys.flatMap V.cells) := by
 unfold Qqw at hk
 unfold Qes at hs
 have hlen := Qbs (Qej hok).1
 split at hk
 ·rename_i e hu
  have hstr : str = false := by simpa using hk
  subst hstr
  simp only [Bool.false_eq_true, if_false] at hs
  rcases Qnk h hv hs with ⟨⟨a0, rfl⟩, rfl⟩ | ⟨b, off, cap, vs, rfl, hr, hc⟩
  ·cases a0 with
   | none => exact ⟨[], Src.ofNil w hu 0, Reps.nil⟩
   | some a => exact ⟨[], Src.ofSlice w hu _ _ _ [] (by simp) (fun j u hju => by simp at hju) (fun u hu => by simp at hu), Reps.nil⟩
  ·refine ⟨vs, Src.ofSlice w hu _ _ _ vs (by rw [hr.1, hlen]) (fun j u hju => ?_) (fun u hu => one' (Qqx hr (Qlb hok) u hu)), hr⟩
   rw [Qcf]; exact hc j u hju
 ·rename_i hu
  simp only [Bool.and_eq_true, beq_iff_eq] at hk
  obtain ⟨rfl, rfl⟩ := hk
  simp only [if_true] at hs
  cases y <;> (try (cases hs; done))
  cases hs
  obtain ⟨s, rfl, rfl⟩ := hv.inv_str
  refine ⟨byteCells s, ?_, ?_⟩
  ·have := Src.ofString w hu s
   have hl : (Qad s.data.toList).length = s.size := by unfold Qad; rw [List.length_map, Array.length_toList]; rfl
   rw [hl]; exact this
  ·rw [Qiv]; exact Qnm s
 ·cases hk
theorem Qnn {t tx ty e : TypeId} {i : TypeInfo} (ht : P.underlying t = some (.slice e)) (hi : P.info? e = some i) {b off sLen sCap : Nat} {x : Value} {n : Nat} {news : List Value} (hs : Src P i.size tx x n news w)
  (hroom : sLen + n ≤ sCap) {ws : Array Value} {T : TypeId} {fz : Nat × Nat} (hb : w.heap[b]? = some (.cells ws T fz)) (hl : off + sLen * i.size + news.length ≤ ws.size)
  (hf : ∀ j, off + sLen * i.size ≤ j → j < ws.size → Qbd fz j = false) :
  (Builtin.append_ #[t, tx] ty #[.slice (some ⟨b, off, none⟩) sLen sCap, x]).run P w = .ok (.slice (some ⟨b, off, none⟩) (sLen + n) sCap) (setRow w b (layA ws (off + sLen * i.size) news) T fz) := by
 have hone : ∀ u ∈ news, u.oneCell = true := fun u hu => by have := hs.one u hu; cases u <;> first | rfl | cases this
 have hst := Qea (P := P) b (off + sLen * i.size) T fz news w ws 0 hb (by simpa using hl) (fun j h1 h2 => hf j (by simpa using h1) (by simp at h2; omega)) hone
 simp only [Nat.add_zero] at hst
 rcases hs.kind with ⟨e', hk⟩ | hk <;> simp [Builtin.append_, Go.run_underlying ht, Go.run_underlying hk, sizeOf, typeInfo, hi, hs.len, hroom, hs.cells, Qcf, hst]
theorem take_left {α : Type} (a b : List α) : (a ++ b).take a.length = a := List.take_left
def HK (ι : Plc) (w w' : World) : Prop := ∀ o b, ι o = some b → w'.heap[b]? = w.heap[b]?
theorem HK.refl (ι : Plc) (w : World) : HK ι w w := fun _ _ _ => rfl
theorem Wd.hkPush (h : Wd M ι X κ w σ) (o : Obj) (n : Nat) : HK ι w (Qca { w with drawn := n } o) := fun o b hi => Qcp _ _ (h.olt o b hi)
theorem Wd.hkPush' (h : Wd M ι X κ w σ) (o : Obj) : HK ι w (Qca w o) := fun o b hi => Qcp _ _ (h.olt o b hi)
theorem Qja (h : St M ι X κ w us ρ σ) {t tx ty e : TypeId} {ag : Bool} {sz bytes : Nat} (ht : Qdj P t ag sz = some e) (hz : ∃ zv, Qe2 P e = some zv ∧ zv.cells.size = sz) (hby : (P.info? e).map (·.bytes) = some bytes) (hpos : sz ≠ 0)
  {base : Option Addr} {sCap : Nat} {xs ys : List V} {olds vs : List Value} {v : Value} (hold : ∀ w' : World, w'.heap = w.heap → (Builtin.firstCells sz xs.length (.slice base xs.length sCap)).run P w' = .ok olds.toArray w')
  (hro : Reps M ι olds (xs.flatMap V.cells)) (hxs : ∀ x ∈ xs, x.cells.length = sz) (hsrc : Src P sz tx v ys.length vs w) (hrv : Reps M ι vs (ys.flatMap V.cells)) (hys : ∀ y ∈ ys, y.cells.length = sz)
  (hg : sCap < xs.length + ys.length) (hle : (xs.length + ys.length) * bytes ≤ Qb0) (hmax : xs.length + ys.length ≤ 9223372036854775807) (d : Option Nat) :
  ∃ u w' M' κ', (Builtin.append_ #[t, tx] ty #[.slice base xs.length sCap, v]).run P w = .ok u w' ∧ Ext X M ι w M' ι w' ∧ HK ι w w' ∧ St M' ι X κ' w' (putL us d u) (put ρ d (.sl (xs ++ ys) (.gr sz))) σ := by
 obtain ⟨hu, hty⟩ := Qd3 ht
 obtain ⟨i, hi, his⟩ := Qhe (Qi9 hty)
 obtain ⟨zv, hzv, hzs⟩ := hz
 have hiz : i.zero = some zv := by unfold Qe2 at hzv; rw [hi] at hzv; exact hzv
 have hib : i.bytes = bytes := by rw [hi] at hby; simpa using hby
 subst his hib
 have hfit : Builtin.nextslicecap (xs.length + ys.length) sCap * i.bytes ≤ 281474976710656 := growslice_fits hg hle
 have hrun := run_append_grow_src (P := P) w t tx ty e i zv hu hi hiz base xs.length sCap olds (hold w.drew rfl) v ys.length vs hsrc hg (by omega) hfit
 have hcap := grownCap_ge w (xs.length + ys.length) sCap e
 have hzc := size_zeroCells zv.cells (grownCap w (xs.length + ys.length) sCap e - (xs.length + ys.length))
 have hd := h.drew
 have hreps : Reps M ι (olds ++ vs) ((xs ++ ys).flatMap V.cells) := by rw [List.flatMap_append]; exact hro.append hrv
 have hboth : ∀ y ∈ xs ++ ys, y.cells.length = i.size := fun y hy => by
  rcases List.mem_append.1 hy with h | h
  ·exact hxs y h
  ·exact hys y h
 have hfl := Qbs hboth
 have hol : (olds ++ vs).length = ((xs ++ ys).flatMap V.cells).length := hreps.1
 obtain ⟨M', κ', he, hst⟩ := hd.putRow ((olds ++ vs).toArray ++ Builtin.zeroCells zv.cells (grownCap w (xs.length + ys.length) sCap e - (xs.length + ys.length))) e (0, 0) (xs ++ ys) (.gr i.size) (grownCap w (xs.length + ys.length) sCap e) i.size
  (by
   rw [Array.toList_append, ← hol]
   rw [show ((olds ++ vs).toArray).toList = olds ++ vs from rfl, take_left]
   exact hreps) hboth (by simpa using hcap) (fun e => by cases e) (fun s hs => by
   cases hs
   refine ⟨rfl, ?_, fun j _ _ => ?_⟩
   ·rw [Array.size_append, hzc, hzs, List.size_toArray, hol, hfl, List.length_append, ← Nat.add_mul]
    exact Nat.mul_le_mul_right _ (by omega)
   ·unfold Qbd; simp) d
 refine ⟨_, _, M', κ', hrun, (Ext.drew X M ι w).trans he, h.wd.hkPush _ _, ?_⟩
 have hla : (xs ++ ys).length = xs.length + ys.length := List.length_append
 rw [hla] at hst
 exact hst
end
end Go.Ev
namespace Go.Ev
open Go
section
variable {P : Program} {M : Mem} {ι : Plc} {X : Nat → Prop} {κ : Own} {w : World} {us : List Value} {ρ : List V} {σ : Objs}
theorem Qds {t tx ty e : TypeId} {i : TypeInfo} (ht : P.underlying t = some (.slice e)) (hi : P.info? e = some i) {base : Option Addr} {sLen sCap : Nat} {x : Value} (hs : Src P i.size tx x 0 [] w) (hroom : sLen ≤ sCap) :
  (Builtin.append_ #[t, tx] ty #[.slice base sLen sCap, x]).run P w = .ok (.slice base sLen sCap) w := by
 have hst : ∀ a : Addr, (storeCells a []).run P w = .ok () w := fun a => rfl
 cases base <;> rcases hs.kind with ⟨e', hk⟩ | hk <;> simp [Builtin.append_, Go.run_underlying ht, Go.run_underlying hk, sizeOf, typeInfo, hi, hs.len, hroom, hs.cells, hst]
def Qjt (P : Program) (str ag : Bool) (sz bytes : Nat) (t tx : TypeId) : Bool :=
 match Qdj P t ag sz with
 | some e => decide ((Qe2 P e).map (·.cells.size) = some sz) && decide ((P.info? e).map (·.bytes) = some bytes) && decide (sz ≠ 0) && decide (bytes ≠ 0) && Qqw P str tx sz
 | none => false
theorem Qgu {str ag : Bool} {sz bytes : Nat} {t tx : TypeId} (h : Qjt P str ag sz bytes t tx = true) :
  ∃ e i, Qdj P t ag sz = some e ∧ P.underlying t = some (.slice e) ∧ P.info? e = some i ∧ i.size = sz ∧ (∃ zv, Qe2 P e = some zv ∧ zv.cells.size = sz) ∧ (P.info? e).map (·.bytes) = some bytes ∧ sz ≠ 0 ∧ bytes ≠ 0 ∧ Qqw P str tx sz = true := by
 unfold Qjt at h
 split at h
 ·rename_i e he
  simp only [Bool.and_eq_true, decide_eq_true_eq] at h
  obtain ⟨⟨⟨⟨h1, h2⟩, h3⟩, h4⟩, h5⟩ := h
  obtain ⟨hu, hty⟩ := Qd3 he
  obtain ⟨i, hi, his⟩ := Qhe (Qi9 hty)
  rw [Option.map_eq_some_iff] at h1
  exact ⟨e, i, he, hu, hi, his, h1, h2, h3, h4, h5⟩
 ·cases h
theorem Qqz {n b : Nat} (h : n * b ≤ Qb0) (hb : b ≠ 0) : n ≤ 9223372036854775807 := by
 have : n * 1 ≤ n * b := Nat.mul_le_mul_left _ (Nat.one_le_iff_ne_zero.2 hb)
 unfold Qb0 at h
 omega
theorem Qq0 {ag : Bool} {sz bytes : Nat} {xs ys : List V} {c : Cap} {z : V} (h : Qdi ag sz bytes (.sl xs c) ys = some z) (hne : ys ≠ []) :
  Qcz ag sz ys = true ∧ (c = .fx ∨ c = .gr sz) ∧ (∀ q ∈ xs, q.cells.length = sz) ∧ (xs.length + ys.length) * bytes ≤ Qb0 ∧ z = .sl (xs ++ ys) (.gr sz) := by
 unfold Qdi at h
 split at h
 ·rename_i hok
  cases ys with
  | nil => exact absurd rfl hne
  | cons y0 yr =>
   simp only at h
   split at h
   ·rename_i hcond
    cases h
    exact ⟨hok, hcond.1, fun q hq => by simpa using List.all_eq_true.1 hcond.2.1 q hq, hcond.2.2, rfl⟩
   ·cases h
 ·cases h
theorem Qsx {ag : Bool} {sz bytes : Nat} {ys : List V} {z : V} (h : Qdi ag sz bytes .nils ys = some z) (hne : ys ≠ []) :
  Qcz ag sz ys = true ∧ ys.length * bytes ≤ Qb0 ∧ z = .sl ys (.gr sz) := by
 unfold Qdi at h
 split at h
 ·rename_i hok
  simp only [hne, if_false] at h
  split at h
  ·rename_i hle; cases h; exact ⟨hok, hle, rfl⟩
  ·cases h
 ·cases h
theorem Qju {ag : Bool} {sz bytes : Nat} {x : V} {ys : List V} {z : V} (h : Qdi ag sz bytes x ys = some z) : x = .nils ∨ ∃ xs c, x = .sl xs c := by
 unfold Qdi at h
 split at h
 ·cases x <;> first | exact .inl rfl | exact .inr ⟨_, _, rfl⟩ | cases h
 ·cases h
theorem Qui (h : St M ι X κ w us ρ σ) {t tx ty : TypeId} {str ag : Bool} {sz bytes : Nat} (hc : Qjt P str ag sz bytes t tx = true) {vx vy : Value} {x y z : V} {ys : List V} (hx : Rep M ι vx x) (hy : Rep M ι vy y)
  (hs : Qes str σ y = some ys) (hne : ys ≠ []) (hno : ∀ xs s, x ≠ .sl xs (.gr s)) (he : Qdi ag sz bytes x ys = some z) (d : Option Nat) :
  ∃ u w' M' κ', (Builtin.append_ #[t, tx] ty #[vx, vy]).run P w = .ok u w' ∧ Ext X M ι w M' ι w' ∧ HK ι w w' ∧ St M' ι X κ' w' (putL us d u) (put ρ d z) σ := by
 obtain ⟨e, i, hel, hu, hi, his, hz, hby, hsz, hb0, hsrc⟩ := Qgu hc
 have hpos : 0 < ys.length := List.length_pos_iff.2 hne
 rcases Qju he with rfl | ⟨xs, c, rfl⟩
 ·obtain ⟨hok, hle, rfl⟩ := Qsx he hne
  obtain ⟨vs, hS, hrv⟩ := Qqy h.wd hsrc hy hs hok
  have hys := (Qej hok).1
  cases hx
  have := Qja (ty := ty) h hel hz hby hsz (base := none) (sCap := 0) (xs := []) (olds := []) (fun w' _ => rfl) Reps.nil (by simp) hS hrv hys (by simp; exact hpos) (by simpa using hle) (by simpa using Qqz hle hb0) d
  simpa using this
 ·obtain ⟨hok, hcc, hxs, hle, rfl⟩ := Qq0 he hne
  obtain ⟨vs, hS, hrv⟩ := Qqy h.wd hsrc hy hs hok
  have hys := (Qej hok).1
  have hfx : c = .fx := hcc.resolve_right (fun e => hno xs sz (by rw [e]))
  rcases hx.inv_sl with ⟨b, off, cap, sz', us', rfl, _, hr, hm, hcap, hf⟩ | ⟨a0, rfl, rfl, _⟩
  case inr =>
   exact Qja (ty := ty) h hel hz hby hsz (base := some a0) (sCap := 0) (xs := []) (olds := []) (fun w' _ => by unfold Builtin.firstCells; simp only [List.length_nil, Nat.zero_mul]; rfl) Reps.nil (by simp) hS hrv hys (by simp; exact hpos) (by simpa using hle) (by simpa using Qqz hle hb0) d
  have hcl := hf hfx
  have hcell := h.wd.cells hm
  exact Qja (ty := ty) h hel hz hby hsz (base := some ⟨b, off, none⟩) (sCap := cap) (xs := xs) (olds := us') (fun w' hw' => by
   refine Qgm (cap := cap) (by rw [hr.1, Qbs hxs]) (fun i u hu => ?_) xs.length
   have := hcell i u hu
   simpa [World.cell?, hw'] using this) hr hxs hS hrv hys (by omega) hle (Qqz hle hb0) d
theorem Wcq {str : Bool} {tx : TypeId} {sz : Nat} {v : Value} {vs : List Value} {ys : List V} (h : Src P sz tx v ys.length vs w) (hn : ys = []) : Src P sz tx v 0 [] w := by
 subst hn
 have hl := h.newsLen
 have : vs = [] := List.length_eq_zero_iff.1 (by simpa using hl)
 subst this
 exact h
theorem Qq1 (h : Wd M ι X κ w σ) {t tx ty : TypeId} {str ag : Bool} {sz bytes : Nat} (hc : Qjt P str ag sz bytes t tx = true) {vx vy : Value} {x y z : V} (hx : Rep M ι vx x) (hy : Rep M ι vy y)
  (hs : Qes str σ y = some []) (he : Qdi ag sz bytes x [] = some z) : (Builtin.append_ #[t, tx] ty #[vx, vy]).run P w = .ok vx w ∧ z = x := by
 obtain ⟨e, i, hel, hu, hi, his, hz, hby, hsz, hb0, hsrc⟩ := Qgu hc
 have hok : Qcz ag sz [] = true := rfl
 obtain ⟨vs, hS, hrv⟩ := Qqy h hsrc hy hs hok
 have hS' := Wcq (str := str) hS rfl
 subst his
 unfold Qdi at he
 rw [if_pos hok] at he
 cases x <;> (try (cases he; done))
 case nils =>
  simp at he
  cases hx
  exact ⟨Qds hu hi hS' (Nat.le_refl _), he.symm⟩
 case sl xs c =>
  simp at he
  rcases hx.inv_sl with ⟨b, off, cap, sz', us', rfl, _, hr, hm, hcap, hf⟩ | ⟨a0, rfl, rfl, _⟩
  ·exact ⟨Qds hu hi hS' hcap, he.symm⟩
  ·exact ⟨Qds hu hi hS' (Nat.le_refl _), he.symm⟩
theorem Wfo (h : St M ι X κ w us ρ σ) {t tx ty : TypeId} {str ag : Bool} {sz bytes : Nat} (hc : Qjt P str ag sz bytes t tx = true) {n s : Nat} {vx vy : Value} {xs : List V} {y z : V} {ys : List V}
  (hv : us[n]? = some vx) (hxn : ρ[n]? = some (.sl xs (.gr s))) (hy : Rep M ι vy y) (hs : Qes str σ y = some ys) (hne : ys ≠ []) (he : Qdi ag sz bytes (.sl xs (.gr s)) ys = some z) (d : Option Nat) :
  ∃ u w' M' κ', (Builtin.append_ #[t, tx] ty #[vx, vy]).run P w = .ok u w' ∧ Ext X M ι w M' ι w' ∧ HK ι w w' ∧ St M' ι X κ' w' (putL us d u) (put (ρ.set n (.sl xs .no)) d z) σ := by
 obtain ⟨e, i, hel, hu, hi, his, hz, hby, hsz, hb0, hsrc⟩ := Qgu hc
 obtain ⟨hok, hcc, hxs, hle, rfl⟩ := Qq0 he hne
 have hss : s = sz := by rcases hcc with h | h <;> cases h; rfl
 subst hss
 obtain ⟨vs, hS, hrv⟩ := Qqy h.wd hsrc hy hs hok
 have hys := (Qej hok).1
 have hrx := h.rep.2 n _ _ hv hxn
 rcases hrx.inv_sl with ⟨b, off, cap, sz', us', rfl, _, hr, hm, hcap, _⟩ | ⟨_, _, _, hng⟩
 case inr => exact absurd rfl (hng _)
 have hcell := h.wd.cells hm
 obtain ⟨κ1, h1, hf, hg⟩ := h.takeSlot hv hxn (rfl : ownB _ _ = some b)
 obtain ⟨g1, g2, ws, T, fz, g3, g4, g5⟩ := hg.ok xs s rfl _ _ _ rfl
 have hfl := Qbs hxs
 simp only at g2 g3 g4 g5
 have h1' : St M ι X κ1 w us (ρ.set n (.sl xs .no)) σ := h1
 by_cases hroom : xs.length + ys.length ≤ cap
 ·
  have hvl : vs.length = ys.length * s := hS.newsLen
  have hend : off + xs.length * s + vs.length ≤ ws.size := by
   rw [hvl, Nat.add_assoc, ← Nat.add_mul]
   exact Nat.le_trans (Nat.add_le_add_left (Nat.mul_le_mul_right _ hroom) _) g4
  subst his
  have hrun := Qnn (P := P) (ty := ty) hu hi hS hroom g3 hend (fun j hj1 hj2 => g5 j (by rw [hfl]; exact hj1) hj2)
  obtain ⟨h2, hx2⟩ := h1'.fill hf g3 (s := off + xs.length * i.size) (vs := vs) (fun j hj => g2 j (by rw [hfl]; exact hj)) hend
  have hboth : ∀ q ∈ xs ++ ys, q.cells.length = i.size := fun q hq => by
   rcases List.mem_append.1 hq with h | h
   ·exact hxs q h
   ·exact hys q h
  have hul : us'.length = xs.length * i.size := by rw [hr.1, hfl]
  have hrep : Rep (Qjo M b (off + xs.length * i.size) vs) ι (.slice (some ⟨b, off, none⟩) (xs ++ ys).length cap) (.sl (xs ++ ys) (.gr i.size)) := by
   have hrr : Reps (Qjo M b (off + xs.length * i.size) vs) ι (us' ++ vs) ((xs ++ ys).flatMap V.cells) := by
    rw [List.flatMap_append]; exact (hr.mono hx2.m hx2.i).append (hrv.mono hx2.m hx2.i)
   refine .sl (xs ++ ys) (.gr i.size) b off cap i.size (us' ++ vs) hboth hrr.1 (fun j u hju => ?_) hrr.2 (by rw [List.length_append]; exact hroom) (fun e => by cases e)
   rw [List.getElem?_append] at hju
   split at hju
   ·exact hx2.m.le _ _ _ (hm j u hju)
   ·rename_i hge
    unfold Qjo
    have hlt := (List.getElem?_eq_some_iff.1 hju).1
    rw [if_pos ⟨rfl, by omega, by omega⟩]
    rw [show off + j - (off + xs.length * i.size) = j - us'.length from by omega]
    exact hju
  obtain ⟨κ', h3⟩ := h2.putOwn hrep (fun b' hb' => by
   cases hb'
   refine ⟨⟨hf.k, hf.x, hf.i, by rw [Qbc]; exact hf.lt⟩, ⟨fun xs' s' hx' a len cap' hv' => ?_⟩⟩
   cases hx'; cases hv'
   refine ⟨hboth, fun j hj => ?_, layA ws (off + xs.length * i.size) vs, T, fz, by rw [Qaq, if_pos rfl, if_pos hf.lt], by rw [Qe9]; exact g4, fun j hj1 hj2 => g5 j ?_ (by rw [Qe9] at hj2; exact hj2)⟩
   ·unfold Qjo
    have hbl := Qbs hboth
    rw [List.length_append, Nat.add_mul] at hbl
    simp only at hj
    rw [if_neg (by omega)]
    exact g2 j (by omega)
   ·have hbl := Qbs hboth
    rw [List.length_append, Nat.add_mul] at hbl
    simp only at hj1
    omega) d
  rw [List.length_append] at h3
  exact ⟨_, _, _, κ', hrun, hx2, fun o b' hi' => by rw [Qaq, if_neg (fun e => by subst e; exact hf.i o hi')], h3⟩
 ·exact Qja (ty := ty) h1' hel hz hby hsz (base := some ⟨b, off, none⟩) (sCap := cap) (xs := xs) (olds := us') (fun w' hw' => by
   refine Qgm (cap := cap) (by rw [hr.1, Qbs hxs]) (fun i u hu => ?_) xs.length
   have := hcell i u hu
   simpa [World.cell?, hw'] using this) hr hxs hS hrv hys (by omega) hle (Qqz hle hb0) d
end
end Go.Ev
namespace Go.Ev
open Go
def okTk (y : Arg) (tk : Bool) : Bool :=
 match y, tk with
 | _, false => true
 | .t _, true => true
 | _, _ => false
def Qiw : Option Operand → Option Arg → Bool
 | none, none => true
 | some x, some y => Qat x y
 | _, _ => false
def Qyn : TypeDesc → Bool
 | .interface _ => false
 | _ => true
def Qno (P : Program) (t : TypeId) : Bool := match P.underlying t with | some .string => true | _ => false
def Qpe (P : Program) (t : TypeId) : Bool := match P.underlying t with | some (.int .u8) => true | _ => false
theorem Qgv {P : Program} {t : TypeId} (h : Qno P t = true) : P.underlying t = some .string := by
 unfold Qno at h; split at h <;> first | assumption | cases h
theorem Qek {P : Program} {t : TypeId} (h : Qpe P t = true) : P.underlying t = some (.int .u8) := by
 unfold Qpe at h; split at h <;> first | assumption | cases h
def Qa1 (P : Program) (o : Op) (i : Ins) : Bool :=
 match i with
 | .mv y tk => match o with
  | .move x | .assign x => Qat x y && okTk y tk
  | _ => false
 | .pick c' a' b' => match o with
  | .pick c a b => Qat c c' && Qat a a' && Qat b b'
  | _ => false
 | .alloc z => match o with
  | .alloc e => (match Qe2 P e with | some zv => Qdd zv.cells.toList z | none => false)
  | _ => false
 | .box y => match o with
  | .box _ x => Qat x y
  | _ => false
 | .build z qs => match o with
  | .build t ps => Ql4 P t z ps.toList qs
  | _ => false
 | .buildSl ag sz len z qs _ => match o with
  | .buildSlice t len' ps => (match Qdj P t ag sz with
   | some e => len == len' && (len == 0 || Qec P e z && decide (z.cells.length = sz)) && decide (sz ≠ 0) && decide (len * sz ≤ 16777216) && Qb3 ps.toList qs
   | none => false)
  | _ => false
 | .buildG ag sz len z qs => match o with
  | .buildSlice t len' ps => (match Qdj P t ag sz with
   | some e => len == len' && (len == 0 || Qec P e z && decide (z.cells.length = sz)) && decide (sz ≠ 0) && decide (len * sz ≤ 16777216) && Qb3 ps.toList qs
   | none => false)
  | _ => false
 | .mark y => match o with
  | .convert s d x => s == d && (match P.underlying s with | some (.slice e) => Qpe P e | _ => false) && Qat x y && okTk y true
  | _ => false
 | .load ag sz y => match o with
  | .load t x => Qeb P t ag sz && Qat x y
  | _ => false
 | .loadT y => match o with
  | .load t x => Qeb P t false 1 && Qat x y
  | _ => false
 | .store sz p' y tk => match o with
  | .store t p x => decide (szOf P t = some sz) && Qat p p' && Qat x y && okTk y tk
  | _ => false
 | .nilc y => match o with
  | .nilCheck x => Qat x y
  | _ => false
 | .bin op' k x' y' => match o with
  | .binOp op t x y _ => decide (op = op') && Wfm P op k t x y && Qat x x' && Qat y y'
  | _ => false
 | .un op' y => match o with
  | .unOp op _ x => decide (op = op') && Qat x y
  | _ => false
 | .conv k y => match o with
  | .convert s d x => Qat x y && (match k, P.underlying s, P.underlying d with
   | .toInt k', some _, some (.int j) => decide (k' = j)
   | .same, some .string, some .string => true
   | .intStr, some (.int _), some .string => true
   | .strBytes, some .string, some (.slice e) => Qpe P e
   | .bytesStr, some (.slice e), some .string => Qpe P e
   | .bytesStrN, some (.slice e), some .string => Qpe P e
   | _, _, _ => false)
  | _ => false
 | .bytesH y => match o with
  | .convert s d x => Qat x y && (match P.underlying s, P.underlying d with
   | some .string, some (.slice e) => Qpe P e
   | _, _ => false)
  | _ => false
 | .cutS y lo' hi' => match o with
  | .slice t x lo hi mx => Qno P t && mx.isNone && Qat x y && Qiw lo lo' && Qiw hi hi'
  | _ => false
 | .cut sz y lo' hi' mx' => match o with
  | .slice t x lo hi mx => (match P.underlying t with | some (.slice e) => decide (szOf P e = some sz) | _ => false) && Qat x y && Qiw lo lo' && Qiw hi hi' && Qiw mx mx' && (mx'.isNone || hi'.isSome)
  | _ => false
 | .cutA n sz _ y lo' hi' => match o with
  | .slice t x lo hi mx => (match P.underlying t with | some (.array m e) => n == m && decide (szOf P e = some sz) | _ => false) && mx.isNone && Qat x y && Qiw lo lo' && Qiw hi hi'
  | _ => false
 | .faddr off y => match o with
  | .fieldAddr s x f => (match Qf1 P s f off with | some t => (match szOf P t with | some sz => decide (sz ≠ 0) | none => false) | none => false) && Qat x y
  | _ => false
 | .field ag off sz y => match o with
  | .field s x f => (match Qf1 P s f off with | some t => Qeb P t ag sz | none => false) && Qat x y
  | _ => false
 | .iaddr sz y j => match o with
  | .indexAddr t x i => (match P.underlying t with | some (.slice e) => decide (szOf P e = some sz) | _ => false) && Qat x y && Qat i j
  | _ => false
 | .iaddrA n sz y j => match o with
  | .indexAddr t x i => (match P.underlying t with | some (.array m e) => n == m && decide (szOf P e = some sz) | _ => false) && Qat x y && Qat i j
  | _ => false
 | .idx y j => match o with
  | .index t x i => Qno P t && Qat x y && Qat i j
  | _ => false
 | .idxA n ag sz y j => match o with
  | .index t x i => (match P.underlying t with | some (.array m e) => n == m && Qeb P e ag sz | _ => false) && Qat x y && Qat i j
  | _ => false
 | .lenS y => match o with
  | .call { callee := .builtin .len, args, argTypes } => Qbo args.toList [y] && (match argTypes.toList with | [t] => Qno P t | _ => false)
  | _ => false
 | .len y => match o with
  | .call { callee := .builtin .len, args, argTypes } => Qbo args.toList [y] && (match argTypes.toList with | [t] => (match P.underlying t with | some (.slice _) => true | _ => false) | _ => false)
  | _ => false
 | .app str ag sz bytes x' y' tk => match o with
  | .call { callee := .builtin .append, args, argTypes } => Qbo args.toList [x', y'] && okTk x' tk && (match argTypes.toList with | [t, tx] => Qjt P str ag sz bytes t tx | _ => false)
  | _ => false
 | .mkfn f' a' b' => match o with
  | .makeFunc (.func f) a b => f == f' && Qbo a.toList a' && Qbo b.toList b'
  | _ => false
 | .mkif t' y => match o with
  | .makeInterface t x => t == t' && Qat x y && (match P.underlying t with | some d => Qyn d | none => false)
  | _ => false
 | .extr y j => match o with
  | .extract x i => i == j && Qat x y
  | _ => false
 | .mkSl ag sz bytes z l' c' _ => match o with
  | .makeSlice t l c => (match Qdj P t ag sz with
   | some e => Qec P e z && decide (z.cells.length = sz) && decide (sz ≠ 0) && decide (bytes ≠ 0) && decide ((P.info? e).map (·.bytes) = some bytes) && Qat l l' && Qat c c'
   | none => false)
  | _ => false
 | .mm mx ys => match o with
  | .call { callee := .builtin b, args, argTypes := _ } => (match b, mx with | .max, true => true | .min, false => true | _, _ => false) && Qbo args.toList ys
  | _ => false
 | .call f ys => match o with
  | .call { callee := .value (.func g), args, argTypes := _ } => f == g && Qbo args.toList ys
  | _ => false
 | .callv y ys => match o with
  | .call { callee := .value x, args, argTypes := _ } => Qat x y && Qbo args.toList ys
  | _ => false
 | _ => false
section
variable {P : Program} {M : Mem} {ι : Plc} {X : Nat → Prop} {κ : Own} {w : World} {ρ : List V} {σ : Objs} {G : GV} {a : Act}
theorem Qdc {r : Operand → Value} {A : Arg → V} (hA : Opd M ι r A) {x : Option Operand} {y : Option Arg} (h : Qiw x y = true) : RepO M ι (x.map r) (y.map A) := by
 cases x <;> cases y <;> first | trivial | exact hA.ok _ _ h | cases h
theorem Qpf {xs : List Operand} {y z : Arg} (h : Qbo xs [y, z] = true) : ∃ p q, xs = [p, q] ∧ Qat p y = true ∧ Qat q z = true := by
 cases xs with
 | nil => simp [Qbo] at h
 | cons p xs =>
  cases xs with
  | nil => simp [Qbo] at h
  | cons q xs =>
   cases xs with
   | nil => simp only [Qbo, Bool.and_eq_true] at h; exact ⟨p, q, rfl, h.1, h.2.1⟩
   | cons _ _ => simp [Qbo] at h
theorem Qjv {xs : List Operand} {y : Arg} (h : Qbo xs [y] = true) : ∃ p, xs = [p] ∧ Qat p y = true := by
 cases xs with
 | nil => simp [Qbo] at h
 | cons p xs =>
  cases xs with
  | nil => simp only [Qbo, Bool.and_eq_true] at h; exact ⟨p, rfl, h.1⟩
  | cons _ _ => simp [Qbo] at h
theorem Qq2 {r : Operand → Value} {dst : Option Tmp} {args : Array Operand} {ts : Array TypeId} {type : TypeId} {pos : String} {after : Array Edge} {guard : Option (Nat × Bool)} :
  execOp r ⟨dst, .call { callee := .builtin .len, args := args, argTypes := ts }, type, pos, after, guard⟩ = (do pure (.value (← Builtin.len_ ts type (args.map r)))) := rfl
theorem Qpg {r : Operand → Value} {dst : Option Tmp} {args : Array Operand} {ts : Array TypeId} {type : TypeId} {pos : String} {after : Array Edge} {guard : Option (Nat × Bool)} :
  execOp r ⟨dst, .call { callee := .builtin .append, args := args, argTypes := ts }, type, pos, after, guard⟩ = (do pure (.value (← Builtin.append_ ts type (args.map r)))) := rfl
theorem Qyo (h : Wd M ι X κ w σ) {o : Oper} {i : Ins} {A : Arg → V} {x : V} (hA : Opd M ι a.eval A) (hc : Qa1 P o.op i = true) (hns : ∀ y, i ≠ .conv .strBytes y) (he : Qay A σ i = some x) :
  ∃ u, (execOp a.eval o).run P w = .ok (.value u) w ∧ Rep M ι u x := by
 obtain ⟨dst, op, type, pos, after, guard⟩ := o
 have val : ∀ (s : Sem Value) {y : V}, (∃ u, s.run P w = .ok u w ∧ Rep M ι u y) → (execOp a.eval ⟨dst, op, type, pos, after, guard⟩ = (do pure (.value (← s)))) → ∃ u, (execOp a.eval ⟨dst, op, type, pos, after, guard⟩).run P w = .ok (.value u) w ∧ Rep M ι u y := by
  intro s y ⟨u, h1, h2⟩ he
  refine ⟨u, ?_, h2⟩
  rw [he, Qab, h1]
  rfl
 cases i <;> (try (simp only [Qay] at he; cases he; done))
 case pick c' a' b' =>
  cases op <;> (try (cases hc; done))
  simp only [Qa1, Bool.and_eq_true] at hc
  simp only [Qay] at he
  split at he
  ·rename_i t ht
   cases he
   have hcv := hA.ok _ _ hc.1.1
   rw [ht] at hcv
   have hb := hcv.inv_bool
   rename_i c1 a1 b1 _
   refine ⟨if t then a.eval a1 else a.eval b1, ?_, ?_⟩
   ·simp only [execOp, Qab, hb, asBool, Qaj, Result.andThen]
   ·cases t
    ·exact hA.ok _ _ hc.2
    ·exact hA.ok _ _ hc.1.2
  ·cases he
 case build z qs =>
  cases op <;> (try (cases hc; done))
  simp only [Qa1] at hc
  exact val _ (Quh hA hc he) rfl
 case load ag sz y =>
  cases op <;> (try (cases hc; done))
  simp only [Qa1, Bool.and_eq_true] at hc
  exact val _ (Qye h hc.1 (hA.ok _ _ hc.2) he) rfl
 case nilc y =>
  cases op <;> (try (cases hc; done))
  simp only [Qa1] at hc
  have hv := hA.ok _ _ hc
  simp only [Qay] at he
  unfold Qa9 at he
  split at he
  ·rename_i hy
   cases he
   rw [hy] at hv
   obtain ⟨b, hvb, hi⟩ := hv.inv_ptr
   refine ⟨_, ?_, .ptr _ _ b hi⟩
   simp only [execOp, hvb]; rfl
  ·rename_i cs off hy
   cases he
   rw [hy] at hv
   have hv' := hv
   obtain ⟨b, base, us, hvb, _, _⟩ := hv.inv_eptr
   rw [hvb] at hv'
   refine ⟨_, ?_, hv'⟩
   simp only [execOp, hvb]; rfl
  ·rename_i f p q hy
   cases he
   rw [hy] at hv
   have hv' := hv
   generalize hg : a.eval _ = vv at hv hv'
   cases hv with
   | fn _ as bs _ _ _ _ _ _ =>
    refine ⟨_, ?_, hv'⟩
    simp only [execOp, hg]; rfl
  ·cases he
 case bin op' k x' y' =>
  cases op <;> (try (cases hc; done))
  simp only [Qa1, Bool.and_eq_true, decide_eq_true_eq] at hc
  obtain ⟨⟨⟨rfl, h2⟩, h3⟩, h4⟩ := hc
  exact val _ (Wco h2 (hA.ok _ _ h3) (hA.ok _ _ h4) he) rfl
 case un op' y =>
  cases op <;> (try (cases hc; done))
  simp only [Qa1, Bool.and_eq_true, decide_eq_true_eq] at hc
  obtain ⟨rfl, h2⟩ := hc
  exact val _ (Wfn (hA.ok _ _ h2) he) rfl
 case conv k y =>
  cases op <;> (try (cases hc; done))
  simp only [Qa1, Bool.and_eq_true] at hc
  obtain ⟨h1, h2⟩ := hc
  have hv := hA.ok _ _ h1
  simp only [Qay] at he
  split at h2 <;> (try (cases h2; done))
  ·rename_i hs hd
   have hkj : _ = _ := of_decide_eq_true h2
   subst hkj
   exact val _ (Quf (σ := σ) hs hd hv he) rfl
  ·rename_i hs hd
   exact val _ (Qyi (σ := σ) hs hd hv he) rfl
  ·rename_i hs hd
   exact val _ (Qsu (σ := σ) hs hd hv he) rfl
  ·exact absurd rfl (hns y)
  ·rename_i hs hd
   exact val _ (Qiu h hs (Qek h2) hd hv he) rfl
  ·rename_i hs hd
   exact val _ (Qiu h hs (Qek h2) hd hv (Qyj he)) rfl
 case cutS y lo' hi' =>
  cases op <;> (try (cases hc; done))
  rename_i t x lo hi mx
  simp only [Qa1, Bool.and_eq_true, decide_eq_true_eq] at hc
  obtain ⟨⟨⟨⟨h1, h2⟩, h3⟩, h4⟩, h5⟩ := hc
  cases mx with
  | some _ => cases h2
  | none => exact val _ (Qyh (Qgv h1) (hA.ok _ _ h3) (Qdc hA h4) (Qdc hA h5) he) rfl
 case cut sz y lo' hi' mx' =>
  cases op <;> (try (cases hc; done))
  rename_i t x lo hi mx
  simp only [Qa1, Bool.and_eq_true] at hc
  obtain ⟨⟨⟨⟨⟨h1, h2⟩, h3⟩, h4⟩, h5⟩, h6⟩ := hc
  split at h1
  ·rename_i e hu
   refine val _ (Wcj hu (of_decide_eq_true h1) (hA.ok _ _ h2) (Qdc hA h3) (Qdc hA h4) (Qdc hA h5) (fun hm => ?_) he) rfl
   cases mx' <;> cases hi' <;> simp_all
  ·cases h1
 case cutA n sz ag y lo' hi' =>
  cases op <;> (try (cases hc; done))
  rename_i t x lo hi mx
  simp only [Qa1, Bool.and_eq_true] at hc
  obtain ⟨⟨⟨⟨h1, h2⟩, h3⟩, h4⟩, h5⟩ := hc
  split at h1
  ·rename_i m e hu
   simp only [Bool.and_eq_true, beq_iff_eq] at h1
   obtain ⟨rfl, h1⟩ := h1
   cases mx with
   | some _ => cases h2
   | none => exact val _ (Qyl h hu (of_decide_eq_true h1) (hA.ok _ _ h3) (Qdc hA h4) (Qdc hA h5) he) rfl
  ·cases h1
 case faddr off y =>
  cases op <;> (try (cases hc; done))
  simp only [Qa1, Bool.and_eq_true] at hc
  obtain ⟨h1, h2⟩ := hc
  split at h1
  ·rename_i t ht
   split at h1
   ·rename_i sz hsz
    exact val _ (Qt5 ht hsz (of_decide_eq_true h1) (hA.ok _ _ h2) he) rfl
   ·cases h1
  ·cases h1
 case field ag off sz y =>
  cases op <;> (try (cases hc; done))
  simp only [Qa1, Bool.and_eq_true] at hc
  obtain ⟨h1, h2⟩ := hc
  split at h1
  ·rename_i t ht
   exact val _ (Qt6 ht h1 (hA.ok _ _ h2) he) rfl
  ·cases h1
 case iaddr sz y j =>
  cases op <;> (try (cases hc; done))
  simp only [Qa1, Bool.and_eq_true] at hc
  obtain ⟨⟨h1, h2⟩, h3⟩ := hc
  split at h1
  ·rename_i e hu
   exact val _ (Qt8 h hu (of_decide_eq_true h1) (hA.ok _ _ h2) (hA.ok _ _ h3) he) rfl
  ·cases h1
 case iaddrA n sz y j =>
  cases op <;> (try (cases hc; done))
  simp only [Qa1, Bool.and_eq_true] at hc
  obtain ⟨⟨h1, h2⟩, h3⟩ := hc
  split at h1
  ·rename_i m e hu
   simp only [Bool.and_eq_true, beq_iff_eq] at h1
   obtain ⟨rfl, h1⟩ := h1
   exact val _ (Qss hu (of_decide_eq_true h1) (hA.ok _ _ h2) (hA.ok _ _ h3) he) rfl
  ·cases h1
 case idx y j =>
  cases op <;> (try (cases hc; done))
  simp only [Qa1, Bool.and_eq_true, decide_eq_true_eq] at hc
  obtain ⟨⟨h1, h2⟩, h3⟩ := hc
  exact val _ (Wci (Qgv h1) (hA.ok _ _ h2) (hA.ok _ _ h3) he) rfl
 case idxA n ag sz y j =>
  cases op <;> (try (cases hc; done))
  simp only [Qa1, Bool.and_eq_true] at hc
  obtain ⟨⟨h1, h2⟩, h3⟩ := hc
  split at h1
  ·rename_i m e hu
   simp only [Bool.and_eq_true, beq_iff_eq] at h1
   obtain ⟨rfl, h1⟩ := h1
   exact val _ (Qyf hu h1 (hA.ok _ _ h2) (hA.ok _ _ h3) he) rfl
  ·cases h1
 case extr y j =>
  cases op <;> (try (cases hc; done))
  simp only [Qa1, Bool.and_eq_true, beq_iff_eq] at hc
  obtain ⟨rfl, h2⟩ := hc
  exact val _ (Qyg (hA.ok _ _ h2) he) rfl
 case mkif t' y =>
  cases op <;> (try (cases hc; done))
  simp only [Qa1, Bool.and_eq_true, beq_iff_eq] at hc
  obtain ⟨⟨rfl, h2⟩, h3⟩ := hc
  simp only [Qay] at he
  cases he
  split at h3
  ·rename_i d hd
   refine val _ ⟨_, ?_, .ifc _ _ _ (hA.ok _ _ h2)⟩ rfl
   unfold Instr.makeInterface
   simp only [Qab, run_underlying hd, Result.andThen]
   cases d <;> first | rfl | cases h3
  ·cases h3
 case mkfn f' a' b' =>
  cases op <;> (try (cases hc; done))
  rename_i fn fi ca
  cases fn <;> (try (cases hc; done))
  simp only [Qa1, Bool.and_eq_true, beq_iff_eq] at hc
  obtain ⟨⟨rfl, h2⟩, h3⟩ := hc
  simp only [Qay] at he
  cases he
  have r1 := hA.args h2
  have r2 := hA.args h3
  refine val _ ⟨_, rfl, ?_⟩ rfl
  refine .fn _ _ _ _ _ (by have := r1.1; simpa using this) (by have := r2.1; simpa using this) (fun i v c hv hcc => r1.2 i v c ?_ hcc) (fun i v c hv hcc => r2.2 i v c ?_ hcc)
  ·simpa using hv
  ·simpa using hv
 case lenS y =>
  cases op <;> (try (cases hc; done))
  rename_i c
  obtain ⟨callee, args, argTypes⟩ := c
  cases callee <;> (try (cases hc; done))
  rename_i b
  cases b <;> (try (cases hc; done))
  simp only [Qa1, Bool.and_eq_true] at hc
  obtain ⟨h1, h2⟩ := hc
  obtain ⟨p, hp, hpy⟩ := Qjv h1
  split at h2
  ·rename_i t htt
   have hat : argTypes = #[t] := by apply Array.ext'; simpa using htt
   have har : args = #[p] := by apply Array.ext'; simpa using hp
   subst hat har
   exact val _ (Qyk (ty := type) (Qgv h2) (hA.ok _ _ hpy) he) (by rw [Qq2]; simp)
  ·cases h2
 case len y =>
  cases op <;> (try (cases hc; done))
  rename_i c
  obtain ⟨callee, args, argTypes⟩ := c
  cases callee <;> (try (cases hc; done))
  rename_i b
  cases b <;> (try (cases hc; done))
  simp only [Qa1, Bool.and_eq_true] at hc
  obtain ⟨h1, h2⟩ := hc
  obtain ⟨p, hp, hpy⟩ := Qjv h1
  split at h2
  ·rename_i t htt
   have hat : argTypes = #[t] := by apply Array.ext'; simpa using htt
   have har : args = #[p] := by apply Array.ext'; simpa using hp
   subst hat har
   split at h2
   ·rename_i e hu
    exact val _ (Wcp (ty := type) hu (hA.ok _ _ hpy) he) (by rw [Qq2]; simp)
   ·cases h2
  ·cases h2
 case mm mx ys =>
  cases op <;> (try (cases hc; done))
  rename_i c
  obtain ⟨callee, args, argTypes⟩ := c
  cases callee <;> (try (cases hc; done))
  rename_i b
  simp only [Qa1, Bool.and_eq_true] at hc
  obtain ⟨h1, h2⟩ := hc
  have hr := hA.args h2
  simp only [Qay] at he
  split at he
  ·rename_i x0 r hys
   split at he
   ·rename_i hint
    rw [hys] at hr
    cases hal : args.toList with
    | nil => rw [hal] at hr; have := hr.1; simp at this
    | cons p ps =>
     rw [hal] at hr
     have har : args = (p :: ps).toArray := by apply Array.ext'; simpa using hal
     subst har
     obtain ⟨u, hrun, hu⟩ := Way (P := P) (w := w) (mx := mx) hr.head hint hr.tail he
     cases mx <;> cases b <;> (try (cases h1; done))
     ·refine val (Builtin.min_ argTypes type ((p :: ps).toArray.map a.eval)) ⟨u, ?_, hu⟩ rfl
      simpa [Builtin.min_] using hrun
     ·refine val (Builtin.max_ argTypes type ((p :: ps).toArray.map a.eval)) ⟨u, ?_, hu⟩ rfl
      simpa [Builtin.max_] using hrun
   ·cases he
  ·cases he
 case mget => cases hc
end
end Go.Ev
namespace Go.Ev
open Go
def lkAt (σ : Objs) (o i : Nat) : Prop := ∃ cs x, σ[o]? = some (.cells cs) ∧ cs[i]? = some x ∧ x.isLk = true
structure Kp (ι : Plc) (w : World) (σ : Objs) (ι' : Plc) (w' : World) (σ' : Objs) : Prop where
 len : σ.length ≤ σ'.length
 dom : ∀ o, o < σ.length → ι' o = ι o
 lk : ∀ o b i, ι o = some b → lkAt σ' o i → lkAt σ o i ∧ w'.cell? ⟨b, i, none⟩ = w.cell? ⟨b, i, none⟩
def Left (P : Program) (a : Act) (o : Oper) (M : Mem) (ι : Plc) (X : Nat → Prop) (w : World) (σ : Objs) (ρ' : List V) (σ' : Objs) : Prop :=
 ∃ nx v w' M' ι' κ', (execOp a.eval o).run P w = .ok nx w' ∧ (nx = .value v ∨ (nx = .skip ∧ v = undef)) ∧ (Ext X M ι w M' ι' w' ∧ Kp ι w σ ι' w' σ' ∧ ((∀ t p x, o.op ≠ .store t p x) → HK ι w w')) ∧ St M' ι' X κ' w' (putL a.tmps.toList o.dst v) ρ' σ'
section
variable {P : Program} {M : Mem} {ι : Plc} {X : Nat → Prop} {κ : Own} {w : World} {ρ : List V} {σ : Objs} {G : GV} {a : Act}
theorem Kp.same (ι : Plc) (σ : Objs) {w w' : World} (h : HK ι w w') : Kp ι w σ ι w' σ :=
 ⟨Nat.le_refl _, fun _ _ => rfl, fun o b i hi hl => ⟨hl, by unfold World.cell?; rw [h o b hi]⟩⟩
theorem Kp.refl (ι : Plc) (w : World) (σ : Objs) : Kp ι w σ ι w σ := Kp.same ι σ (HK.refl ι w)
theorem Kp.trans {ι ι' ι'' : Plc} {w w' w'' : World} {σ σ' σ'' : Objs} (h : Kp ι w σ ι' w' σ') (hi : PlcLe ι ι') (k : Kp ι' w' σ' ι'' w'' σ'') : Kp ι w σ ι'' w'' σ'' :=
 ⟨Nat.le_trans h.len k.len, fun o ho => (k.dom o (Nat.lt_of_lt_of_le ho h.len)).trans (h.dom o ho), fun o b i hb hl => by
  obtain ⟨h1, h2⟩ := k.lk o b i (hi.le _ _ hb) hl
  obtain ⟨h3, h4⟩ := h.lk o b i hb h1
  exact ⟨h3, h2.trans h4⟩⟩
theorem Wd.lt_of (h : Wd M ι X κ w σ) {o b : Nat} (hi : ι o = some b) : o < σ.length := by
 obtain ⟨O, hO, _⟩ := h.obj o b hi
 exact (List.getElem?_eq_some_iff.1 hO).1
theorem Kp.newObj (h : Wd M ι X κ w σ) {ι' : Plc} {w' : World} (hk : HK ι w w') (hd : ∀ o, o ≠ σ.length → ι' o = ι o) (O : O) : Kp ι w σ ι' w' (σ ++ [O]) :=
 ⟨by simp, fun o ho => hd o (by omega), fun o b i hi hl => by
  have hlt := h.lt_of hi
  obtain ⟨cs, x, h1, h2⟩ := hl
  rw [List.getElem?_append_left hlt] at h1
  exact ⟨⟨cs, x, h1, h2⟩, by unfold World.cell?; rw [hk o b hi]⟩⟩
theorem Kp.set (h : Wd M ι X κ w σ) {o b : Nat} {cs cs' : List V} {w' : World} (hi : ι o = some b) (hcs : σ[o]? = some (.cells cs)) (hw : ∀ c, c ≠ b → w'.heap[c]? = w.heap[c]?)
  (hl : ∀ (i : Nat) x, cs'[i]? = some x → x.isLk = true → cs[i]? = some x ∧ w'.cell? ⟨b, i, none⟩ = w.cell? ⟨b, i, none⟩) : Kp ι w σ ι w' (σ.set o (.cells cs')) := by
 refine ⟨by simp, fun _ _ => rfl, fun o' b' i hb' hlk => ?_⟩
 obtain ⟨ds, x, h1, h2, h3⟩ := hlk
 by_cases ho : o = o'
 ·subst ho
  rw [hi] at hb'; cases hb'
  rw [List.getElem?_set_self (h.lt_of hi)] at h1
  cases h1
  obtain ⟨h4, h5⟩ := hl i x h2 h3
  exact ⟨⟨cs, x, hcs, h4, h3⟩, h5⟩
 ·rw [List.getElem?_set_ne ho] at h1
  have hb : b' ≠ b := fun e => ho (h.inj o o' b hi (e ▸ hb'))
  exact ⟨⟨ds, x, h1, h2, h3⟩, by unfold World.cell?; rw [hw b' hb]⟩
theorem Quj (x : V) : x.ng.isLk = false := by cases x <;> rfl
theorem Qgw {o : Oper} {v : Value} {ρ' : List V} {σ' : Objs} (hrun : (execOp a.eval o).run P w = .ok (.value v) w) (hk : Kp ι w σ ι w σ') (h : St M ι X κ w (putL a.tmps.toList o.dst v) ρ' σ') : Left P a o M ι X w σ ρ' σ' :=
 ⟨_, v, w, M, ι, κ, hrun, .inl rfl, ⟨Ext.refl .., hk, fun _ => HK.refl _ _⟩, h⟩
theorem Qdn {o : Oper} {v : Value} {ρ' : List V} (hrun : (execOp a.eval o).run P w = .ok (.value v) w) (h : St M ι X κ w (putL a.tmps.toList o.dst v) ρ' σ) : Left P a o M ι X w σ ρ' σ :=
 Qgw hrun (Kp.refl ..) h
theorem Ql5 {y : Arg} (h : okTk y true = true) : ∃ n, y = .t n := by cases y <;> first | exact ⟨_, rfl⟩ | cases h
theorem Qjb {x : Operand} {n : Nat} (h : Qat x (.t n) = true) : x = .tmp n := by
 cases x <;> simp [Qat] at h
 rw [h]
theorem Qhf (n : Nat) : a.eval (.tmp n) = a.tmps.toList.getD n undef := by
 simp [Act.eval, Array.getD_eq_getD_getElem?, List.getD]
theorem Qfd (ρ : List V) (y : Arg) : unslot ρ y false = ρ := by cases y <;> rfl
theorem Quk {v : Value} {x : V} (hr : Rep M ι v x) (h : ownB v x = none) : ∀ u, ownB u x = none := by
 intro u
 cases hr with
 | sl xs c b off cap sz us _ _ _ _ _ _ =>
  cases c with
  | gr s => cases h
  | no => unfold ownB; split <;> simp_all
  | fx => unfold ownB; split <;> simp_all
  | lk => unfold ownB; split <;> simp_all
 | sl0 a c hg =>
  cases c with
  | gr s => exact absurd rfl (hg s)
  | no => unfold ownB; split <;> simp_all
  | fx => unfold ownB; split <;> simp_all
  | lk => unfold ownB; split <;> simp_all
 | _ => unfold ownB; split <;> simp_all
theorem Qul (h : St M ι X κ w a.tmps.toList ρ σ) (hG : GOK G M ι) {o : Oper} {x : Operand} {y : Arg} {tk : Bool} (ho : o.op = .move x ∨ o.op = .assign x) (hc : Qat x y = true) (ht : okTk y tk = true) :
  Left P a o M ι X w σ (put (unslot ρ y tk) o.dst (if tk then argT G ρ y else arg G ρ y)) σ := by
 have hrun : (execOp a.eval o).run P w = .ok (.value (a.eval x)) w := by
  unfold execOp
  rcases ho with ho | ho <;> rw [ho] <;> rfl
 cases tk with
 | false =>
  rw [Qfd]
  exact Qdn hrun (h.putNone ((Qh6 h.rep hG hc).ng) (Qa6 _ _) _)
 | true =>
  obtain ⟨n, rfl⟩ := Ql5 ht
  have hx := Qjb hc
  subst hx
  simp only [if_true]
  show Left P a o M ι X w σ (put (ρ.set n (ρ.getD n .undef).ng) o.dst (ρ.getD n .undef)) σ
  by_cases hn : n < ρ.length
  ·have hnu : n < a.tmps.toList.length := by rw [h.rep.1]; exact hn
   have hv : a.tmps.toList[n]? = some (a.tmps.toList[n]) := List.getElem?_eq_getElem hnu
   have hρ : ρ[n]? = some ρ[n] := List.getElem?_eq_getElem hn
   have e1 : ρ.getD n .undef = ρ[n] := by simp [List.getD, hρ]
   have e2 : a.eval (.tmp n) = a.tmps.toList[n] := by rw [Qhf]; simp only [List.getD, hv, Option.getD_some]
   rw [e1]
   rw [e2] at hrun
   cases hd : o.dst with
   | none =>
    have := h.dropSlot n
    rw [e1] at this
    refine Qdn (κ := κ) hrun ?_
    rw [hd]
    exact this
   | some d =>
    obtain ⟨κ', hs, _⟩ := h.moveSlot (d := d) hv hρ
    refine ⟨_, _, w, M, ι, κ', hrun, .inl rfl, ⟨Ext.refl .., Kp.refl .., fun _ => HK.refl _ _⟩, ?_⟩
    rw [hd]
    exact hs
  ·have e1 : ρ.getD n .undef = .undef := by simp [List.getD, List.getElem?_eq_none (Nat.not_lt.1 hn)]
   have e2 : a.eval (.tmp n) = undef := by
    rw [Qhf]
    have : ¬ n < a.tmps.toList.length := by rw [h.rep.1]; exact hn
    simp [List.getD, List.getElem?_eq_none (Nat.not_lt.1 this)]
   rw [e1, List.set_eq_of_length_le (Nat.not_lt.1 hn)]
   rw [e2] at hrun
   exact Qdn hrun (h.putNone .undef rfl _)
theorem Qq3 {e : TypeId} {zv : Value} (h : Qe2 P e = some zv) : (zeroValue e).run P w = .ok zv w := by
 unfold Qe2 at h
 rw [Option.bind_eq_some_iff] at h
 obtain ⟨i, hi, hz⟩ := h
 unfold zeroValue
 simp only [Qab, Qiq hi, Result.andThen, hz]
 rfl
theorem Qf3 {e : TypeId} {v : Value} : (newVar e v).run P w = .ok ⟨w.heap.size, 0, none⟩ (Qca w (.cells v.cells e)) := rfl
theorem Qq4 (h : St M ι X κ w a.tmps.toList ρ σ) {o : Oper} {e : TypeId} {v : Value} {cs : List V} (hr : Reps M ι v.cells.toList cs) (h1 : ∀ c ∈ cs, c.one = true)
  (hrun : (execOp a.eval o).run P w = .ok (.value (.pointer (some ⟨w.heap.size, 0, none⟩))) (Qca w (.cells v.cells e))) : Left P a o M ι X w σ (put ρ o.dst (.ptr σ.length 0)) (σ ++ [.cells (cs.map V.ng)]) := by
 have hl : cs.length = v.cells.size := by have := hr.1; simpa using this.symm
 obtain ⟨M', ι', he, hi, hs, hdm⟩ := h.newObj (h.wd.none_of_ge (Nat.le_refl _)) v.cells e (0, 0) (cs.map V.ng) (by rw [List.length_map, hl, ← Array.length_toList, List.take_length]; exact hr.ng)
  (fun i _ => by unfold Qbd; simp) (fun c hc => by
   obtain ⟨c', hc', rfl⟩ := List.mem_map.1 hc
   rw [V.nogr_one]; exact h1 c' hc') (fun c hc u => by
   obtain ⟨c', _, rfl⟩ := List.mem_map.1 hc
   exact Qa6 _ _)
 exact ⟨_, _, _, M', ι', κ, hrun, .inl rfl, ⟨he, Kp.newObj h.wd (h.wd.hkPush' _) hdm _, fun _ => h.wd.hkPush' _⟩, hs.putNone (.ptr _ 0 _ hi) rfl _⟩
theorem Qsy (h : St M ι X κ w a.tmps.toList ρ σ) (hG : GOK G M ι) {o : Oper} {t : TypeId} {p x : Operand} {p' y : Arg} {sz : Nat} {tk : Bool} {v : V} {σ' : Objs} (ho : o.op = .store t p x) (hz : szOf P t = some sz)
  (hp : Qat p p' = true) (hx : Qat x y = true) (ht : okTk y tk = true) {call : FuncId → List V → Objs → Option (V × Objs)} (he : Qaw call (arg G ρ) (argT G ρ) σ (.store sz p' y tk) = some (v, σ')) :
  Left P a o M ι X w σ (put (unslot ρ y tk) o.dst v) σ' := by
 have hA := Opd.of_state h.rep hG
 have hvp := hA.ok _ _ hp
 have hvx := hA.ok _ _ hx
 simp only [Qaw] at he
 split at he
 ·rename_i oo off hpp
  simp only [Option.bind_eq_bind, Option.bind_eq_some_iff] at he
  obtain ⟨cs, hcs, he⟩ := he
  split at he
  ·rename_i hcond
   obtain ⟨hlen, hle, hok⟩ := hcond
   rw [hpp] at hvp
   obtain ⟨b, hpb, hi⟩ := hvp.inv_ptr
   have hone := Qhd hok
   have hrc := hvx.cells hone
   have hcs' : σ[oo]? = some (.cells cs) := by
    unfold Objs.get at hcs
    split at hcs
    ·cases hcs; assumption
    ·cases hcs
   obtain ⟨O, hO, hor⟩ := h.wd.obj oo b hi
   rw [hcs'] at hO; cases hO
   obtain ⟨ws, T, fz, hb, hr2, hfz, hM, hone2⟩ := hor
   have hwl : cs.length ≤ ws.size := by have := hr2.1; simp at this; omega
   have hvl : (a.eval x).cells.toList.length = sz := by rw [hrc.1]; exact hlen
   have hkp : ∀ (ds' : List V) (vs : List Value), ds'.length = vs.length → off + ds'.length ≤ cs.length → (∀ d ∈ ds', d.isLk = false) → Kp ι w σ ι (setRow w b (layA ws off vs) T fz) (σ.set oo (.cells (Qcd cs off ds'))) := by
    intro ds' vs hl1 hl2 hnl
    refine Kp.set h.wd hi hcs' (fun c hc => by rw [Qaq, if_neg (Ne.symm hc)]) (fun i y hy hlk => ?_)
    rw [Qdq cs off ds' i hl2] at hy
    split at hy
    ·have := hnl y (List.mem_of_getElem? hy); rw [this] at hlk; cases hlk
    ·rename_i hout
     refine ⟨hy, ?_⟩
     have hbl := h.wd.olt oo b hi
     rw [Qcm hb, Qcm (w := setRow w b (layA ws off vs) T fz) (ws := layA ws off vs) (T := T) (fz := fz) (by rw [Qaq, if_pos rfl, if_pos hbl]), Qfz vs ws off i (by omega), if_neg (by omega)]
   have hrun : (execOp a.eval o).run P w = .ok .skip (setRow w b (layA ws off (a.eval x).cells.toList) T fz) := by
    have hst := Qea (P := P) b off T fz (a.eval x).cells.toList w ws 0 hb (by omega) (fun j h1 h2 => hfz j (by omega)) (Qqx hrc hone)
    have : (Instr.storeAt t (a.eval p) (a.eval x)).run P w = .ok () (setRow w b (layA ws off (a.eval x).cells.toList) T fz) := by
     unfold Instr.storeAt Instr.sureAddr storeVar
     rw [hpb]
     simp only [Qab, Qaj, Qbp hz, Result.andThen]
     rw [if_neg (by rw [Array.length_toList] at hvl; omega)]
     simpa using hst
    unfold execOp
    rw [ho]
    simp only [Qab, this, Result.andThen]
    rfl
   split at he
   ·
    cases he
    have hso := h.setObj hi hcs' hb (hrc.ng) (by rw [List.length_map, hlen]; exact hle) (fun c hc => by
     obtain ⟨c', hc', rfl⟩ := List.mem_map.1 hc
     rw [V.nogr_one]; exact hone c' hc') (fun c hc u => by
     obtain ⟨c', _, rfl⟩ := List.mem_map.1 hc
     exact Qa6 _ _)
    have hs' : ∃ κ', St M ι X κ' (setRow w b (layA ws off (a.eval x).cells.toList) T fz) a.tmps.toList (unslot ρ y tk) (σ.set oo (.cells (Qcd cs off ((arg G ρ y).cells.map V.ng)))) := by
     unfold unslot
     split
     ·exact ⟨κ, hso.1.dropSlot _⟩
     ·exact ⟨κ, hso.1⟩
    obtain ⟨κ', hs'⟩ := hs'
    exact ⟨_, undef, _, M, ι, κ', hrun, .inr ⟨rfl, rfl⟩, ⟨hso.2, hkp _ _ (by rw [List.length_map]; exact hrc.1.symm) (by rw [List.length_map, hlen]; exact hle) (fun d hd => by
     obtain ⟨d', _, rfl⟩ := List.mem_map.1 hd; exact Quj d'), fun hns => absurd ho (hns _ _ _)⟩, hs'.putNone .undef rfl _⟩
   ·
    rename_i hna
    have hnlk : (if tk = true then argT G ρ y else arg G ρ y).isLk = false := by
     cases hq : (if tk = true then argT G ρ y else arg G ρ y).isLk
     ·rfl
     ·rw [hq, if_pos rfl] at he; cases he
    rw [hnlk, if_neg Bool.false_ne_true] at he
    cases he
    have hcell : (arg G ρ y).cells = [arg G ρ y] := by
     cases hyy : arg G ρ y <;> first | rfl | exact absurd hyy (hna _)
    rw [hcell] at hrc hone hlen
    have hsz : sz = 1 := hlen.symm
    subst hsz
    have h1 : (arg G ρ y).one = true := hone _ (by simp)
    have hvc : (a.eval x).cells.toList = [a.eval x] := by
     have hoc := hvx.one h1
     cases hev : a.eval x <;> first | rfl | (rw [hev] at hoc; cases hoc)
    have hoff : off < cs.length := by omega
    have hput : ∀ q : V, Qcd cs off [q] = cs.set off q := by
     intro q
     apply List.ext_getElem?
     intro j
     rw [Qdq cs off [q] j (by simp; omega), List.getElem?_set]
     by_cases hj : off = j
     ·subst hj; rw [if_pos ⟨Nat.le_refl _, by simp⟩, if_pos rfl, if_pos hoff]; simp
     ·rw [if_neg (by simp only [List.length_singleton]; omega), if_neg hj]
    have hk1 : ∀ q : V, q.isLk = false → Kp ι w σ ι (setRow w b (layA ws off (a.eval x).cells.toList) T fz) (σ.set oo (.cells (cs.set off q))) := fun q hq => by
     rw [← hput q]
     exact hkp [q] _ (by rw [hvl]; rfl) (by simp; omega) (by simpa using hq)
    have base : ∀ {κ0 : Own} {ρ0 : List V}, St M ι X κ0 w a.tmps.toList ρ0 σ → St M ι X κ0 (setRow w b (layA ws off (a.eval x).cells.toList) T fz) a.tmps.toList ρ0 (σ.set oo (.cells (cs.set off (arg G ρ y)))) ∧ Ext X M ι w M ι (setRow w b (layA ws off (a.eval x).cells.toList) T fz) := by
     intro κ0 ρ0 h0
     have := h0.setObj hi hcs' hb hrc (by simp; omega) hone (fun c hc u => by simp at hc; subst hc; exact Qa6 _ _)
     rwa [hput] at this
    cases tk with
    | false =>
     rw [Qfd]
     obtain ⟨hs, hx'⟩ := base h
     exact ⟨_, undef, _, M, ι, κ, hrun, .inr ⟨rfl, rfl⟩, ⟨hx', hk1 _ hnlk, fun hns => absurd ho (hns _ _ _)⟩, hs.putNone .undef rfl _⟩
    | true =>
     obtain ⟨n, rfl⟩ := Ql5 ht
     have hxx := Qjb hx
     subst hxx
     simp only [if_true]
     show Left P a o M ι X w σ (put (ρ.set n (ρ.getD n .undef).ng) o.dst .undef) (σ.set oo (.cells (cs.set off (ρ.getD n .undef))))
     have harg : arg G ρ (.t n) = (ρ.getD n .undef).ng := rfl
     by_cases hn : n < ρ.length
     ·have hnu : n < a.tmps.toList.length := by rw [h.rep.1]; exact hn
      have hv : a.tmps.toList[n]? = some (a.tmps.toList[n]) := List.getElem?_eq_getElem hnu
      have hρ : ρ[n]? = some ρ[n] := List.getElem?_eq_getElem hn
      have e1 : ρ.getD n .undef = ρ[n] := by simp [List.getD, hρ]
      have e2 : a.eval (.tmp n) = a.tmps.toList[n] := by rw [Qhf]; simp only [List.getD, hv, Option.getD_some]
      rw [e1] at harg ⊢
      cases hob : ownB (a.tmps.toList[n]) ρ[n] with
      | none =>
       have hd := h.dropSlot n
       rw [e1] at hd
       have hso := hd.setObj hi hcs' hb (ds := [ρ[n]]) (vs := [a.tmps.toList[n]]) (Reps.cons (h.rep.2 n _ _ hv hρ) Reps.nil) (by simp; omega) (fun c hc => by
        simp at hc; subst hc; rw [← V.nogr_one, ← harg]; exact h1) (fun c hc u => by
        simp at hc; subst hc; exact Quk (h.rep.2 n _ _ hv hρ) hob u)
       rw [hput] at hso
       rw [hvc, e2] at hrun
       rw [hvc, e2] at hk1
       exact ⟨_, undef, _, M, ι, κ, hrun, .inr ⟨rfl, rfl⟩, ⟨hso.2, hk1 _ (by rw [← e1]; exact hnlk), fun hns => absurd ho (hns _ _ _)⟩, hso.1.putNone .undef rfl _⟩
      | some bb =>
       obtain ⟨κ1, hs1, hf, hg⟩ := h.takeSlot hv hρ hob
       obtain ⟨hs2, hx'⟩ := base hs1
       have hol : oo < σ.length := (List.getElem?_eq_some_iff.1 hcs').1
       have hbl := h.wd.olt oo b hi
       have hne : b ≠ bb := fun e => by subst e; exact hf.i oo hi
       obtain ⟨κ2, hs3⟩ := hs2.giveCell (o := oo) (i := off) hi (by rw [Qaq, if_pos rfl, if_pos hbl]) (List.getElem?_set_self hol) (v := a.tmps.toList[n]) (x := ρ[n])
        (by rw [Qfz _ _ _ _ (by omega), hvc, if_pos ⟨Nat.le_refl _, by simp⟩, Nat.sub_self, e2]; rfl) (by simpa using hoff) (h.rep.2 n _ _ hv hρ) (by rw [← V.nogr_one, ← harg]; exact h1) hob
        ⟨hf.k, hf.x, hf.i, by rw [Qbc]; exact hf.lt⟩ (hg.setRow (fun c hc => by rw [hob] at hc; cases hc; exact hne))
       rw [List.set_set, List.set_set] at hs3
       exact ⟨_, undef, _, M, ι, κ2, hrun, .inr ⟨rfl, rfl⟩, ⟨hx', hk1 _ (by rw [← e1]; exact hnlk), fun hns => absurd ho (hns _ _ _)⟩, hs3.putNone .undef rfl _⟩
     ·
      exfalso
      have e1 : ρ.getD n .undef = .undef := by simp [List.getD, List.getElem?_eq_none (Nat.not_lt.1 hn)]
      rw [harg, e1] at h1
      cases h1
  ·cases he
 ·cases he
end
end Go.Ev
namespace Go.Ev
open Go
section
variable {P : Program} {M : Mem} {ι : Plc} {X : Nat → Prop} {κ : Own} {w : World} {ρ : List V} {σ : Objs} {G : GV} {a : Act}
theorem Qbh {o : Nat} {cs : List V} (h : Objs.get σ o = some cs) : σ[o]? = some (.cells cs) := by
 unfold Objs.get at h
 split at h
 ·cases h; assumption
 ·cases h
theorem Qh8 {u : Value} {c : V} (h : ∀ xs s, c = .sl xs (.gr s) → False) : ownB u c = none := by
 unfold ownB
 split
 ·exact absurd rfl (fun e => h _ _ e)
 ·rfl
theorem Qsz (h : St M ι X κ w a.tmps.toList ρ σ) (hG : GOK G M ι) {o : Oper} {t : TypeId} {x : Operand} {y : Arg} {v : V} {σ' : Objs} (ho : o.op = .load t x) (ht : Qeb P t false 1 = true) (hx : Qat x y = true)
  (he : (match arg G ρ y with
   | .ptr o off => (Objs.get σ o).bind fun cs => (cs[off]?).bind fun v =>
    match v with
    | .sl xs (.gr s) => some (.sl xs (.gr s), σ.set o (.cells (cs.set off (.sl xs .no))))
    | .sl _ .lk => none
    | v => some (v, σ)
   | .eptr cs off => (cs[off]?).bind fun v => some (v.ng, σ)
   | _ => none) = some (v, σ')) : Left P a o M ι X w σ (put ρ o.dst v) σ' := by
 have hA := Opd.of_state h.rep hG
 have hv := hA.ok _ _ hx
 have hag : agOf P t = some false := by simp only [Qeb, Bool.and_eq_true, beq_iff_eq] at ht; exact ht.1.1
 have run : ∀ b off u, a.eval x = .pointer (some ⟨b, off, none⟩) → w.cell? ⟨b, off, none⟩ = some u → (execOp a.eval o).run P w = .ok (.value u) w := by
  intro b off u hev hc
  unfold execOp
  rw [ho]
  simp only [Instr.loadAt, Instr.sureAddr, hev, loadVar, Qab, Qaj, Qdf hag, Result.andThen, Bool.false_eq_true, if_false, Qi8 hc]
 split at he
 ·rename_i oo off hpp
  rw [hpp] at hv
  obtain ⟨b, hpb, hi⟩ := hv.inv_ptr
  simp only [Option.bind_eq_some_iff] at he
  obtain ⟨cs, hcs, c, hc, he⟩ := he
  have hcs' := Qbh hcs
  obtain ⟨O, hO, hor⟩ := h.wd.obj oo b hi
  rw [hcs'] at hO; cases hO
  obtain ⟨ws, T, fz, hb, hr2, hfz, hM, hone2⟩ := hor
  obtain ⟨u, hu, hru⟩ := hr2.get hc
  have hu' : ws[off]? = some u := by
   rw [List.getElem?_take] at hu
   split at hu
   ·simpa using hu
   ·cases hu
  have hrun := run b off u hpb (by rw [Qcm hb]; exact hu')
  have hc1 := hone2 _ (List.mem_of_getElem? hc)
  split at he
  case h_2 => cases he
  case h_3 hng _ =>
   simp only [Option.some.injEq, Prod.mk.injEq] at he
   obtain ⟨rfl, rfl⟩ := he
   exact Qdn hrun (h.putNone hru (Qh8 hng) _)
  rename_i xs s
  simp only [Option.some.injEq, Prod.mk.injEq] at he
  obtain ⟨rfl, rfl⟩ := he
  have hk : Kp ι w σ ι w (σ.set oo (.cells (cs.set off (V.sl xs (.gr s)).ng))) := Kp.set h.wd hi hcs' (fun _ _ => rfl) (fun i y hy hlk => by
   rw [List.getElem?_set] at hy
   split at hy
   ·split at hy
    ·cases hy; rw [Quj] at hlk; cases hlk
    ·cases hy
   ·exact ⟨hy, rfl⟩)
  cases hob : ownB u (V.sl xs (.gr s)) with
  | none =>
   have hd := h.dropCell hcs' hc (by rw [V.nogr_one]; exact hc1)
   exact Qgw hrun hk (hd.putNone hru hob _)
  | some bb =>
   obtain ⟨κ', hs, hf, hg⟩ := h.takeCell hi hb hcs' hu' hc hob
   obtain ⟨κ2, hs2⟩ := hs.putOwn hru (fun b' hb' => by rw [hob] at hb'; cases hb'; exact ⟨hf, hg⟩) o.dst
   exact Qgw hrun hk hs2
 ·rename_i cs off hpp
  rw [hpp] at hv
  obtain ⟨b, base, us, hpb, hr, hm⟩ := hv.inv_eptr
  simp only [Option.bind_eq_some_iff] at he
  obtain ⟨c, hc, he⟩ := he
  cases he
  obtain ⟨u, hu, hru⟩ := hr.get hc
  exact Qdn (run b _ u hpb (h.wd.cells hm off u hu)) (h.putNone hru.ng (Qa6 _ _) _)
 ·cases he
theorem Qyp (h : St M ι X κ w a.tmps.toList ρ σ) (hG : GOK G M ι) {o : Oper} {p q : Operand} {x y : Arg} {str ag tk : Bool} {sz bytes : Nat} {t tx : TypeId} {v : V}
  (ho : o.op = .call { callee := .builtin .append, args := #[p, q], argTypes := #[t, tx] }) (hp : Qat p x = true) (hq : Qat q y = true) (ht : okTk x tk = true) (hc : Qjt P str ag sz bytes t tx = true) {ys : List V}
  (hs : Qes str σ (arg G ρ y) = some ys) (he : Qdi ag sz bytes (if tk then argT G ρ x else arg G ρ x) ys = some v) : Left P a o M ι X w σ (put (unslot ρ x tk) o.dst v) σ := by
 have hA := Opd.of_state h.rep hG
 have hvx := Qh6 h.rep hG hp
 have hvy := hA.ok _ _ hq
 have lift : ∀ {u : Value} {w' : World}, (Builtin.append_ #[t, tx] o.type #[a.eval p, a.eval q]).run P w = .ok u w' → (execOp a.eval o).run P w = .ok (.value u) w' := by
  intro u w' hrun
  obtain ⟨dst, op, type, pos, after, guard⟩ := o
  simp only at ho hrun
  subst ho
  rw [Qpg, Qab]
  simp only [List.map_toArray, List.map_cons, List.map_nil, hrun, Result.andThen]
  rfl
 have fin : ∀ {u : Value} {w' : World} {M' : Mem} {κ' : Own} {ρ' : List V}, (Builtin.append_ #[t, tx] o.type #[a.eval p, a.eval q]).run P w = .ok u w' → Ext X M ι w M' ι w' → HK ι w w' → St M' ι X κ' w' (putL a.tmps.toList o.dst u) ρ' σ → Left P a o M ι X w σ ρ' σ :=
  fun h1 h2 hk h3 => ⟨_, _, _, _, _, _, lift h1, .inl rfl, ⟨h2, Kp.same _ _ hk, fun _ => hk⟩, h3⟩
 cases tk with
 | false =>
  rw [Qfd]
  simp only [Bool.false_eq_true, if_false] at he
  have hvn : Rep M ι (a.eval p) (arg G ρ x) := hvx.ng
  by_cases hys : ys = []
  ·subst hys
   obtain ⟨hrun, rfl⟩ := Qq1 h.wd (ty := o.type) hc hvn hvy hs he
   exact fin hrun (Ext.refl ..) (HK.refl _ _) (h.putNone hvn (Qa6 _ _) _)
  ·obtain ⟨u, w', M', κ', hrun, hx, hk, hst⟩ := Qui h (ty := o.type) hc hvn hvy hs hys (fun xs s e => by
    have := V.nogr_nogr (argT G ρ x)
    rw [show (argT G ρ x).ng = arg G ρ x from rfl, e] at this
    cases this) he o.dst
   exact fin hrun hx hk hst
 | true =>
  obtain ⟨n, rfl⟩ := Ql5 ht
  have hpt := Qjb hp
  subst hpt
  simp only [if_true] at he
  show Left P a o M ι X w σ (put (ρ.set n (ρ.getD n .undef).ng) o.dst v) σ
  have hT : argT G ρ (.t n) = ρ.getD n .undef := rfl
  rw [hT] at he hvx
  by_cases hn : n < ρ.length
  ·have hnu : n < a.tmps.toList.length := by rw [h.rep.1]; exact hn
   have hv : a.tmps.toList[n]? = some (a.tmps.toList[n]) := List.getElem?_eq_getElem hnu
   have hρ : ρ[n]? = some ρ[n] := List.getElem?_eq_getElem hn
   have e1 : ρ.getD n .undef = ρ[n] := by simp [List.getD, hρ]
   have e2 : a.eval (.tmp n) = a.tmps.toList[n] := by rw [Qhf]; simp only [List.getD, hv, Option.getD_some]
   rw [e1] at he hvx ⊢
   have hdrop := h.dropSlot n
   rw [e1] at hdrop
   by_cases hys : ys = []
   ·subst hys
    obtain ⟨hrun, rfl⟩ := Qq1 h.wd (ty := o.type) hc hvx hvy hs he
    cases hd : o.dst with
    | none =>
     refine fin hrun (Ext.refl ..) (HK.refl _ _) ?_ (κ' := κ)
     rw [hd]; exact hdrop
    | some d =>
     obtain ⟨κ', hs', _⟩ := h.moveSlot (d := d) hv hρ
     refine fin hrun (Ext.refl ..) (HK.refl _ _) ?_ (κ' := κ')
     rw [hd, e2]; exact hs'
   ·by_cases hgr : ∃ xs s, ρ[n] = .sl xs (.gr s)
    ·obtain ⟨xs, s, hxs⟩ := hgr
     have hρ' : ρ[n]? = some (.sl xs (.gr s)) := by rw [hρ, hxs]
     rw [hxs] at he ⊢
     obtain ⟨u, w', M', κ', hrun, hx, hk, hst⟩ := Wfo h (ty := o.type) hc hv hρ' hvy hs hys he o.dst
     rw [← e2] at hrun
     exact fin hrun hx hk hst
    ·obtain ⟨u, w', M', κ', hrun, hx, hk, hst⟩ := Qui hdrop (ty := o.type) hc hvx hvy hs hys (fun xs s e => hgr ⟨xs, s, e⟩) he o.dst
     exact fin hrun hx hk hst
  ·exfalso
   have e1 : ρ.getD n .undef = .undef := by simp [List.getD, List.getElem?_eq_none (Nat.not_lt.1 hn)]
   rw [e1] at he
   rcases Qju he with h | ⟨_, _, h⟩ <;> cases h
theorem Qlc (e : TypeId) (s : ByteArray) : Lib.bytesWorld w e s = Qca { w with drawn := w.drawn + 1 } (.cells (Lib.bytesCells w e s) e ((Lib.bytesCells w e s).size, (Lib.bytesCells w e s).size + 1)) := by
 have h : (Lib.bytesWorld w e s).heap = (Qca { w with drawn := w.drawn + 1 } (.cells (Lib.bytesCells w e s) e ((Lib.bytesCells w e s).size, (Lib.bytesCells w e s).size + 1))).heap := by
  apply Array.ext_getElem?
  intro j
  rw [Qh4]
  rcases Nat.lt_trichotomy j w.heap.size with hj | hj | hj
  ·rw [Lib.bytesWorld_at_old w e s j hj, if_neg (by show ¬ j = w.heap.size; omega)]
  ·subst hj
   rw [Lib.bytesWorld_at_new, if_pos rfl]
  ·rw [if_neg (by show ¬ j = w.heap.size; omega), Array.getElem?_eq_none (by rw [Lib.bytesWorld_size]; omega), Array.getElem?_eq_none (by show w.heap.size ≤ j; omega)]
 unfold Lib.bytesWorld World.freeze World.alloc World.drew Qca at h ⊢
 simp only [Nat.one_ne_zero, if_false] at h ⊢
 rw [h]
theorem Qfe (e : TypeId) (s : ByteArray) : Reps M ι ((Lib.bytesCells w e s).toList.take (Qad s.data.toList).length) (Qad s.data.toList) := by
 have e1 : (Lib.bytesCells w e s).toList.take (Qad s.data.toList).length = s.data.toList.map fun b => Value.int .u8 b.toNat := by
  unfold Lib.bytesCells Qad
  simp
 rw [e1]
 refine ⟨by simp [Qad], fun i u y hu hy => ?_⟩
 unfold Qad at hy
 rw [List.getElem?_map, Option.map_eq_some_iff] at hu hy
 obtain ⟨b, hb, rfl⟩ := hu
 obtain ⟨c, hc, rfl⟩ := hy
 rw [hb] at hc; cases hc
 exact .int _ _
theorem Qgx {s : List UInt8} {y : V} (h : y ∈ Qad s) : ∃ n : Nat, y = .int .u8 n := by
 unfold Qad at h
 obtain ⟨b, _, rfl⟩ := List.mem_map.1 h
 exact ⟨_, rfl⟩
theorem Ql6 (h : St M ι X κ w a.tmps.toList ρ σ) (hG : GOK G M ι) {o : Oper} {s d e : TypeId} {x : Operand} {y : Arg} {v : V} (ho : o.op = .convert s d x) (hs : P.underlying s = some .string) (hd : P.underlying d = some (.slice e)) (he : P.underlying e = some (.int .u8))
  (hx : Qat x y = true) (hv : eC σ .strBytes (arg G ρ y) = some v) : Left P a o M ι X w σ (put ρ o.dst v) σ := by
 have hA := Opd.of_state h.rep hG
 have hvx := hA.ok _ _ hx
 unfold eC at hv
 split at hv <;> first | (rename_i hk _; cases hk; done) | (rename_i hk _ _; cases hk; done) | skip
 ·rename_i bs _ hb
  cases hv
  rw [hb] at hvx
  obtain ⟨b, hxb, hbd⟩ := hvx.inv_str
  subst hbd
  have hrun := Lib.run_convert_string_bytes (P := P) w s d e b hs hd he
  rw [Qlc] at hrun
  have hsz : b.size = (Qad b.data.toList).length := by simp [Qad]
  obtain ⟨M', κ', hx', hst⟩ := h.drew.putRow (Lib.bytesCells w e b) e ((Lib.bytesCells w e b).size, (Lib.bytesCells w e b).size + 1) (Qad b.data.toList) (.gr 1) (grownCap w b.size 0 e) 1
   (by rw [Qiv]; exact Qfe e b) (fun y hy => by obtain ⟨n, rfl⟩ := Qgx hy; rfl) (by rw [← hsz]; exact grownCap_ge ..) (fun hc => by cases hc)
   (fun s' hs' => by
    cases hs'
    have hge := grownCap_ge w b.size 0 e
    refine ⟨rfl, ?_, fun i _ hi => ?_⟩
    ·unfold Lib.bytesCells; simp; omega
    ·unfold Qbd; simp; omega) o.dst
  rw [← hsz] at hst
  refine ⟨_, _, _, M', ι, κ', ?_, .inl rfl, ⟨(Ext.drew X M ι w).trans hx', Kp.same _ _ (h.wd.hkPush _ _), fun _ => h.wd.hkPush _ _⟩, hst⟩
  unfold execOp
  rw [ho]
  simp only [Qab, hxb, hrun, Result.andThen]
  rfl
 ·cases hv
end
end Go.Ev
namespace Go.Ev
open Go
section
variable {P : Program} {M : Mem} {ι : Plc} {X : Nat → Prop} {κ : Own} {w : World} {ρ : List V} {σ : Objs} {G : GV} {a : Act}
theorem Qnp (cs : List V) : (cs.map V.ng).length = cs.length := by simp
theorem Qix {cs : List V} (h : ∀ c ∈ cs, c.one = true) : ∀ c ∈ cs.map V.ng, c.one = true := fun c hc => by
 obtain ⟨c', hc', rfl⟩ := List.mem_map.1 hc
 rw [V.nogr_one]; exact h c' hc'
theorem Qnq {cs : List V} : ∀ c ∈ cs.map V.ng, ∀ u, ownB u c = none := fun c hc u => by
 obtain ⟨c', _, rfl⟩ := List.mem_map.1 hc
 exact Qa6 _ _
theorem Qph {cs : List V} (h : ∀ c ∈ cs, c.ng = c) : cs.map V.ng = cs := by
 conv => rhs; rw [← List.map_id cs]
 exact List.map_congr_left fun c hc => h c hc
theorem Qs0 (h : St M ι X κ w a.tmps.toList ρ σ) {o : Oper} {e : TypeId} {zv : Value} {z : List V} (ho : o.op = .alloc e) (hz : Qe2 P e = some zv) (hc : Qdd zv.cells.toList z = true) :
  Left P a o M ι X w σ (put ρ o.dst (.ptr σ.length 0)) (σ ++ [.cells z]) := by
 obtain ⟨hr, h1, _⟩ := Qbr (M := M) (ι := ι) hc
 have := Qq4 (P := P) (a := a) (o := o) h (e := e) (v := zv) hr (fun c hc => (h1 c hc).1) (by
  unfold execOp
  rw [ho]
  simp only [Instr.alloc, Qab, Qq3 hz, Result.andThen, Qf3, Qaj])
 rwa [Qph (fun c hc => (h1 c hc).2)] at this
theorem Qyq (h : St M ι X κ w a.tmps.toList ρ σ) (hG : GOK G M ι) {o : Oper} {e : TypeId} {x : Operand} {y : Arg} (ho : o.op = .box e x) (hx : Qat x y = true) (hok : Qal (arg G ρ y).cells = true) :
  Left P a o M ι X w σ (put ρ o.dst (.ptr σ.length 0)) (σ ++ [.cells ((arg G ρ y).cells.map V.ng)]) := by
 have hA := Opd.of_state h.rep hG
 have hvx := hA.ok _ _ hx
 refine Qq4 h (e := e) (v := a.eval x) (hvx.cells (Qhd hok)) (Qhd hok) ?_
 unfold execOp
 rw [ho]
 simp only [Qab, Qf3, Result.andThen]
 rfl
theorem Qpi (h : St M ι X κ w a.tmps.toList ρ σ) {o : Oper} {w0 : World} (hw0 : Ext X M ι w M ι w0) (hk0 : w0.heap = w.heap) (h0 : St M ι X κ w0 a.tmps.toList ρ σ) {as : Array Value} {T : TypeId} {fz : Nat × Nat} {cs : List V} {len cap sz : Nat} {ag : Bool}
  (hr : Reps M ι (as.toList.take cs.length) cs) (hfz : ∀ i, i < cs.length → Qbd fz i = false) (hone : ∀ c ∈ cs, c.one = true) (hno : ∀ c ∈ cs, ∀ v, ownB v c = none) (hlc : len ≤ cap)
  (hrun : (execOp a.eval o).run P w = .ok (.value (.slice (some ⟨w0.heap.size, 0, none⟩) len cap)) (Qca w0 (.cells as T fz))) :
  Left P a o M ι X w σ (put ρ o.dst (.hs σ.length 0 len sz ag)) (σ ++ [.cells cs]) := by
 obtain ⟨M', ι', he, hi, hs, hdm⟩ := h0.newObj (h0.wd.none_of_ge (Nat.le_refl _)) as T fz cs hr hfz hone hno
 exact ⟨_, _, _, M', ι', κ, hrun, .inl rfl, ⟨hw0.trans he, Kp.newObj h.wd (fun o b hb => by rw [h0.wd.hkPush' _ o b hb, hk0]) hdm _, fun _ o b hb => by rw [h0.wd.hkPush' _ o b hb, hk0]⟩, hs.putNone (.hs _ 0 _ sz ag _ cap hi hlc) rfl _⟩
theorem Qpj (h : St M ι X κ w a.tmps.toList ρ σ) (hG : GOK G M ι) {o : Oper} {s d e : TypeId} {x : Operand} {y : Arg} {bs : List UInt8} (ho : o.op = .convert s d x) (hs : P.underlying s = some .string) (hd : P.underlying d = some (.slice e)) (he : P.underlying e = some (.int .u8))
  (hx : Qat x y = true) (hy : arg G ρ y = .str bs) : Left P a o M ι X w σ (put ρ o.dst (.hs σ.length 0 bs.length 1 false)) (σ ++ [.cells (Qad bs)]) := by
 have hA := Opd.of_state h.rep hG
 have hvx := hA.ok _ _ hx
 rw [hy] at hvx
 obtain ⟨b, hxb, hbd⟩ := hvx.inv_str
 subst hbd
 have hrun := Lib.run_convert_string_bytes (P := P) w s d e b hs hd he
 rw [Qlc] at hrun
 have hsz : b.size = b.data.toList.length := by simp
 have hge := grownCap_ge w b.size 0 e
 have hcs : (Lib.bytesCells w e b).size = grownCap w b.size 0 e := by unfold Lib.bytesCells; simp; omega
 rw [← hsz]
 refine Qpi h (Ext.drew X M ι w) rfl h.drew (as := Lib.bytesCells w e b) (Qfe e b) (fun i hi => ?_) (fun c hc => ?_) (fun c hc v => ?_) hge ?_ (fz := ((Lib.bytesCells w e b).size, (Lib.bytesCells w e b).size + 1)) (T := e)
 ·have : i < b.size := by simpa [Qad] using hi
  unfold Qbd; rw [hcs]; simp; omega
 ·obtain ⟨n, rfl⟩ := Qgx hc; rfl
 ·obtain ⟨n, rfl⟩ := Qgx hc; unfold ownB; split <;> first | rfl | (rename_i hh; cases hh)
 ·unfold execOp
  rw [ho]
  simp only [Qab, hxb, hrun, Result.andThen]
  rfl
theorem Qnr (h : St M ι X κ w a.tmps.toList ρ σ) (hG : GOK G M ι) {o : Oper} {t e : TypeId} {ag hh : Bool} {sz len : Nat} {z : V} {ps : Array (Nat × Operand)} {qs : List (Nat × Arg)} {v : V} {σ' : Objs} (ho : o.op = .buildSlice t len ps)
  (ht : Qdj P t ag sz = some e) (hz : len = 0 ∨ Qec P e z = true ∧ z.cells.length = sz) (hpos : sz ≠ 0) (hsmall : len * sz ≤ 16777216) (hps : Qb3 ps.toList qs = true)
  {call : FuncId → List V → Objs → Option (V × Objs)} (he : Qaw call (arg G ρ) (argT G ρ) σ (.buildSl ag sz len z qs hh) = some (v, σ')) : Left P a o M ι X w σ (put ρ o.dst v) σ' := by
 have hA := Opd.of_state h.rep hG
 simp only [Qaw, Option.bind_eq_bind, Option.bind_eq_some_iff] at he
 obtain ⟨xs, hxs, he⟩ := he
 obtain ⟨as, hrun, hr, hl, hs⟩ := Qjs h hA ht hz hpos hsmall hps hxs
 have hrun' : (execOp a.eval o).run P w = .ok (.value (.slice (some ⟨w.heap.size, 0, none⟩) len len)) (Qca w (.cells as e (0, 0))) := by
  unfold execOp
  rw [ho]
  simp only [Qab, hrun, Result.andThen]
  rfl
 have hfl := Qbs hs
 have has : as.size = (xs.flatMap V.cells).length := by have := hr.1; simpa using this
 split at he
 ·rename_i hok
  cases hh with
  | true =>
   simp only [if_true] at he
   cases he
   refine Qpi h (Ext.refl ..) rfl h (T := e) (fz := (0, 0)) (as := as) ?_ (fun i _ => by unfold Qbd; simp) (Qix (Qlb hok)) Qnq (Nat.le_refl _) hrun'
   rw [Qnp, ← has, ← Array.length_toList, List.take_length]
   exact hr.ng
  | false =>
   simp only [Bool.false_eq_true, if_false] at he
   cases he
   obtain ⟨M', κ', hx', hst⟩ := h.putRow as e (0, 0) xs .fx len sz (by rw [← has, ← Array.length_toList, List.take_length]; exact hr) hs (Nat.le_of_eq hl) (fun _ => hl.symm) (fun s hc => by cases hc) o.dst
   rw [hl] at hst
   exact ⟨_, _, _, M', ι, κ', hrun', .inl rfl, ⟨hx', Kp.same _ _ (h.wd.hkPush' _), fun _ => h.wd.hkPush' _⟩, hst⟩
 ·cases he
theorem Qpk (h : St M ι X κ w a.tmps.toList ρ σ) (hG : GOK G M ι) {o : Oper} {t e : TypeId} {ag : Bool} {sz len : Nat} {z : V} {ps : Array (Nat × Operand)} {qs : List (Nat × Arg)} {v : V} {σ' : Objs} (ho : o.op = .buildSlice t len ps)
  (ht : Qdj P t ag sz = some e) (hz : len = 0 ∨ Qec P e z = true ∧ z.cells.length = sz) (hpos : sz ≠ 0) (hsmall : len * sz ≤ 16777216) (hps : Qb3 ps.toList qs = true)
  {call : FuncId → List V → Objs → Option (V × Objs)} (he : Qaw call (arg G ρ) (argT G ρ) σ (.buildG ag sz len z qs) = some (v, σ')) : Left P a o M ι X w σ (put ρ o.dst v) σ' := by
 have hA := Opd.of_state h.rep hG
 simp only [Qaw, Option.bind_eq_bind, Option.bind_eq_some_iff] at he
 obtain ⟨xs, hxs, he⟩ := he
 obtain ⟨as, hrun, hr, hl, hs⟩ := Qjs h hA ht hz hpos hsmall hps hxs
 have hrun' : (execOp a.eval o).run P w = .ok (.value (.slice (some ⟨w.heap.size, 0, none⟩) len len)) (Qca w (.cells as e (0, 0))) := by
  unfold execOp
  rw [ho]
  simp only [Qab, hrun, Result.andThen]
  rfl
 have hfl := Qbs hs
 have has : as.size = (xs.flatMap V.cells).length := by have := hr.1; simpa using this
 split at he
 ·rename_i hok
  cases he
  obtain ⟨M', κ', hx', hst⟩ := h.putRow as e (0, 0) xs (.gr sz) len sz (by rw [← has, ← Array.length_toList, List.take_length]; exact hr) hs (Nat.le_of_eq hl) (fun hc => by cases hc) (fun s hc => by
   cases hc
   refine ⟨rfl, ?_, fun i _ _ => by unfold Qbd; simp⟩
   rw [has, hfl, hl]; exact Nat.le_refl _) o.dst
  rw [hl] at hst
  exact ⟨_, _, _, M', ι, κ', hrun', .inl rfl, ⟨hx', Kp.same _ _ (h.wd.hkPush' _), fun _ => h.wd.hkPush' _⟩, hst⟩
 ·cases he
theorem St.refreeze {us : List Value} (h : St M ι X κ w us ρ σ) {b : Nat} (hf : Free M ι X κ w b) {ws : Array Value} {T : TypeId} {fz : Nat × Nat} (hb : w.heap[b]? = some (.cells ws T fz)) (fz' : Nat × Nat) :
  St M ι X κ (setRow w b ws T fz') us ρ σ ∧ Ext X M ι w M ι (setRow w b ws T fz') ∧ HK ι w (setRow w b ws T fz') := by
 have hatb : ∀ p v x, At ι (setRow w b ws T fz') us ρ σ p v x → At ι w us ρ σ p v x := by
  intro p v x ha
  cases p with
  | s i => exact ha
  | c o i =>
   obtain ⟨b', ws', T', fz2, cs', g1, g2, g3⟩ := ha
   have hbb : b ≠ b' := fun e => by subst e; exact hf.i o g1
   rw [Qaq, if_neg hbb] at g2
   exact ⟨b', ws', T', fz2, cs', g1, g2, g3⟩
 have hownb : ∀ p v x c, At ι w us ρ σ p v x → ownB v x = some c → b ≠ c := fun p v x c ha hc e => by
  subst e; have := h.own p v x _ ha hc; rw [hf.k] at this; cases this
 refine ⟨⟨⟨fun c i u hm => ?_, fun o c hi => ?_, fun o c hi => by rw [Qbc]; exact h.wd.olt o c hi, h.wd.inj, fun c hc => by rw [Qbc]; exact h.wd.xlt c hc, h.wd.xobj,
  fun c p hp => by rw [Qbc]; exact h.wd.kap c p hp⟩, h.rep, fun p v x c ha hc => h.own p v x c (hatb p v x ha) hc, fun p v x ha => ?_⟩, Ext.setRow hf.x ws T fz', fun o c hi => ?_⟩
 ·have := h.wd.mem c i u hm
  by_cases hcb : c = b
  ·subst hcb
   rw [Qcm hb] at this
   rw [Qcm (by rw [Qaq, if_pos rfl, if_pos hf.lt] : (setRow w c ws T fz').heap[c]? = some (.cells ws T fz'))]
   exact this
  ·simp only [World.cell?, Qaq, if_neg (Ne.symm hcb)]
   simpa [World.cell?] using this
 ·obtain ⟨O, hO, hor⟩ := h.wd.obj o c hi
  exact ⟨O, hO, hor.setRow fun e => hf.i o (by rw [e]; exact hi)⟩
 ·have ha' := hatb p v x ha
  exact (h.gr p v x ha').setRow fun c hc => hownb p v x c ha' hc
 ·rw [Qaq, if_neg (fun e => hf.i o (by rw [e]; exact hi))]
theorem Ql7 {w : World} {b n : Nat} {ws : Array Value} {T : TypeId} {fz : Nat × Nat} (hb : w.heap[b]? = some (.cells ws T fz)) :
  w.freeze ⟨b, n, none⟩ 1 = setRow w b ws T (if fz.1 == fz.2 then (n, n + 1) else (min fz.1 n, max fz.2 (n + 1))) := by
 unfold World.freeze setRow
 rw [if_neg (by decide)]
 have hlt : b < w.heap.size := (Array.getElem?_eq_some_iff.1 hb).1
 congr 1
 apply Array.ext
 ·simp
 ·intro i h1 h2
  have h3 : i < w.heap.size := by simpa using h1
  rw [Array.getElem_modify, Array.getElem_setIfInBounds h3]
  split
  ·rename_i hbi
   subst hbi
   have : w.heap[b] = .cells ws T fz := by rw [Array.getElem?_eq_getElem hlt] at hb; exact Option.some.inj hb
   rw [this]
  ·rfl
theorem Qum (h : St M ι X κ w a.tmps.toList ρ σ) (hG : GOK G M ι) {o : Oper} {s e : TypeId} {x : Operand} {y : Arg} {v : V} {σ' : Objs} (ho : o.op = .convert s s x) (hs : P.underlying s = some (.slice e)) (he : P.underlying e = some (.int .u8))
  (hc : Qat x y = true) (ht : okTk y true = true) {call : FuncId → List V → Objs → Option (V × Objs)} (hv : Qaw call (arg G ρ) (argT G ρ) σ (.mark y) = some (v, σ')) : Left P a o M ι X w σ (put (unslot ρ y true) o.dst v) σ' := by
 obtain ⟨n, rfl⟩ := Ql5 ht
 have hx := Qjb hc
 subst hx
 simp only [Qaw] at hv
 split at hv
 ·rename_i xs sz hgx
  cases hv
  have hgx : ρ.getD n .undef = .sl xs (.gr sz) := hgx
  have hn : n < ρ.length := by
   rcases Nat.lt_or_ge n ρ.length with h1 | h1
   ·exact h1
   ·simp [List.getD, List.getElem?_eq_none h1] at hgx
  have hρ : ρ[n]? = some (.sl xs (.gr sz)) := by
   rw [List.getElem?_eq_getElem hn]
   simp [List.getD, List.getElem?_eq_getElem hn] at hgx
   rw [hgx]
  have hnu : n < a.tmps.toList.length := by rw [h.rep.1]; exact hn
  have hvv : a.tmps.toList[n]? = some (a.tmps.toList[n]) := List.getElem?_eq_getElem hnu
  have hrep := h.rep.2 n _ _ hvv hρ
  rcases hrep.inv_sl with ⟨b, off, cap, sz', us, hval, h1, h2, h3, h4, -⟩ | ⟨_, _, _, hng⟩
  case inr => exact absurd rfl (hng _)
  have hown : ownB (a.tmps.toList[n]) (.sl xs (.gr sz)) = some b := by rw [hval]; rfl
  obtain ⟨κ', hst, hfree, hgr⟩ := h.takeSlot hvv hρ hown
  obtain ⟨-, -, ws, T, fz, hb, -, -⟩ := hgr.ok xs sz rfl _ _ _ hval
  obtain ⟨hst2, hext, hhk⟩ := hst.refreeze hfree hb (if fz.1 == fz.2 then (ws.size, ws.size + 1) else (min fz.1 ws.size, max fz.2 (ws.size + 1)))
  have hev : a.eval (.tmp n) = .slice (some ⟨b, off, none⟩) xs.length cap := by
   rw [Qhf]; simp only [List.getD, hvv, Option.getD_some]; exact hval
  have hsh : w.shape? b = some (T, ws.size) := by unfold World.shape?; rw [hb]
  have hrun : (execOp a.eval o).run P w = .ok (.value (.slice (some ⟨b, off, none⟩) xs.length cap)) (setRow w b ws T (if fz.1 == fz.2 then (ws.size, ws.size + 1) else (min fz.1 ws.size, max fz.2 (ws.size + 1)))) := by
   unfold execOp
   rw [ho, ← Ql7 hb]
   simp only [Qab, hev, convert, run_underlying hs, run_underlying he, Result.andThen, BEq.rfl]
   simp [markStringish, Qab, shape, freeze, Sem.run, hsh, Result.andThen, Qaj]
  refine ⟨_, _, _, M, ι, κ', hrun, .inl rfl, ⟨hext, Kp.same _ _ hhk, fun _ => hhk⟩, ?_⟩
  have hno : Rep M ι (.slice (some ⟨b, off, none⟩) xs.length cap) (.sl xs .no) := by rw [← hval]; exact hrep.ng
  have hun : unslot ρ (.t n) true = ρ.set n (V.sl xs (.gr sz)).ng := by
   show ρ.set n (ρ.getD n .undef).ng = _
   rw [hgx]
  rw [hun]
  exact hst2.putNone hno (Qa6 _ (.sl xs .no)) _
 ·cases hv
theorem Qns {v : Value} {x : V} {n : Int} (h : Rep M ι v x) (hn : Qe8 x = some n) : ∃ k, v = .int k n := by
 cases x <;> simp [Qe8] at hn
 subst hn
 exact ⟨_, h.inv_int⟩
theorem Qun (h : St M ι X κ w a.tmps.toList ρ σ) (hG : GOK G M ι) {o : Oper} {t e : TypeId} {ag hh : Bool} {sz bytes : Nat} {z : V} {l c : Operand} {l' c' : Arg} {v : V} {σ' : Objs} (ho : o.op = .makeSlice t l c)
  (ht : Qdj P t ag sz = some e) (hz : Qec P e z = true) (hzl : z.cells.length = sz) (hpos : sz ≠ 0) (hb0 : bytes ≠ 0) (hby : (P.info? e).map (·.bytes) = some bytes) (hl : Qat l l' = true) (hcc : Qat c c' = true)
  {call : FuncId → List V → Objs → Option (V × Objs)} (he : Qaw call (arg G ρ) (argT G ρ) σ (.mkSl ag sz bytes z l' c' hh) = some (v, σ')) : Left P a o M ι X w σ (put ρ o.dst v) σ' := by
 have hA := Opd.of_state h.rep hG
 simp only [Qaw, Option.bind_eq_bind, Option.bind_eq_some_iff] at he
 obtain ⟨ln, hln, cn, hcn, he⟩ := he
 obtain ⟨kl, hlv⟩ := Qns (hA.ok _ _ hl) hln
 obtain ⟨kc, hcv⟩ := Qns (hA.ok _ _ hcc) hcn
 obtain ⟨hu, hty⟩ := Qd3 ht
 have hsz := Qi9 hty
 split at he
 ·rename_i hcond
  obtain ⟨h0, hlc, hmax, -, hzok, hzag⟩ := hcond
  obtain ⟨i, zv, hi, his, hiz, hzs, hreps⟩ := Qqv (M := M) (ι := ι) (n := cn.toNat) hz hsz hzl hpos
  rw [hi] at hby
  have hby' : i.bytes = bytes := by simpa using hby
  have hmax' : (i.bytes : Int) * cn ≤ 281474976710656 := by rw [hby', Int.mul_comm]; unfold Qb0 at hmax; omega
  have h63 : cn ≤ 9223372036854775807 := by
   have h1 : cn * 1 ≤ cn * (bytes : Int) := Int.mul_le_mul_of_nonneg_left (by omega) (by omega)
   unfold Qb0 at hmax
   omega
  have hrun0 := run_make (P := P) w t e i zv hu hi hiz kl kc ln cn h0 hlc hmax' h63
  have hrun' : (execOp a.eval o).run P w = .ok (.value (.slice (some ⟨w.heap.size, 0, none⟩) ln.toNat cn.toNat)) (Qca w (.cells (madeCells zv.cells (cn.toNat * sz)) e)) := by
   unfold execOp
   rw [ho]
   rw [his] at hrun0
   simp only [Qab, hlv, hcv, hrun0, Result.andThen]
   rfl
  have hrep : Reps M ι (madeCells zv.cells (cn.toNat * sz)).toList ((List.replicate cn.toNat z).flatMap V.cells) := hreps
  have hzall : ∀ n, ∀ y ∈ List.replicate n z, y.cells.length = sz := fun n y hy => by rw [List.eq_of_mem_replicate hy]; exact hzl
  have hfl : ∀ n, ((List.replicate n z).flatMap V.cells).length = n * sz := fun n => by rw [Qbs (hzall n), List.length_replicate]
  have has : (madeCells zv.cells (cn.toNat * sz)).size = cn.toNat * sz := size_madeCells _ _
  have hln' : ln.toNat ≤ cn.toNat := by omega
  have hone : ∀ n, ∀ y ∈ (List.replicate n z).flatMap V.cells, y.one = true := fun n y hy => by
   obtain ⟨q, hq, hy⟩ := List.mem_flatMap.1 hy
   rw [List.eq_of_mem_replicate hq] at hy
   exact Qhd hzok y hy
  have hzn : ∀ y ∈ z.cells, y.ng = y := by
   unfold Qec at hz
   split at hz
   ·exact fun y hy => ((Qbr (M := M) (ι := ι) hz).2.1 y hy).2
   ·cases hz
  cases hh with
  | true =>
   simp only [if_true] at he
   cases he
   refine Qpi h (Ext.refl ..) rfl h (T := e) (fz := (0, 0)) (as := madeCells zv.cells (cn.toNat * sz)) ?_ (fun i _ => by unfold Qbd; simp) (hone _) (fun c hc u => ?_) hln' hrun'
   ·rw [List.take_of_length_le (by rw [hfl]; have := has; simp only [Array.length_toList]; omega)]; exact hrep
   ·obtain ⟨q, hq, hy⟩ := List.mem_flatMap.1 hc
    rw [List.eq_of_mem_replicate hq] at hy
    rw [← hzn c hy]
    exact Qa6 _ _
  | false =>
   simp only [Bool.false_eq_true, if_false] at he
   cases he
   have htake : Reps M ι ((madeCells zv.cells (cn.toNat * sz)).toList.take ((List.replicate ln.toNat z).flatMap V.cells).length) ((List.replicate ln.toNat z).flatMap V.cells) := by
    have e1 : (List.replicate cn.toNat z).flatMap V.cells = (List.replicate ln.toNat z).flatMap V.cells ++ (List.replicate (cn.toNat - ln.toNat) z).flatMap V.cells := by
     rw [← List.flatMap_append, List.replicate_append_replicate, Nat.add_sub_cancel' hln']
    rw [e1] at hrep
    refine ⟨?_, fun j u y hu hy => ?_⟩
    ·have h1 := Nat.mul_le_mul_right sz hln'
     have h2 : (madeCells zv.cells (cn.toNat * sz)).toList.length = cn.toNat * sz := by rw [Array.length_toList]; exact has
     rw [List.length_take, h2, hfl]
     exact Nat.min_eq_left h1
    ·rw [List.getElem?_take] at hu
     split at hu
     ·exact hrep.2 j u y hu (by rw [List.getElem?_append_left (by assumption)]; exact hy)
     ·cases hu
   obtain ⟨M', κ', hx', hst⟩ := h.putRow (madeCells zv.cells (cn.toNat * sz)) e (0, 0) (List.replicate ln.toNat z) (if ln = cn then .fx else .gr sz) cn.toNat sz htake (hzall _) (by rw [List.length_replicate]; exact hln')
    (fun hc => by
     split at hc
     ·rename_i heq; rw [List.length_replicate, heq]
     ·cases hc)
    (fun s hc => by
     split at hc
     ·cases hc
     ·cases hc
      exact ⟨rfl, by rw [has]; exact Nat.le_refl _, fun i _ _ => by unfold Qbd; simp⟩) o.dst
   rw [List.length_replicate] at hst
   exact ⟨_, _, _, M', ι, κ', hrun', .inl rfl, ⟨hx', Kp.same _ _ (h.wd.hkPush' _), fun _ => h.wd.hkPush' _⟩, hst⟩
 ·cases he
end
end Go.Ev
namespace Go.Ev
open Go
def Quo : Ins → Bool
 | .call .. | .callv .. => true
 | _ => false
section
variable {P : Program} {M : Mem} {ι : Plc} {X : Nat → Prop} {κ : Own} {w : World} {ρ : List V} {σ : Objs} {G : GV} {a : Act}
theorem Qnt (h : St M ι X κ w a.tmps.toList ρ σ) (hG : GOK G M ι) {o : Oper} {i : Ins} {v : V} {σ' : Objs} (hc : Qa1 P o.op i = true) (hns : ∀ y, i ≠ .conv .strBytes y)
  (he : (do let v ← Qay (arg G ρ) σ i; some (v.ng, σ)) = some (v, σ')) : Left P a o M ι X w σ (put ρ o.dst v) σ' := by
 simp only [Option.bind_eq_bind, Option.bind_eq_some_iff, Option.some.injEq, Prod.mk.injEq] at he
 obtain ⟨x, hx, rfl, rfl⟩ := he
 obtain ⟨u, hrun, hr⟩ := Qyo h.wd (Opd.of_state h.rep hG) hc hns hx
 exact Qdn hrun (h.putNone hr.ng (Qa6 _ _) _)
theorem Qq5 (h : St M ι X κ w a.tmps.toList ρ σ) (hG : GOK G M ι) {o : Oper} {s : Step} (hd : o.dst = s.dst) (hc : Qa1 P o.op s.ins = true) (hn : Quo s.ins = false)
  {call : FuncId → List V → Objs → Option (V × Objs)} {ρ' : List V} {σ' : Objs} (he : ev1 G call s ρ σ = some (ρ', σ')) : Left P a o M ι X w σ ρ' σ' := by
 obtain ⟨dst, gd, i⟩ := s
 simp only at hd hc hn
 subst hd
 unfold ev1 at he
 simp only [Option.bind_eq_bind, Option.bind_eq_some_iff] at he
 obtain ⟨⟨v, σ2⟩, hi, he⟩ := he
 simp only [Option.some.injEq, Prod.mk.injEq] at he
 obtain ⟨rfl, rfl⟩ := he
 cases i <;> (try (exact Qnt h hG hc (fun y e => by cases e) hi))
 case call => cases hn
 case callv => cases hn
 case mkmp => cases hc
 case mset => cases hc
 case appH => cases hc
 case mv y tk =>
  obtain ⟨dst, op, type, pos, after, guard⟩ := o
  simp only [Qaw, Option.some.injEq, Prod.mk.injEq] at hi
  obtain ⟨rfl, rfl⟩ := hi
  simp only at hc
  cases op <;> (try (cases hc; done))
  all_goals
   simp only [Qa1, Bool.and_eq_true] at hc
   first
    | exact Qul h hG (.inl rfl) hc.1 hc.2
    | exact Qul h hG (.inr rfl) hc.1 hc.2
 case alloc z =>
  obtain ⟨dst, op, type, pos, after, guard⟩ := o
  simp only at hc
  cases op <;> (try (cases hc; done))
  simp only [Qa1] at hc
  split at hc
  ·rename_i zv hz
   simp only [Qaw] at hi
   split at hi
   ·cases hi
    exact Qs0 h rfl hz hc
   ·cases hi
  ·cases hc
 case box y =>
  obtain ⟨dst, op, type, pos, after, guard⟩ := o
  simp only at hc
  cases op <;> (try (cases hc; done))
  simp only [Qa1] at hc
  simp only [Qaw] at hi
  split at hi
  ·cases hi
   exact Qyq h hG rfl hc (by assumption)
  ·cases hi
 case buildSl ag sz len z qs hh =>
  obtain ⟨dst, op, type, pos, after, guard⟩ := o
  simp only at hc
  cases op <;> (try (cases hc; done))
  simp only [Qa1] at hc
  split at hc
  ·rename_i e hE
   simp only [Bool.and_eq_true, Bool.or_eq_true, beq_iff_eq, decide_eq_true_eq] at hc
   obtain ⟨⟨⟨⟨rfl, hz⟩, hpos⟩, hsm⟩, hps⟩ := hc
   exact Qnr h hG rfl hE hz hpos hsm hps hi
  ·cases hc
 case buildG ag sz len z qs =>
  obtain ⟨dst, op, type, pos, after, guard⟩ := o
  simp only at hc
  cases op <;> (try (cases hc; done))
  simp only [Qa1] at hc
  split at hc
  ·rename_i e hE
   simp only [Bool.and_eq_true, Bool.or_eq_true, beq_iff_eq, decide_eq_true_eq] at hc
   obtain ⟨⟨⟨⟨rfl, hz⟩, hpos⟩, hsm⟩, hps⟩ := hc
   exact Qpk h hG rfl hE hz hpos hsm hps hi
  ·cases hc
 case mark y =>
  obtain ⟨dst, op, type, pos, after, guard⟩ := o
  simp only at hc
  cases op <;> (try (cases hc; done))
  simp only [Qa1, Bool.and_eq_true, beq_iff_eq] at hc
  obtain ⟨⟨⟨rfl, hs⟩, hx⟩, ht⟩ := hc
  split at hs
  ·rename_i e hs'
   exact Qum h hG rfl hs' (Qek hs) hx ht hi
  ·cases hs
 case loadT y =>
  obtain ⟨dst, op, type, pos, after, guard⟩ := o
  simp only at hc
  cases op <;> (try (cases hc; done))
  simp only [Qa1, Bool.and_eq_true] at hc
  simp only [Qaw, Option.bind_eq_bind] at hi
  refine Qsz h hG rfl hc.1 hc.2 (Eq.trans ?_ hi)
  cases arg G ρ y <;> rfl
 case store sz p' y tk =>
  obtain ⟨dst, op, type, pos, after, guard⟩ := o
  simp only at hc
  cases op <;> (try (cases hc; done))
  simp only [Qa1, Bool.and_eq_true, decide_eq_true_eq] at hc
  exact Qsy h hG rfl hc.1.1.1 hc.1.1.2 hc.1.2 hc.2 hi
 case app str ag sz bytes x' y' tk =>
  obtain ⟨dst, op, type, pos, after, guard⟩ := o
  simp only at hc
  cases op <;> (try (cases hc; done))
  rename_i c
  obtain ⟨callee, args, argTypes⟩ := c
  cases callee <;> (try (cases hc; done))
  rename_i b
  cases b <;> (try (cases hc; done))
  simp only [Qa1, Bool.and_eq_true] at hc
  obtain ⟨⟨h1, h2⟩, h3⟩ := hc
  obtain ⟨p, q, hpq, hp, hq⟩ := Qpf h1
  split at h3
  ·rename_i t tx htt
   have hat : argTypes = #[t, tx] := by apply Array.ext'; simpa using htt
   have har : args = #[p, q] := by apply Array.ext'; simpa using hpq
   subst hat har
   simp only [Qaw, Option.bind_eq_bind, Option.bind_eq_some_iff, Option.some.injEq, Prod.mk.injEq] at hi
   obtain ⟨ys, hys, v', hv, rfl, rfl⟩ := hi
   exact Qyp h hG rfl hp hq h2 h3 hys hv
  ·cases h3
 case conv k y =>
  by_cases hk : k = .strBytes
  ·subst hk
   obtain ⟨dst, op, type, pos, after, guard⟩ := o
   simp only at hc
   cases op <;> (try (cases hc; done))
   simp only [Qa1, Bool.and_eq_true] at hc
   obtain ⟨h1, h2⟩ := hc
   split at h2 <;> (try (cases h2; done)) <;> (try (rename_i hk _ _; cases hk; done))
   rename_i hs hd
   simp only [Qaw, Option.bind_eq_bind, Option.bind_eq_some_iff, Option.some.injEq, Prod.mk.injEq] at hi
   obtain ⟨v', hv, rfl, rfl⟩ := hi
   exact Ql6 h hG rfl hs hd (Qek h2) h1 hv
  ·refine Qnt h hG hc (fun y' e => hk (by cases e; rfl)) (?_ : _ = some (v, σ2))
   rw [← hi]
   cases k <;> first | rfl | exact absurd rfl hk
 case bytesH y =>
  obtain ⟨dst, op, type, pos, after, guard⟩ := o
  simp only at hc
  cases op <;> (try (cases hc; done))
  simp only [Qa1, Bool.and_eq_true] at hc
  obtain ⟨h1, h2⟩ := hc
  split at h2
  ·rename_i hs hd
   simp only [Qaw] at hi
   split at hi
   ·rename_i bs hy
    cases hi
    exact Qpj h hG rfl hs hd (Qek h2) h1 hy
   ·cases hi
  ·cases h2
 case mkSl ag sz bytes z l' c' hh =>
  obtain ⟨dst, op, type, pos, after, guard⟩ := o
  simp only at hc
  cases op <;> (try (cases hc; done))
  simp only [Qa1] at hc
  split at hc
  ·rename_i e hE
   simp only [Bool.and_eq_true, decide_eq_true_eq] at hc
   obtain ⟨⟨⟨⟨⟨⟨hz, hzl⟩, hpos⟩, hb0⟩, hby⟩, hl⟩, hcc⟩ := hc
   exact Qun h hG rfl hE hz hzl hpos hb0 hby hl hcc hi
  ·cases hc
end
end Go.Ev
namespace Go.Ev
open Go
def Does (P : Program) (f : FuncId) (vs : Array Value) (w : World) (R : Value → World → Prop) : Prop :=
 ((callFunc f vs).run P w = .ok (.enter f vs) w ∧ Calls P f vs w (fun e w' => ∃ v, e = .returned v ∧ R v w')) ∨ ∃ v w', (callFunc f vs).run P w = .ok (.value v) w' ∧ R v w'
def Sound (P : Program) (G : GV) (f : FuncId) (h : List V → Objs → Option (V × Objs)) : Prop :=
 ∀ args σ r σ', h args σ = some (r, σ') → ∀ M ι X κ w (vs : Array Value), St M ι X κ w vs.toList args σ → GOK G M ι → (∀ x ∈ args, x.ng = x) →
  Does P f vs w fun v w' => ∃ M' ι' κ', (Ext X M ι w M' ι' w' ∧ Kp ι w σ ι' w' σ') ∧ St M' ι' X κ' w' [v] [r] σ'
section
variable {P : Program} {M : Mem} {ι : Plc} {X : Nat → Prop} {κ : Own} {w : World} {us : List Value} {ρ : List V} {σ : Objs} {G : GV} {a : Act}
theorem Rep.inv_fn {v : Value} {f : FuncId} {first caps : List V} (h : Rep M ι v (.fn f first caps)) : ∃ as bs, v = .func (.func f) as bs ∧ Reps M ι as.toList first ∧ Reps M ι bs.toList caps := by
 cases h with
 | fn _ as bs _ _ ha hb hra hrb =>
  exact ⟨as, bs, rfl, ⟨by simpa using ha, fun i u y hu hy => hra i u y (by simpa using hu) hy⟩, ⟨by simpa using hb, fun i u y hu hy => hrb i u y (by simpa using hu) hy⟩⟩
def Qdt (X : Nat → Prop) (κ : Own) (b : Nat) : Prop := X b ∨ ∃ n, κ b = some (.s n)
def Qhg (κ : Own) : Own := fun b => match κ b with | some (.c o i) => some (.c o i) | _ => none
theorem Qkx {κ : Own} {b : Nat} {p : Pl} (h : Qhg κ b = some p) : ∃ o i, p = .c o i ∧ κ b = some (.c o i) := by
 unfold Qhg at h
 split at h
 ·cases h; exact ⟨_, _, rfl, ‹_›⟩
 ·cases h
theorem St.callee (h : St M ι X κ w us ρ σ) {vs : List Value} {xs : List V} (hr : Reps M ι vs xs) (hn : ∀ x ∈ xs, x.ng = x) : St M ι (Qdt X κ) (Qhg κ) w vs xs σ := by
 have hnone : ∀ (i : Nat) v x, xs[i]? = some x → ownB v x = none := fun i v x hx => by
  rw [← hn x (List.mem_of_getElem? hx)]; exact Qa6 _ _
 refine ⟨⟨h.wd.mem, h.wd.obj, h.wd.olt, h.wd.inj, fun b hb => ?_, fun o b hi hb => ?_, fun b p hp => ?_⟩, hr, fun p v x b ha hb => ?_, fun p v x ha => ?_⟩
 ·rcases hb with hb | ⟨n, hn⟩
  ·exact h.wd.xlt b hb
  ·exact (h.wd.kap b _ hn).2.2
 ·rcases hb with hb | ⟨n, hn⟩
  ·exact h.wd.xobj o b hi hb
  ·exact (h.wd.kap b _ hn).2.1 o hi
 ·obtain ⟨o, i, rfl, hk⟩ := Qkx hp
  obtain ⟨h1, h2, h3⟩ := h.wd.kap b _ hk
  refine ⟨fun hx => ?_, h2, h3⟩
  rcases hx with hx | ⟨n, hn⟩
  ·exact h1 hx
  ·rw [hk] at hn; cases hn
 ·cases p with
  | s i => rw [hnone i v x ha.2] at hb; cases hb
  | c o i =>
   have := h.own (.c o i) v x b ha hb
   unfold Qhg
   rw [this]
 ·cases p with
  | s i => exact .of_none (hnone i v x ha.2)
  | c o i => exact h.gr (.c o i) v x ha
theorem St.behind (h : St M ι X κ w us ρ σ) {M' : Mem} {ι' : Plc} {κ' : Own} {w' : World} {v : Value} {r : V} {σ' : Objs} (he : Ext (Qdt X κ) M ι w M' ι' w') (hs : St M' ι' (Qdt X κ) κ' w' [v] [r] σ') (d : Option Nat) :
  ∃ κ3, Ext X M ι w M' ι' w' ∧ St M' ι' X κ3 w' (putL us d v) (put ρ d r) σ' := by
 have hrr : Rep M' ι' v r := hs.rep.2 0 v r rfl rfl
 let κ3 : Own := fun b => match κ b with
  | some (.s n) => some (.s n)
  | _ => match κ' b with
   | some (.c o i) => some (.c o i)
   | some (.s _) => d.map Pl.s
   | none => none
 have k1 : ∀ b n, κ b = some (.s n) → κ3 b = some (.s n) := fun b n e => by show (match κ b with | some (.s n) => _ | _ => _) = _; rw [e]
 have k2 : ∀ b, (∀ n, κ b ≠ some (.s n)) → κ3 b = match κ' b with
   | some (.c o i) => some (.c o i)
   | some (.s _) => d.map Pl.s
   | none => none := fun b e => by
  simp only [κ3]
 have hout : ∀ b p, κ' b = some p → ∀ n, κ b ≠ some (.s n) := fun b p e n hn => (hs.wd.kap b p e).1 (.inr ⟨n, hn⟩)
 have grOld : ∀ (i : Nat) u x, us[i]? = some u → ρ[i]? = some x → GrOK M' w' u x := fun i u x hu hx => by
  cases hb : ownB u x with
  | none => exact .of_none hb
  | some b =>
   have hat : At ι w us ρ σ (.s i) u x := ⟨hu, hx⟩
   have hk := h.own _ _ _ _ hat hb
   have hX : Qdt X κ b := .inr ⟨i, hk⟩
   refine ⟨fun xs sz hxx al len cap hv => ?_⟩
   obtain ⟨g1, g2, ws, T, fz, g3, g4⟩ := (h.gr _ _ _ hat).ok xs sz hxx al len cap hv
   have hbb : al.block = b := by subst hxx hv; simp only [ownB, Option.some.injEq] at hb; exact hb
   exact ⟨g1, fun j hj => by rw [hbb, he.mX b j hX, ← hbb]; exact g2 j hj, ws, T, fz, by rw [hbb, he.keep b hX, ← hbb]; exact g3, g4⟩
 have hslot : ∀ (i : Nat) u x, (putL us d v)[i]? = some u → (put ρ d r)[i]? = some x → (d = some i ∧ u = v ∧ x = r) ∨ (us[i]? = some u ∧ ρ[i]? = some x) := by
  intro i u x hu hx
  cases d with
  | none => exact .inr ⟨hu, hx⟩
  | some d =>
   simp only [putL, put, List.getElem?_set] at hu hx
   by_cases hd : d = i
   ·subst hd
    rw [if_pos rfl] at hu hx
    split at hu
    ·split at hx
     ·cases hu; cases hx; exact .inl ⟨rfl, rfl, rfl⟩
     ·cases hx
    ·cases hu
   ·rw [if_neg hd] at hu hx; exact .inr ⟨hu, hx⟩
 refine ⟨κ3, he.less fun b hb => .inl hb, ⟨⟨hs.wd.mem, hs.wd.obj, hs.wd.olt, hs.wd.inj, fun b hb => hs.wd.xlt b (.inl hb), fun o b hi hb => hs.wd.xobj o b hi (.inl hb), fun b p hp => ?_⟩, ?_, fun p u x b ha hb => ?_, fun p u x ha => ?_⟩⟩
 ·by_cases hn : ∃ n, κ b = some (.s n)
  ·obtain ⟨n, hn⟩ := hn
   have hX : Qdt X κ b := .inr ⟨n, hn⟩
   exact ⟨(h.wd.kap b _ hn).1, fun o ho => hs.wd.xobj o b ho hX, hs.wd.xlt b hX⟩
  ·rw [k2 b (fun n e => hn ⟨n, e⟩)] at hp
   cases hk : κ' b with
   | none => rw [hk] at hp; cases hp
   | some q =>
    obtain ⟨h1, h2, h3⟩ := hs.wd.kap b q hk
    exact ⟨fun hx => h1 (.inl hx), h2, h3⟩
 ·have := h.rep.mono he.m he.i
  cases d with
  | none => exact this
  | some d => exact this.set hrr d
 ·cases p with
  | c o i =>
   have hk : κ' b = some (.c o i) := hs.own (.c o i) u x b ha hb
   rw [k2 b (hout b _ hk), hk]
  | s i =>
   rcases hslot i u x ha.1 ha.2 with ⟨rfl, rfl, rfl⟩ | ⟨hu, hx⟩
   ·have hk : κ' b = some (.s 0) := hs.own (.s 0) u x b ⟨rfl, rfl⟩ hb
    rw [k2 b (hout b _ hk), hk]
    rfl
   ·exact k1 b i (h.own (.s i) u x b ⟨hu, hx⟩ hb)
 ·cases p with
  | c o i => exact hs.gr (.c o i) u x ha
  | s i =>
   rcases hslot i u x ha.1 ha.2 with ⟨rfl, rfl, rfl⟩ | ⟨hu, hx⟩
   ·exact hs.gr (.s 0) u x ⟨rfl, rfl⟩
   ·exact grOld i u x hu hx
theorem Wcr (h : St M ι X κ w a.tmps.toList ρ σ) (hG : GOK G M ι) {o : Oper} {s : Step} (hd : o.dst = s.dst) (hc : Qa1 P o.op s.ins = true) {call : FuncId → List V → Objs → Option (V × Objs)} (hS : ∀ f, Sound P G f (call f))
  {ρ' : List V} {σ' : Objs} (he : ev1 G call s ρ σ = some (ρ', σ')) {next : Act → World → Prop} {Q : Exit → Act → World → Prop}
  (hn : ∀ v w' M' ι' κ', Ext X M ι w M' ι' w' → Kp ι w σ ι' w' σ' → St M' ι' X κ' w' (a.put o.dst v).tmps.toList ρ' σ' → next (a.put o.dst v) w') : o.wp P a w next Q := by
 cases hcall : Quo s.ins with
 | false =>
  obtain ⟨nx, v, w', M', ι', κ', hrun, hnx, ⟨hx, hk, _⟩, hst⟩ := Qq5 h hG hd hc hcall he
  rw [← Qdb] at hst
  unfold Oper.wp
  rw [hrun]
  rcases hnx with rfl | ⟨rfl, rfl⟩
  ·exact hn v w' M' ι' κ' hx hk hst
  ·exact hn undef w' M' ι' κ' hx hk hst
 | true =>
  have hA := Opd.of_state h.rep hG
  have fin : ∀ (f : FuncId) (vs : Array Value) (xs : List V) (r : V), (execOp a.eval o).run P w = (callFunc f vs).run P w → Reps M ι vs.toList xs → (∀ x ∈ xs, x.ng = x) → call f xs σ = some (r, σ') → ρ' = put ρ s.dst r → o.wp P a w next Q := by
   intro f vs xs r hrun hr hng hcl hρ
   have hcs := h.callee hr hng
   have := hS f xs σ r σ' hcl M ι _ _ w vs hcs hG hng
   unfold Oper.wp
   rw [hrun]
   have done : ∀ v w', (∃ M' ι' κ', (Ext (Qdt X κ) M ι w M' ι' w' ∧ Kp ι w σ ι' w' σ') ∧ St M' ι' (Qdt X κ) κ' w' [v] [r] σ') → next (a.put o.dst v) w' := by
    intro v w' ⟨M', ι', κ', ⟨hx, hk⟩, hst⟩
    obtain ⟨κ3, hx3, hst3⟩ := h.behind hx hst o.dst
    rw [← Qdb] at hst3
    rw [hd] at hst3 ⊢
    rw [← hρ] at hst3
    exact hn v w' M' ι' κ3 hx3 hk (by rw [hd]; exact hst3) |> fun q => by rw [hd] at q; exact q
   rcases this with ⟨h1, h2⟩ | ⟨v, w', h1, h2⟩
   ·rw [h1]
    exact Calls.mono h2 fun e w' ⟨v, he, hR⟩ => by subst he; exact done v w' hR
   ·rw [h1]
    exact done v w' h2
  obtain ⟨dst, gd, i⟩ := s
  obtain ⟨dst', op, type, pos, after, guard⟩ := o
  simp only at hd hc hcall
  subst hd
  unfold ev1 at he
  simp only [Option.bind_eq_bind, Option.bind_eq_some_iff] at he
  obtain ⟨⟨v, σ2⟩, hi, he⟩ := he
  simp only [Option.some.injEq, Prod.mk.injEq] at he
  obtain ⟨rfl, rfl⟩ := he
  cases i <;> (try (cases hcall; done))
  case call f ys =>
   cases op <;> (try (cases hc; done))
   rename_i c
   obtain ⟨callee, args, argTypes⟩ := c
   cases callee <;> (try (cases hc; done))
   rename_i fv
   cases fv <;> (try (cases hc; done))
   rename_i g
   simp only [Qa1, Bool.and_eq_true, beq_iff_eq] at hc
   obtain ⟨rfl, hca⟩ := hc
   simp only [Qaw] at hi
   refine fin f (args.map a.eval) (ys.map (arg G ρ)) v ?_ (by rw [Array.toList_map]; exact hA.args hca) (fun x hx => ?_) hi rfl
   ·simp only [execOp, resolve, Deferred.ofValue, invoke, Qab, Act.eval]
    simp [Qaj, Result.andThen]
   ·obtain ⟨y, _, rfl⟩ := List.mem_map.1 hx; exact V.nogr_nogr _
  case callv y ys =>
   cases op <;> (try (cases hc; done))
   rename_i c
   obtain ⟨callee, args, argTypes⟩ := c
   cases callee <;> (try (cases hc; done))
   rename_i fv
   simp only [Qa1, Bool.and_eq_true] at hc
   simp only [Qaw] at hi
   split at hi
   ·rename_i f first caps hy
    have hv := hA.ok _ _ hc.1
    rw [hy] at hv
    obtain ⟨as, bs, hfv, hra, hrb⟩ := hv.inv_fn
    refine fin f ((as ++ args.map a.eval) ++ bs) (((first ++ ys.map (arg G ρ)) ++ caps).map V.ng) v ?_ ?_ (fun x hx => ?_) hi rfl
    ·simp only [execOp, resolve, hfv, Deferred.ofValue, invoke, Qab]
     simp [Qaj, Result.andThen]
    ·simp only [Array.toList_append, Array.toList_map]
     exact ((hra.append (hA.args hc.2)).append hrb).ng
    ·obtain ⟨y, _, rfl⟩ := List.mem_map.1 hx; exact V.nogr_nogr _
   ·cases hi
end
end Go.Ev
namespace Go.Ev
open Go
def Qyr (ops : Array Oper) : Option (Nat × Bool) → Option (Nat × Bool) → Bool
 | none, none => true
 | some (g, b), some (t, b') => b == b' && ((ops[g]?).bind (·.dst)) == some t
 | _, _ => false
def Qed (P : Program) (ops : Array Oper) (o : Oper) (s : Step) : Bool := o.dst == s.dst && Qa1 P o.op s.ins && Qyr ops o.guard s.gd
def Qhh (P : Program) (ops : Array Oper) : List Oper → List Step → Bool
 | [], [] => true
 | o :: os, s :: ss => Qed P ops o s && Qhh P ops os ss
 | _, _ => false
def Got (a : Act) (M : Mem) (ι : Plc) (X : Nat → Prop) (w : World) (σ : Objs) (ρ' : List V) (σ' : Objs) (a' : Act) (w' : World) : Prop :=
 a'.defers = a.defers ∧ ∃ M' ι' κ', Ext X M ι w M' ι' w' ∧ Kp ι w σ ι' w' σ' ∧ St M' ι' X κ' w' a'.tmps.toList ρ' σ'
section
variable {P : Program} {M : Mem} {ι : Plc} {X : Nat → Prop} {κ : Own} {w : World} {us : List Value} {ρ : List V} {σ : Objs} {G : GV} {a : Act} {ops : Array Oper} {Q : Exit → Act → World → Prop}
theorem Qcs (a : Act) (d : Option Nat) (v : Value) : (a.put d v).defers = a.defers := by cases d <;> rfl
theorem Rep.inv_undef {v : Value} (h : Rep M ι v .undef) : v = Go.undef := by cases h; rfl
theorem Qjw {tmps : Array Value} (h : Reps M ι tmps.toList ρ) {o : Oper} {gd : Option (Nat × Bool)} {b : Bool} (hc : Qyr ops o.guard gd = true) (hw : wanted ρ gd = some b) : Region.wanted o (yielded ops tmps) = b := by
 unfold Region.wanted
 cases hg : o.guard with
 | none =>
  rw [hg] at hc
  cases gd with
  | none => simp only [wanted, Option.some.injEq] at hw; exact hw
  | some _ => cases hc
 | some p =>
  obtain ⟨g, want⟩ := p
  rw [hg] at hc
  cases gd with
  | none => cases hc
  | some q =>
   obtain ⟨t, b'⟩ := q
   simp only [Qyr, Bool.and_eq_true, beq_iff_eq] at hc
   obtain ⟨rfl, ht⟩ := hc
   have hr := Qha h t
   simp only [wanted] at hw
   unfold yielded
   simp only [ht, Option.bind_some]
   split at hw
   ·rename_i tb hq
    rw [hq] at hr
    have hv := hr.inv_bool
    have : tmps[t]? = some (.bool tb) := by
     rw [List.getD] at hv
     cases hu : tmps.toList[t]? with
     | none => rw [hu] at hv; simp only [Option.getD_none] at hv; cases hv
     | some u => rw [hu] at hv; simp only [Option.getD_some] at hv; subst hv; simpa using hu
    rw [this]
    cases hw
    cases tb <;> cases want <;> rfl
   ·rename_i hq
    rw [hq] at hr
    have hv := hr.inv_undef
    have : tmps[t]? = some undef ∨ tmps[t]? = none := by
     rw [List.getD] at hv
     cases hu : tmps.toList[t]? with
     | none => right; simpa using hu
     | some u => rw [hu] at hv; simp only [Option.getD_some] at hv; subst hv; left; simpa using hu
    cases hw
    rcases this with h | h <;> rw [h] <;> rfl
   ·cases hw
theorem Qup (h : St M ι X κ w a.tmps.toList ρ σ) (hG : GOK G M ι) {i : Nat} {o : Oper} {s : Step} (ho : ops[i]? = some o) (hc : Qed P ops o s = true) {call : FuncId → List V → Objs → Option (V × Objs)} (hS : ∀ f, Sound P G f (call f))
  {ρ' : List V} {σ' : Objs} (he : Qbq G call s ρ σ = some (ρ', σ')) {K : Act → World → Prop} (hn : ∀ a' w', Got a M ι X w σ ρ' σ' a' w' → K a' w') : wpOp P ops Q i K a w := by
 simp only [Qed, Bool.and_eq_true, beq_iff_eq] at hc
 obtain ⟨⟨hd, hi⟩, hg⟩ := hc
 unfold Qbq at he
 simp only [Option.bind_eq_bind, Option.bind_eq_some_iff] at he
 obtain ⟨b, hb, he⟩ := he
 have hw := Qjw (ops := ops) h.rep hg hb
 unfold wpOp
 simp only [ho, hw]
 cases b with
 | true =>
  simp only [if_true] at he ⊢
  exact .inl (Wcr h hG hd hi hS he fun v w' M' ι' κ' hx hk hst => hn _ _ ⟨Qcs _ _ _, M', ι', κ', hx, hk, hst⟩)
 | false =>
  simp only [Bool.false_eq_true, if_false, Option.some.injEq, Prod.mk.injEq] at he ⊢
  obtain ⟨rfl, rfl⟩ := he
  refine hn _ _ ⟨Qcs _ _ _, M, ι, κ, Ext.refl .., Kp.refl .., ?_⟩
  rw [Qdb, ← hd]
  exact h.putNone .undef rfl _
theorem Got.trans {a a' a'' : Act} {w' w'' : World} {ρ'' : List V} {σ' σ'' : Objs} {M' : Mem} {ι' : Plc} (hd : a'.defers = a.defers) (hx : Ext X M ι w M' ι' w') (hk : Kp ι w σ ι' w' σ') (h : Got a' M' ι' X w' σ' ρ'' σ'' a'' w'') :
  Got a M ι X w σ ρ'' σ'' a'' w'' := by
 obtain ⟨hd', M'', ι'', κ'', hx', hk', hs⟩ := h
 exact ⟨hd'.trans hd, M'', ι'', κ'', hx.trans hx', hk.trans hx.i hk', hs⟩
theorem Qq6 {call : FuncId → List V → Objs → Option (V × Objs)} (hS : ∀ f, Sound P G f (call f)) : ∀ (os : List Oper) (ss : List Step) (i : Nat) (M : Mem) (ι : Plc) (κ : Own) (w : World) (a : Act) (ρ : List V) (σ : Objs) (ρ' : List V) (σ' : Objs),
  St M ι X κ w a.tmps.toList ρ σ → GOK G M ι → ops.toList.drop i = os → Qhh P ops os ss = true → Qcr G call ss ρ σ = some (ρ', σ') → (∀ a' w', Got a M ι X w σ ρ' σ' a' w' → Q .normal a' w') →
  wpOps P ops Q (List.range' i os.length) a w
 | [], [], i, M, ι, κ, w, a, ρ, σ, ρ', σ', h, hG, hdrop, hc, he, hQ => by
  simp only [Qcr, Option.some.injEq, Prod.mk.injEq] at he
  obtain ⟨rfl, rfl⟩ := he
  exact hQ _ _ ⟨rfl, M, ι, κ, Ext.refl .., Kp.refl .., h⟩
 | [], s :: ss, i, M, ι, κ, w, a, ρ, σ, ρ', σ', h, hG, hdrop, hc, he, hQ => by cases hc
 | o :: os, [], i, M, ι, κ, w, a, ρ, σ, ρ', σ', h, hG, hdrop, hc, he, hQ => by cases hc
 | o :: os, s :: ss, i, M, ι, κ, w, a, ρ, σ, ρ', σ', h, hG, hdrop, hc, he, hQ => by
  simp only [Qhh, Bool.and_eq_true] at hc
  simp only [Qcr, Option.bind_eq_bind, Option.bind_eq_some_iff] at he
  obtain ⟨⟨ρ1, σ1⟩, h1, h2⟩ := he
  have ho : ops[i]? = some o := by
   have : (ops.toList.drop i)[0]? = some o := by rw [hdrop]; rfl
   simpa using this
  have hdr : ops.toList.drop (i + 1) = os := by
   have := congrArg List.tail hdrop
   simpa using this
  rw [List.length_cons, List.range'_succ, wpOps_cons]
  refine Qup h hG ho hc.1 hS h1 fun a' w' hgot => ?_
  obtain ⟨hd, M', ι', κ', hx, hk, hs⟩ := hgot
  exact Qq6 hS os ss (i + 1) M' ι' κ' w' a' ρ1 σ1 ρ' σ' hs (hG.mono hx.m hx.i) hdr hc.2 h2 fun a'' w'' hg'' => hQ _ _ (Got.trans hd hx hk hg'')
theorem Quq {call : FuncId → List V → Objs → Option (V × Objs)} (hS : ∀ f, Sound P G f (call f)) (h : St M ι X κ w a.tmps.toList ρ σ) (hG : GOK G M ι) {id : Nat} {ss : List Step} (hc : Qhh P ops ops.toList ss = true) {ρ' : List V} {σ' : Objs}
  (he : Qcr G call ss ρ σ = some (ρ', σ')) (hQ : ∀ a' w', Got a M ι X w σ ρ' σ' a' w' → Q .normal a' w') : (Code.region id ops false).wp P Q a w := by
 refine wp_region ?_
 have := Qq6 (Q := Q) hS ops.toList ss 0 M ι κ w a ρ σ ρ' σ' h hG rfl hc he hQ
 rwa [List.range_eq_range', ← Array.length_toList]
end
end Go.Ev
